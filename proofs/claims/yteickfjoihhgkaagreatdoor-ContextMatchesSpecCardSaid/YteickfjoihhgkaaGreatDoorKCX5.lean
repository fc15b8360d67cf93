/-
  Parts of the proof, merged by a program of the prover's own; no condition.
-/
import Derived.Test.YteickfjoihhgkaaGreatDoorKCX4
import Derived.Laws.Runes
open Go.Proofs.Tryz renaming prog->c9,f179->ae7,f151->af8,f152->af9,f178->ag0,f36->ah4,f71->ah5,f115->ah7,f154->ah8,f19->ai5,f22->ai6,f37->ai7,f72->ai8,f76->ai9,f6->aj0,f7->aj1
open Int renaming toNat->j0,toNat_natCast->j5,eq_ofNat_of_zero_le->w8,tmod->x7,tdiv->aa1,mul->ah0
open Eq renaming trans->j4
open List renaming length->j7,drop_of_length_le->j8,length_drop->j9,getD_eq_getElem?_getD->k9,getElem?_eq_getElem->o0,length_take->o7,length_singleton->o8,length_cons->o9,length_append->p6,drop_zero->p7,isEmpty->s9,size_toArray->v7,getElem?_append_right->v8,getElem?_cons_zero->w9,map->x3,getElem?_cons_succ->x4,length_map->y7,getElem?_take_of_lt->y8,takeWhile_cons->aa0,getElem_mem->aa2,getElem?_toArray->aa5,all->aa7,drop_eq_nil_iff->aa8,drop_eq_getElem_cons->aa9,getElem?_append_left->ab0,getElem?_take->ab2,take_of_length_le->ab5,mem_cons->ab9,mem_of_mem_drop->ac0,getD_cons_zero->ac2,contains_cons->ac6,getElem?_eq_some_iff->ac8,all_eq_true->ad2,length_eq_zero_iff->ad3,toArray->ad5,drop_left'->ad8,drop_drop->ae1,take_left->ae2,drop->ae5,take->ae6,length_pos_iff->ae8,all_cons->af0,flatMap_cons->af3,not_mem_nil->af6,head?_cons->ag7,length_nil->ag8,takeWhile->ah2
open Bool renaming not_true->o5,not_false->o6,and_eq_true->s8,true_and->w6,false_or->x6,eq_iff_iff->y5,false_and->aa6,eq_false_iff->ab3,not_eq_true'->ab4,and_true->ab7,or_assoc->ab8,false_eq_true->ac5,true_or->ad4,or_eq_true->ag6,not_and->ah9
open Go.Value renaming int->p4
open Option.some renaming injEq->p5,inj->ae0
open Nat renaming le_of_ble_eq_true->p9,ble->x8,ble_eq_true_of_le->x9,le_refl->aa3,mul_one->aa4,zero_add->ac3,add_lt_add_iff_right->ad0,blt_eq->ad6,add_zero->af4,div_le_self->ag9,blt->ah1,ble_eq->ah3,le_trans->ai1,sub_self->ai2
open Exists renaming intro->x5
open Array renaming length_toList->y9,getElem?_append_left->ac4,getElem?_eq_getElem->ac7,size_append->af2
open UInt8 renaming toNat_inj->ab1,ofNat->ag4,toNat->ag5
open Option renaming bind_some->ab6,map_some->ad9,getD_some->af7
open Go.Utf8 renaming encode->ac1,decode->ae3
open Go.Lib renaming cut->ac9,indexByte->ae9,compact->ag1,decodeL->ag2,size_eq->ag3,decDigits->ah6
open Go.World renaming frozen?->ad1,shape?->ad7,cell?->ae4
open Prod.mk renaming injEq->af1
open Go.RowKit.Below renaming refl->af5
open List.Sublist renaming length_le->ai0
open Ne renaming symm->ai3
set_option maxRecDepth 100000
variable{R:Type}
namespace Go.Proofs.YteickfjoihhgkaaGreatDoor.E
set_option linter.all false
section
open Go Go.Proofs
section
variable {W R : Type} (L : Nat) (Q : G1) (Y : Yh W) (s : W) (k : Out -> St W -> Option R)
noncomputable def B01(L:Nat):=mkC L 153 [] [(1,[2]),(0,[0])] [] [2]
def B57(L:Nat)(a:Int)(b:Bool->Option R):Option R:=
 cond (a==32)
 (b true)
 (b (a==9))
def C61(d:Nat)(b0):evC (B01 L) (d+1) W Y 153 [p8 b0] [] s=B57 L b0 (λa=>some (pB a,[],s)):=evT Tryz.f153 λQ=>by
 unfold B57;kernel_rfl
noncomputable def Am0(L:Nat):=mkC L 114 [] [(1,[2]),(0,[0])] [] [2] [(153,Bv9)] [153]
def Ac8(L:Nat)(a:Int)(b:Bool->Option R):Option R:=
 cond (ME a)
 (b true)
 (cond (a==10)
  (b true)
  (cond (a==12)
  (b true)
  (b (a==13))))
def Ci9(d:Nat)(b0):evC (Am0 L) (d+1) W Y 114 [p8 b0] [] s=Ac8 L b0 (λa=>some (pB a,[],s)):=evT Tryz.f114 λQ=>by
 unfold Ac8;kernel_rfl
noncomputable abbrev Al2:Code:=D7 ai9
noncomputable def Lt(L:Nat):=mkC L 76 [(4,[0,1,0,0,0])] [(10,[2]),(5,[0,2,0,0]),(9,[0,2,0,0]),(8,[0,2,1]),(7,[0,2,0,0,19]),(6,[0,2,0,0,16]),(4,[0,2,0,0,3]),(3,[0,2,0,0]),(2,[0,2,0]),(1,[0,2]),(0,[0])] [(0,[3]),(1,[0,2,0,0])] [2] [(114,Ai8)] [114]
def TV(c:By)(a b:Int)(d:LL)(e:Kbh R):Option R:=
 cond (ltI a b)
 (cond (J5 a b c.length)
  (cond (G0 (d.length+1))
  (e c (A1 (b+1)) b (d++[[(SV.str (cut c a b))]]))
  none)
  none)
 (e c (A1 (b+1)) b d)
def Hx(L n:Nat)(e:By)(a d:Int)(g:LL)(f:LL->Option R):Option R:=match n with
 | 0=>none
 | n+1=>
  cond (not (ltI (e.length:Int) d))
   (cond (ltI d (e.length:Int))
   (cond (inR d e.length)
    (cond (not (Ux (bAt e d)))
    (Hx L n e a (A1 (d+1)) g f)
    (TV e a d g (λm b h j=>Hx L n m b (A1 (h+1)) j f)))
    none)
   (TV e a d g (λo c i l=>Hx L n o c (A1 (i+1)) l f)))
   (f g)
def Ae3(n s0 from1 i2 l3):D4 1 ((Lt L).keep 4) (bd (Lt L) Q Y (cd [1,1,1,0,1,0,0] Al2)) n ⟨gp [(0,pS s0),(2,.fl 0),(0,pI from1),(0,pI i2)] 30,[.arr true 9 1 l3],s⟩ k =
 Hx L n s0 from1 i2 l3 (λb=>k (.exit 0) ⟨gp [(3,.fl 0)] 32,[.arr true 9 1 b],s⟩):=by
 induction n generalizing s0 from1 i2 l3 with
 | zero=>rfl
 | succ n a=>rw[Hx];simp only[<-a];kernel_rfl
def Ae2(L:Nat)(c:By)(b:LL->(List Blk)->Option R):Option R:=
 Hx L L c 0 0 [] (λa=>b a [])
def Cl9(d:Nat)(s0):evC (Lt L) (d+1) W Y 76 [pS s0] [] s=Ae2 L s0 (λb a=>some (.fl 0,(.arr true 9 1 b::a),s)):=evT ai9 λQ=>by
 unfold Ae2;exact(j4 (by kernel_rfl) (ag (Ae3 L Q Y s (F2 0 (F6 (Lt L) Q Y (cd [1,1,1,1] Al2) (I8 (Lt L) ai9))) L s0 0 0 [])))
noncomputable abbrev A01(c:By):Option (PV × List Blk × Unit):=Ae2 LF c (λb a=>some (.fl 0,(.arr true 9 1 b::a),()))
noncomputable abbrev Al0:Code:=D7 ai5
noncomputable def Lr(L:Nat):=mkC L 19 [(3,[0,1,0,0,0])] [(8,[2,0]),(4,[0,1,1,0]),(7,[0,1,1,0]),(6,[2,0]),(5,[0,1,1,0,11]),(3,[0,1,1,0,3]),(2,[0,1,1,0]),(1,[0,1,1]),(0,[0,1])] [(0,[2,1]),(1,[0,1,1,0])] [2,0] [] [] [(37,WE)] [] [37] (nt:=[(46,2,9,1),(1000046,2,9,1)])
abbrev Kcf(R:Type):=Blk->Blk->Blk->(List Blk)->Option R
def T1(L n:Nat)(c b:Bool)(a:LL)(e:Int)(f:LL)(g h:Bool)(l:Kcf R)(m:LL->Bool->Bool->Option R):Option R:=match n with
 | 0=>none
 | n+1=>
  cond (ltI e (a.length:Int))
   (cond (inR e a.length)
   (cond (okE Aa a (j0 e) 0)
    (vl (gX a (j0 e) 0) λj=>
    cond (ltI 4096 (j.length:Int))
     (l (Blk.arr true 9 1 []) (Blk.arr true 9 1 f) (Blk.box [(PV.s (SV.bool g)),(PV.s (SV.bool h)),(PV.fl 2)]) [])
     (cond (inR e a.length)
     (cond (okE Aa a (j0 e) 0)
      (vl (gX a (j0 e) 0) λd=>
      cond (aa7 f isS)
       (cond (x8 f.length 100000000)
       (cond (x8 d.length 4096)
        (vl (A9 (List.foldl Ef (x3 elS f) (Y6 d))) λi=>
        T1 L n c b a (A1 (e+1)) i (g||(I5 (Y6 d) Gk)) (h||(I5 (Y6 d) Df)) l m)
        none)
       none)
       none)
      none)
     none))
    none)
   none)
   (m f g h)
def Ad0(n values_z0 values_t1 values2 i3 l4 b5 b6):D4 4 ((Lr L).keep 3) (bd (Lr L) Q Y (cd [1,1,0,1,0,0] Al0)) n ⟨gp [(0,.s (.sl values_z0 values_t1 1 values2)),(1,.ptr 1 0 0),(1,.ptr 3 0 0),(0,pI i3)] 20,[.arr true 9 1 [],.box [pB false,pB false,.fl 0],.arr true 9 1 l4,.box [pB b5,pB b6,.fl 2]],s⟩ k =
 T1 L n values_z0 values_t1 values2 i3 l4 b5 b6 (λa b c d=>k .ret ⟨gp [(2,.ptr 1 0 0),(0,pI 3)] 22,(a::.box [pB false,pB false,.fl 4]::b::c::.arr true 9 1 []::d),s⟩) (λh e f=>k (.exit 0) ⟨gp [(2,.ptr 1 0 0),(1,.ptr 3 0 0)] 21,[.arr true 9 1 [],.box [pB false,pB false,.fl 0],.arr true 9 1 h,.box [pB e,pB f,.fl 2]],s⟩):=by
 induction n generalizing values_z0 values_t1 values2 i3 l4 b5 b6 with
 | zero=>rfl
 | succ n g=>rw[T1];simp only[<-g];kernel_rfl
def Ac9(L:Nat)(b a:Bool)(c:LL)(l:Blk->Blk->Blk->Blk->(List Blk)->Option R)(m:Kdf R):Option R:=
 T1 L L b a c 0 [] false false (λf g h i=>l f (Blk.box [(PV.s (SV.bool false)),(PV.s (SV.bool false)),(PV.fl 4)]) g h i) (λj d e=>m d e (Blk.arr true 9 1 []) (Blk.box [(PV.s (SV.bool d)),(PV.s (SV.bool e)),(PV.fl 2)]) j [(Blk.box [(PV.s (SV.bool d)),(PV.s (SV.bool e)),(PV.fl 2)])])
def Cj2(d:Nat)(values_z0 values_t1 values2):evC (Lr L) (d+1) W Y 19 [.s (.sl values_z0 values_t1 1 values2)] [] s=Ac9 L values_z0 values_t1 values2 (λc e a b f=>some (.tup [.agg [pB false,pB false,.fl 4],pI 3],(c::e::a::b::.arr true 9 1 []::f),s)) (λi j a b h g=>some (.tup [.agg [pB i,pB j,.fl 2],pI 0],(a::b::.arr true 9 1 h::g),s)):=evT ai5 λQ=>by
 unfold Ac9;exact(j4 (by kernel_rfl) (ag (Ad0 L Q Y s (F2 0 (F6 (Lr L) Q Y (cd [1,1,1] Al0) (I8 (Lr L) ai5))) L values_z0 values_t1 values2 0 [] false false)))
noncomputable abbrev Aw1(b a:Bool)(c:LL):Option (PV × List Blk × Unit):=Ac9 LF b a c (λf g d e h=>some (.tup [.agg [pB false,pB false,.fl 4],pI 3],(f::g::d::e::.arr true 9 1 []::h),())) (λl m d e j i=>some (.tup [.agg [pB l,pB m,.fl 2],pI 0],(d::e::.arr true 9 1 j::i),()))
noncomputable abbrev Bx7:Code:=D7 ai6
noncomputable def Sq(L:Nat):=mkC L 22 [(2,[0,0,2,0])] [(6,[4]),(5,[4]),(4,[0,0,3,25]),(3,[0,0,3]),(2,[0,0,3,11]),(1,[0,0,3]),(0,[0,0])] [(0,[0,0,3]),(1,[0,0,3])] [4] (rw:=[(6,6)])
def Iu(L n:Nat)(c b:Bool)(d:LL)(e:By)(a:Int)(f:Bool->Bool->LL->By->Int->Option R):Option R:=match n with
 | 0=>none
 | n+1=>
  cond (ltI a (d.length:Int))
   (cond (inR a d.length)
   (cond (okE Aa d (j0 a) 0)
    (vl (gX d (j0 a) 0) λg=>
    cond (bytesLess g e)
     (Iu L n c b d e (A1 (a+1)) f)
     (f c b d e a))
    none)
   none)
   (f c b d e a)
def Av7(n b a d e c):D4 0 ((Sq L).keep 2) (bd (Sq L) Q Y (cd [1,1,0,0,0] Bx7)) n ⟨gp [(0,.s (.sl b a 1 d)),(0,pS e),(3,pI c)] 39,[],s⟩ k =
 Iu L n b a d e c (λb a d e c=>k (.exit 0) ⟨gp [(0,.s (.sl b a 1 d)),(0,pS e),(3,pI c)] 39,[],s⟩):=by
 induction n generalizing b a d e c with
 | zero=>rfl
 | succ n f=>rw[Iu];simp only[<-f];kernel_rfl
def Zj(b:LL)(d:By)(a:Int)(e:LL->(List Blk)->Option R):Option R:=
 cond (J5 0 a b.length)
 (cond (J5 a (b.length:Int) b.length)
  (vl (cut b a (b.length:Int)) λc=>
  cond (G0 (0+(j7 (cut b 0 a))))
   (cond (G0 ((j7 (cut b 0 a))+1))
   (cond (G0 ((j7 ((cut b 0 a)++[[(SV.str d)]]))+c.length))
    (e (((cut b 0 a)++[[(SV.str d)]])++c) [])
    none)
   none)
   none)
  none)
 none
def B55(L:Nat)(g f:Bool)(l:LL)(m:By)(j:Bool->Bool->LL->(List Blk)->Option R)(i:LL->(List Blk)->Option R):Option R:=
 Iu L L g f l m 0 (λd c b e a=>cond (ltI a (b.length:Int))
 (cond (inR a b.length)
  (cond (okE Aa b (j0 a) 0)
  (vl (gX b (j0 a) 0) λh=>
   cond (h==e)
   (j d c b [])
   (Zj b e a i))
  none)
  none)
 (Zj b e a i))
def Av6(d:Nat)(l_z0 l_t1 l2 s3):evC (Sq L) (d+1) W Y 22 [.s (.sl l_z0 l_t1 1 l2),pS s3] [] s=B55 L l_z0 l_t1 l2 s3 (λb a g e=>some (.s (.sl b a 1 g),e,s)) (λf c=>some (.fl 0,(.arr false 9 1 f::c),s)):=evT ai6 λQ=>by
 unfold B55;exact(j4 (by kernel_rfl) (ag (Av7 L Q Y s (F2 0 (F6 (Sq L) Q Y (cd [1,1,1] Bx7) (I8 (Sq L) ai6))) L l_z0 l_t1 l2 s3 0)))
noncomputable abbrev B56(b a:Bool)(h:LL)(j:By):Option (PV × List Blk × Unit):=B55 LF b a h j (λd c i f=>some (.s (.sl d c 1 i),f,())) (λg e=>some (.fl 0,(.arr false 9 1 g::e),()))
noncomputable abbrev Nn:Code:=D7 ai7
noncomputable def Ai(L:Nat):=mkC L 37 [(14,[2,1,0,0,0,0,1,0,0]),(7,[2,1,0,0,0,0]),(3,[2,1,0,0])] [(21,[4]),(4,[2,1,0,0]),(8,[2,1,0,0,0,0]),(20,[2,1,0,0,0,0]),(19,[2,1,0,0,0,0,1]),(18,[2,1,0,0,0,0,1]),(17,[2,1,0,0,0,0,1,51]),(15,[2,1,0,0,0,0,1,0,0]),(16,[2,1,0,0,0,0,1,0,0]),(14,[2,1,0,0,0,0,1,0,0,35]),(13,[2,1,0,0,0,0,1,0,0]),(12,[2,1,0,0,0,0,1,0]),(11,[2,1,0,0,0,0,1]),(10,[2,1,0,0,0,0,0,29]),(9,[2,1,0,0,0,0,0]),(7,[2,1,0,0,0,0,20]),(6,[2,1,0,0,0,0]),(5,[2,1,0,0,0]),(3,[2,1,0,0,11]),(2,[2,1,0,0]),(1,[2,1,0]),(0,[1,0,1])] [(0,[2,1]),(1,[2,1,0,0]),(2,[2,1,0,0]),(3,[2,1,0,0,0,0]),(4,[2,1,0,0,0,0,1,0]),(5,[2,1,0,0,0,0,1,0,0])] [4] [(75,Fp),(76,JO),(77,JD)] [77] (nt:=[(46,2,9,1)])
abbrev Kdb(R:Type):=LL->Int->LL->Int->By->Bool->Bool->LL->Bool->Bool->Option R
def Ha(L n:Nat)(l:LL)(i:Int)(h:LL)(d:Int)(a:By)(b:Bool)(f:Int)(m:Bool)(e:LL)(g c:Bool)(j:Kdb R):Option R:=match n with
 | 0=>none
 | n+1=>
  cond (ltI f (e.length:Int))
   (cond b
   (Ha L n l i h d a true (A1 (f+1)) m e g c j)
   (cond (inR f e.length)
    (cond (okE Aa e (j0 f) 0)
    (Ha L n l i h d a ((gX e (j0 f) 0)==a) (A1 (f+1)) m e g c j)
    none)
    none))
   (j l i h d a b m e g c)
def Bg6(n g f e c b a j6 z7 l8 d b10):D4 4 ((Ai L).keep 14) (bd (Ai L) Q Y (cd [1,1,0,1,0,0,1,0,0,1,1,0,0,1,0,0,1,1,1,1,0,1,0,0] Nn)) n ⟨gp [(2,.ptr 1 0 0),(1,.ptr 3 0 0),(0,.s (.sl false false 1 g)),(0,pI f),(0,.s (.sl false false 1 e)),(0,pI c),(1,pS b),(0,pB a),(0,pI j6)] 71,[.arr z7 9 1 l8,.box [pB d,pB b10,.fl 0],.arr true 9 1 [],.box [pB false,pB false,.fl 2]],s⟩ k =
 Ha L n g f e c b a j6 z7 l8 d b10 (λg f e c b a l j h d=>k (.exit 4) ⟨gp [(2,.ptr 1 0 0),(1,.ptr 3 0 0),(0,.s (.sl false false 1 g)),(0,pI f),(0,.s (.sl false false 1 e)),(0,pI c),(1,pS b),(0,pB a)] 72,[.arr l 9 1 j,.box [pB h,pB d,.fl 0],.arr true 9 1 [],.box [pB false,pB false,.fl 2]],s⟩):=by
 induction n generalizing g f e c b a j6 z7 l8 d b10 with
 | zero=>rfl
 | succ n i=>rw[Ha];simp only[<-i];kernel_rfl
abbrev Kdh(R:Type):=LL->Int->Bool->LL->Bool->Bool->Option R
def V8(L n:Nat)(F:LL)(C:Int)(p:LL)(i:Int)(G:Bool)(D:LL)(A B:Bool)(m:Kdh R):Option R:=match n with
 | 0=>none
 | n+1=>
  cond (ltI i (p.length:Int))
   (cond (inR i p.length)
   (cond (okE Aa p (j0 i) 0)
    (vl (gX p (j0 i) 0) λl=>
    cond (A2 l.length)
     (cond ((↑(j7 (A9 (M4 l))):Int)==0)
     (V8 L n F C p (A1 (i+1)) G D A B m)
     (cond (inR 0 (j7 (A9 (M4 l))))
      (cond (okE Aa (A9 (M4 l)) 0 0)
      (vl (gX (A9 (M4 l)) 0 0) λz=>
       cond (A2 z.length)
       (Ha L L F C p i (C6 z) false 0 G D A B (λg f d b a j e c o h=>cond (not j)
        (cond (G0 (c.length+1))
        (cond o
         (cond h
         (vl (A1 (b+1)) λq=>
          V8 L n g f d q e (c++[[(SV.str a)]]) true true m)
         (vl (A1 (b+1)) λr=>
          V8 L n g f d r e (c++[[(SV.str a)]]) true (a==[98,108,111,99,107,45,97,108,108,45,109,105,120,101,100,45,99,111,110,116,101,110,116]) m))
         (cond h
         (vl (A1 (b+1)) λt=>
          V8 L n g f d t e (c++[[(SV.str a)]]) (a==[117,112,103,114,97,100,101,45,105,110,115,101,99,117,114,101,45,114,101,113,117,101,115,116,115]) true m)
         (vl (A1 (b+1)) λu=>
          V8 L n g f d u e (c++[[(SV.str a)]]) (a==[117,112,103,114,97,100,101,45,105,110,115,101,99,117,114,101,45,114,101,113,117,101,115,116,115]) (a==[98,108,111,99,107,45,97,108,108,45,109,105,120,101,100,45,99,111,110,116,101,110,116]) m)))
        none)
        (cond o
        (cond h
         (vl (A1 (b+1)) λv=>
         V8 L n g f d v e c true true m)
         (vl (A1 (b+1)) λw=>
         V8 L n g f d w e c true (a==[98,108,111,99,107,45,97,108,108,45,109,105,120,101,100,45,99,111,110,116,101,110,116]) m))
        (cond h
         (vl (A1 (b+1)) λx=>
         V8 L n g f d x e c (a==[117,112,103,114,97,100,101,45,105,110,115,101,99,117,114,101,45,114,101,113,117,101,115,116,115]) true m)
         (vl (A1 (b+1)) λy=>
         V8 L n g f d y e c (a==[117,112,103,114,97,100,101,45,105,110,115,101,99,117,114,101,45,114,101,113,117,101,115,116,115]) (a==[98,108,111,99,107,45,97,108,108,45,109,105,120,101,100,45,99,111,110,116,101,110,116]) m)))))
       none)
      none)
      none))
     none)
    none)
   none)
   (m F C G D A B)
def Bg8(n i h d2 kk3 z4 l5 b6 b7):D4 4 ((Ai L).keep 7) (bd (Ai L) Q Y (cd [1,1,0,1,0,0,1,0,0,1,1,0,0] Nn)) n ⟨gp [(2,.ptr 1 0 0),(1,.ptr 3 0 0),(0,.s (.sl false false 1 i)),(0,pI h),(0,.s (.sl false false 1 d2)),(0,pI kk3)] 75,[.arr z4 9 1 l5,.box [pB b6,pB b7,.fl 0],.arr true 9 1 [],.box [pB false,pB false,.fl 2]],s⟩ k =
 V8 L n i h d2 kk3 z4 l5 b6 b7 (λi h D B z A=>k (.exit 2) ⟨gp [(2,.ptr 1 0 0),(1,.ptr 3 0 0),(0,.s (.sl false false 1 i)),(0,pI h)] 77,[.arr D 9 1 B,.box [pB z,pB A,.fl 0],.arr true 9 1 [],.box [pB false,pB false,.fl 2]],s⟩):=by
 induction n generalizing i h d2 kk3 z4 l5 b6 b7 with
 | zero=>rfl
 | succ n g=>rw[V8];exact(j4 (by kernel_rfl) (A0 (A0 (A0 (A6 λC=>(A0 (A0 (g i h d2 (A1 (kk3+1)) z4 l5 b6 b7) (A0 (A0 (A6 λw=>(A0 ((Bg6 L Q Y s (F2 4 (F6 (Ai L) Q Y (cd [1,1,0,1,0,0,1,0,0,1,1,0,0,1,0,0,1,1,1,1,1] Nn) (F2 3 (F6 (Ai L) Q Y (cd [1,1,0,1,0,0,1,0,0,1,1,0,0,1,1] Nn) (lpK 4 ((Ai L).keep 7) (bd (Ai L) Q Y (cd [1,1,0,1,0,0,1,0,0,1,1,0,0] Nn)) n k))))) L i h d2 kk3 (C6 w) false 0 z4 l5 b6 b7).trans (congr rfl (Cz3 λf e b v a j d c x y=>(j4 (by kernel_rfl) (A0 (A0 (A0 (A0 (A6 λl=>(g f e b l d (c++[[(SV.str a)]]) true true)) (A6 λm=>(g f e b m d (c++[[(SV.str a)]]) true (a==[98,108,111,99,107,45,97,108,108,45,109,105,120,101,100,45,99,111,110,116,101,110,116])))) (A0 (A6 λo=>(g f e b o d (c++[[(SV.str a)]]) (a==[117,112,103,114,97,100,101,45,105,110,115,101,99,117,114,101,45,114,101,113,117,101,115,116,115]) true)) (A6 λp=>(g f e b p d (c++[[(SV.str a)]]) (a==[117,112,103,114,97,100,101,45,105,110,115,101,99,117,114,101,45,114,101,113,117,101,115,116,115]) (a==[98,108,111,99,107,45,97,108,108,45,109,105,120,101,100,45,99,111,110,116,101,110,116]))))) rfl) (A0 (A0 (A6 λq=>(g f e b q d c true true)) (A6 λr=>(g f e b r d c true (a==[98,108,111,99,107,45,97,108,108,45,109,105,120,101,100,45,99,111,110,116,101,110,116])))) (A0 (A6 λt=>(g f e b t d c (a==[117,112,103,114,97,100,101,45,105,110,115,101,99,117,114,101,45,114,101,113,117,101,115,116,115]) true)) (A6 λu=>(g f e b u d c (a==[117,112,103,114,97,100,101,45,105,110,115,101,99,117,114,101,45,114,101,113,117,101,115,116,115]) (a==[98,108,111,99,107,45,97,108,108,45,109,105,120,101,100,45,99,111,110,116,101,110,116])))))))))) rfl)) rfl) rfl)) rfl)) rfl) rfl) rfl))
def Oq(L n:Nat)(b:LL)(a:Int)(q:Bool)(p:LL)(l m:Bool)(o:Bool->LL->Bool->Bool->Option R):Option R:=match n with
 | 0=>none
 | n+1=>
  cond (ltI a (b.length:Int))
   (cond (inR a b.length)
   (cond (okE Aa b (j0 a) 0)
    (cond (A2 (j7 (gX b (j0 a) 0)))
    (vl (A9 (pcs (u8n (59:Int)) (gX b (j0 a) 0))) λj=>
     V8 L L b a j 0 q p l m (λh e i f c d=>vl (A1 (e+1)) λg=>
     Oq L n h g i f c d o))
    none)
    none)
   none)
   (o q p l m)
def Bh0(n p0 i1 z2 l3 b4 b5):D4 4 ((Ai L).keep 3) (bd (Ai L) Q Y (cd [1,1,0,1,0,0] Nn)) n ⟨gp [(2,.ptr 1 0 0),(1,.ptr 3 0 0),(0,.s (.sl false false 1 p0)),(0,pI i1)] 77,[.arr z2 9 1 l3,.box [pB b4,pB b5,.fl 0],.arr true 9 1 [],.box [pB false,pB false,.fl 2]],s⟩ k =
 Oq L n p0 i1 z2 l3 b4 b5 (λo m i j=>k (.exit 0) ⟨gp [(2,.ptr 1 0 0),(1,.ptr 3 0 0)] 79,[.arr o 9 1 m,.box [pB i,pB j,.fl 0],.arr true 9 1 [],.box [pB false,pB false,.fl 2]],s⟩):=by
 induction n generalizing p0 i1 z2 l3 b4 b5 with
 | zero=>rfl
 | succ n l=>rw[Oq];exact(j4 (by kernel_rfl) (A0 (A0 (A0 (A0 (A6 λg=>((Bg8 L Q Y s (F2 2 (F2 1 (F6 (Ai L) Q Y (cd [1,1,0,1,0,0,1,1] Nn) (lpK 4 ((Ai L).keep 3) (bd (Ai L) Q Y (cd [1,1,0,1,0,0] Nn)) n k)))) L p0 i1 g 0 z2 l3 b4 b5).trans (congr rfl (fx6 λe h f c a b=>(j4 (by kernel_rfl) (A6 λd=>(l e d f c a b))))))) rfl) rfl) rfl) rfl))
def Dr1(L:Nat)(up f:Bool)(v:By)(z:Bool)(l:LL)(g:Bool->Bool->Bool->LL->Option R):Option R:=
 cond (A2 v.length)
 (vl (A9 (pcs (u8n (44:Int)) v)) λe=>
  Oq L L e 0 z l up f (λd c a b=>g a b d c))
 none
def Dr2(d:Nat)(up ba v z l):evC (Ai L) (d+1) W Y 37 [.agg [pB up,pB ba,.fl 0],pS v] [.arr z 9 1 l] s=Dr1 L up ba v z l (λb c f e=>some (.agg [pB b,pB c,.fl 0],[.arr f 9 1 e,.box [pB b,pB c,.fl 0],.arr true 9 1 [],.box [pB b,pB c,.fl 0]],s)):=evT ai7 λQ=>by
 unfold Dr1;exact(j4 (by kernel_rfl) (A0 (A6 λa=>(ag (Bh0 L Q Y s (F2 0 (F6 (Ai L) Q Y (cd [1,1,1] Nn) (I8 (Ai L) ai7))) L a 0 z l up ba))) rfl))
end
section
variable {Q R : Type} (L : Nat) (W : G1) (Y : Yh Q) (s : Q) (k : Out -> St Q -> Option R)
noncomputable abbrev Ak9:Code:=D7 aj1
noncomputable def Lq(L:Nat):=mkC L 7 [(6,[0,1,0,0,0,0])] [(22,[2,0]),(7,[0,1,1,0,0]),(21,[0,1,1,0,0]),(20,[0,1,1,0,0,0,86]),(19,[0,1,1,0,0,0,1]),(18,[0,1,1,0,0,0,1]),(17,[0,1,1,0,0,0,1]),(16,[0,1,1,0,0,0,1]),(15,[0,1,1,0,0,0,1]),(14,[0,1,1,0,0,0,1,44]),(13,[2,0]),(12,[0,1,1,0,0,0,0,0,39]),(11,[0,1,1,0,0,0,0,0]),(10,[2,0]),(9,[0,1,1,0,0,0,0,27]),(8,[0,1,1,0,0,0,0]),(6,[0,1,1,0,0,16]),(5,[0,1,1,0,0]),(4,[0,1,1,0]),(3,[0,1,1]),(2,[2,0]),(1,[0,1,14]),(0,[0,1])] [(0,[2,1]),(1,[0,1,1,0,0])] [2,0] [(18,QI),(19,Ai9),(20,Xl),(21,QH),(23,WJ),(22,Bv8)] [20,21,23] (nt:=[(27,4,0,1),(46,2,0,1),(1000027,4,0,1),(1000046,2,0,1),(1000025,0,0,1)])
abbrev Kaf(R:Type):=Bool->Bool->LL->Bool->Int->Bool->Bool->Bool->Bool->Bool->Bool->Bool->Bool->Bool->LL->By->By->Int->By->Int->Int->Int->Int->Int->Int->Int->Int->Int->Int->By->Bool->Bool->Bool->LL->Option R
abbrev Kab(R:Type):=Bool->Bool->LL->Bool->Int->Bool->Bool->Bool->Bool->Bool->Bool->Bool->Bool->Bool->Bool->LL->By->By->Int->By->Int->Int->Int->Int->Int->Int->Int->Int->Int->Int->By->Bool->Bool->Bool->LL->Option R
def Tx(b a:Bool)(d:LL)(c:Bool)(M:Int)(O H I J K r t u G F:Bool)(e:LL)(z A:By)(q:Int)(p:By)(f g h i j l m n o y:Int)(B:By)(v w C:Bool)(x:LL)(P:Kaf R)(S:Kab R):Option R:=
 cond O
 (cond (A2 p.length)
  (cond (ltN f 4294967296)
  (cond (ok8 g h i j l m n o)
   (vl (Y7 (mkH q p f (n8 g h i j l m n o))) λD=>
   cond (aa7 e isS)
    (cond (x8 e.length 100000000)
    (cond (atB (x3 elS e) D)
     (P b a d c M H I J K r t u G F e z A q p f g h i j l m n o y B v w C x)
     (vl (A9 (Kt (x3 elS e) D)) λN=>
     P b a d c M H I J K r t u false false N z A q p f g h i j l m n o y B v w C x))
    none)
    none)
   none)
  none)
  none)
 (S b a d c M O H I J K r t u G F e z A q p f g h i j l m n o y B v w C x)
def Tz(b a:Bool)(d:LL)(c:Bool)(K:Int)(F G H I J g h C B:Bool)(j:LL)(f y:By)(m:Int)(z:By)(n o p q r t u v w x:Int)(A:By)(e i D:Bool)(l:LL)(M:Kaf R)(N:Kab R):Option R:=
 cond e
 (Tx b a d c K (D2 f) F G H I J g h C B j f y m z n o p q r t u v w x A e i D l M N)
 (Tx b a d c K false F G H I J g h C B j f y m z n o p q r t u v w x A e i D l M N)
def Ua(b a:Bool)(d:LL)(c:Bool)(K:Int)(F G H I J f D B A:Bool)(h:LL)(w x:By)(j:Int)(y:By)(l m n o p q r t u v:Int)(z:By)(g e C:Bool)(i:LL)(M:Kaf R)(N:Kab R):Option R:=
 cond D
 (Tz b a d c K F G H I J f true B A h w x j y l m n o p q r t u v z g e C i M N)
 (Tz b a d c K F G H I J f e B A h w x j y l m n o p q r t u v z g e C i M N)
def Ub(b a:Bool)(d:LL)(c:Bool)(K:Int)(F G H I J D f B A:Bool)(h:LL)(w x:By)(j:Int)(y:By)(l m n o p q r t u v:Int)(z:By)(e g C:Bool)(i:LL)(M:Kaf R)(N:Kab R):Option R:=
 cond D
 (Ua b a d c K F G H I J true f B A h w x j y l m n o p q r t u v z e g C i M N)
 (Ua b a d c K F G H I J e f B A h w x j y l m n o p q r t u v z e g C i M N)
abbrev Kad(R:Type):=Bool->Bool->LL->Bool->Int->Bool->Bool->Bool->Bool->Bool->Bool->Bool->Bool->Bool->Bool->Bool->LL->By->By->Int->By->Int->Int->Int->Int->Int->Int->Int->Int->Int->Int->By->Bool->Bool->Bool->LL->Option R
def Uc(b a:Bool)(d:LL)(c:Bool)(O:Int)(P J K M N t u v w I H:Bool)(e:LL)(C D:By)(r:Int)(q:By)(f g h i j l m n o B:Int)(F:By)(x y G:Bool)(A:LL)(S:Kab R)(T:Kad R):Option R:=
 cond P
 (cond (A2 q.length)
  (cond (ltN f 4294967296)
  (cond (ok8 g h i j l m n o)
   (vl (Y7 (mkH r q f (n8 g h i j l m n o))) λp=>
   cond (aa7 e isS)
    (cond (x8 e.length 100000000)
    (cond (atB (x3 elS e) p)
     (S b a d c O J K M N t u v w I H e C D r q f g h i j l m n o B F x y G A)
     (vl (A9 (Kt (x3 elS e) p)) λz=>
     S b a d c O J K M N t u v w false false z C D r q f g h i j l m n o B F x y G A))
    none)
    none)
   none)
  none)
  none)
 (T b a d c O P J K M N t u v w I H e C D r q f g h i j l m n o B F x y G A)
def Ud(b a:Bool)(d:LL)(c:Bool)(M:Int)(G H I J K g h i D C:Bool)(l:LL)(f z:By)(n:Int)(A:By)(o p q r t u v w x y:Int)(B:By)(e j F:Bool)(m:LL)(N:Kab R)(O:Kad R):Option R:=
 cond e
 (Uc b a d c M (D2 f) G H I J K g h i D C l f z n A o p q r t u v w x y B e j F m N O)
 (Uc b a d c M false G H I J K g h i D C l f z n A o p q r t u v w x y B e j F m N O)
def Ue(b a:Bool)(d:LL)(c:Bool)(M:Int)(G H I J K f g F C B:Bool)(i:LL)(x y:By)(l:Int)(z:By)(m n o p q r t u v w:Int)(A:By)(h e D:Bool)(j:LL)(N:Kab R)(O:Kad R):Option R:=
 cond F
 (Ud b a d c M G H I J K f g true C B i x y l z m n o p q r t u v w A h e D j N O)
 (Ud b a d c M G H I J K f g e C B i x y l z m n o p q r t u v w A h e D j N O)
def Cw(b a:Bool)(d:LL)(c:Bool)(M:Int)(G H I J K f F g C B:Bool)(i:LL)(x y:By)(l:Int)(z:By)(m n o p q r t u v w:Int)(A:By)(e h D:Bool)(j:LL)(N:Kab R)(O:Kad R):Option R:=
 cond F
 (Ue b a d c M G H I J K f true g C B i x y l z m n o p q r t u v w A e h D j N O)
 (Ue b a d c M G H I J K f e g C B i x y l z m n o p q r t u v w A e h D j N O)
def Uf(c b:Bool)(d:LL)(a:Bool)(i4:Int)(b5 b6 b7 b8 b9 o3 w x X V:Bool)(A:LL)(P S:By)(C:Int)(T:By)(D F G H I J K M N O:Int)(U:By)(y z Z:Bool)(B:LL)(k0:Kab R)(k1:Kad R):Option R:=
 cond b9
 (cond o3
  (Ub c b d a i4 b5 b6 b7 b8 true w x X V A P S C T D F G H I J K M N O U y z Z B (λn i r e e5 a0 a1 a2 a3 a4 a5 a6 n3 m8 e9 l2 l3 f7 l4 f8 f9 g0 g1 g2 g3 g4 g5 g6 g7 l5 a7 a8 n4 f0=>k0 n i r e e5 a0 a1 a2 a3 e a4 a5 a6 n3 m8 e9 l2 l3 f7 l4 f8 f9 g0 g1 g2 g3 g4 g5 g6 g7 l5 a7 a8 n4 f0) (λo j t f e6 a9 b0 b1 b2 b3 b4 c0 c1 n5 m9 f1 l6 l7 g8 l8 g9 h0 h1 h2 h3 h4 h5 h6 h7 h8 l9 c2 c3 n6 f2=>k1 o j t f e6 a9 b0 b1 b2 b3 f b4 c0 c1 n5 m9 f1 l6 l7 g8 l8 g9 h0 h1 h2 h3 h4 h5 h6 h7 h8 l9 c2 c3 n6 f2))
  (Ub c b d a i4 b5 b6 b7 b8 a w x X V A P S C T D F G H I J K M N O U y z Z B (λp l u g e7 c4 c5 c6 c7 c8 d0 d1 n7 n1 f3 m0 m1 h9 m2 i0 i1 i2 i3 i5 i6 i7 i9 j1 j2 m3 d2 d3 n9 f4=>k0 p l u g e7 c4 c5 c6 c7 g c8 d0 d1 n7 n1 f3 m0 m1 h9 m2 i0 i1 i2 i3 i5 i6 i7 i9 j1 j2 m3 d2 d3 n9 f4) (λq m v h e8 d4 d5 d6 d7 d8 d9 e1 e2 o1 n2 f5 m4 m5 j3 m6 j6 k2 k3 k4 k5 k6 k7 k8 l0 l1 m7 e3 e4 o2 f6=>k1 q m v h e8 d4 d5 d6 d7 d8 h d9 e1 e2 o1 n2 f5 m4 m5 j3 m6 j6 k2 k3 k4 k5 k6 k7 k8 l0 l1 m7 e3 e4 o2 f6)))
 (cond o3
  (Cw c b d a i4 b5 b6 b7 b8 false true w x X V A P S C T D F G H I J K M N O U y z Z B k0 k1)
  (Cw c b d a i4 b5 b6 b7 b8 false a w x X V A P S C T D F G H I J K M N O U y z Z B k0 k1))
def DT(c b:Bool)(d:LL)(a:Bool)(K:Int)(G H I J O F e f C B:Bool)(i:LL)(x y:By)(l:Int)(z:By)(m n o p q r t u v w:Int)(A:By)(g h D:Bool)(j:LL)(M:Kab R)(N:Kad R):Option R:=
 cond O
 (cond F
  (Cw c b d a K G H I J a true e f C B i x y l z m n o p q r t u v w A g h D j M N)
  (Cw c b d a K G H I J a a e f C B i x y l z m n o p q r t u v w A g h D j M N))
 (cond F
  (Cw c b d a K G H I J false true e f C B i x y l z m n o p q r t u v w A g h D j M N)
  (Cw c b d a K G H I J false a e f C B i x y l z m n o p q r t u v w A g h D j M N))
def K6(L n:Nat)(e d:Bool)(b:LL)(N:Bool)(P:Int)(b5 b6 b7 b8 b9 H I J O M:Bool)(K:LL)(k0:Int->Bool->Bool->Bool->Bool->(List Blk)->Option R)(k1:Bool->Bool->Bool->Bool->Bool->Bool->Bool->Bool->Bool->Bool->LL->Option R):Option R:=match n with
 | 0=>none
 | n+1=>
  cond (ltI P (b.length:Int))
   (cond (inR P b.length)
   (cond (okE Aa b (j0 P) 0)
    (vl (gX b (j0 P) 0) λi0=>
    cond (A2 i0.length)
     (vl (C1 i0) λa=>
     cond ((uE a)!=0)
      (k0 (uE a) false false false false [(bCx b9 H I J O M K),(bQ a)])
      (cond (inR P b.length)
      (cond (okE ⟨true,false,[.sl 1]⟩ b (j0 P) 1)
       (vl (SV.gE (gC b (j0 P) 1)) λh9=>
       cond (aa7 h9 isS)
        (cond (x8 h9.length 1000)
        (vl (F0 (x3 elS h9)) λc=>
         cond ((c).2 !=0)
         (k0 (c).2 false false false false [(bCx b9 H I J O M K),(bQ a),(Blk.box [(PV.s (SV.bool (I5 (c).1 Gk))),(PV.s (SV.bool (I5 (c).1 Df))),(PV.s (SV.sl (s9 (c).1) (s9 (c).1) 1 (A9 (c).1)))])])
         (cond (not ((uS a)==[97,98,111,117,116]))
          (cond (D2 (uS a))
          (cond (smU (uS a) (uU a) (uN a) (uR a))
           (cond (ltN (uV a) 4294967296)
           (cond (okQ a)
            (cond (Eb (uP a))
            (Uf e d b (Pn (uS a) (uU a) (uK a) (uN a) (uV a) (uA a 0) (uA a 1) (uA a 2) (uA a 3) (uA a 4) (uA a 5) (uA a 6) (uA a 7) (uP a) (uR a)) P b5 b6 b7 b8 b9 H I J O M K (uS a) (uU a) (uK a) (uN a) (uV a) (uA a 0) (uA a 1) (uA a 2) (uA a 3) (uA a 4) (uA a 5) (uA a 6) (uA a 7) (uP a) (uR a) (I5 (c).1 Gk) (I5 (c).1 Df) (s9 (c).1) (A9 (c).1) (λm f A u e9 S T U V X Z a0 a1 h3 g7 f5 t6 t7 l3 t8 l4 l5 l6 l7 l8 l9 m0 m1 m2 m3 t9 i1 i2 x1 k6=>vl (A1 (e9+1)) λg1=>
             K6 L n m f A u g1 S T U V X Z a0 a1 h3 g7 f5 k0 k1) (λo g B v f0 i3 a2 a3 a4 a5 a6 a7 a8 a9 h4 g8 f6 u0 u1 m4 u2 m5 m6 m7 m8 m9 n1 n2 n3 n4 n5 u3 i5 i6 x2 k7=>vl (A1 (f0+1)) λg2=>
             K6 L n o g B v g2 a2 a3 a4 a5 a6 a7 a8 a9 h4 g8 f6 k0 k1))
            none)
            none)
           none)
           none)
          (Uf e d b false P b5 b6 b7 b8 b9 H I J O M K (uS a) (uU a) (uK a) (uN a) (uV a) (uA a 0) (uA a 1) (uA a 2) (uA a 3) (uA a 4) (uA a 5) (uA a 6) (uA a 7) (uP a) (uR a) (I5 (c).1 Gk) (I5 (c).1 Df) (s9 (c).1) (A9 (c).1) (λp h C w f1 b0 b1 b2 b3 b4 c0 c1 c2 h5 g9 f7 u4 u5 n6 u6 n7 n9 o1 o2 o3 o4 p0 p1 p2 p3 u7 i7 i9 y0 k8=>vl (A1 (f1+1)) λg3=>
           K6 L n p h C w g3 b0 b1 b2 b3 b4 c0 c1 c2 h5 g9 f7 k0 k1) (λq i D x f2 j1 c3 c4 c5 c6 c7 c8 d0 d1 h6 h0 f8 u9 v2 q0 v3 q1 q2 q3 q4 q5 q6 q7 q8 q9 r0 v5 j2 j3 y1 l0=>vl (A1 (f2+1)) λg4=>
           K6 L n q i D x g4 c3 c4 c5 c6 c7 c8 d0 d1 h6 h0 f8 k0 k1)))
          (DT e d b N P b5 b6 b7 b8 b9 H I J O M K (uS a) (uU a) (uK a) (uN a) (uV a) (uA a 0) (uA a 1) (uA a 2) (uA a 3) (uA a 4) (uA a 5) (uA a 6) (uA a 7) (uP a) (uR a) (I5 (c).1 Gk) (I5 (c).1 Df) (s9 (c).1) (A9 (c).1) (λr j F y f3 d2 d3 d4 d5 d6 d7 d8 d9 h7 h1 f9 v9 w0 r1 w2 r2 r3 r4 r5 r6 r7 r9 s0 s1 s2 w3 j6 k2 y2 l1=>vl (A1 (f3+1)) λg5=>
          K6 L n r j F y g5 d2 d3 d4 d5 d6 d7 d8 d9 h7 h1 f9 k0 k1) (λt l G z f4 k3 e1 e2 e3 e4 e5 e6 e7 e8 h8 h2 g0 w4 w5 s3 w7 s4 s5 s6 s7 t0 t1 t2 t3 t4 t5 x0 k4 k5 y3 l2=>vl (A1 (f4+1)) λg6=>
          K6 L n t l G z g6 e1 e2 e3 e4 e5 e6 e7 e8 h8 h2 g0 k0 k1))))
        none)
        none)
       none)
      none))
     none)
    none)
   none)
   (k1 b5 b6 b7 b8 b9 H I J O M K)
def Ab4(n frames_z0 frames_t1 frames2 trusted3 i4 a b c b8 b9 b10 b11 b12 z13 t14 l15):D4 2 ((Lq L).keep 6) (bd (Lq L) W Y (cd [1,1,1,1,0,1,0,0] Ak9)) n ⟨gp [(0,.s (.sl frames_z0 frames_t1 2 frames2)),(1,.ptr 0 0 0),(1,.ptr 1 0 0),(0,pB trusted3),(0,pI i4)] 96,[(bCx a b c b8 true true []),(bCx b9 b10 b11 b12 z13 t14 l15)],s⟩ k =
 K6 L n frames_z0 frames_t1 frames2 trusted3 i4 a b c b8 b9 b10 b11 b12 z13 t14 l15 (λn0 d e f g h=>k .ret ⟨gp [(2,.ptr 0 0 0),(0,pI n0)] 99,((bCx d e f g true true [])::h),s⟩) (λi d e f g a b c z8 l l10=>k (.exit 0) ⟨gp [(2,.ptr 0 0 0),(1,.ptr 1 0 0)] 98,[(bCx i d e f true true []),(bCx g a b c z8 l l10)],s⟩):=by
 induction n generalizing frames_z0 frames_t1 frames2 trusted3 i4 a b c b8 b9 b10 b11 b12 z13 t14 l15 with
 | zero=>rfl
 | succ n j=>rw[K6];simp only[<-j];kernel_rfl
def Ab3(L:Nat)(j i:Bool)(a:LL)(w:Bool->Bool->Bool->Bool->Bool->Bool->LL->Int->(List Blk)->Option R):Option R:=
 cond ((a.length:Int)==0)
 (w false false false false true true [] 3 [(bCx false false false false true true [])])
 (cond (ltI 16 (a.length:Int))
  (w false false false false true true [] 3 [(bCx false false false false true true [])])
  (K6 L L j i a false 0 false false false false true false false false true true [] (λq l m n o p=>w l m n o true true [] q ((bCx l m n o true true [])::p)) (λr t u v b c d e h g f=>w b c d e h g f 0 [(bCx b c d e h g f),(bCx b c d e h g f)])))
def Ch7(d:Nat)(frames_z0 frames_t1 frames2):evC (Lq L) (d+1) Q Y 7 [.s (.sl frames_z0 frames_t1 2 frames2)] [] s=Ab3 L frames_z0 frames_t1 frames2 (λe f g h b a i j c=>some (.tup [(gCx e f g h b a i),pI j],c,s)):=evT aj1 λW=>by
 unfold Ab3;exact(j4 (by kernel_rfl) (A0 rfl (A0 rfl (ag (Ab4 L W Y s (F2 0 (F6 (Lq L) W Y (cd [1,1,1,1,1] Ak9) (I8 (Lq L) aj1))) L frames_z0 frames_t1 frames2 false 0 false false false false true false false false true true [])))))
noncomputable abbrev Av0(b a:Bool)(c:LL):Option (PV × List Blk × Unit):=Ab3 LF b a c (λg h i j e d l m f=>some (.tup [(gCx g h i j e d l),pI m],f,()))
end
end
section
open Go Go.Op
def Bk2{a:Bool->Option R}(c:Int):B57 LF c a=a (ME c):=by unfold B57 ME;cases (c==32)<;>rfl
def Av9{a:Bool->Option R}(c:Int):Ac8 LF c a=a (Ux c):=by unfold Ac8 Ux;cases ME c<;>cases (c==10)<;>cases (c==12)<;>rfl
def A02:@Ae2 = @A33:=by kernel_rfl
def Cm0(s:By)(a:A2 s.length=true):∃r H,A01 s=rv r H/\r.stab [1] H = .s (.sl (s9 (M4 s)) (s9 (M4 s)) 1 (A9 (M4 s))):=by unfold A01;rw[A02];exact A36 s a
def C06(L:List By)(X:By):(Kt L X).isEmpty=false:=by unfold Kt;cases L.take (kB L X)<;>rfl
def Ee3(L:List By)(a b:Nat):cut (A9 L) (a:Int) (b:Int)=A9 ((L.take b).drop a):=by unfold cut A9;rw[j5,j5,List.map_drop,List.map_take]
def Bk1(z t:Bool)(L:List By)(h:L.length<=100000000)(X:By)(b:Bool->Bool->LL->By->Int->Option R):∀(r i n:Nat),i+r=L.length->r<n->Iu LF n z t (A9 L) X (i:Int) b=b z t (A9 L) X ((i+kB (L.drop i) X:Nat):Int):=by
 intro r
 induction r with
 | zero=>
  intro i n e f;rcases n with _|n;omega
  rw[Iu,D8 (by rw[A8];omega),j8 (by omega)];rfl
 | succ r g=>
  intro i n e f;rcases n with _|n;omega
  have a:i<L.length:=by omega
  have c:A1 ((i:Int)+1)=((i+1:Nat):Int):=ah
  have d:L.drop i=L.getD i []::L.drop (i+1):=by
   rw[aa9 a,k9,o0 a];rfl
  rw[Iu,C5 (by rw[A8];omega),G9 (by omega) (by rw[A8];omega),j5,K5 a,L9,d,kB];simp only[aa,vl];cases bytesLess (L.getD i []) X with
  | true=>
   rw[aa,c,g (i+1) n (by omega) (by omega),aa]
   congr 2
   omega
  | false=>rfl
def Av8(z t:Bool)(l:LL)(X:By)(i:l.all isS=true)(f:x8 l.length 100000000=true){b:Bool}(c:atB (l.map elS) X=b) :
  ∃r H,B56 z t l X=rv r H/\r.stab [1] H=cond b (.s (.sl z t 1 l)) (.s (.sl false false 1 (A9 (Kt (l.map elS) X)))):=by
 have j:=C9;obtain⟨L,rfl⟩:∃L,l=A9 L:=⟨_,Ca i⟩
 rw[A8] at f;have m:=p9 f;rw[S7] at c ⊢;have p:=D28 X L;have k:L.drop 0=L:=rfl;unfold B56 B55;rw[show(0:Int)=((0:Nat):Int) from rfl,Bk1 z t L m X _ L.length 0 LF (by omega) (by omega),k,ac3];have key:∀e:LL->List Blk->Option (PV × List Blk × Unit),Zj (A9 L) X ((kB L X:Nat):Int) e=e (A9 (Kt L X)) []:=λe=>by
  have h:cut (A9 L) ((kB L X:Nat):Int) (((A9 L).length:Nat):Int)=A9 (L.drop (kB L X)):=by rw[Ee3,A8,ab5 (aa3 _)]
  have e0:cut (A9 L) 0 ((kB L X:Nat):Int)=A9 (L.take (kB L X)):=Ee3 L 0 _;unfold Zj;rw[W7 (by omega) (by omega) (by rw[A8];omega),W7 (by omega) (by rw[A8];omega) (by omega),h,e0];simp only[aa,vl,A8,p6,o9,ag8];have n:(L.take (kB L X)).length<=L.length:=by rw[o7];omega
  have o:(L.drop (kB L X)).length<=L.length:=by rw[j9];omega
  rw[E8 (by omega),E8 (by omega),E8 (by omega)];simp only[aa];unfold Kt;rw[Br,List.append_assoc];rfl
 have g:∀H,(PV.fl 0).stab [1] (Blk.arr false 9 1 (A9 (Kt L X))::H) = .s (.sl false false 1 (A9 (Kt L X))):=λH=>by
  simp only[PV.stab,Md,PV.snap,List.headD_cons,w9,aa6];rfl
 by_cases a:kB L X<L.length
 ·rw[C5 (by rw[A8];omega),G9 (by omega) (by rw[A8];omega),j5,K5 a,L9];simp only[aa,vl];have d:atB L X=(L.getD (kB L X) []==X):=by unfold atB;rw[show ah1 (kB L X) L.length=true by rw[ad6];exact a,w6]
  rw[d] at c;rw[c];cases b with
  | true=>exact⟨_,_,rfl,by cases z<;>rfl⟩
  | false=>
   rw[ab,key];exact⟨_,_,rfl,g _⟩
 ·have d:atB L X=false:=by unfold atB;rw[show ah1 (kB L X) L.length=false by rw[ab3,ne_eq,ad6];exact a];rfl
  rw[d] at c;subst c;rw[D8 (by rw[A8];omega),ab,key];exact⟨_,_,rfl,g _⟩
def dS{l:List By}{i:Nat}(h:i<l.length):l.drop i=l.getD i []::l.drop (i+1):=by rw[aa9 h,k9,o0 h];rfl
section
variable {R : Type} (p : LL) (i : Int) (z : Bool)
def Bg7(d:LL)(h:Int)(e:By)(u b:Bool)(L:List By)(q:L.length<=10000000000)(g:Kdb R):∀(r j n:Nat) (a:Bool),j+r=L.length->r<n->
  Ha LF n p i d h e a (j:Int) z (A9 L) u b g=g p i d h e (a||I5 (L.drop j) e) z (A9 L) u b:=by
 intro r
 induction r with
 | zero=>
  intro j n a l o;rcases n with _|n;omega
  rw[Ha,D8 (by rw[A8];omega),j8 (by omega)];cases a<;>rfl
 | succ r f=>
  intro j n a l o;rcases n with _|n;omega
  have c:j<L.length:=by omega
  have k:A1 ((j:Int)+1)=((j+1:Nat):Int):=ah
  rw[Ha,C5 (by rw[A8];omega),k,aa];cases a with
  | true=>rw[aa,f (j+1) n true (by omega) (by omega)];rfl
  | false=>
   rw[ab,G9 (by omega) (by rw[A8];omega),j5,K5 c,L9,dS c,x6];simp only[aa];exact f (j+1) n _ (by omega) (by omega)
def Bg9(D:List By)(F:∀x∈D,A2 x.length=true)(G:D.length<=1000000000)(c:Kdh R):∀(r k n:Nat) (A:List By) (u b:Bool),k+r=D.length->r<n->A.length+r<=1000000000->
  V8 LF n p i (A9 D) (k:Int) z (A9 A) u b c=c p i z (A9 (((D.drop k).flatMap Gh).foldl Ef A)) (u||I5 ((D.drop k).flatMap Gh) Gk) (b||I5 ((D.drop k).flatMap Gh) Df):=by
 have H:=C9;intro r
 induction r with
 | zero=>
  intro k n A u b I J hA;rcases n with _|n;omega
  rw[V8,D8 (by rw[A8];omega),j8 (by omega)];cases u<;>cases b<;>rfl
 | succ r t=>
  intro k n A u b I J hA;rcases n with _|n;omega
  have a:k<D.length:=by omega
  have h:A1 ((k:Int)+1)=((k+1:Nat):Int):=ah
  have e:A2 (D.getD k []).length=true:=by
   rw[k9,o0 a];exact F _ (aa2 a)
  rw[V8,C5 (by rw[A8];omega),G9 (by omega) (by rw[A8];omega),j5,K5 a,L9,dS a,af3];simp only[aa,vl];rw[e,h];have d:=(A35 e).2;rw[S7] at d;cases l:M4 (D.getD k []) with
  | nil=>
   rw[show Gh (D.getD k [])=[] by unfold Gh;rw[l]];exact t (k+1) n A u b (by omega) (by omega) (by omega)
  | cons w v=>
   rw[show Gh (D.getD k [])=[C6 w] by unfold Gh;rw[l]];rw[l,af0,s8] at d;have j:A2 w.length=true:=d.1;have key:∀c,Ha (R:=R) LF LF p i (A9 D) (k:Int) (C6 w) false 0 z (A9 A) u b c=c p i (A9 D) (k:Int) (C6 w) (false||I5 (A.drop 0) (C6 w)) z (A9 A) u b:=λc=>Bg7 p i z (A9 D) k (C6 w) u b A (by omega) c A.length 0 LF false (by omega) (by omega)
   rw[aa,show((((A9 (w::v)).length:Nat):Int)==0)=false by rw[beq_eq_false_iff_ne,A8,o9];omega,ab,G9 (by omega) (by rw[A8,o9];omega),K5 (by simp),L9,show(w::v).getD 0 []=w from rfl,j,key,p7,x6];simp only[aa];have q:∀f:By,I5 ([C6 w]++(D.drop (k+1)).flatMap Gh) f=(C6 w==f||I5 ((D.drop (k+1)).flatMap Gh) f):=λf=>rfl
   have y:([C6 w]++(D.drop (k+1)).flatMap Gh).foldl Ef A=((D.drop (k+1)).flatMap Gh).foldl Ef (Ef A (C6 w)):=rfl;rw[q,q,y,<-ab8,<-ab8];have step:∀B:List By,B.length+r<=1000000000->∀o g:Bool,V8 LF n p i (A9 D) ((k+1:Nat):Int) z (A9 B) o g c=_:=λB C o g=>t (k+1) n B o g (by omega) (by omega) C
   unfold Ef;cases I5 A (C6 w) with
   | true=>
    rw[o5,ab,aa,h];cases u<;>cases b<;>exact step A (by omega) _ _
   | false=>
    rw[o6,aa,ab,A8,E8 (by omega),aa,h,show A9 A++[[SV.str (C6 w)]]=A9 (A++[C6 w]) by rw[Br];rfl];cases u<;>cases b<;>exact step (A++[C6 w]) (by simp;omega) _ _
def Bh1(P:List By)(o:P.length<=1000000000)(l:∀x∈P,x.length<=4096)(f:Bool->LL->Bool->Bool->Option R):∀(r k n:Nat) (A:List By) (u b:Bool),k+r=P.length->r<n->A.length+((P.drop k).map λx=>x.length+1).sum<=1000000000->
  Oq LF n (A9 P) (k:Int) z (A9 A) u b f=f z (A9 (((P.drop k).flatMap λx=>(pcs 59 x).flatMap Gh).foldl Ef A)) (u||I5 ((P.drop k).flatMap λx=>(pcs 59 x).flatMap Gh) Gk) (b||I5 ((P.drop k).flatMap λx=>(pcs 59 x).flatMap Gh) Df):=by
 have j:=C9;intro r
 induction r with
 | zero=>
  intro k n A u b t v hA;rcases n with _|n;omega
  rw[Oq,D8 (by rw[A8];omega),j8 (by omega)];cases u<;>cases b<;>rfl
 | succ r C=>
  intro k n A u b t v hA;rcases n with _|n;omega
  have c:k<P.length:=by omega
  have g:A1 ((k:Int)+1)=((k+1:Nat):Int):=ah
  have y:(P.getD k []).length<=4096:=by
   rw[k9,o0 c];exact l _ (aa2 c)
  have w:(pcs 59 (P.getD k [])).length<=(P.getD k []).length+1:=by rw[Dp];have:=Bm 59 (P.getD k []);omega
  rw[dS c,List.map_cons,List.sum_cons] at hA;rw[Oq,C5 (by rw[A8];omega),G9 (by omega) (by rw[A8];omega),j5,K5 c,L9,dS c,af3,D5 (by omega)];simp only[aa,vl];rw[show u8n (59:Int)=59 from rfl];have h:=Bg9 (R:=R) (A9 P) (k:Int) z (pcs 59 (P.getD k [])) (λx B=>D5 (by have:=(Ad B).2;omega)) (by omega);rw[show(0:Int)=((0:Nat):Int) from rfl,h _ (pcs 59 (P.getD k [])).length 0 LF A u b (by omega) (by omega) (by omega),p7,g];have D:=Yi ((pcs 59 (P.getD k [])).flatMap Gh) A;have q:=Yf Ao8 (pcs 59 (P.getD k []));rw[OI] at q;rw[C (k+1) n _ _ _ (by omega) (by omega) (by omega),List.foldl_append];have e:∀(a b:List By) (d:By),I5 (a++b) d=(I5 a d||I5 b d):=λa b d=>List.any_append
  rw[e,e,ab8,ab8]
end
def Ch5{d:Bool->Bool->Bool->LL->Option R}(u b:Bool)(v:By)(z:Bool)(l:LL)(e:l.all isS=true)(c:x8 l.length 100000000=true)(f:x8 v.length 4096=true) :
  Dr1 LF u b v z l d=d (u||I5 (Y6 v) Gk) (b||I5 (Y6 v) Df) z (A9 ((Y6 v).foldl Ef (l.map elS))):=by
 have g:=C9;obtain⟨A,rfl⟩:∃A,l=A9 A:=⟨_,Ca e⟩
 rw[A8] at c;have j:=p9 c;have k:=p9 f;rw[S7];have a:=HP 44 v [];have h:(pcs 44 v).length<=v.length+1:=by rw[Dp];have:=Bm 44 v;omega
 unfold Dr1;rw[D5 (by omega)];simp only[aa,vl];rw[show u8n (44:Int)=44 from rfl,show(0:Int)=((0:Nat):Int) from rfl,Bh1 z (pcs 44 v) (by omega) (λx i=>by have:=(Ad i).2;omega) _ (pcs 44 v).length 0 LF A u b (by omega) (by omega) (by
  rw[p7];unfold pcs;rw[a];simp only[ag8];omega),p7]
 rfl
def Ad1(z t:Bool)(l:List By)(g:l.length<=1000):∀(r i n:Nat) (a:List By),i+r=l.length->r<n->a.length<=i*4098->
  ((Og (l.drop i) a).2=0/\(∀(b:Kcf R) (c:LL->Bool->Bool->Option R),T1 LF n z t (A9 l) (i:Int) (A9 a) (I5 a Gk) (I5 a Df) b c=c (A9 (Og (l.drop i) a).1) (I5 (Og (l.drop i) a).1 Gk) (I5 (Og (l.drop i) a).1 Df)))\/
  (Og (l.drop i) a=([],3)/\∃h j k H,∀(b:Kcf R) (c:LL->Bool->Bool->Option R),T1 LF n z t (A9 l) (i:Int) (A9 a) (I5 a Gk) (I5 a Df) b c=b h j k H):=by
 intro r
 induction r with
 | zero=>
  intro i n a v w u;rcases n with _|n;omega
  rw[aa8.2 (by omega)];exact .inl ⟨rfl,λb c=>by rw[T1,D8 (by rw[A8];omega)];rfl⟩
 | succ r x=>
  intro i n a v w u;rcases n with _|n;omega
  have d:i<l.length:=by omega
  have q:A1 ((i:Int)+1)=((i+1:Nat):Int):=ah
  have p:Og (l.getD i []::l.drop (i+1)) a=cond (ltI 4096 ((l.getD i []).length:Int)) ([],3) (Og (l.drop (i+1)) ((Y6 (l.getD i [])).foldl Ef a)):=rfl;rw[dS d,p];cases e:ltI 4096 ((l.getD i []).length:Int) with
  | true=>
   exact .inr ⟨rfl,_,_,_,_,λb c=>by
    rw[T1,C5 (by rw[A8];omega),G9 (by omega) (by rw[A8];omega),j5,K5 d,L9];simp only[aa,vl];rw[e];rfl⟩
  | false=>
   have f:(l.getD i []).length<=4096:=by
    rw[Y0,decide_eq_false_iff_not] at e;omega
   have y:=Ao9 (l.getD i []);have A:=Yi (Y6 (l.getD i [])) a;have o:∀(b:Kcf R) (c:LL->Bool->Bool->Option R),T1 LF (n+1) z t (A9 l) (i:Int) (A9 a) (I5 a Gk) (I5 a Df) b c =
     T1 LF n z t (A9 l) ((i+1:Nat):Int) (A9 ((Y6 (l.getD i [])).foldl Ef a)) (I5 ((Y6 (l.getD i [])).foldl Ef a) Gk) (I5 ((Y6 (l.getD i [])).foldl Ef a) Df) b c:=λb c=>by
    rw[T1,C5 (by rw[A8];omega),G9 (by omega) (by rw[A8];omega),j5,K5 d,L9];simp only[aa,ab,vl,Z3,A8,S7];rw[e,x9 (by omega:a.length<=100000000),x9 f,q,LZ,LZ];rfl
   simp only[ab,o];exact x (i+1) n _ (by omega) (by omega) (by omega)
def Cj3(z t:Bool)(l:LL)(j:l.all isS=true)(f:x8 l.length 1000=true):∃r H,Aw1 z t l=rv r H/\r.stab [0,0] H = .tup [.agg [.s (.bool (I5 (F0 (l.map elS)).1 Gk)),.s (.bool (I5 (F0 (l.map elS)).1 Df)),.s (.sl (s9 (F0 (l.map elS)).1) (s9 (F0 (l.map elS)).1) 1 (A9 (F0 (l.map elS)).1))],.s (.int .i64 (F0 (l.map elS)).2)]:=by
 have k:=C9;obtain⟨E,rfl⟩:∃E,l=A9 E:=⟨_,Ca j⟩
 rw[A8] at f;have n:=p9 f;rw[S7];have e0:F0 E=Og (E.drop 0) []:=rfl;have m:(A9 (F0 E).1).isEmpty=(F0 E).1.isEmpty:=by cases (F0 E).1<;>rfl
 unfold Aw1 Ac9;rcases Ad1 (R:=PV × List Blk × Unit) z t E n E.length 0 LF [] (by omega) (by omega) (by simp) with⟨b,e⟩|⟨b,g,h,i,H,e⟩
 ·rw[<-e0] at b e;have a:∀c d,T1 LF LF z t (A9 E) 0 [] false false c d=d (A9 (F0 E).1) (I5 (F0 E).1 Gk) (I5 (F0 E).1 Df):=e;rw[a,b];exact⟨_,_,rfl,by simp only[PV.stab,Q3,PV.snap,Nv,Md,x4,w9,w6,m]<;>rfl⟩
 ·rw[<-e0] at b;have a:∀c d,T1 LF LF z t (A9 E) 0 [] false false c d=c g h i H:=e;rw[a,b];exact⟨_,_,rfl,rfl⟩
end
section
open Go Go.Proofs
section
variable {Q R : Type} (L : Nat) (W : G1) (Y : Yh Q) (s : Q) (k : Out -> St Q -> Option R)
noncomputable abbrev Ak3:Code:=D7 aj0
noncomputable def Ll(L:Nat):=mkC L 6 [(6,[2,0,0,0,15,0,0])] [(25,[2,0]),(24,[2,1]),(23,[2,1]),(22,[2,1,0,15,0,0]),(21,[2,1,0,15,0,0]),(20,[2,1,0,2,12,0,0,65]),(19,[2,1,0,2,1,10,0,0]),(18,[2,1,0,2,1,10,0,0]),(17,[2,1,0,2,1,10,0,0]),(16,[2,1,0,2,1,10,0,0]),(15,[2,1,0,2,1,10,0,0]),(14,[2,1,0,2,1,10,0,0,25]),(13,[2,0]),(12,[2,1,0,2,0,0,10,0,0,20]),(11,[2,1,0,2,0,0,10,0,0]),(10,[2,0]),(9,[2,1,0,1,0,0,11,0,0,10]),(8,[2,1,0,1,0,0,11,0,0]),(7,[2,1,0,1,13,0,0]),(6,[2,1,0,15,0,0,0]),(5,[2,1,0,15,0,0]),(4,[0,1,1,0]),(3,[0,1,1]),(2,[2,0]),(1,[0,1,15]),(0,[0,1])] [(0,[2,1]),(1,[2,1,0,15,0,0])] [2,0] [(11,JX),(12,HU),(13,Sf),(14,IO),(15,IA)] [13,14,15] [(17,Nk)] [] [17] (nt:=[(27,4,9,1),(33,1,9,1),(46,2,9,1),(1000027,4,9,1),(1000033,1,9,1),(1000046,2,9,1),(1000025,0,9,1)]) (Z:=[(16,Xn)])
abbrev Kae(R:Type):=Bool->Bool->Bool->LL->Int->Int->Bool->Bool->Bool->Bool->Bool->Bool->Bool->LL->By->Bool->Bool->LL->By->By->Int->By->Int->Int->Int->Int->Int->Int->Int->Int->Int->Int->By->Bool->Bool->Bool->LL->Option R
abbrev Kaa(R:Type):=Bool->Bool->Bool->LL->Int->Int->Bool->Bool->Bool->Bool->Bool->Bool->Bool->Bool->LL->By->Bool->Bool->LL->By->By->Int->By->Int->Int->Int->Int->Int->Int->Int->Int->Int->Int->By->Bool->Bool->Bool->LL->Option R
def Sz(a S P:Bool)(M:LL)(N O:Int)(H I J K o p q r:Bool)(m:LL)(y:By)(D C:Bool)(v:LL)(z A:By)(n:Int)(l:By)(b c d e f g h i j x:Int)(B:By)(t u F:Bool)(w:LL)(T:Kae R)(U:Kaa R):Option R:=
 cond H
 (cond (A2 l.length)
  (cond (ltN b 4294967296)
  (cond (ok8 c d e f g h i j)
   (vl (Y7 (mkH n l b (n8 c d e f g h i j))) λG=>
   cond (G0 (m.length+1))
    (T a S P M N O I J K o p q r (m++[[(SV.str G)]]) y D C v z A n l b c d e f g h i j x B t u F w)
    none)
   none)
  none)
  none)
 (U a S P M N O H I J K o p q r m y D C v z A n l b c d e f g h i j x B t u F w)
def Ta(a S P:Bool)(M:LL)(N O:Int)(F G H I d e f:Bool)(h:LL)(x:By)(C B:Bool)(i:LL)(c y:By)(l:Int)(z:By)(m n o p q r t u v w:Int)(A:By)(b g D:Bool)(j:LL)(J:Kae R)(K:Kaa R):Option R:=
 cond b
 (Sz a S P M N O (D2 c) F G H I d e f h x C B i c y l z m n o p q r t u v w A b g D j J K)
 (Sz a S P M N O false F G H I d e f h x C B i c y l z m n o p q r t u v w A b g D j J K)
def Tb(a S P:Bool)(M:LL)(N O:Int)(F G H I c d D:Bool)(f:LL)(v:By)(B A:Bool)(g:LL)(w x:By)(i:Int)(y:By)(j l m n o p q r t u:Int)(z:By)(e b C:Bool)(h:LL)(J:Kae R)(K:Kaa R):Option R:=
 cond D
 (Ta a S P M N O F G H I c d true f v B A g w x i y j l m n o p q r t u z e b C h J K)
 (Ta a S P M N O F G H I c d b f v B A g w x i y j l m n o p q r t u z e b C h J K)
def Tc(a S P:Bool)(M:LL)(N O:Int)(F G H I c D d:Bool)(f:LL)(v:By)(B A:Bool)(g:LL)(w x:By)(i:Int)(y:By)(j l m n o p q r t u:Int)(z:By)(b e C:Bool)(h:LL)(J:Kae R)(K:Kaa R):Option R:=
 cond D
 (Tb a S P M N O F G H I c true d f v B A g w x i y j l m n o p q r t u z b e C h J K)
 (Tb a S P M N O F G H I c b d f v B A g w x i y j l m n o p q r t u z b e C h J K)
abbrev Kac(R:Type):=Bool->Bool->Bool->LL->Int->Int->Bool->Bool->Bool->Bool->Bool->Bool->Bool->Bool->Bool->LL->By->Bool->Bool->LL->By->By->Int->By->Int->Int->Int->Int->Int->Int->Int->Int->Int->Int->By->Bool->Bool->Bool->LL->Option R
def Td(a T S:Bool)(N:LL)(O P:Int)(I J K M p q r t u:Bool)(m:LL)(A:By)(G F:Bool)(x:LL)(B C:By)(n:Int)(l:By)(b c d e f g h i j z:Int)(D:By)(v w H:Bool)(y:LL)(U:Kaa R)(V:Kac R):Option R:=
 cond I
 (cond (A2 l.length)
  (cond (ltN b 4294967296)
  (cond (ok8 c d e f g h i j)
   (vl (Y7 (mkH n l b (n8 c d e f g h i j))) λo=>
   cond (G0 (m.length+1))
    (U a T S N O P J K M p q r t u (m++[[(SV.str o)]]) A G F x B C n l b c d e f g h i j z D v w H y)
    none)
   none)
  none)
  none)
 (V a T S N O P I J K M p q r t u m A G F x B C n l b c d e f g h i j z D v w H y)
def Te(a T S:Bool)(N:LL)(O P:Int)(G H I J d e f g:Bool)(i:LL)(y:By)(D C:Bool)(j:LL)(c z:By)(m:Int)(A:By)(n o p q r t u v w x:Int)(B:By)(b h F:Bool)(l:LL)(K:Kaa R)(M:Kac R):Option R:=
 cond b
 (Td a T S N O P (D2 c) G H I J d e f g i y D C j c z m A n o p q r t u v w x B b h F l K M)
 (Td a T S N O P false G H I J d e f g i y D C j c z m A n o p q r t u v w x B b h F l K M)
def Tf(a T S:Bool)(N:LL)(O P:Int)(G H I J c d e F:Bool)(g:LL)(w:By)(C B:Bool)(h:LL)(x y:By)(j:Int)(z:By)(l m n o p q r t u v:Int)(A:By)(f b D:Bool)(i:LL)(K:Kaa R)(M:Kac R):Option R:=
 cond F
 (Te a T S N O P G H I J c d e true g w C B h x y j z l m n o p q r t u v A f b D i K M)
 (Te a T S N O P G H I J c d e b g w C B h x y j z l m n o p q r t u v A f b D i K M)
def Cn(a T S:Bool)(N:LL)(O P:Int)(G H I J c d F e:Bool)(g:LL)(w:By)(C B:Bool)(h:LL)(x y:By)(j:Int)(z:By)(l m n o p q r t u v:Int)(A:By)(b f D:Bool)(i:LL)(K:Kaa R)(M:Kac R):Option R:=
 cond F
 (Tf a T S N O P G H I J c d true e g w C B h x y j z l m n o p q r t u v A b f D i K M)
 (Tf a T S N O P G H I J c d b e g w C B h x y j z l m n o p q r t u v A b f D i K M)
def Tg(a z1 t2:Bool)(l3:LL)(n4 n5:Int)(b6 b7 b8 b9 q7 q6 f g:Bool)(j:LL)(z:By)(G F:Bool)(l:LL)(A B:By)(n:Int)(C:By)(o p q r t u v w x y:Int)(D:By)(h i H:Bool)(m:LL)(k0:Kaa R)(k1:Kac R):Option R:=
 cond q7
 (cond q6
  (Tc a z1 t2 l3 n4 n5 b6 b7 b8 b9 true f g j z G F l A B n C o p q r t u v w x y D h i H m (λb o3 n1 d0 e7 e8 I J K M N O P d1 k8 o4 n2 d2 l0 l1 e9 l2 f0 f1 f2 f3 f4 f5 f6 f7 f8 f9 l4 S T p0 d3=>k0 b o3 n1 d0 e7 e8 I J K M b N O P d1 k8 o4 n2 d2 l0 l1 e9 l2 f0 f1 f2 f3 f4 f5 f6 f7 f8 f9 l4 S T p0 d3) (λc p1 n3 d4 g0 g1 U V X Z a0 a1 a2 a3 d5 l5 p2 n6 d6 l6 l7 g2 l8 g3 g4 g5 g6 g7 g8 g9 h0 h1 h2 l9 a4 a5 p3 d7=>k1 c p1 n3 d4 g0 g1 U V X Z a0 c a1 a2 a3 d5 l5 p2 n6 d6 l6 l7 g2 l8 g3 g4 g5 g6 g7 g8 g9 h0 h1 h2 l9 a4 a5 p3 d7))
  (Tc a z1 t2 l3 n4 n5 b6 b7 b8 b9 a f g j z G F l A B n C o p q r t u v w x y D h i H m (λd q0 n7 d8 h3 h4 a6 a7 a8 a9 b0 b1 b2 d9 m0 q1 n9 e1 m1 m2 h5 m3 h6 h7 h8 h9 i0 i1 i2 i3 i4 i5 m4 b3 b4 q2 e2=>k0 d q0 n7 d8 h3 h4 a6 a7 a8 a9 d b0 b1 b2 d9 m0 q1 n9 e1 m1 m2 h5 m3 h6 h7 h8 h9 i0 i1 i2 i3 i4 i5 m4 b3 b4 q2 e2) (λe q3 o1 e3 i6 i7 b5 c0 c1 c2 c3 c4 c5 c6 e4 m5 q4 o2 e5 m6 m7 i9 m8 j1 j2 j3 j6 k2 k3 k4 k5 k6 k7 m9 c7 c8 q5 e6=>k1 e q3 o1 e3 i6 i7 b5 c0 c1 c2 c3 e c4 c5 c6 e4 m5 q4 o2 e5 m6 m7 i9 m8 j1 j2 j3 j6 k2 k3 k4 k5 k6 k7 m9 c7 c8 q5 e6)))
 (cond q6
  (Cn a z1 t2 l3 n4 n5 b6 b7 b8 b9 false true f g j z G F l A B n C o p q r t u v w x y D h i H m k0 k1)
  (Cn a z1 t2 l3 n4 n5 b6 b7 b8 b9 false a f g j z G F l A B n C o p q r t u v w x y D h i H m k0 k1))
def CT(a S P:Bool)(M:LL)(N O:Int)(G H I b T F c d:Bool)(g:LL)(w:By)(C B:Bool)(h:LL)(x y:By)(j:Int)(z:By)(l m n o p q r t u v:Int)(A:By)(e f D:Bool)(i:LL)(J:Kaa R)(K:Kac R):Option R:=
 cond T
 (cond F
  (Cn a S P M N O G H I b a true c d g w C B h x y j z l m n o p q r t u v A e f D i J K)
  (Cn a S P M N O G H I b a a c d g w C B h x y j z l m n o p q r t u v A e f D i J K))
 (cond F
  (Cn a S P M N O G H I b false true c d g w C B h x y j z l m n o p q r t u v A e f D i J K)
  (Cn a S P M N O G H I b false a c d g w C B h x y j z l m n o p q r t u v A e f D i J K))
def L0(L n:Nat)(t z1 t2:Bool)(d:LL)(n4 c:Int)(b6 b7 b8 b9 m o p q:Bool)(r:LL)(k0:Int->Blk->Bool->Bool->Bool->Bool->Blk->Blk->Blk->Blk->Blk->Blk->(List Blk)->Option R)(k1:Int->Blk->Bool->Bool->Bool->Bool->Blk->Blk->Blk->Blk->Blk->Blk->Blk->Blk->(List Blk)->Option R)(k2:Bool->Bool->Bool->Bool->Bool->Bool->Bool->Bool->LL->Option R):Option R:=match n with
 | 0=>none
 | n+1=>
  cond (ltI c n4)
   (cond (inR c d.length)
   (cond (okE ⟨true,true,[.str,.sl 1]⟩ d (j0 c) 0)
    (vl (SV.gE (gC d (j0 c) 1)) λl=>
    cond (A2 (j7 (gX d (j0 c) 0)))
     (vl (C1 (gX d (j0 c) 0)) λa=>
     cond ((uE a)!=0)
      (k0 (uE a) (Blk.arr true 9 1 []) false false false false (Blk.arr true 9 1 []) (Blk.box [(PV.s (SV.bool m)),(PV.s (SV.bool o)),(PV.s (SV.bool p)),(PV.s (SV.bool q)),(PV.fl 4)]) (Blk.arr true 9 1 r) (Blk.arr true 9 1 []) (Blk.box [(PV.s (SV.str (gX d (j0 c) 0))),(PV.s (SV.sl (SV.gZ (gC d (j0 c) 1)) (SV.gT (gC d (j0 c) 1)) 1 l))]) (bQ a) [])
      (cond (aa7 l isS)
      (cond (x8 l.length 1000)
       (vl (F0 (x3 elS l)) λb=>
       cond ((b).2 !=0)
        (k1 (b).2 (Blk.arr true 9 1 []) false false false false (Blk.arr true 9 1 []) (Blk.box [(PV.s (SV.bool m)),(PV.s (SV.bool o)),(PV.s (SV.bool p)),(PV.s (SV.bool q)),(PV.fl 4)]) (Blk.arr true 9 1 r) (Blk.arr true 9 1 []) (Blk.box [(PV.s (SV.str (gX d (j0 c) 0))),(PV.s (SV.sl (SV.gZ (gC d (j0 c) 1)) (SV.gT (gC d (j0 c) 1)) 1 l))]) (bQ a) (Blk.arr true 9 1 []) (Blk.box [(PV.s (SV.bool (I5 (b).1 Gk))),(PV.s (SV.bool (I5 (b).1 Df))),(PV.s (SV.sl (s9 (b).1) (s9 (b).1) 1 (A9 (b).1)))]) [])
        (cond (not ((uS a)==[97,98,111,117,116]))
        (cond (D2 (uS a))
         (cond (smU (uS a) (uU a) (uN a) (uR a))
         (cond (ltN (uV a) 4294967296)
          (cond (okQ a)
          (cond (Eb (uP a))
           (Tg (Pn (uS a) (uU a) (uK a) (uN a) (uV a) (uA a 0) (uA a 1) (uA a 2) (uA a 3) (uA a 4) (uA a 5) (uA a 6) (uA a 7) (uP a) (uR a)) z1 t2 d n4 c b6 b7 b8 b9 m o p q r (gX d (j0 c) 0) (SV.gZ (gC d (j0 c) 1)) (SV.gT (gC d (j0 c) 1)) l (uS a) (uU a) (uK a) (uN a) (uV a) (uA a 0) (uA a 1) (uA a 2) (uA a 3) (uA a 4) (uA a 5) (uA a 6) (uA a 7) (uP a) (uR a) (I5 (b).1 Gk) (I5 (b).1 Df) (s9 (b).1) (A9 (b).1) (λe g4 f8 c6 d9 e1 u v w x y z A B c7 t5 z4 y3 i5 t6 t7 k7 t8 k8 l0 l1 l2 l4 l5 l6 l7 l8 l9 t9 h0 h1 z5 i6=>vl (A1 (e1+1)) λe4=>
           L0 L n e g4 f8 c6 d9 e4 u v w x y z A B c7 k0 k1 k2) (λf g5 f9 c8 e2 e3 h2 C D F G H I J K d0 u0 z6 y4 i7 u1 u2 m0 u3 m1 m2 m3 m4 m5 m6 m7 m8 m9 n1 u4 h3 h4 z7 i9=>vl (A1 (e3+1)) λe5=>
           L0 L n f g5 f9 c8 e2 e5 C D F G H I J K d0 k0 k1 k2))
           none)
          none)
          none)
         none)
         (Tg false z1 t2 d n4 c b6 b7 b8 b9 m o p q r (gX d (j0 c) 0) (SV.gZ (gC d (j0 c) 1)) (SV.gT (gC d (j0 c) 1)) l (uS a) (uU a) (uK a) (uN a) (uV a) (uA a 0) (uA a 1) (uA a 2) (uA a 3) (uA a 4) (uA a 5) (uA a 6) (uA a 7) (uP a) (uR a) (I5 (b).1 Gk) (I5 (b).1 Df) (s9 (b).1) (A9 (b).1) (λg g6 g0 d1 e6 e7 M N O P S T U V d2 u5 z9 y6 j1 u6 u7 n2 u9 n3 n6 n7 n9 o1 o2 o3 o4 p0 p1 v2 h5 h6 z'1339 j2=>vl (A1 (e7+1)) λf0=>
         L0 L n g g6 g0 d1 e6 f0 M N O P S T U V d2 k0 k1 k2) (λh g7 g1 d3 e8 e9 h7 X Z a0 a1 a2 a3 a4 a5 d4 v3 z'1358 z0 j3 v5 v9 p2 w0 p3 q0 q1 q2 q3 q4 q5 q6 q7 q8 w2 h8 h9 z'1378 j6=>vl (A1 (e9+1)) λf1=>
         L0 L n h g7 g1 d3 e8 f1 X Z a0 a1 a2 a3 a4 a5 d4 k0 k1 k2)))
        (CT t z1 t2 d n4 c b6 b7 b8 b9 m o p q r (gX d (j0 c) 0) (SV.gZ (gC d (j0 c) 1)) (SV.gT (gC d (j0 c) 1)) l (uS a) (uU a) (uK a) (uN a) (uV a) (uA a 0) (uA a 1) (uA a 2) (uA a 3) (uA a 4) (uA a 5) (uA a 6) (uA a 7) (uP a) (uR a) (I5 (b).1 Gk) (I5 (b).1 Df) (s9 (b).1) (A9 (b).1) (λi g8 g2 d5 f2 f3 a6 a7 a8 a9 b0 b1 b2 b3 d6 w3 z'1706 z2 k3 w4 w5 q9 w7 r0 r1 r2 r3 r4 r5 r6 r7 r9 s0 x0 i0 i1 z'1726 k4=>vl (A1 (f3+1)) λf6=>
         L0 L n i g8 g2 d5 f2 f6 a6 a7 a8 a9 b0 b1 b2 b3 d6 k0 k1 k2) (λj g9 g3 d7 f4 f5 i2 b4 b5 c0 c1 c2 c3 c4 c5 d8 x1 z'1745 z3 k5 x2 y0 s1 y1 s2 s3 s4 s5 s6 s7 t0 t1 t3 t4 y2 i3 i4 z'1765 k6=>vl (A1 (f5+1)) λf7=>
         L0 L n j g9 g3 d7 f4 f7 b4 b5 c0 c1 c2 c3 c4 c5 d8 k0 k1 k2))))
       none)
      none))
     none)
    none)
   none)
   (k2 b6 b7 b8 b9 m o p q r)
def XX(n trusted0 z1 t2 l3 n4 n5 g h b8 b9 b10 b11 b12 b13 l14):D4 5 ((Ll L).keep 6) (bd (Ll L) W Y (cd [1,1,1,1,0,1,0,0] Ak3)) n ⟨gp [(2,.ptr 1 0 0),(1,.ptr 3 0 0),(0,pB trusted0),(15,.s (.sl z1 t2 2 l3)),(0,pI n4),(0,pI n5)] 83,[.arr true 9 1 [],.box [pB g,pB h,pB b8,pB b9,.fl 0],.arr true 9 1 [],.box [pB b10,pB b11,pB b12,pB b13,.fl 4],.arr true 9 1 l14],s⟩ k =
 L0 L n trusted0 z1 t2 l3 n4 n5 g h b8 b9 b10 b11 b12 b13 l14 (λn0 i c d e f m o p q a b r=>k .ret ⟨gp [(2,.ptr 1 0 0),(0,pI n0)] 103,(i::.box [pB c,pB d,pB e,pB f,.fl 8]::m::o::p::q::a::b::.arr true 9 1 []::r),s⟩) (λn0 i c d e f m o p q a b j l t=>k .ret ⟨gp [(2,.ptr 1 0 0),(0,pI n0)] 103,(i::.box [pB c,pB d,pB e,pB f,.fl 10]::m::o::p::q::a::b::j::l::.arr true 9 1 []::t),s⟩) (λu v c d e f g h x=>k (.exit 0) ⟨gp [(2,.ptr 1 0 0),(1,.ptr 3 0 0)] 102,[.arr true 9 1 [],.box [pB u,pB v,pB c,pB d,.fl 0],.arr true 9 1 [],.box [pB e,pB f,pB g,pB h,.fl 4],.arr true 9 1 x],s⟩):=by
 induction n generalizing trusted0 z1 t2 l3 n4 n5 g h b8 b9 b10 b11 b12 b13 l14 with
 | zero=>rfl
 | succ n w=>rw[L0];simp only[<-w];kernel_rfl
def XW(L:Nat)(h g:Bool)(a:LL)(V:Bool->Bool->Bool->Bool->Blk->Blk->(List Blk)->Option R)(X:Bool->Bool->Bool->Bool->Int->Blk->Blk->Blk->Blk->Blk->Blk->Blk->Blk->(List Blk)->Option R)(Z:Bool->Bool->Bool->Bool->Int->Blk->Blk->Blk->Blk->Blk->Blk->Blk->Blk->Blk->Blk->(List Blk)->Option R)(k3:Bool->Bool->Bool->Bool->Blk->Blk->Blk->Blk->LL->(List Blk)->Option R):Option R:=
 cond ((a.length:Int)==0)
 (V false false false false (Blk.arr true 9 1 []) (Blk.box [(PV.s (SV.bool false)),(PV.s (SV.bool false)),(PV.s (SV.bool false)),(PV.s (SV.bool false)),(PV.fl 2)]) [])
 (cond (ltI 16 (a.length:Int))
  (V false false false false (Blk.arr true 9 1 []) (Blk.box [(PV.s (SV.bool false)),(PV.s (SV.bool false)),(PV.s (SV.bool false)),(PV.s (SV.bool false)),(PV.fl 2)]) [])
  (L0 L L false h g a (a.length:Int) 0 false false false false true false false false [] (λN r i j l m t u v w x y J=>X i j l m N r (Blk.box [(PV.s (SV.bool i)),(PV.s (SV.bool j)),(PV.s (SV.bool l)),(PV.s (SV.bool m)),(PV.fl 8)]) t u v w x y J) (λO z n o p q A B C D F G H I K=>Z n o p q O z (Blk.box [(PV.s (SV.bool n)),(PV.s (SV.bool o)),(PV.s (SV.bool p)),(PV.s (SV.bool q)),(PV.fl 10)]) A B C D F G H I K) (λP S T U c d e f b=>cond ((aa7 b isS)&&(A2 b.length))
  (cond (aa7 (A9 (N6 (x3 elS b))) isS)
   (cond (A2 (j7 (A9 (N6 (x3 elS b)))))
   (vl (A9 (ag1 (x3 elS (A9 (N6 (x3 elS b)))))) λM=>
    k3 c d e f (Blk.arr true 9 1 []) (Blk.box [(PV.s (SV.bool c)),(PV.s (SV.bool d)),(PV.s (SV.bool e)),(PV.s (SV.bool f)),(PV.fl 4)]) (Blk.arr true 9 1 []) (Blk.box [(PV.s (SV.bool c)),(PV.s (SV.bool d)),(PV.s (SV.bool e)),(PV.s (SV.bool f)),(PV.fl 4)]) M [])
   none)
   none)
  none)))
def B97(d:Nat)(frames_z0 frames_t1 frames2):evC (Ll L) (d+1) Q Y 6 [.s (.sl frames_z0 frames_t1 2 frames2)] [] s=XW L frames_z0 frames_t1 frames2 (λf g h i o e v=>some (.tup [.agg [pB f,pB g,pB h,pB i,.fl 2],pI 3],(o::e::.arr true 9 1 []::v),s)) (λf g h i u e j l p q a b c r=>some (.tup [.agg [pB f,pB g,pB h,pB i,.fl 8],pI u],(e::j::l::p::q::a::b::c::.arr true 9 1 []::r),s)) (λf g h i u e j l p q a b c m n t=>some (.tup [.agg [pB f,pB g,pB h,pB i,.fl 10],pI u],(e::j::l::p::q::a::b::c::m::n::.arr true 9 1 []::t),s)) (λf g h i o e j l x w=>some (.tup [.agg [pB f,pB g,pB h,pB i,.fl 4],pI 0],(o::e::j::l::.arr true 9 1 x::w),s)):=evT aj0 λW=>by
 unfold XW;exact(j4 (by kernel_rfl) (A0 rfl (A0 rfl (ag (XX L W Y s (F2 0 (F6 (Ll L) W Y (cd [1,1,1,1,1] Ak3) (I8 (Ll L) aj0))) L false frames_z0 frames_t1 frames2 (frames2.length:Int) 0 false false false false true false false false [])))))
noncomputable abbrev An4(b a:Bool)(c:LL):Option (PV × List Blk × Unit):=XW LF b a c (λh i j l q g x=>some (.tup [.agg [pB h,pB i,pB j,pB l,.fl 2],pI 3],(q::g::.arr true 9 1 []::x),())) (λh i j l w g m n r t d e f u=>some (.tup [.agg [pB h,pB i,pB j,pB l,.fl 8],pI w],(g::m::n::r::t::d::e::f::.arr true 9 1 []::u),())) (λh i j l w g m n r t d e f o p v=>some (.tup [.agg [pB h,pB i,pB j,pB l,.fl 10],pI w],(g::m::n::r::t::d::e::f::o::p::.arr true 9 1 []::v),())) (λh i j l q g m n z y=>some (.tup [.agg [pB h,pB i,pB j,pB l,.fl 4],pI 0],(q::g::m::n::.arr true 9 1 z::y),()))
end
def At0{p:X1 × Nat}(h:Ai0 p.1):ltN (uV p) 4294967296=true/\okQ p=true/\Eb (uP p)=true/\∀c b,mkQ c p b=⟨c,p.1.user,p.1.host,b,p.1.rest⟩:=by obtain⟨⟨s,u,⟨k,n,v,l⟩,q,t⟩,e⟩:=p;obtain⟨a,d⟩:=h;obtain⟨g,i,j,m,o,r,w,x,rfl⟩:=eq8 a.v6.1;have f:=a.v4;simp only at f d;refine⟨E9.2 ⟨by show(0:Int)<=(v:Int);omega,by show(v:Int)<_;omega⟩,Dp3 a.v6.2,Yo.2 ⟨by show _<=q;omega,by show q<_;omega⟩,λc b=>C26 a.kd⟩
def At6(s:By):(C1 s).1.host.name.length<=253:=by
 by_cases h:(C1 s).2=0
 ·have b:=Cg0 h;cases c:D2 (C1 s).1.sch with
  | false=>
   obtain⟨_,_,_,a,_,_⟩:=b.ns c;rw[a]
   decide
  | true=>
   obtain⟨_,_,_,a,_,_⟩:=b.sp c;exact GF a
 ·rw[Be8 h]
  decide
def At8{s:By}(h:s.length<=10000000)(a:By)(b:a.length<=10000000):smU a (uU (C1 s)) (uN (C1 s)) (uR (C1 s))=true:=by obtain⟨c,d,e⟩:=Wm s;have f:=At6 s;simp only[smU,uU,uN,uR,s8,ah3];refine⟨⟨⟨by omega,by omega⟩,by omega⟩,by omega⟩
end
section
open Go
def Aa7(a:List Nat)(ret:PV)(H:List Blk):Bool:=decide a.Nodup&&(a.all (λb=>ah1 b H.length)&&(Fr H a&&ret.nms.all λb=>a.contains b))
def Cb.pick{C:Cfg}{Γ:Ctx}{w w':World}{ret:PV}{Hc:List Blk}{V:Value}{ns:List Nat}(h:Cb C I0 Γ [] w noΦ ret Hc () V w')(hok:Aa7 ns ret Hc=true) :
  Cb C I0 Γ [] w noΦ (ret.rn (J1 ns)) (Q6 Hc ns) () V w':=by
 obtain⟨Γ1,Φ1,hs,hH1,hv,hvn,hi1,hd1⟩:=h;simp only[Aa7,s8,af,ad2,ad6,List.contains_iff_mem] at hok;obtain⟨hnd,hlt,hcl,hr⟩:=hok;have hnm:∀i g,(Γ1.lent ns).nm i=some g->∃b,Γ1.nm b=some g:=λi g h=>by
  simp only[Ctx.lent] at h;cases hi:ns[i]? with
  | none=>rw[hi] at h;simp at h
  | some b=>rw[hi] at h;exact⟨b,h⟩
 have hlen:(Q6 Hc ns).length=ns.length:=by simp[Q6]
 refine⟨Γ1.lent ns,Φ1,⟨hs.os,hs.tape,hs.output,hs.size,hs.sub,hs.stnew,λc g h=>?_,hs.foot,hs.frame,hs.yv,Nat.zero_le _,λc hc=>by simp at hc⟩,
  ZJ hH1 hnd hlt hcl,?_,λc hc=>?_,hi1,λc g h=>?_⟩
 ·obtain⟨b,hb⟩:=hnm c g h;rcases hs.own b g hb with⟨q,_⟩|q
  ·simp at q
  ·exact .inr q
 ·refine VP.rn (Γ:=Γ1) (Γ':=Γ1.lent ns) rfl hv (.inr λ_ h=>h) λc hc=>?_
  obtain⟨q1,q2⟩:=Cg (hr c hc);exact⟨Tl (hr c hc),by rw[Ml hlt q1,q2]⟩
 ·rw[PV.rn_nms] at hc;obtain⟨d,hd,rfl⟩:=List.mem_map.1 hc;rw[hlen];exact(Cg (hr d hd)).1
 ·obtain⟨b,hb⟩:=hnm c g h;exact hd1 b g hb
def QA{C₀:Cfg}{g:Nat}{pf:List PV->Tr}(z:XOK C₀)(v:Lf C₀)(B:C₀.P.follows .mixedOrders=true)
  (h:∀args ret e,M6 (pf args)=some (ret,e)->D0 args=[]/\∃d r c f,evC C₀ d Unit noY g args [] ()=some (r,c,())/\Aa7 f r c=true/\r.rn (J1 f)=ret/\Q6 c f=e):C0 C₀.P C₀.G g pf:=by
 intro args ret e n C x i D w p l u t A;obtain⟨k,d,r,c,f,j,m,rfl,rfl⟩:=h args ret e n;have q:=Kh (C₀:=C₀) (g:=g) (pf:=λa=>match evC C₀ d Unit noY g a [] () with|some (r,H,_)=>cond (D0 a).isEmpty (.ret r H) .fail|none=>.fail) z v B (λa r H b=>by
  split at b
  ·rename_i G H' _ F;cases o:(D0 a).isEmpty with
   | true=>
    rw[o] at b;simp only[aa,M6,Gm,p5,af1] at b;grind
   | false=>rw[o] at b;cases b
  ·cases b)
 exact(q args r c (by dsimp only;rw[j];dsimp only;rw[k];rfl) C x i D w p l u t A).mono λV w' y=>y.pick m
end
section
open Go Go.Op
def Ee1(a N M:Bool)(J:LL)(K L:Int)(F G H I o p q r:Bool)(t:LL)(y:By)(C B:Bool)(v:LL)(m z:By)(u:Int)(n:By)(d e f g h i j k l x:Int)(A:By)(b c D:Bool)(w:LL)(O:Kaa R)(P:Kac R)(h0:A2 n.length=true)(h1:ltN d 4294967296=true)(h2:ok8 e f g h i j k l=true)(h3:G0 (t.length+1)=true) :
  Tg a N M J K L F G H I o p q r t y C B v m z u n d e f g h i j k l x A b c D w O P =
  cond (b&&D2 m) (O a N M J K L F G H I (o&&a) (p||a) (q||b) (r||c) (t++[[SV.str (Y7 (mkH u n d (n8 e f g h i j k l)))]]) y C B v m z u n d e f g h i j k l x A b c D w) (P a N M J K L false F G H I (o&&a) (p||a) (q||b) (r||c) t y C B v m z u n d e f g h i j k l x A b c D w):=by
 unfold Tg;cases b<;>cases o<;>cases p<;>cases q<;>cases r<;>cases c<;>simp only[aa,ab,Cn,Tf,Te,Td,Tc,Tb,Ta,Sz,h0,h1,h2,h3,vl,w6,aa6,ad4,x6,ab7]<;>cases D2 m<;>rfl
def Ee2(a N M:Bool)(J:LL)(K L:Int)(F G H I o p q r:Bool)(t:LL)(y:By)(C B:Bool)(v:LL)(m z:By)(u:Int)(n:By)(d e f g h i j k l x:Int)(A:By)(b c D:Bool)(w:LL)(O:Kaa R)(P:Kac R)(h0:A2 n.length=true)(h1:ltN d 4294967296=true)(h2:ok8 e f g h i j k l=true)(h3:G0 (t.length+1)=true) :
  CT a N M J K L F G H I o p q r t y C B v m z u n d e f g h i j k l x A b c D w O P =
  cond (b&&D2 m) (O a N M J K L F G H I (o&&a) (p||a) (q||b) (r||c) (t++[[SV.str (Y7 (mkH u n d (n8 e f g h i j k l)))]]) y C B v m z u n d e f g h i j k l x A b c D w) (P a N M J K L false F G H I (o&&a) (p||a) (q||b) (r||c) t y C B v m z u n d e f g h i j k l x A b c D w):=by
 unfold CT;cases b<;>cases o<;>cases p<;>cases q<;>cases r<;>cases c<;>simp only[aa,ab,Cn,Tf,Te,Td,Tc,Tb,Ta,Sz,h0,h1,h2,h3,vl,w6,aa6,ad4,x6,ab7]<;>cases D2 m<;>rfl
def Ba4{l:LL}(h:l.all Qg=true){i:Nat}(c:i<l.length):∃u z t k E,(k=1\/z=true)/\l.getD i []=[.str u,.sl z t k (A9 E)]/\M0 (l.getD i [])=(u,E):=by
 have f:l.getD i []∈l:=by
  rw[k9,o0 c];exact aa2 c
 have a:=ad2.1 h _ f;generalize l.getD i []=g at a ⊢;unfold Qg at a;split at a
 ·rename_i u z t k b;simp only[s8,ag6] at a;obtain⟨d,e⟩:=a;obtain⟨E,rfl⟩:∃E,b=A9 E:=⟨_,Ca e⟩
  refine⟨u,z,t,k,E,d.imp Nat.eq_of_beq_eq_true (λq=>q.1),rfl,?_⟩;show(u,(A9 E).map elS)=(u,E)
  rw[S7]
 ·cases a
def YN{l:LL}{i:Nat}(b:i<l.length):(l.map M0).drop i=M0 (l.getD i [])::(l.map M0).drop (i+1):=by
 have a:i<(l.map M0).length:=by rw[y7];exact b
 rw[aa9 a,List.getElem_map,k9,o0 b];rfl
def D26{l:LL}(h:l.all Zw=true){i:Nat}(a:i<l.length):Zw (l.getD i [])=true:=by refine ad2.1 h _ ?_;rw[k9,o0 a];exact aa2 a
def Cd7(z t:Bool)(l:LL){R:Type}(w:l.all Qg=true)(D:l.length<=1000000000)(d e:Unit->Option R):∀(r i n:Nat),i+r=l.length->r<n->
  Od LF n z t l (i:Int) d e=cond (((l.map M0).drop i).all λf=>ltN f.1.length 3001&&(x8 f.2.length 6&&La 5000 f.2)) (e ()) (d ()):=by
 intro r
 induction r with
 | zero=>
  intro i n x y;rcases n with _|n;omega
  rw[aa8.2 (by rw[y7];omega),Od,D8 (by omega)];rfl
 | succ r A=>
  intro i n x y;rcases n with _|n;omega
  have a:i<l.length:=by omega
  obtain⟨u,H,G,F,E,c,b,k⟩:=Ba4 w a;have o:A1 ((i:Int)+1)=((i+1:Nat):Int):=ah
  have B:okE Aa l i 0=true:=by unfold okE;rw[b];simp[a,okS,SV.has,Aa]
  have C:okE ⟨true,false,[.sl 1]⟩ l i 1=true:=by unfold okE;rw[b];rcases c with rfl|rfl<;>simp[a,okS,SV.has]
  have p:gX l i 0=u:=by unfold gX gC;rw[b];rfl
  have q:SV.gE (gC l i 1)=A9 E:=by unfold gC;rw[b];rfl
  rw[YN a,k,Od,C5 (by omega),G9 (by omega) (by omega),j5,B,C,p,q];have g:ltN u.length 3001 = !(ltI 3000 (u.length:Int)):=by
   rw[y5,E9,Y0];simp;omega
  have h:x8 E.length 6 = !(ltI 6 (E.length:Int)):=by
   rw[y5,Y0];simp;omega
  simp only[aa,vl,A8,Z3,S7,af0];rw[g,h];cases ltI 3000 (u.length:Int) with
  | true=>rfl
  | false=>
   cases v:ltI 6 (E.length:Int) with
   | true=>rfl
   | false=>
    have j:A2 E.length=true:=D5 (by
     rw[Y0,decide_eq_false_iff_not] at v;omega)
    rw[j];cases La 5000 E with
    | false=>rfl
    | true=>
     simp only[ab,aa,o5,o6,w6];rw[o];exact A (i+1) n (by omega) (by omega)
def Cd8{a:Bool->Option R}(z t:Bool)(l:LL)(d:l.all Qg=true):Dn2 LF z t l a=a (Pl (l.map M0)):=by
 have e:=C9;unfold Dn2 Pl;have c:x8 (l.map M0).length 20 = !(ltI 20 (l.length:Int)):=by
  rw[y7,y5,Y0];simp;omega
 rw[c];cases b:ltI 20 (l.length:Int) with
 | true=>rfl
 | false=>
  have f:l.length<=20:=by
   rw[Y0,decide_eq_false_iff_not] at b;omega
  have:=Cd7 z t l d (by omega) (λ_=>a false) (λ_=>a true) l.length 0 LF (by omega) (by omega);rw[p7] at this;simp only[ab,o6,w6];refine j4 this ?_;cases aa7 (l.map M0) _<;>rfl
def B39(l:List By):x3 elS (A9 l)=l:=by unfold A9;rw[List.map_map];exact List.map_id'' (λ_=>rfl) l
def Ar8(z t p o:Bool)(a b:List By)(d e:Unit->Option R)(g:a.length=b.length)(u:a.length<=1000000000):∀(r i m:Nat),i+r=a.length->r<m->Es LF m z t (A9 a) p o (A9 b) (i:Int) d e=if a.drop i=b.drop i then e () else d ():=by
 intro r
 induction r with
 | zero=>
  intro i m j k;rcases m with _|m;omega
  rw[Es];rw[D8 (by rw[A8];omega),j8 (by omega),j8 (by omega),ac rfl];rfl
 | succ r n=>
  intro i m j k;rcases m with _|m;omega
  rw[Es];have f:A1 ((i:Int)+1)=((i+1:Nat):Int):=ah
  have c:∀l:List By,i<l.length->l.drop i=l.getD i []::l.drop (i+1):=λl h=>by
   rw[k9,o0 h,af7,List.getElem_cons_drop]
  rw[C5 (by rw[A8];omega),G9 (by omega) (by rw[A8];omega),G9 (by omega) (by rw[A8];omega),j5,K5 (by omega),K5 (by omega),L9,L9,f,c a (by omega),c b (by omega)];simp only[aa];by_cases h:a.getD i []=b.getD i []
  ·rw[h,beq_self_eq_true,o5,ab,n (i+1) m (by omega) (by omega)];simp only[List.cons.injEq,true_and]
  ·rw[show(a.getD i []==b.getD i [])=false by simpa using h,o6,aa,ae (λq=>h (List.cons.inj q).1)]
def Ar9{f:Bool->Option R}(z t:Bool)(a:LL)(i g:Bool)(b:LL)(j:a.all isS=true)(k:b.all isS=true)(l:A2 a.length=true)(m:A2 b.length=true):ZG LF z t a i g b f=f (a.map elS==b.map elS):=by
 have n:=C9;have c:=L4 l;have d:=L4 m;rw[Ca j] at c ⊢;rw[Ca k] at d ⊢;generalize a.map elS=p at c ⊢;generalize b.map elS=q at d ⊢;rw[A8] at c d;rw[B39,B39];unfold ZG;rw[A8,A8];by_cases h:p.length=q.length
 ·rw[show((p.length:Int)!=(q.length:Int))=false by rw[h];simp,ab];refine j4 (Ar8 z t i g p q _ _ h c p.length 0 LF (by omega) (by omega)) ?_;rw[p7,p7];by_cases e:p=q
  ·rw[ac e,e,beq_self_eq_true]
  ·rw[ae e,show(p==q)=false by simpa using e]
 ·rw[show((p.length:Int)!=(q.length:Int))=true by rw[bne_iff_ne];omega,aa,show(p==q)=false by rw[beq_eq_false_iff_ne];rintro rfl;exact h rfl]
def B99{a:By->List Blk->Option R}(t:By):D49 LF t a=a t []:=rfl
def Dn0(a b c d j e:Bool)(l:LL)(f g h i n k:Bool)(m:LL)(o:l.all isS=true)(p:A2 l.length=true)(q:m.all isS=true)(t:A2 m.length=true) :
  ∃r H,C13 a b c d j e l f g h i n k m=rv r H/\r.stab [] H=pB ((a==f)&&(b==g)&&(c==h)&&(d==i)&&(l.map elS==m.map elS)):=by
 unfold C13 Dm8;rw[o,p,q,t];simp only[aa];cases (a==f)<;>cases (b==g)<;>cases (c==h)<;>cases (d==i)<;>exact⟨_,_,rfl,rfl⟩
def XY(z t:Bool)(l:LL)(hf:l.all Qg=true)(q:l.all Zw=true)(b2:l.length<=16):∀(r i n:Nat) (j h up g f:Bool) (q:List By),i+r=l.length->r<n->q.length<=i->
  (∃M K N F a,a.length<=16/\Qw ((l.map M0).drop i) j h up g f q=⟨0,M,K,N,F,ag1 (N6 a)⟩/\∀b c d,L0 (R:=R) LF n f z t l (l.length:Int) (i:Int) false false false false j h up g (A9 q) b c d=d false false false false M K N F (A9 a))\/
  (∃e,e≠0/\Qw ((l.map M0).drop i) j h up g f q=Yd e/\((∃U V W X w x H,∀b c d,L0 (R:=R) LF n f z t l (l.length:Int) (i:Int) false false false false j h up g (A9 q) b c d=b e (Blk.arr true 9 1 []) false false false false U V W X w x H)\/
   (∃U V W X w x S T H,∀b c d,L0 (R:=R) LF n f z t l (l.length:Int) (i:Int) false false false false j h up g (A9 q) b c d=c e (Blk.arr true 9 1 []) false false false false U V W X w x S T H))):=by
 intro r
 induction r with
 | zero=>
  intro i n j h up g f a hi hn hh;rcases n with _|n;omega
  rw[aa8.2 (by rw[y7];omega)];exact .inl ⟨j,h,up,g,a,by omega,rfl,λb c d=>by rw[L0,D8 (by omega)];rfl⟩
 | succ r ih=>
  intro i n j h up g f a hi hn hh;rcases n with _|n;omega
  have p:i<l.length:=by omega
  obtain⟨u,z',t',k',E,a0,P,e3⟩:=Ba4 hf p;have k:=D26 q p;unfold Zw at k;rw[P] at k;simp only[s8] at k;have J:u.length<=10000000:=p9 k.1;have hu:A2 u.length=true:=D5 (by omega);have v:=At8 (s:=u) J (uS (C1 u)) (ai1 (Wm u).1 J);have G:A2 (j7 (uN (C1 u)))=true:=by
   obtain⟨_,_,l,_⟩:=Kc v;exact M5
  obtain⟨v1,v2,v3,_⟩:=At0 (TF u);have O:ok8 (uA (C1 u) 0) (uA (C1 u) 1) (uA (C1 u) 2) (uA (C1 u) 3) (uA (C1 u) 4) (uA (C1 u) 5) (uA (C1 u) 6) (uA (C1 u) 7)=true:=v2;have I:G0 ((A9 a).length+1)=true:=by rw[A8];exact E8 (by omega)
  have hE:x8 E.length 1000=true:=by
   have:=k.2;rw[show((([SV.str u,SV.sl z' t' k' (A9 E)]:List SV).getD 1 .nilp).gE)=A9 E from rfl,A8] at this;exact this
  have ew:A1 ((i:Int)+1)=((i+1:Nat):Int):=ah
  have o1:okE ⟨true,true,[.str,.sl 1]⟩ l i 0=true:=by unfold okE;rw[P];rcases a0 with rfl|rfl<;>simp[p,okS,SV.has]
  have g1:gX l i 0=u:=by unfold gX gC;rw[P];rfl
  have g2:SV.gE (gC l i 1)=A9 E:=by unfold gC;rw[P];rfl
  have eb:Qw ((u,E)::(l.map M0).drop (i+1)) j h up g f a=cond (uE (C1 u)!=0) (Yd (uE (C1 u))) (cond ((F0 E).2 !=0) (Yd (F0 E).2)
   (Qw ((l.map M0).drop (i+1)) (j&&trF f (C1 u)) (h||trF f (C1 u)) (up||upF E) (g||I5 (F0 E).1 Df) (trF f (C1 u))
    (cond (upF E&&D2 (uS (C1 u))) (a++[hsQ (C1 u)]) a))):=rfl
  rw[YN p,e3,eb];cases o:(uE (C1 u)!=0) with
  | true=>
   refine .inr ⟨uE (C1 u),by simpa using o,by rw[aa],.inl ?_⟩;exact⟨_,_,_,_,_,_,_,λb c d=>by
    rw[L0,C5 (by omega),G9 (by omega) (by omega),j5,o1,g1,g2];simp only[aa,vl,hu,o];rfl⟩
  | false=>
   rw[ab];cases hM:((F0 E).2 !=0) with
   | true=>
    refine .inr ⟨(F0 E).2,by simpa using hM,by rw[aa],.inr ?_⟩;exact⟨_,_,_,_,_,_,_,_,_,λb c d=>by
     rw[L0,C5 (by omega),G9 (by omega) (by omega),j5,o1,g1,g2];simp only[aa,ab,vl,Z3,A8,S7,hu,hE,o,hM];rfl⟩
   | false=>
    have ek:∀b c d,L0 (R:=R) LF (n+1) f z t l (l.length:Int) (i:Int) false false false false j h up g (A9 a) b c d =
      L0 (R:=R) LF n (trF f (C1 u)) z t l (l.length:Int) ((i+1:Nat):Int) false false false false (j&&trF f (C1 u)) (h||trF f (C1 u)) (up||upF E) (g||I5 (F0 E).1 Df) (A9 (cond (upF E&&D2 (uS (C1 u))) (a++[hsQ (C1 u)]) a)) b c d:=λb c d=>by
     rw[L0,C5 (by omega),G9 (by omega) (by omega),j5,o1,g1,g2];simp only[aa,ab,vl,Z3,A8,S7,hu,hE,o,hM,Ee1 (h0:=G) (h1:=v1) (h2:=O) (h3:=I),Ee2 (h0:=G) (h1:=v1) (h2:=O) (h3:=I),v,v1,v2,v3,ew];unfold trF upF;have b1:(uS (C1 u)!=Kl) = !(uS (C1 u)==[97,98,111,117,116]):=rfl;rw[b1];cases hA:(uS (C1 u)==[97,98,111,117,116])<;>cases hS:D2 (uS (C1 u))<;>cases hU:I5 (F0 E).1 Gk<;>simp only[o5,o6,ab7,w6,aa6,Bool.and_false,Bool.or_true,Bool.or_false,aa,ab,Br]<;>rfl
    have b0:(cond (upF E&&D2 (uS (C1 u))) (a++[hsQ (C1 u)]) a).length<=i+1:=by
     cases (upF E&&D2 (uS (C1 u))) with
     | true=>simp;omega
     | false=>simp;omega
    rw[ab];rcases ih (i+1) n _ _ _ _ _ _ (by omega) (by omega) b0 with⟨y,A,B,C,D,Q,L,q3⟩|⟨e,q0,Q,⟨y,A,B,C,D,Y,Z,L⟩|⟨y,A,B,C,D,Y,Z,a8,a9,L⟩⟩
    ·exact .inl ⟨y,A,B,C,D,Q,L,λb c d=>(ek b c d).trans (q3 b c d)⟩
    ·exact .inr ⟨e,q0,Q,.inl ⟨y,A,B,C,D,Y,Z,λb c d=>(ek b c d).trans (L b c d)⟩⟩
    ·exact .inr ⟨e,q0,Q,.inr ⟨y,A,B,C,D,Y,Z,a8,a9,λb c d=>(ek b c d).trans (L b c d)⟩⟩
def B98(z t:Bool)(l:LL)(D:l.all Qg=true)(F:l.all Zw=true)(G:A2 l.length=true) :
  ∃r H v,An4 z t l=some (r,H,())/\Aa7 v r H=true/\r.rn (J1 v) = .tup [.agg [pB (cS (L3 (l.map M0))),pB (cP (L3 (l.map M0))),pB (cU (L3 (l.map M0))),pB (cB (L3 (l.map M0))),.fl 0],pI (cE (L3 (l.map M0)))]/\
   Q6 H v=[.arr true 9 1 (A9 (cH (L3 (l.map M0))))]:=by
 have I:=C9;have M:=L4 G;unfold An4 XW;have c:L3 (l.map M0)=cond ((l.map M0).isEmpty||ltI 16 (((l.map M0).length:Nat):Int)) (Yd 3) (Qw (l.map M0) true false false false false []):=rfl;rw[y7] at c;by_cases u:l=[]
 ·subst u;exact⟨_,_,[2],rfl,rfl,rfl,rfl⟩
 have y:=ae8.2 u;have x:((l.length:Int)==0)=false:=by rw[beq_eq_false_iff_ne];omega
 have C:(l.map M0).isEmpty=false:=by
  cases l with
  | nil=>exact absurd rfl u
  | cons a r=>rfl
 rw[C,x6] at c;cases q:ltI 16 (l.length:Int) with
 | true=>
  rw[q,aa] at c;rw[c,x];exact⟨_,_,[2],rfl,rfl,rfl,rfl⟩
 | false=>
  rw[q,ab] at c;have p:l.length<=16:=by
   rw[Y0,decide_eq_false_iff_not] at q;omega
  rw[c,x];rcases XY (R:=PV × List Blk × Unit) z t l D F p l.length 0 LF true false false false false [] (by omega) (by omega) (by simp) with⟨k,m,n,o,j,i,f,J⟩|⟨e,N,i,⟨k,m,n,o,j,A,B,f⟩|⟨k,m,n,o,j,A,B,K,L,f⟩⟩
  ·have w:∀g h d,L0 (R:=PV × List Blk × Unit) LF LF false z t l (l.length:Int) 0 false false false false true false false false [] g h d=d false false false false k m n o (A9 j):=J;rw[p7] at f;simp only[ab,w,Z3,A8,S7,Zy,D5 (show j.length<=1000000000 by omega),Bool.and_self,aa,f];exact⟨_,_,[4],rfl,rfl,rfl,rfl⟩
  ·have b:∀g h d,L0 (R:=PV × List Blk × Unit) LF LF false z t l (l.length:Int) 0 false false false false true false false false [] g h d=_:=f;rw[p7] at i;simp only[ab,b,i];exact⟨_,_,[8],rfl,rfl,rfl,rfl⟩
  ·have b:∀g h d,L0 (R:=PV × List Blk × Unit) LF LF false z t l (l.length:Int) 0 false false false false true false false false [] g h d=_:=f;rw[p7] at i;simp only[ab,b,i];exact⟨_,_,[10],rfl,rfl,rfl,rfl⟩
def PI(c:Bool)(L:List By)(X:By):List By:=cond c (cond (atB L X) L (Kt L X)) L
section
variable {R : Type} (K : Bool -> Bool -> LL -> Bool -> Int -> Bool -> Bool -> Bool -> Bool -> Bool -> Bool -> Bool -> Bool -> Bool -> Bool -> LL -> Option R) (Q W : Bool) (fl : LL) (Y : Bool) (i : Int) (a b c d F G H T : Bool) (L : List By) (B S : By) (C : Int) (U : By) (M Z D O J I X V N x : Int) (P : By) (u q y : Bool) (A : LL)
  (h0 : A2 U.length=true) (h1 : ltN M 4294967296=true) (h2 : ok8 Z D O J I X V N=true) (h3 : x8 L.length 100000000=true)
include h0 h1 h2 h3
def D32:Uf Q W fl Y i a b c d F G H T L.isEmpty L.isEmpty (A9 L) B S C U M Z D O J I X V N x P u q y A (λQ W fl Y i a b c d e f g h z t l _ _ _ _ _ _ _ _ _ _ _ _ _ _ _ _ _ _ _=>K Q W fl Y i a b c d e f g h z t l) (λQ W fl Y i _ a b c d e f g h z t l _ _ _ _ _ _ _ _ _ _ _ _ _ _ _ _ _ _ _=>K Q W fl Y i a b c d e f g h z t l) =
  K Q W fl Y i a b c d (F&&Y) (G||Y) (H||u) (T||q) (PI (u&&D2 B) L (Y7 (mkH C U M (n8 Z D O J I X V N)))).isEmpty (PI (u&&D2 B) L (Y7 (mkH C U M (n8 Z D O J I X V N)))).isEmpty (A9 (PI (u&&D2 B) L (Y7 (mkH C U M (n8 Z D O J I X V N))))):=by
 unfold Uf PI;cases u<;>cases F<;>cases G<;>cases H<;>cases T<;>cases q<;>simp only[aa,ab,Cw,Ue,Ud,Uc,Ub,Ua,Tz,Tx,h0,h1,h2,h3,Z3,A8,S7,vl,w6,aa6,ad4,x6,ab7]<;>cases D2 B<;>first|rfl|(simp only[aa,ab];cases atB L (Y7 (mkH C U M (n8 Z D O J I X V N)))<;>simp only[aa,ab,C06]<;>rfl)
def Ef6:DT Q W fl Y i a b c d F G H T L.isEmpty L.isEmpty (A9 L) B S C U M Z D O J I X V N x P u q y A (λQ W fl Y i a b c d e f g h z t l _ _ _ _ _ _ _ _ _ _ _ _ _ _ _ _ _ _ _=>K Q W fl Y i a b c d e f g h z t l) (λQ W fl Y i _ a b c d e f g h z t l _ _ _ _ _ _ _ _ _ _ _ _ _ _ _ _ _ _ _=>K Q W fl Y i a b c d e f g h z t l) =
  K Q W fl Y i a b c d (F&&Y) (G||Y) (H||u) (T||q) (PI (u&&D2 B) L (Y7 (mkH C U M (n8 Z D O J I X V N)))).isEmpty (PI (u&&D2 B) L (Y7 (mkH C U M (n8 Z D O J I X V N)))).isEmpty (A9 (PI (u&&D2 B) L (Y7 (mkH C U M (n8 Z D O J I X V N))))):=by
 unfold DT PI;cases u<;>cases F<;>cases G<;>cases H<;>cases T<;>cases q<;>simp only[aa,ab,Cw,Ue,Ud,Uc,Ub,Ua,Tz,Tx,h0,h1,h2,h3,Z3,A8,S7,vl,w6,aa6,ad4,x6,ab7]<;>cases D2 B<;>first|rfl|(simp only[aa,ab];cases atB L (Y7 (mkH C U M (n8 Z D O J I X V N)))<;>simp only[aa,ab,C06]<;>rfl)
end
abbrev cs(a:List By):List By:=ag1 (N6 a)
def D53(c:Bool)(a:List By)(X:By):PI c (cs a) X=cs (cond c (a++[X]) a):=by
 unfold PI;cases c with
 | false=>rfl
 | true=>exact(D51 a X).symm
def D52(a:List By):(cs a).length<=a.length:=by have:=YE (N6 a);rwa [Zy] at this
def Ab5(z t:Bool)(l:LL)(hf:l.all Qg=true)(w:l.all Zw=true)(a0:l.length<=16):∀(r i n:Nat) (A y up q p:Bool) (w:List By),i+r=l.length->r<n->w.length<=i->
  (∃O N P I j,Qw ((l.map M0).drop i) A y up q p w=⟨0,O,N,P,I,cs j⟩/\∀k o,K6 (R:=R) LF n z t l p (i:Int) false false false false A y up q (cs w).isEmpty (cs w).isEmpty (A9 (cs w)) k o=o false false false false O N P I (cs j).isEmpty (cs j).isEmpty (A9 (cs j)))\/
  (∃e,Qw ((l.map M0).drop i) A y up q p w=Yd e/\∃H,∀k o,K6 (R:=R) LF n z t l p (i:Int) false false false false A y up q (cs w).isEmpty (cs w).isEmpty (A9 (cs w)) k o=k e false false false false H):=by
 intro r
 induction r with
 | zero=>
  intro i n A y up q p j hi hn hh;rcases n with _|n;omega
  rw[aa8.2 (by rw[y7];omega)];exact .inl ⟨A,y,up,q,j,rfl,λk o=>by rw[K6,D8 (by omega)];rfl⟩
 | succ r ih=>
  intro i n A y up q p j hi hn hh;rcases n with _|n;omega
  have v:i<l.length:=by omega
  obtain⟨u,z',t',k',E,Q,J,e3⟩:=Ba4 hf v;have x:=D26 w v;unfold Zw at x;rw[J] at x;simp only[s8] at x;have M:u.length<=10000000:=p9 x.1;have V:A2 u.length=true:=D5 (by omega);have B:=At8 (s:=u) M (uS (C1 u)) (ai1 (Wm u).1 M);have D:A2 (j7 (uN (C1 u)))=true:=by
   obtain⟨_,_,l,_⟩:=Kc B;exact M5
  obtain⟨v1,v2,v3,_⟩:=At0 (TF u);have G:ok8 (uA (C1 u) 0) (uA (C1 u) 1) (uA (C1 u) 2) (uA (C1 u) 3) (uA (C1 u) 4) (uA (C1 u) 5) (uA (C1 u) 6) (uA (C1 u) 7)=true:=v2;have a6:=D52 j;have F:x8 (cs j).length 100000000=true:=x9 (by omega);have hE:x8 E.length 1000=true:=by
   have:=x.2;rw[show((([SV.str u,SV.sl z' t' k' (A9 E)]:List SV).getD 1 .nilp).gE)=A9 E from rfl,A8] at this;exact this
  have ew:A1 ((i:Int)+1)=((i+1:Nat):Int):=ah
  have W:okE Aa l i 0=true:=by unfold okE;rw[J];simp[v,okS,SV.has,Aa]
  have o2:okE ⟨true,false,[.sl 1]⟩ l i 1=true:=by unfold okE;rw[J];rcases Q with rfl|rfl<;>simp[v,okS,SV.has]
  have S:gX l i 0=u:=by unfold gX gC;rw[J];rfl
  have Z:SV.gE (gC l i 1)=A9 E:=by unfold gC;rw[J];rfl
  have eb:Qw ((u,E)::(l.map M0).drop (i+1)) A y up q p j=cond (uE (C1 u)!=0) (Yd (uE (C1 u))) (cond ((F0 E).2 !=0) (Yd (F0 E).2)
   (Qw ((l.map M0).drop (i+1)) (A&&trF p (C1 u)) (y||trF p (C1 u)) (up||upF E) (q||I5 (F0 E).1 Df) (trF p (C1 u))
    (cond (upF E&&D2 (uS (C1 u))) (j++[hsQ (C1 u)]) j))):=rfl
  rw[YN v,e3,eb];cases C:(uE (C1 u)!=0) with
  | true=>
   refine .inr ⟨uE (C1 u),by rw[aa],?_⟩;exact⟨_,λk o=>by
    rw[K6,C5 (by omega),G9 (by omega) (by omega),j5,W,S];simp only[aa,vl,V,C];rfl⟩
  | false=>
   rw[ab];cases hM:((F0 E).2 !=0) with
   | true=>
    refine .inr ⟨(F0 E).2,by rw[aa],?_⟩;exact⟨_,λk o=>by
     rw[K6,C5 (by omega),G9 (by omega) (by omega),j5,W,o2,S,Z];simp only[aa,ab,vl,Z3,A8,S7,V,hE,C,hM];rfl⟩
   | false=>
    have Y:∀k o,K6 (R:=R) LF (n+1) z t l p (i:Int) false false false false A y up q (cs j).isEmpty (cs j).isEmpty (A9 (cs j)) k o =
      K6 (R:=R) LF n z t l (trF p (C1 u)) ((i+1:Nat):Int) false false false false (A&&trF p (C1 u)) (y||trF p (C1 u)) (up||upF E) (q||I5 (F0 E).1 Df) (cs (cond (upF E&&D2 (uS (C1 u))) (j++[hsQ (C1 u)]) j)).isEmpty (cs (cond (upF E&&D2 (uS (C1 u))) (j++[hsQ (C1 u)]) j)).isEmpty (A9 (cs (cond (upF E&&D2 (uS (C1 u))) (j++[hsQ (C1 u)]) j))) k o:=λk o=>by
     rw[<-D53];rw[K6,C5 (by omega),G9 (by omega) (by omega),j5,W,o2,S,Z];simp only[aa,ab,vl,Z3,A8,S7,V,hE,C,hM];rw[D32 (λL K fl p i a b c d e f g h z t l=>K6 LF n L K fl p (A1 (i+1)) a b c d e f g h z t l k o) (h0:=D) (h1:=v1) (h2:=G) (h3:=F),D32 (λL K fl p i a b c d e f g h z t l=>K6 LF n L K fl p (A1 (i+1)) a b c d e f g h z t l k o) (h0:=D) (h1:=v1) (h2:=G) (h3:=F),Ef6 (λL K fl p i a b c d e f g h z t l=>K6 LF n L K fl p (A1 (i+1)) a b c d e f g h z t l k o) (h0:=D) (h1:=v1) (h2:=G) (h3:=F),B,v1,v2,v3,ew];unfold trF upF;have U:(uS (C1 u)!=Kl) = !(uS (C1 u)==[97,98,111,117,116]):=rfl;rw[U];cases hA:(uS (C1 u)==[97,98,111,117,116])<;>cases hS:D2 (uS (C1 u))<;>rfl
    have T:(cond (upF E&&D2 (uS (C1 u))) (j++[hsQ (C1 u)]) j).length<=i+1:=by
     cases (upF E&&D2 (uS (C1 u))) with
     | true=>simp;omega
     | false=>simp;omega
    rw[ab];rcases ih (i+1) n _ _ _ _ _ _ (by omega) (by omega) T with⟨a1,a2,a3,a4,a5,X,q3⟩|⟨e,q1,H,X⟩
    ·exact .inl ⟨a1,a2,a3,a4,a5,X,λk o=>(Y k o).trans (q3 k o)⟩
    ·exact .inr ⟨e,q1,H,λk o=>(Y k o).trans (X k o)⟩
def Ch8(z t:Bool)(l:LL)(q:l.all Qg=true)(u:l.all Zw=true)(v:A2 l.length=true) :
  ∃r H,Av0 z t l=rv r H/\r.stab [0,0] H = .tup [.agg [pB (cS (L3 (l.map M0))),pB (cP (L3 (l.map M0))),pB (cU (L3 (l.map M0))),pB (cB (L3 (l.map M0))),.s (.sl (cH (L3 (l.map M0))).isEmpty (cH (L3 (l.map M0))).isEmpty 1 (A9 (cH (L3 (l.map M0)))))],pI (cE (L3 (l.map M0)))]:=by
 have w:=C9;have F:=L4 v;unfold Av0 Ab3;have b:L3 (l.map M0)=cond ((l.map M0).isEmpty||ltI 16 (((l.map M0).length:Nat):Int)) (Yd 3) (Qw (l.map M0) true false false false false []):=rfl;rw[y7] at b;by_cases g:l=[]
 ·subst g;exact⟨_,_,rfl,rfl⟩
 have n:=ae8.2 g;have m:((l.length:Int)==0)=false:=by rw[beq_eq_false_iff_ne];omega
 have p:(l.map M0).isEmpty=false:=by
  cases l with
  | nil=>exact absurd rfl g
  | cons a r=>rfl
 rw[p,x6] at b;cases f:ltI 16 (l.length:Int) with
 | true=>
  rw[f,aa] at b;rw[b,m];exact⟨_,_,rfl,rfl⟩
 | false=>
  rw[f,ab] at b;have d:l.length<=16:=by
   rw[Y0,decide_eq_false_iff_not] at f;omega
  rw[b,m];rcases Ab5 (R:=PV × List Blk × Unit) z t l q u d l.length 0 LF true false false false false [] (by omega) (by omega) (by simp) with⟨y,A,B,C,D,c,x⟩|⟨e,o,H,c⟩
  ·have k:∀h i,K6 (R:=PV × List Blk × Unit) LF LF z t l false 0 false false false false true false false false true true [] h i=_:=x;rw[p7] at c;simp only[ab,k,c];exact⟨_,_,rfl,rfl⟩
  ·have j:∀h i,K6 (R:=PV × List Blk × Unit) LF LF z t l false 0 false false false false true false false false true true [] h i=_:=c;rw[p7] at o;simp only[ab,j,o];exact⟨_,_,rfl,rfl⟩
def B93(f:FrV)(r:List FrV)(e d up c a:Bool)(b:List By):Qw (f::r) e d up c a b=cond (uE (C1 f.1)!=0) (Yd (uE (C1 f.1))) (cond ((F0 f.2).2 !=0) (Yd (F0 f.2).2)
   (Qw r (e&&trF a (C1 f.1)) (d||trF a (C1 f.1)) (up||upF f.2) (c||I5 (F0 f.2).1 Df) (trF a (C1 f.1))
    (cond (upF f.2&&D2 (uS (C1 f.1))) (b++[hsQ (C1 f.1)]) b))):=rfl
def A85(l:List FrV):L3 l=cond (l.isEmpty||ltI 16 (l.length:Int)) (Yd 3) (Qw l true false false false false []):=rfl
end
section
open Go Go.Proofs
section
def UH:C0 c9 GX 186 Lg:=λargs ret a h=>by
 have:M6 (Lg args)=none:=by unfold Lg HV;split<;>rfl
 rw[this] at h;cases h
def Bt4:C0 c9 GX 92 VO:=xf [] (Cw6 LF) VQ rfl trivial rfl follows λargs=>by
 unfold VQ;split
 ·rename_i s p;exact λa=>⟨rfl,rfl,rfl,_,_,(Do3 LF noY () 0 s p).trans (Ce8 s p a),rfl⟩
 ·trivial
def Ah0:C0 c9 GX 50 IB:=xf [] (Cw1 LF) VA rfl ⟨Bt4,trivial⟩ rfl follows λargs=>by
 unfold VA;split
 ·rename_i s p;exact λa=>⟨rfl,rfl,rfl,_,_,(Dl8 LF noY () 0 s p).trans (Cc5 s p a),rfl⟩
 ·trivial
def Dd3:C0 c9 GX 138 A57:=xf [] (Cw7 LF) VT rfl trivial rfl follows λargs=>by
 unfold VT;split
 ·rename_i s p;exact λa=>⟨rfl,rfl,rfl,_,_,(Do5 LF noY () 0 s p).trans (Ce9 s p a),rfl⟩
 ·trivial
def Ea7:C0 c9 GX 99 Cr2:=xf [] (Cw2 LF) VB rfl ⟨Dd3,trivial⟩ rfl follows λargs=>by
 unfold VB;split
 ·rename_i s p;exact λa=>⟨rfl,rfl,rfl,_,_,(Dm0 LF noY () 0 s p).trans (Cc6 s p a),rfl⟩
 ·trivial
def Dy3:C0 c9 GX 161 Bv1:=xf [] (Bz3 LF) IM rfl ⟨Dd3,trivial⟩ rfl follows λargs=>by
 unfold IM;split
 ·rename_i s p;exact λa=>⟨rfl,rfl,rfl,_,_,(C22 LF noY () 0 s p).trans (Bd3 s p a),rfl⟩
 ·trivial
def D01:C0 c9 GX 129 Bw8:=xf [] (B05 LF) JW rfl ⟨Dy3,trivial⟩ rfl follows λargs=>by
 unfold JW;split
 ·rename_i s p;exact λa=>⟨rfl,rfl,rfl,_,_,(Da3 LF noY () 0 s p).trans (Br0 s p a),rfl⟩
 ·trivial
def Dx9:C0 c9 GX 87 Bu8:=xf [0,0] (By9 LF) IH rfl ⟨Bt4,trivial⟩ rfl follows λargs=>by
 unfold IH;split
 ·rename_i s p;exact λa=>⟨rfl,rfl,rfl,_,_,(C15 LF noY () 0 s p).trans (Bc1 s p a),rfl⟩
 ·trivial
def Dc5:C0 c9 GX 48 A50:=xf [0,0] (Cv5 LF) UO rfl ⟨Dx9,trivial⟩ rfl follows λargs=>by
 unfold UO;split
 ·rename_i s p;exact λa=>⟨rfl,rfl,rfl,_,_,(Di6 LF noY () 0 s p).trans (Ca5 s p a),rfl⟩
 ·trivial
def Dc6:C0 c9 GX 162 Ai3:=xf [1] (Ib LF) AQ rfl ⟨UH,De8,Bt7,trivial⟩ rfl follows λargs=>by
 unfold AQ;split
 ·rename_i s p v n;exact λb=>λc=>λd=>λe=>(let⟨h,f,a,g⟩:=Aq6 s p v n b c d e;⟨rfl,rfl,rfl,h,f,(SE LF noY () 0 s p v n).trans a,g⟩)
 ·trivial
def OS:C0 c9 GX 131 Xo:=xf [1] (Am6 LF) BM rfl ⟨Dc6,trivial⟩ rfl follows λargs=>by
 unfold BM;split
 ·rename_i s p;exact λa=>λb=>⟨rfl,rfl,rfl,_,_,(Cn0 LF noY () 0 s p).trans (A21 s p a b),rfl⟩
 ·trivial
def Bt3:C0 c9 GX 47 II:=xf [] (CF LF) VM rfl trivial rfl follows λargs=>by
 unfold VM;split
 ·rename_i s;exact λa=>⟨rfl,rfl,rfl,_,_,(Do1 LF noY () 0 s).trans (Ce6 s a),rfl⟩
 ·trivial
def Dc7:C0 c9 GX 117 A52:=xf [] (Cv9 LF) UY rfl ⟨Ah0,trivial⟩ rfl follows λargs=>by
 unfold UY;split
 ·rename_i s;exact λa=>⟨rfl,rfl,rfl,_,_,(Dl5 LF noY () 0 s).trans (Cc2 s a),rfl⟩
 ·trivial
def Bs9:C0 c9 GX 119 UP:=xf [0,0] (CB LF) UQ rfl trivial rfl follows λargs=>by
 unfold UQ;split
 ·rename_i s base;exact λa=>λb=>⟨rfl,rfl,rfl,_,_,(Dj4 LF noY () 0 s base).trans (Cb0 s base a b),rfl⟩
 ·trivial
def D36:C0 c9 GX 118 Cr6:=xf [0,0] (D19 LF) A58 rfl ⟨Dc7,Bs9,trivial⟩ rfl follows λargs=>by
 unfold A58;split
 ·rename_i s;exact λa=>⟨rfl,rfl,rfl,_,_,(D69 LF noY () 0 s).trans (C30 s a),rfl⟩
 ·trivial
def B79:C0 c9 GX 116 VX:=xf [1] (Bz5 LF) IP rfl ⟨OS,trivial⟩ rfl follows λargs=>by
 unfold IP;split
 ·rename_i s;exact λa=>⟨rfl,rfl,rfl,_,_,(C36 LF noY () 0 s).trans (Be9 s a),rfl⟩
 ·trivial
def UJ:C0 c9 GX 83 Rz:=xf [] (QZ LF) Vj rfl ⟨B79,Dc7,D36,Bs9,trivial⟩ rfl follows λargs=>by
 unfold Vj;split
 ·rename_i s;exact λa=>⟨rfl,rfl,rfl,_,_,(Be2 LF noY () 0 s).trans (ZW s a),rfl⟩
 ·trivial
def Eb4:C0 c9 GX 130 Cr8:=xf [0,0] (CH LF) WB rfl ⟨B79,D36,trivial⟩ rfl follows λargs=>by
 unfold WB;split
 ·rename_i s;exact λa=>⟨rfl,rfl,rfl,_,_,(Dq5 LF noY () 0 s).trans (Cg8 s a),rfl⟩
 ·trivial
def Eg4:C0 c9 GX 202 D10:=xf [0,0] (RH LF) A71 rfl ⟨OS,Bs9,Dd0,trivial⟩ rfl follows λargs=>by
 unfold A71;split
 ·rename_i s;exact λa=>⟨rfl,rfl,rfl,_,_,(D89 LF noY () 0 s).trans (Db6 s a),rfl⟩
 ·trivial
def Eg3:C0 c9 GX 32 D09:=xf [] (RG LF) A70 rfl ⟨Dd0,trivial⟩ rfl follows λargs=>by
 unfold A70;split
 ·rename_i v;exact λa=>⟨rfl,rfl,rfl,_,_,(D88 LF noY () 0 v).trans (Db4 v a),rfl⟩
 ·trivial
def Cp6:C0 c9 GX 149 QD:=xf [] (Hm LF) Vk rfl trivial rfl follows λargs=>by
 unfold Vk;split
 ·rename_i s;exact λa=>⟨rfl,rfl,rfl,_,_,(Bh5 LF noY () 0 s).trans (Ab9 s a),rfl⟩
 ·trivial
def Bt5:C0 c9 GX 77 JD:=xf [] (CM LF) WM rfl trivial rfl follows λargs=>by
 unfold WM;split
 ·rename_i s;exact λa=>⟨rfl,rfl,rfl,_,_,(Ds7 LF noY () 0 s).trans (Cj1 s a),rfl⟩
 ·trivial
def Nh:C0 c9 GX 75 Fp:=xf [1] (Ls LF) BG rfl trivial rfl follows λargs=>by
 unfold BG;split
 ·rename_i s c;exact λb=>λd=>(let⟨g,e,a,f⟩:=Ax4 s c b d;⟨rfl,rfl,rfl,g,e,(Ck5 LF noY () 0 s c).trans a,f⟩)
 ·trivial
def Eb7:C0 c9 GX 174 Cs0:=xf [] (Cx1 LF) WG rfl trivial rfl follows λargs=>by
 unfold WG;split
 ·rename_i b;exact λa=>⟨rfl,rfl,rfl,_,_,(Dr6 LF noY () 0 b).trans (Ci1 b a),rfl⟩
 ·trivial
def De3:C0 c9 GX 150 A65:=xf [0,0] (R6 LF) WO rfl ⟨Eb7,trivial⟩ rfl follows λargs=>by
 unfold WO;split
 ·rename_i s;exact λa=>⟨rfl,rfl,rfl,_,_,(Ds9 LF noY () 0 s).trans (Cj4 s a),rfl⟩
 ·trivial
def A45:C0 c9 GX 148 JF:=xf [1] (Am2 LF) BE rfl ⟨Nh,trivial⟩ rfl follows λargs=>by
 unfold BE;split
 ·rename_i s;exact λa=>⟨rfl,rfl,rfl,_,_,(Cj9 LF noY () 0 s).trans (Aw4 s a),rfl⟩
 ·trivial
def OP:C0 c9 GX 111 Vn:=xf [] (KW LF) Qp rfl ⟨A45,Cp6,De3,trivial⟩ rfl follows λargs=>by
 unfold Qp;split
 ·rename_i s;exact λa=>⟨rfl,rfl,rfl,_,_,(Aw3 LF noY () 0 s).trans (PT s a),rfl⟩
 ·trivial
def Dz4:C0 c9 GX 112 Bw2:=xf [0,0] (Ss LF) JH rfl ⟨A45,De3,trivial⟩ rfl follows λargs=>by
 unfold JH;split
 ·rename_i s;exact λa=>⟨rfl,rfl,rfl,_,_,(C69 LF noY () 0 s).trans (Bm5 s a),rfl⟩
 ·trivial
def Eb6:C0 c9 GX 195 Cr9:=xf [0,0] (CI LF) WF rfl ⟨UI,trivial⟩ rfl follows λargs=>by
 unfold WF;split
 ·rename_i s;exact λa=>⟨rfl,rfl,rfl,_,_,(Dr4 LF noY () 0 s).trans (Ci0 s a),rfl⟩
 ·trivial
def Ec1:C0 c9 GX 172 Cs4:=xf [0,0] (CN LF) WU rfl ⟨Nh,Eb6,trivial⟩ rfl follows λargs=>by
 unfold WU;split
 ·rename_i s;exact λa=>⟨rfl,rfl,rfl,_,_,(Du0 LF noY () 0 s).trans (Cl4 s a),rfl⟩
 ·trivial
def Ec0:C0 c9 GX 41 Cs3:=xf [] (Cx3 LF) WT rfl ⟨UI,trivial⟩ rfl follows λargs=>by
 unfold WT;split
 ·rename_i v;exact λa=>⟨rfl,rfl,rfl,_,_,(Dt8 LF noY () 0 v).trans (Cl2 v a),rfl⟩
 ·trivial
def Cp5:C0 c9 GX 162 AR:=by
 refine C0.fix (pf:=Vi) _ (Bc (C₀:=Ib LF) (M3.ok (l:=[(186,Lg),(187,A67),(136,JP)]) rfl ⟨UH,De8,Bt7,trivial⟩) (H7 rfl (by kernel_rfl)) follows ?_);intro args ret f h;unfold Vi at h;split at h
 ·rename_i s p v n;obtain⟨a,h⟩:=C8 h;obtain⟨b,h⟩:=C8 h;obtain⟨c,h⟩:=C8 h;obtain⟨d,h⟩:=C8 h;obtain⟨rfl,rfl⟩:=J6 h;have e:=(SE LF noY () 0 s p v n).trans (LX s p v n a b c d);exact⟨rfl,1,_,[],e,rfl,rfl⟩
 ·cases h
def Cq2:C0 c9 GX 131 QK:=by
 refine C0.fix (pf:=Vr) _ (Bc (C₀:=RE LF) (M3.ok (l:=[(162,AR)]) rfl ⟨Cp5,trivial⟩) (H7 rfl (by kernel_rfl)) follows ?_);intro args ret c h;unfold Vr at h;split at h
 ·rename_i s p;obtain⟨a,h⟩:=C8 h;obtain⟨b,h⟩:=C8 h;obtain⟨rfl,rfl⟩:=J6 h;have e:=(Bq7 LF noY () 0 s p).trans (Af5 s p a b);exact⟨rfl,1,_,[],e,rfl,rfl⟩
 ·cases h
def Ea3:C0 c9 GX 201 Cq8:=xf [0,0] (CC LF) UU rfl trivial rfl follows λargs=>by
 unfold UU;split
 ·rename_i s;exact λa=>⟨rfl,rfl,rfl,_,_,(Dk7 LF noY () 0 s).trans (Cb7 s a),rfl⟩
 ·trivial
def Dx3:C0 c9 GX 185 Bu4:=xf [1,0] (Sl LF) HY rfl ⟨OS,Ea3,Eg4,trivial⟩ rfl follows λargs=>by
 unfold HY;split
 ·rename_i s last;exact λb=>(let⟨e,c,a,d⟩:=Ba9 s last b;⟨rfl,rfl,rfl,e,c,(Cz8 LF noY () 0 s last).trans a,d⟩)
 ·trivial
def Eg7:C0 c9 GX 159 D13:=xf [0,0] (D22 LF) A74 rfl ⟨De9,Dx3,trivial⟩ rfl follows λargs=>by
 unfold A74;split
 ·rename_i s;exact λb=>(let⟨e,c,a,d⟩:=D96 s b;⟨rfl,rfl,rfl,e,c,(D95 LF noY () 0 s).trans a,d⟩)
 ·trivial
def D04:C0 c9 GX 58 Bx0:=xf [0,0] (Bv LF) KD rfl trivial rfl follows λargs=>by
 unfold KD;split
 ·rename_i a b c d e f g h;exact λi=>⟨rfl,rfl,rfl,_,_,(Dg6 LF noY () 0 a b c d e f g h).trans (Bu3 a b c d e f g h i),rfl⟩
 ·trivial
def Eg6:C0 c9 GX 59 D12:=xf [] (RJ LF) A73 rfl ⟨Ea2,B84,trivial⟩ rfl follows λargs=>by
 unfold A73;split
 ·rename_i b a l;exact λd=>λe=>(let⟨h,f,c,g⟩:=D94 b a l d e;⟨rfl,rfl,rfl,h,f,(D93 LF noY () 0 b a l).trans c,g⟩)
 ·trivial
def Eg5:C0 c9 GX 33 D11:=xf [] (D21 LF) A72 rfl ⟨D04,Eg6,trivial⟩ rfl follows λargs=>by
 unfold A72;split
 ·rename_i a b c d e f g h;exact λj=>(let⟨m,k,i,l⟩:=D92 a b c d e f g h j;⟨rfl,rfl,rfl,m,k,(D91 LF noY () 0 a b c d e f g h).trans i,l⟩)
 ·trivial
def Eb8:C0 c9 GX 173 Cs1:=xf [0,0] (CJ LF) WI rfl trivial rfl follows λargs=>by
 unfold WI;split
 ·rename_i s;exact λa=>⟨rfl,rfl,rfl,_,_,(Ds3 LF noY () 0 s).trans (Ci6 s a),rfl⟩
 ·trivial
def Dy6:C0 c9 GX 146 Bv4:=xf [1,0] (Sn LF) IU rfl ⟨Nh,Ec1,Eb8,trivial⟩ rfl follows λargs=>by
 unfold IU;split
 ·rename_i s last;exact λb=>(let⟨e,c,a,d⟩:=Bj0 s last b;⟨rfl,rfl,rfl,e,c,(C49 LF noY () 0 s last).trans a,d⟩)
 ·trivial
def Cp7:C0 c9 GX 145 QE:=xf [] (Hn LF) Vl rfl trivial rfl follows λargs=>by
 unfold Vl;split
 ·rename_i s;exact λa=>⟨rfl,rfl,rfl,_,_,(Bh6 LF noY () 0 s).trans (Ac1 s a),rfl⟩
 ·trivial
def Ec3:C0 c9 GX 109 Cs6:=xf [0,0] (Ce LF) WX rfl ⟨Cp7,Dy6,trivial⟩ rfl follows λargs=>by
 unfold WX;split
 ·rename_i s;exact λb=>(let⟨e,c,a,d⟩:=Du5 s b;⟨rfl,rfl,rfl,e,c,(Du4 LF noY () 0 s).trans a,d⟩)
 ·trivial
def Dy9:C0 c9 GX 82 Bv7:=xf [] (Sp LF) IX rfl trivial rfl follows λargs=>by
 unfold IX;split
 ·rename_i v;exact λa=>⟨rfl,rfl,rfl,_,_,(C53 LF noY () 0 v).trans (Bj4 v a),rfl⟩
 ·trivial
def Ec2:C0 c9 GX 42 Cs5:=xf [] (Bi LF) WW rfl ⟨Dy9,trivial⟩ rfl follows λargs=>by
 unfold WW;split
 ·rename_i a b c d e f g h;exact λi=>⟨rfl,rfl,rfl,_,_,(Du2 LF noY () 0 a b c d e f g h).trans (Cl5 a b c d e f g h i),rfl⟩
 ·trivial
def A43:C0 c9 GX 181 Qo:=xf [] (Al9 LF) AY rfl trivial rfl follows λargs=>by
 unfold AY;split
 ·rename_i n;exact⟨rfl,rfl,rfl,_,_,(Cg9 LF noY () 0 n).trans (Au2 n ),rfl⟩
 ·trivial
def A42:C0 c9 GX 183 Qm:=xf [] (Ag LF) AX rfl trivial rfl follows λargs=>by
 unfold AX;split
 ·rename_i d c f;exact λa=>λb=>λe=>⟨rfl,rfl,rfl,_,_,(Cf6 LF noY () 0 d c f).trans (At5 d c f a b e),rfl⟩
 ·trivial
def Eb3:C0 c9 GX 200 A59:=xf [] (Cw8 LF) VZ rfl trivial rfl follows λargs=>by
 unfold VZ;split
 ·rename_i d;exact λa=>⟨rfl,rfl,rfl,_,_,(Dq0 LF noY () 0 d).trans (Cg5 d a),rfl⟩
 ·trivial
def Eb5:C0 c9 GX 206 A61:=xf [] (Cx0 LF) WD rfl trivial rfl follows λargs=>by
 unfold WD;split
 ·rename_i b;exact λa=>⟨rfl,rfl,rfl,_,_,(Dr0 LF noY () 0 b).trans (Ch2 b a),rfl⟩
 ·trivial
def Dd7:C0 c9 GX 199 IQ:=by
 refine C0.fix (pf:=WC) _ (Bc (C₀:=Cw9 LF) (M3.ok (l:=[]) rfl trivial) (H7 rfl (by kernel_rfl)) follows ?_);intro args ret a h;unfold WC at h;split at h
 ·rename_i b;obtain⟨rfl,rfl⟩:=J6 h;have e:=(Dq7 LF noY () 0 b).trans (Ch0 b );exact⟨rfl,1,_,[],e,rfl,rfl⟩
 ·cases h
def B87:Uv c9 GX 209 Sa:=by
 refine Dz (C₀:=Bz6 LF) (M3.ok (l:=[]) rfl trivial) (H7 rfl (by kernel_rfl)) follows ?_;intro args H ret f h;unfold Sa at h;split at h
 ·rename_i k b;obtain⟨a,h⟩:=C8 h;obtain⟨c,h⟩:=C8 h;obtain⟨rfl,rfl⟩:=J6 h;refine⟨rfl,rfl,λg d s=>?_⟩;have e:=(C39 LF d s 0 k b).trans (Bg3 k b a c);exact⟨1,_,e,rfl⟩
 ·cases h
def Ec9:Uv c9 GX 182 VW:=by
 refine Dz (C₀:=KV LF) (Le (lx:=[(199,IQ),(200,A59)]) (ly:=[(209,Sa)]) (ls:=[]) rfl rfl rfl ⟨Dd7,Eb3,trivial⟩ ⟨B87,trivial⟩ trivial) (H7 rfl (by kernel_rfl)) follows ?_;intro args H ret f h;unfold VW at h;split at h
 ·rename_i q b z l;obtain⟨a,h⟩:=C8 h;obtain⟨c,h⟩:=C8 h;obtain⟨d,h⟩:=C8 h;obtain⟨rfl,rfl⟩:=J6 h;obtain⟨g,i,e0⟩:=Cf8 q b z l a c d;exact⟨rfl,rfl,λj e s=>⟨1,_,(Dp6 LF e s 0 q b z l).trans (e0 _ _),rfl⟩⟩
 ·cases h
def Dd6:C0 c9 GX 156 A60:=by
 refine C0.fix (pf:=WA) _ (J0 [0,0] (C₀:=T9 LF) (Le (lx:=[(181,Qo),(183,Qm)]) (ly:=[(182,VW)]) (ls:=[]) rfl rfl rfl ⟨A43,A42,trivial⟩ ⟨Ec9,trivial⟩ trivial) (H7 rfl (by kernel_rfl)) follows ?_);intro args ret i h;unfold WA at h;split at h
 ·rename_i b a p;obtain⟨d,h⟩:=C8 h;obtain⟨rfl,rfl⟩:=J6 h;obtain⟨g,e,c,f⟩:=Dq2 b a p d;exact⟨rfl,rfl,rfl,1,g,e,(Dq1 LF noY () 0 b a p).trans c,f⟩
 ·cases h
def Ec8:Uv c9 GX 197 UR:=by
 refine Dz (C₀:=KT LF) (Le (lx:=[(199,IQ),(206,A61)]) (ly:=[(209,Sa)]) (ls:=[]) rfl rfl rfl ⟨Dd7,Eb5,trivial⟩ ⟨B87,trivial⟩ trivial) (H7 rfl (by kernel_rfl)) follows ?_;intro args H ret j h;unfold UR at h;split at h
 ·rename_i a n i b c z l;obtain⟨d,h⟩:=C8 h;obtain⟨e,h⟩:=C8 h;obtain⟨f,h⟩:=C8 h;obtain⟨rfl,rfl⟩:=J6 h;obtain⟨k,e0⟩:=Cb2 a n i b c z l d e f;exact⟨rfl,rfl,λm g s=>⟨1,_,(Dj5 LF g s 0 a n i b c z l).trans (e0 _ _),rfl⟩⟩
 ·cases h
def Dc9:C0 c9 GX 126 Ai5:=xf [] (Ln LF) AT rfl trivial rfl follows λargs=>by
 unfold AT;split
 ·rename_i s c;exact λa=>λb=>⟨rfl,rfl,rfl,_,_,(Cd2 LF noY () 0 s c).trans (Ar3 s c a b),rfl⟩
 ·trivial
def B78:C0 c9 GX 93 GP:=xf [] (By8 LF) IG rfl ⟨Dc9,trivial⟩ rfl follows λargs=>by
 unfold IG;split
 ·rename_i s c;exact λa=>λb=>⟨rfl,rfl,rfl,_,_,(C14 LF noY () 0 s c).trans (Bb8 s c a b),rfl⟩
 ·trivial
end
end
section
open Go Go.Proofs Go.Sort
def OB{C:Cfg}{W:Type}{I:W->(Nat->Prop)->(Nat->Prop)->World->Prop}(J:HI I){f:Ctx}{u:Nat->Prop}{w w':World}{z v1:Bool}{E o r:Nat}{l l' m:LL}{s:W}(g cap:Nat)(H:List Value)(i:Array Value)
  (P:Ij C E=false) (j:HR f [.arr z E 1 l,.arr v1 o r m] w) (K:I s f.St u w) (M:∀b g,f.nm b=some g->¬u g)
  (d:f.nm 0=some g\/g=w.heap.size) (O:g<w'.heap.size) (e:∀k,k<w.heap.size->f.nm 0≠some k->w'.heap[k]? = w.heap[k]?) (p:w.heap.size<=w'.heap.size) (R:w'.os=w.os) (S:w'.tape=w.tape) (T:w'.output=w.output)
  (n:w'.heap[g]? = some (.cells i E (0,0))) (Y:Els f.St w' 1 l' H) (D:l'≠[]) (t:∀q,q<H.length->i[q]? = H[q]?) (Z:H.length<=i.size) (B:l'.length<=cap) (hm:cap<=maxLen) (L:i.size=cap) :
  Cb C I f [.arr z E 1 l,.arr v1 o r m] w u (.fl 0) [.arr z E 1 l',.arr v1 o r m] s (.slice (some ⟨g,0,none⟩) l'.length cap) w':=by
 have x:0<[Blk.arr z E 1 l,.arr v1 o r m].length:=by simp
 have G:(f.re 0 (some g)).nm 0=some g:=by simp[Ctx.re]
 have F:¬Kq C (A3 [Blk.arr z E 1 l,.arr v1 o r m] 0):=by simp[A3,Blk.shp,Kq,P]
 have a:([Blk.arr z E 1 l,.arr v1 o r m].map (Blk.kill 0)).set 0 (.arr z E 1 l')=[.arr z E 1 l',.arr v1 o r m]:=rfl;have N:¬f.St g:=by
  rcases d with h|h
  ·exact(j.lt 0 g h).2.2
  ·intro hs;have:=j.stlt g hs;omega
 obtain⟨U,V,q3⟩:=NN (C:=C) (y:=.arr z E 1 l') (ng:=some g) (w':=w') j x F (λk a=>by
   simp only[p5] at a;subst a;refine⟨O,N,λc t A=>?_⟩;rcases d with h|h
   ·exact t (j.inj c 0 _ A h)
   ·have:=(j.lt c _ A).2.1;omega)
  (λk a=>by
   simp only[p5] at a;subst a;rcases d with h|h
   ·exact .inl h
   ·exact .inr (by omega)) e p R S T
  (BR.els G n Y (by rintro⟨_,h⟩;exact D h) t Z) rfl
 rw[a] at U V;refine⟨_,u,U.lift u,V,?_,λc t=>?_,?_,λb X v=>?_⟩
 ·refine .fl 0 g z E 1 l'.length cap rfl (λ_ h=>D (ad3.1 h)) G B hm ?_;simp only[ad7,n,L,aa4]
 ·simp only[PV.nms,List.mem_singleton] at t;subst t;simp
 ·refine J.mono s f.St u w f.St w' K (λ_ h=>h) (λk a Q=>(J.foot _ _ _ _ K k Q).2 a) (λk a=>Nat.lt_of_lt_of_le (j.stlt k a) p) (λk a=>?_) p R S T;rcases a with a|a
  ·exact e k (j.stlt k a) (λh=>(j.lt 0 k h).2.2 a)
  ·exact e k (J.foot _ _ _ _ K k a).1 (λh=>M 0 k h a)
 ·simp only[Ctx.re] at v;split at v
  ·simp only[p5] at v;subst v;rcases d with h|h
   ·exact M 0 _ h
   ·intro Q;have:=(J.foot _ _ _ _ K _ Q).1;omega
  ·exact M b X v
def Dw{w:World}{g o e:Nat}{vs:List Value}{a:Array Value}(c:w.heap[g]? = some (.cells a e (0,0)))(f:o+vs.length<=a.size)(l:∀v∈vs,v.oneCell'=true) :
  (w.setCells g o vs).heap[g]? = some (.cells (I4 a.toList o vs).toArray e (0,0))/\(∀k,k≠g->(w.setCells g o vs).heap[k]? = w.heap[k]?)/\(w.setCells g o vs).heap.size=w.heap.size/\(w.setCells g o vs).os=w.os/\(w.setCells g o vs).tape=w.tape/\(w.setCells g o vs).output=w.output:=by
 obtain⟨w',i,m,n,p,q,t,u,_⟩:=P2 (P:=c9) (o:=o) c f l;have b:∀j,j<vs.length->∃v,w.cell? ⟨g,o+0+j,none⟩=some v:=λj d=>by
  refine⟨a[o+j]'(by omega),?_⟩;simp[ae4,c,ac7 (show o+j<a.size by omega)]
 have r:=run_storeCells_cells (P:=c9) g o vs 0 w (λj d=>by obtain⟨v,h⟩:=b j d;rw[h];rfl) (λj d=>by simp[ad1,c]) l;rw[r] at i;simp only[af4,Result.ok.injEq,true_and] at i;rw[i];exact⟨m,n,p,q,t,u⟩
def MC{St:Nat->Prop}{w:World}{l:LL}{cs:List Value}{i:Nat}{n:Int}(h:Els St w 1 l cs)(p:i<=l.length):Els St w 1 (Oa l i n) (cs.take i++p4 .i64 n::cs.drop i):=by
 have c:=h.1;rw[aa4] at c;have g:Els St w 1 (l.take i) (cs.take i):=by
  refine⟨by rw[o7,o7,c,aa4],λj d=>?_⟩;rw[o7] at d;rw[List.getElem_take];obtain⟨a,b⟩:=h.2 j (by omega);refine⟨a,λk f=>?_⟩;obtain⟨U,e,v⟩:=b k f;exact⟨U,by rw[y8 (by omega)];exact e,v⟩
 have m:Els St w 1 [[SV.int .i64 n]] [p4 .i64 n]:=by
  refine⟨rfl,λj d=>?_⟩;have:j=0:=by simpa using d
  subst this;refine⟨rfl,λk f=>?_⟩;have:k=0:=by simpa using f
  subst this;exact⟨_,rfl,.int _ _⟩
 have o:Els St w 1 (l.drop i) (cs.drop i):=by
  refine⟨by rw[j9,j9,c,aa4],λj d=>?_⟩;rw[j9] at d;rw[List.getElem_drop];obtain⟨a,b⟩:=h.2 (i+j) (by omega);refine⟨a,λk f=>?_⟩;obtain⟨U,e,v⟩:=b k f;exact⟨U,by rw[List.getElem?_drop];rw[show i+(j*1+k)=(i+j)*1+k by omega];exact e,v⟩
 have:=(g.append m).append o;unfold Oa;simpa using this
def MD(l:LL)(i:Nat)(n:Int)(h:i<=l.length):(Oa l i n).length=l.length+1:=by unfold Oa;rw[p6,o9,o7,j9];omega
def ZC(l:LL)(i:Nat)(n:Int):Oa l i n≠[]:=by unfold Oa;simp
def Ed1:Uv c9 GX 198 XD:=by
 intro C hP hG σ I yh yv hI hy args H s ret Hc F Γ Φ w Vs f7 Z hg hi hd hc hn;unfold XD at F;split at F
 ·rename_i i z l d;obtain⟨h0,F⟩:=C8 F;obtain⟨h1,F⟩:=C8 F;obtain⟨rfl,rfl⟩:=J6 F;obtain⟨i0,i1⟩:=E9.1 h0;obtain⟨i,rfl⟩:=w8 i0;have hl:=p9 h1;have W:i<=l.length:=by
   have:(i:Int)<((l.length+1:Nat):Int):=i1;omega
  obtain⟨S,X0,V,rfl,hs,hx,hv⟩:=hc.arr3;obtain rfl:=hx.inv_int;have b6:Ij C 3=false:=by
   unfold Ij Cfg.sh;rw[hP];kernel_rfl
  obtain⟨g1,b9,n1,n2,n3,n4,n5⟩:=Z.arr' (b:=1) rfl (by simp);have f1:∃cap,V = .slice (some ⟨g1,0,none⟩) 1 cap:=by
   cases hv with
   | flv _ e sz h=>simp[A3,Blk.shp] at h
   | fl _ g v e sz n cap h e4 x Q hm d9=>
    rw[n1] at x;simp only[p5] at x;subst x;simp only[A3,x4,w9,ad9,Blk.shp,p5,Shp.arr.injEq] at h;obtain⟨_,_,_,h4⟩:=h;subst h4;exact⟨cap,rfl⟩
  obtain⟨y,rfl⟩:=f1;obtain⟨V1,p1,p2⟩:=n5 0 (by simp) 0 (by simp);have p3:V1 = .int .i64 d:=by cases p2;rfl
  subst p3;have r:∀j v,[p4 .i64 d][j]? = some v->w.cell? ⟨g1,0+j,none⟩=some v:=by
   intro j v t;have:j=0:=by
    have:=(ac8.1 t).1;simpa using this
   subst this;simp only[w9,p5] at t;subst t;simpa[ae4,n2] using p1
  have L:∀v∈[p4 .i64 d],v.oneCell'=true:=by simp[Value.oneCell']
  rw[j5];refine Bt (fn:=Tryz.f198) (by kernel_rfl) (by kernel_rfl) (by kernel_rfl) ?_;have A:∀(base:Option Addr) (c:Nat) (cs:List Value),l.length<=c->c<l.length+1->cs.length=l.length->(base=none->l.length=0)->(∀a,base=some a->∀j v,cs[j]? = some v->w.cell? (a.add j)=some v)->Els Γ.St w 1 l cs->
    Calls c9 198 #[.slice base l.length c,.int .i64 (l.length:Int),.slice (some ⟨g1,0,none⟩) 1 y] w λe w'=>∃V,e = .returned V/\Cb C I Γ [.arr z 3 1 l,.arr false 3 1 [[SV.int .i64 d]]] w Φ (.fl 0) [.arr z 3 1 (Oa l l.length d),.arr false 3 1 [[SV.int .i64 d]]] s V w':=by
   intro base c cs a1 a2 a3 a4 a5 a6;refine(Any2.slices_Insert_int_end_grow Tryz.lays2_21 base l.length c g1 0 1 y cs [.int .i64 d] w (by omega) a1 a2 (by omega) a3 rfl a4 a5 r L).mono ?_;rintro e w' ⟨rfl,rfl⟩;refine⟨_,rfl,?_⟩;obtain⟨R,b5⟩:=Jr (w:=w) (need:=l.length+1) (cap:=c) (e:=3) (by omega);have hE:=MC (n:=d) a6 (aa3 l.length);have c7:cs.take l.length++p4 .i64 d::cs.drop l.length=cs++[p4 .i64 d]:=by
    rw[ab5 (by omega),j8 (by omega)]
   rw[c7] at hE;have p:=MD l l.length d (aa3 _);obtain⟨r1,r2⟩:=CY (olds:=cs) (Vs:=[p4 .i64 d]) (z:=(p4 .i64 0).cells) (k:=grownCap w (l.length+1) c 3) (n:=l.length) (m:=1) (size:=1) rfl (by omega) rfl R;have b7:(cs.toArray++[p4 .i64 d].toArray)=(cs++[p4 .i64 d]).toArray:=by simp
   rw[b7] at r1 r2;have key:∀(row:Array Value) (N:Nat),row.size=N->(∀q,q<(cs++[p4 .i64 d]).length->row[q]? = (cs++[p4 .i64 d])[q]?)->l.length+1<=N->N<=maxLen->
     Cb C I Γ [.arr z 3 1 l,.arr false 3 1 [[SV.int .i64 d]]] w Φ (.fl 0) [.arr z 3 1 (Oa l l.length d),.arr false 3 1 [[SV.int .i64 d]]] s (.slice (some ⟨w.heap.size,0,none⟩) (l.length+1) N) (w.drew.alloc (.cells row 3)):=by
    intro row N b1 b2 b3 b4;have B:(w.drew.alloc (.cells row 3)).heap=w.heap.push (.cells row 3):=rfl;have:=OB (C:=C) (w':=w.drew.alloc (.cells row 3)) (l':=Oa l l.length d) hI w.heap.size N (cs++[p4 .i64 d]) row b6 Z hi hd (.inr rfl) (by rw[B];simp) (λk M _=>I3 B M) (by rw[B];simp) rfl rfl rfl (I2 B) (hE.mono (λg hg=>I3 B (Z.stlt g hg)) (λ_ h=>h)) (ZC _ _ _) b2 (by rw[b1,p6,o8];omega) (by rw[p];exact b3) b4 b1;rw[p] at this;exact this
   exact key _ _ (r1.trans (aa4 _)) r2 R b5
  have f5:∀(row:Array Value) (cs:List Value),cs.length=l.length->i<l.length->l.length+1<=row.size->(∀q,q<i->row[q]? = cs[q]?)->
    ∀q,q<(cs.take i++p4 .i64 d::cs.drop i).length->(I4 (I4 row.toList i [p4 .i64 d]) (i+1) (cs.drop i)).toArray[q]? = (cs.take i++p4 .i64 d::cs.drop i)[q]?:=by
   intro row cs a1 a2 a3 a4 q hq;have e9:q<l.length+1:=by
    rw[p6,o9,o7,j9] at hq;omega
   have ht:(cs.take i).length=i:=by rw[o7];omega
   have X:row.toList.length=row.size:=y9;simp only[aa5];rw[P0 _ _ _ (by rw[E5,j9,X];omega),P0 _ _ _ (by rw[o8,X];omega)];by_cases h1:q<i
   ·rw[I6,I6,ab0 (by omega),y8 h1];simpa using a4 q h1
   ·by_cases h2:q=i
    ·subst h2;rw[I6,ac (by rw[o8];omega),v8 (by omega),ht,ai2];rfl
    ·rw[ac (by rw[j9];omega),v8 (by omega),ht,show q-i=(q-(i+1))+1 by omega,x4]
  have O:∀(g c:Nat) (cs:List Value),i<l.length->l.length<=c->c<l.length+1->cs.length=l.length->(∀j v,cs[j]? = some v->w.cell? ⟨g,0+j,none⟩=some v)->(∀v∈cs,v.oneCell'=true)->Els Γ.St w 1 l cs->
    Calls c9 198 #[.slice (some ⟨g,0,none⟩) l.length c,.int .i64 (i:Int),.slice (some ⟨g1,0,none⟩) 1 y] w λe w'=>∃V,e = .returned V/\Cb C I Γ [.arr z 3 1 l,.arr false 3 1 [[SV.int .i64 d]]] w Φ (.fl 0) [.arr z 3 1 (Oa l i d),.arr false 3 1 [[SV.int .i64 d]]] s V w':=by
   intro g c cs T a1 a2 a3 a4 a5 a6;refine(Any2.slices_Insert_int_grow Tryz.lays2_21 g 0 l.length c i g1 0 1 y cs [.int .i64 d] w T (by omega) a1 a2 (by omega) a3 rfl a4 r a5 L).mono ?_;rintro e w' ⟨rfl,rfl⟩;refine⟨_,rfl,?_⟩;obtain⟨R,b5⟩:=Jr (w:=w) (need:=l.length+1) (cap:=c) (e:=3) (by omega);have hE:=MC (n:=d) a6 W;have p:=MD l i d W;have key:∀(row:Array Value) (N:Nat),row.size=N->(∀q,q<i->row[q]? = cs[q]?)->l.length+1<=N->N<=maxLen->
     Cb C I Γ [.arr z 3 1 l,.arr false 3 1 [[SV.int .i64 d]]] w Φ (.fl 0) [.arr z 3 1 (Oa l i d),.arr false 3 1 [[SV.int .i64 d]]] s (.slice (some ⟨w.heap.size,0,none⟩) (l.length+1) N) (((w.alloc (.cells row 3)).drew.setCells w.heap.size i [p4 .i64 d]).drew.setCells w.heap.size (i+1) (cs.drop i)):=by
    intro row N b1 b2 b3 b4;have B:(w.alloc (.cells row 3)).drew.heap=w.heap.push (.cells row 3):=rfl;obtain⟨c1,c2,c3,c4,c5,c6⟩:=Dw (w:=(w.alloc (.cells row 3)).drew) (o:=i) (vs:=[p4 .i64 d]) (I2 B) (by rw[o8];omega) L;generalize f2:(w.alloc (.cells row 3)).drew.setCells w.heap.size i [p4 .i64 d]=w1 at *;have P:(I4 row.toList i [p4 .i64 d]).toArray.size=N:=by rw[v7,E5];simpa using b1
    obtain⟨d1,d2,d3,d4,d5,d6⟩:=Dw (w:=w1.drew) (o:=i+1) (vs:=cs.drop i) c1 (by rw[P,j9];omega) (λv hv=>a5 v (ac0 hv));have a8:∀k,k<w.heap.size->(w1.drew.setCells w.heap.size (i+1) (cs.drop i)).heap[k]? = w.heap[k]?:=λk M=>by
     rw[d2 k (by omega)];exact(c2 k (by omega)).trans (I3 B M)
    have e3:(w1.drew.setCells w.heap.size (i+1) (cs.drop i)).heap.size=w.heap.size+1:=by
     rw[d3];show w1.heap.size=_;rw[c3,B];simp
    have:=OB (C:=C) (w':=w1.drew.setCells w.heap.size (i+1) (cs.drop i)) (l':=Oa l i d) hI w.heap.size N (cs.take i++p4 .i64 d::cs.drop i) _ b6 Z hi hd (.inr rfl) (by rw[e3];omega) (λk M _=>a8 k M) (by rw[e3];omega) (d4.trans c4) (d5.trans c5) (d6.trans c6) d1 (hE.mono (λg hg=>a8 g (Z.stlt g hg)) (λ_ h=>h)) (ZC _ _ _) (f5 row cs a3 T (by omega) b2) (by rw[v7,E5,p6,o9,o7,j9];simp only[v7,E5] at P ⊢;omega) (by rw[p];exact b3) b4 (by rw[v7,E5];simpa using P);rw[p] at this;exact this
   have f3:(p4 .i64 0).cells.size=1:=rfl;have ht:(cs.take i).length=i:=by rw[o7];omega
   refine key _ _ ?_ (λq hq=>?_) R b5
   ·simp only[af2,v7,size_zeroCells,f3,aa4,ht];have:l.length+1<=grownCap w (l.length+1) c 3:=R;show i+(l.length+1-i)+(grownCap w (l.length+1) c 3-(l.length+1))=grownCap w (l.length+1) c 3;omega
   ·rw[ac4 (by simp only[af2,v7,ht];omega),ac4 (by simp only[v7,ht];omega),aa5,y8 hq]
  have e5:∀(row:Array Value) (cs:List Value),cs.length=l.length->i<l.length->l.length+1<=row.size->(∀q,q<i->row[q]? = cs[q]?)->
    ∀q,q<(cs.take i++p4 .i64 d::cs.drop i).length->(I4 (I4 row.toList (i+1) (cs.drop i)) i [p4 .i64 d]).toArray[q]? = (cs.take i++p4 .i64 d::cs.drop i)[q]?:=by
   intro row cs a1 a2 a3 a4 q hq;have e9:q<l.length+1:=by
    rw[p6,o9,o7,j9] at hq;omega
   have ht:(cs.take i).length=i:=by rw[o7];omega
   have X:row.toList.length=row.size:=y9;simp only[aa5];rw[P0 _ _ _ (by rw[E5,o8,X];omega),P0 _ _ _ (by rw[j9,X];omega)];by_cases h1:q<i
   ·rw[I6,I6,ab0 (by omega),y8 h1];simpa using a4 q h1
   ·by_cases h2:q=i
    ·subst h2;rw[ac (by rw[o8];omega),v8 (by omega),ht,ai2];rfl
    ·rw[ae (by rw[o8];omega),ac (by rw[j9];omega),v8 (by omega),ht,show q-i=(q-(i+1))+1 by omega,x4]
  cases hs with
  | flv _ e2 f4 h'=>
   simp only[A3,w9,ad9,Blk.shp,p5,Shp.arr.injEq] at h';obtain⟨q1,q2,q3,h4⟩:=h';obtain rfl:=ad3.1 h4;obtain rfl:i=0:=by simpa using W
   exact A none 0 [] (by simp) (by simp) rfl (λ_=>rfl) (λa h=>by cases h) ⟨rfl,λj t=>by simp at t⟩
  | fl _ g z' e2 f4 n' cap h' e4 x Q hm d9=>
   simp only[A3,w9,ad9,Blk.shp,p5,Shp.arr.injEq] at h';obtain⟨rfl,rfl,rfl,rfl⟩:=h';have e8:¬(z=true/\l=[]):=by rintro⟨q1,q2⟩;exact e4 q1 (by rw[q2];rfl)
   obtain⟨g',f,d0,hh,b8,J,c8⟩:=Z.arr' (b:=0) rfl e8;obtain rfl:g=g':=by
    rw[x] at d0;exact ae0 d0
   have c0:f.size=cap:=by
    have:=d9;simp only[ad7,hh,p5,af1,true_and,aa4] at this;exact this
   rw[aa4] at b8;have hO:Els Γ.St w 1 l (f.toList.take l.length):=by
    refine⟨by rw[o7,y9 (xs:=f)];omega,λj t=>⟨J j t,λk M=>?_⟩⟩;obtain⟨U,e1,u⟩:=c8 j t k M;refine⟨U,?_,u⟩;have f6:k<1:=by rw[<-J j t];exact M
    rw[ab2,W4];simpa using e1
   have D:(f.toList.take l.length).length=l.length:=by rw[o7,y9 (xs:=f)];omega
   have G:∀j v,(f.toList.take l.length)[j]? = some v->w.cell? ⟨g,0+j,none⟩=some v:=by
    intro j v t;have a0:j<l.length:=by
     have:=(ac8.1 t).1;omega
    rw[ab2,ac a0] at t;simpa[ae4,hh] using t
   have a9:∀v∈f.toList.take l.length,v.oneCell'=true:=by
    intro v hv;obtain⟨j,t,rfl⟩:=List.getElem_of_mem hv;have a0:j<l.length:=by omega
    obtain⟨_,u⟩:=hO.2 j a0;obtain⟨U,e1,u2⟩:=u 0 (by rw[J j a0];exact Nat.one_pos);rw[aa4,af4,o0 t] at e1;cases e1;exact u2.oneCell
   have p:=MD l i d W;have hE:=MC (n:=d) hO W;have Y:∀j,j<cap->(w.cell? ⟨g,j,none⟩).isSome=true:=by
    intro j t;simp only[ae4,hh];rw[ac7 (by omega)];rfl
   have a7:∀j,w.frozen? ⟨g,j,none⟩=false:=λj=>by simp[ad1,hh]
   have d8:g1≠g:=λe=>by
    have:=Z.inj 1 0 g (by rw[<-e];exact n1) x;omega
   have d7:cap<=9223372036854775807:=by
    simp only[maxLen] at hm;omega
   by_cases K:l.length+1<=cap
   ·have key:∀(w':World) (row:List Value),w'.heap[g]? = some (.cells row.toArray 3 (0,0))->(∀k,k≠g->w'.heap[k]? = w.heap[k]?)->w'.heap.size=w.heap.size->w'.os=w.os->w'.tape=w.tape->w'.output=w.output->row.length=cap->
      (∀q,q<((f.toList.take l.length).take i++p4 .i64 d::(f.toList.take l.length).drop i).length->row.toArray[q]? = ((f.toList.take l.length).take i++p4 .i64 d::(f.toList.take l.length).drop i)[q]?)->
      Cb C I Γ [.arr z 3 1 l,.arr false 3 1 [[SV.int .i64 d]]] w Φ (.fl 0) [.arr z 3 1 (Oa l i d),.arr false 3 1 [[SV.int .i64 d]]] s (.slice (some ⟨g,0,none⟩) (l.length+1) cap) w':=by
     intro w' row k1 k2 k3 k4 k5 k6 k7 k8;have e6:¬ Γ.St g:=(Z.lt 0 g x).2.2;have:=OB (C:=C) (w':=w') (l':=Oa l i d) hI g cap ((f.toList.take l.length).take i++p4 .i64 d::(f.toList.take l.length).drop i) row.toArray b6 Z hi hd (.inl x) (by rw[k3];exact(Z.lt 0 g x).2.1) (λk M e7=>k2 k (λe=>e7 (e▸x))) (by omega) k4 k5 k6 k1
      (hE.mono (λk M=>k2 k (λe=>e6 (e▸M))) (λ_ h=>h)) (ZC _ _ _) k8
      (by rw[v7,k7,p6,o9,o7,j9,D];omega) (by rw[p];exact K) hm (by rw[v7,k7])
     rw[p] at this;exact this
    by_cases b0:i=l.length
    ·subst b0;refine(Any2.slices_Insert_int_end_room Tryz.lays2_21 g 0 l.length cap g1 0 1 y [.int .i64 d] w (by omega) K d7 rfl (λj t=>Y _ (by omega)) (λj t=>a7 _) r L).mono ?_;rintro e w' ⟨rfl,rfl⟩;refine⟨_,rfl,?_⟩;obtain⟨c1,c2,c3,c4,c5,c6⟩:=Dw (w:=w) (o:=0+l.length) (vs:=[p4 .i64 d]) hh (by rw[o8];omega) L;refine key _ _ c1 c2 c3 c4 c5 c6 (by rw[E5];simpa using c0) (λq hq=>?_);rw[ab5 (by omega),j8 (by omega)] at hq ⊢;rw[p6,D,o8] at hq;simp only[aa5];rw[P0 _ _ _ (by rw[o8,y9 (xs:=f)];omega)];by_cases f0:q<l.length
     ·rw[I6,ab0 (by omega),ab2,ac f0]
     ·obtain rfl:q=l.length:=by omega
      rw[ac (by rw[o8];omega),v8 (by omega),D];simp
    ·have T:i<l.length:=by omega
     refine(Any2.slices_Insert_int_shift Tryz.lays2_21 g 0 l.length cap i g1 0 1 y (f.toList.take l.length) [.int .i64 d] w T (by omega) K d7 d8 D rfl G (λj t=>Y _ (by omega)) (λj t=>a7 _) r a9 L 3 3 b9.size f.size (by simp[ad7,n2]) (by simp[ad7,hh]) (by omega) (by simp[ad1,n2]) (by simp[ad1,n2])).mono ?_;rintro e w' ⟨rfl,rfl⟩;refine⟨_,rfl,?_⟩;obtain⟨c1,c2,c3,c4,c5,c6⟩:=Dw (w:=w.drew) (o:=0+(i+1)) (vs:=(f.toList.take l.length).drop i) hh (by rw[j9,D];omega) (λv hv=>a9 v (ac0 hv));generalize f2:w.drew.setCells g (0+(i+1)) ((f.toList.take l.length).drop i)=w1 at *;have P:(I4 f.toList (0+(i+1)) ((f.toList.take l.length).drop i)).toArray.size=cap:=by rw[v7,E5];simpa using c0
     obtain⟨d1,d2,d3,d4,d5,d6⟩:=Dw (w:=w1) (o:=0+i) (vs:=[p4 .i64 d]) c1 (by rw[P,o8];omega) L;refine key _ _ d1 (λk M=>(d2 k M).trans (c2 k M)) (d3.trans c3) (d4.trans c4) (d5.trans c5) (d6.trans c6) (by rw[E5];simpa using P) ?_;rw[ac3,ac3];exact e5 f _ D T (by omega) (λq hq=>by rw[ab2,W4];simp)
   ·by_cases b0:i=l.length
    ·subst b0;exact A (some ⟨g,0,none⟩) cap (f.toList.take l.length) Q (by omega) D (λh=>by cases h) (λa h j v t=>by
      obtain rfl:=ae0 h;rw[O8];exact G j v t) hO
    ·exact O g cap _ (by omega) Q (by omega) D G a9 hO
 ·cases F
end
section
open Go Go.Proofs
section
def D05:Uv c9 GX 180 GO:=by
 refine Dz (C₀:=By3 LF) (Le (lx:=[(183,Qm),(181,Qo)]) (ly:=[(197,UR),(198,XD)]) (ls:=[]) rfl rfl rfl ⟨A42,A43,trivial⟩ ⟨Ec8,Ed1,trivial⟩ trivial) (H7 rfl (by kernel_rfl)) follows ?_;intro args H ret o h;unfold GO at h;split at h
 ·rename_i a n i b c z l;obtain⟨d,h⟩:=C8 h;obtain⟨f,h⟩:=C8 h;obtain⟨g,h⟩:=C8 h;obtain⟨j,h⟩:=C8 h;obtain⟨k,h⟩:=C8 h;obtain⟨rfl,rfl⟩:=J6 h;refine⟨rfl,rfl,λp m s=>?_⟩;have e:=(Cy6 LF m s 0 a n i b c z l).trans (A97 a n i b c z l d f g j k);exact⟨1,_,e,rfl⟩
 ·cases h
def Eb2:C0 c9 GX 155 Cr7:=by
 refine C0.fix (pf:=VY) _ (J0 [1,0] (C₀:=Cd LF) (Le (lx:=[(93,GP)]) (ly:=[(180,GO)]) (ls:=[]) rfl rfl rfl ⟨B78,trivial⟩ ⟨D05,trivial⟩ trivial) (H7 rfl (by kernel_rfl)) follows ?_);intro args ret f h;unfold VY at h;split at h
 ·rename_i s;obtain⟨b,h⟩:=C8 h;obtain⟨rfl,rfl⟩:=J6 h;obtain⟨e,c,a,d⟩:=Dp8 s b;exact⟨rfl,rfl,rfl,1,e,c,(Dp7 LF noY () 0 s).trans a,d⟩
 ·cases h
end
end
section
open Go Go.Proofs Go.Sort
def Df9:C0 c9 GX 163 Aj7:=by
 refine C0.fix (pf:=BQ) _ (L7 (fn:=Tryz.f163) (by kernel_rfl) (by kernel_rfl) (by kernel_rfl) ?_);intro args ret l h;unfold BQ at h;split at h
 ·rename_i s;obtain⟨b,h⟩:=C8 h;obtain⟨rfl,rfl⟩:=J6 h;refine⟨rfl,rfl,λC n a o w m c g f=>?_⟩;obtain⟨U,rfl,j⟩:=f.arr1;obtain⟨k,rfl,rfl⟩:=j.inv_str;have i:=L4 b;refine(Any.utf8_ValidString Tryz.lays196 k w (by simp at i;omega) (Dk5 c a)).mono ?_;rintro e w' ⟨rfl,d⟩;rw[<-Bs5];exact⟨_,rfl,d,VP.mk_bool _⟩
 ·cases h
def Df5:C0 c9 GX 164 Aj5:=by
 refine C0.fix (pf:=BN) _ (L7 (fn:=Tryz.f164) (by kernel_rfl) (by kernel_rfl) (by kernel_rfl) ?_);intro args ret j h;unfold BN at h;split at h
 ·rename_i s;obtain⟨a,h⟩:=C8 h;obtain⟨rfl,rfl⟩:=J6 h;refine⟨rfl,rfl,λC m b n w k l d c=>?_⟩;obtain⟨U,rfl,g⟩:=c.arr1;obtain⟨i,rfl,rfl⟩:=g.inv_str;have f:=L4 a;refine(Any.utf8_RuneCountInString Tryz.lays195 i w (by simp at f;omega)).mono ?_;rintro e w' ⟨rfl,pos,rfl⟩;rw[Lib.runeCountL_eq];exact⟨_,rfl,A82 _ _ _,VP.mk_int _ _⟩
 ·cases h
def Dx1:C0 c9 GX 135 Xj:=λargs ret a h=>by
 have:M6 (Xj args)=none:=by unfold Xj Ai1;split<;>rfl
 rw[this] at h;cases h
def B89:Ah9 c9 GX 134 Se:=by
 refine FY (C₀:=Dh LF) ((M3.ok (l:=[(135,Xj),(136,JP)]) rfl ⟨Dx1,Bt7,trivial⟩)) (H7 rfl (by kernel_rfl)) follows ?_;intro args H L h e a s d c;unfold Se at h;split at h
 ·rename_i p t n;simp only[p5,af1] at h;obtain⟨b,rfl⟩:=h;obtain⟨g,f⟩:=Bq3 (R:=PV × List Blk × e) a p t n s d b c;exact⟨1,_,(C88 LF a 0 p t n s).trans (f _)⟩
 ·cases h
end
section
open Go Go.Proofs
section
def Dy0:C0 c9 GX 120 Bu9:=xf [] (Sm LF) IJ rfl ⟨Eb2,Dd6,trivial⟩ rfl follows λargs=>by
 unfold IJ;split
 ·rename_i s;exact λa=>⟨rfl,rfl,rfl,_,_,(C18 LF noY () 0 s).trans (Bd0 s a),rfl⟩
 ·trivial
def Dd4:C0 c9 GX 84 VU:=xf [] (CG LF) VV rfl ⟨Dc5,Dy0,trivial⟩ rfl follows λargs=>by
 unfold VV;split
 ·rename_i s;exact λa=>⟨rfl,rfl,rfl,_,_,(Do7 LF noY () 0 s).trans (Cf1 s a),rfl⟩
 ·trivial
def Eb1:C0 c9 GX 132 Cr5:=xf [0,0] (Vz LF) VK rfl ⟨Df9,Df5,Bt3,Dd6,Dd4,trivial⟩ rfl follows λargs=>by
 unfold VK;split
 ·rename_i s;exact λb=>(let⟨e,c,a,d⟩:=Dn6 s b;⟨rfl,rfl,rfl,e,c,(Dn5 LF noY () 0 s).trans a,d⟩)
 ·trivial
def Ea6:C0 c9 GX 160 Cr1:=xf [] (Cv8 LF) UX rfl trivial rfl follows λargs=>by
 unfold UX;split
 ·rename_i b;exact λa=>⟨rfl,rfl,rfl,_,_,(Dl3 LF noY () 0 b).trans (Cc0 b a),rfl⟩
 ·trivial
def Ea5:C0 c9 GX 128 Cr0:=xf [0,0] (CD LF) UW rfl ⟨Ea6,trivial⟩ rfl follows λargs=>by
 unfold UW;split
 ·rename_i s;exact λb=>(let⟨e,c,a,d⟩:=Dl1 s b;⟨rfl,rfl,rfl,e,c,(Dl0 LF noY () 0 s).trans a,d⟩)
 ·trivial
def Dx4:C0 c9 GX 127 Bu5:=xf [0,0] (By4 LF) HZ rfl ⟨Eg7,trivial⟩ rfl follows λargs=>by
 unfold HZ;split
 ·rename_i s;exact λb=>λc=>(let⟨f,d,a,e⟩:=C00 s b c;⟨rfl,rfl,rfl,f,d,(Cz9 LF noY () 0 s).trans a,e⟩)
 ·trivial
def Dc8:C0 c9 GX 94 Ai4:=xf [0,0] (Lm LF) AS rfl ⟨Ah0,Dx4,Ea5,D01,UJ,Eb4,Cq2,Eb1,B84,trivial⟩ rfl follows λargs=>by
 unfold AS;split
 ·rename_i s;exact λb=>(let⟨e,c,a,d⟩:=Cc4 s b;⟨rfl,rfl,rfl,e,c,(Cc3 LF noY () 0 s).trans a,d⟩)
 ·trivial
def Dy1:C0 c9 GX 97 VR:=by
 refine C0.fix (pf:=IK) _ (Bc (C₀:=Bz1 LF) (M3.ok (l:=[]) rfl trivial) (H7 rfl (by kernel_rfl)) follows ?_);intro args ret a h;unfold IK at h;split at h
 ·rename_i t p n;obtain⟨rfl,rfl⟩:=J6 h;have e:=(C20 LF noY () 0 t p n).trans (Bd1 t p n );exact⟨rfl,1,_,[],e,rfl,rfl⟩
 ·cases h
def Df4:C0 c9 GX 53 JU:=by
 refine C0.fix (pf:=XF) _ (Bc (C₀:=Cx5 LF) (M3.ok (l:=[(97,VR)]) rfl ⟨Dy1,trivial⟩) (H7 rfl (by kernel_rfl)) follows ?_);intro args ret a h;unfold XF at h;split at h
 ·rename_i t p;obtain⟨rfl,rfl⟩:=J6 h;have e:=(Dv2 LF noY () 0 t p).trans (Cm9 t p );exact⟨rfl,1,_,[],e,rfl,rfl⟩
 ·cases h
def D35:C0 c9 GX 43 Cr3:=by
 refine C0.fix (pf:=A53) _ (J0 [] (C₀:=Qz LF) (Le (lx:=[(83,Rz),(53,JU),(84,VU)]) (ly:=[]) (ls:=[(134,Se)]) rfl rfl rfl ⟨UJ,Df4,Dd4,trivial⟩ trivial ⟨B89,trivial⟩) (H7 rfl (by kernel_rfl)) follows ?_);intro args ret f h;unfold A53 at h;split at h
 ·rename_i s;obtain⟨b,h⟩:=C8 h;obtain⟨rfl,rfl⟩:=J6 h;obtain⟨e,c,a,d⟩:=D63 s b;exact⟨rfl,rfl,rfl,1,e,c,(D62 LF noY () 0 s).trans a,d⟩
 ·cases h
def Bt2:C0 c9 GX 25 VC:=xf [] (Cw3 LF) VD rfl ⟨D35,trivial⟩ rfl follows λargs=>by
 unfold VD;split
 ·rename_i i j v4 a b c d e f g h;exact λl=>λm=>λn=>(let⟨q,o,k,p⟩:=B26 i j v4 a b c d e f g h l m n;⟨rfl,rfl,rfl,q,o,(Dm1 LF noY () 0 i j v4 a b c d e f g h).trans k,p⟩)
 ·trivial
def Bt1:C0 c9 GX 15 IA:=xf [] (Cw0 LF) UZ rfl ⟨Bt2,Eg3,Eg5,trivial⟩ rfl follows λargs=>by
 unfold UZ;split
 ·rename_i i j v4 a b c d e f g h;exact λl=>λm=>λn=>(let⟨q,o,k,p⟩:=B25 i j v4 a b c d e f g h l m n;⟨rfl,rfl,rfl,q,o,(Dl7 LF noY () 0 i j v4 a b c d e f g h).trans k,p⟩)
 ·trivial
def Ea4:C0 c9 GX 56 Cq9:=xf [] (Cv7 LF) UV rfl ⟨D35,Ea7,trivial⟩ rfl follows λargs=>by
 unfold UV;split
 ·rename_i p s;exact λa=>λb=>⟨rfl,rfl,rfl,_,_,(Dk9 LF noY () 0 p s).trans (Cb8 p s a b),rfl⟩
 ·trivial
end
end
section
open Go Go.Proofs Go.Sort
def Ah1:C0 c9 GX 86 Xm:=by
 refine C0.fix (pf:=JQ) _ (L7 (fn:=Tryz.f86) (by kernel_rfl) (by kernel_rfl) (by kernel_rfl) ?_);intro args ret j h;unfold JQ at h;split at h
 ·rename_i s c;obtain⟨l,h⟩:=C8 h;obtain⟨m,h⟩:=C8 h;obtain⟨rfl,rfl⟩:=J6 h;refine⟨rfl,rfl,λC o a p w k n d b=>?_⟩;obtain⟨U,V,rfl,f,g⟩:=b.arr2;obtain⟨i,rfl,rfl⟩:=f.inv_str;obtain rfl:=g.inv_int;refine(Any.strings_IndexByte Tryz.lays137 i c w).mono ?_;rintro e w' ⟨rfl,rfl⟩;exact⟨_,rfl,af5 _ _,VP.mk_int _ _⟩
 ·cases h
def Bt0:C0 c9 GX 81 HX:=OO 9223372036854775808 (aa3 _)
def Dx8:C0 c9 GX 57 Bu7:=by
 refine C0.fix (pf:=IF) _ (L7 (fn:=Tryz.f57) (by kernel_rfl) (by kernel_rfl) (by kernel_rfl) ?_);intro args ret l h;unfold IF at h;split at h
 ·rename_i n;obtain⟨b,h⟩:=C8 h;obtain⟨rfl,rfl⟩:=J6 h;refine⟨rfl,rfl,λC o a p w m c i g=>?_⟩;obtain⟨U,rfl,j⟩:=g.arr1;obtain rfl:=j.inv_int;obtain⟨d,f⟩:=Yo.1 b;refine(Any.strconv_Itoa Tryz.laysM171 n (by omega) (by omega) w (Cz5 c a)).mono ?_;rintro e w' ⟨rfl,k,os,rfl⟩;refine⟨_,rfl,(Qx w k).trans (show RowKit.Below w.heap.size _ _ from KM (w.drewN k) os),?_⟩;have:Lib.itoa n=Mh n:=by
   unfold Lib.itoa Mh;split
   ·rw[show n.natAbs=(-n).toNat by omega]
   ·rfl
  rw[this];exact VP.mk_str _
 ·cases h
def Df0:C0 c9 GX 49 Aj3:=by
 refine C0.fix (pf:=Sc) _ (L7 (fn:=Tryz.f49) (by kernel_rfl) (by kernel_rfl) (by kernel_rfl) ?_);intro args ret A h;unfold Sc at h;split at h
 ·rename_i s p;obtain⟨i,h⟩:=C8 h;obtain⟨k,h⟩:=C8 h;obtain⟨l,h⟩:=C8 h;obtain⟨rfl,rfl⟩:=J6 h;refine⟨rfl,rfl,λC G m I w B F r q=>?_⟩;obtain⟨U,V,rfl,y,z⟩:=q.arr2;obtain⟨g,rfl,rfl⟩:=y.inv_str;obtain⟨d,rfl,a⟩:=z.inv_str;have H:=L4 i;have c:p=isl:=by simpa[DE] using k
  have D:=p9 l;have f:=zero_of_info (P:=c9) (t:=Tryz.lays153_ren.t 116) (v:=.agg (Array.replicate 256 (.bool false))) (n:=256) (by kernel_rfl);subst c;have u:d.size=3:=by have:=ag3 d;rw[a] at this;exact this
  have x:=ag3 g;refine(Any.strings_IndexAny_long Tryz.lays153 f.1 f.2 g d w (by omega) (by omega) (by omega) (by omega) ?_).mono ?_
  ·rw[a];intro j b o;have:b∈isl:=List.mem_of_getElem? o
   revert b
   simp only[isl,ab9,af6,or_false];rintro b _ (rfl|rfl|rfl)<;>decide
  ·rintro e w' ⟨rfl,rfl⟩;rw[a];exact⟨_,rfl,((af5 _ _).alloc (aa3 _) _).alloc (by simp) _,VP.mk_int _ _⟩
 ·cases h
end
section
open Go Go.Proofs
def Af3{a:Bool->Option R}(n:Int):Af2 LF n a=a (ltI 8 n):=rfl
def A30{a:Bool->Option R}(r:Int):Ag6 LF r a=a (OM r):=by
 have b:ltN r 55296=(!ltI r 0&&ltI r 55296):=by
  rw[y5,E9,s8,ab4,Rj,Of];omega
 have c:(ltI 57343 r&&ltN r 1114112)=(ltI 57343 r&&!ltI 1114111 r):=by
  rw[y5,s8,s8,E9,ab4,Rj,Of];omega
 unfold Ag6 EE OM;rw[b,c];cases ltI r 0<;>cases ltI r 55296<;>cases ltI 57343 r<;>cases ltI 1114111 r<;>rfl
def D64(b:UInt8):ae9 isl b=irn (b.toNat:Int):=by
 by_cases a:b=47
 ·subst a;rfl
 ·by_cases d:b=63
  ·subst d;rfl
  ·by_cases f:b=35
   ·subst f;rfl
   ·have n:∀c:UInt8,b≠c->(c==b)=false:=λc h=>by rw[beq_eq_false_iff_ne];exact ai3 h
    have e:∀c:UInt8,b≠c->¬(b.toNat:Int)=(c.toNat:Int):=λc h q=>h (ab1.1 (by omega))
    have g:¬(b.toNat:Int)=47:=e 47 a;have i:¬(b.toNat:Int)=63:=e 63 d;have j:¬(b.toNat:Int)=35:=e 35 f;unfold irn;rw[ae g,ae i,ae j];simp[isl,ae9,n _ a,n _ d,n _ f]
def Ee9{l:By}{x:UInt8}(h:∀b∈l,b.toNat<128)(d:128<=x.toNat):ae9 l x=-1:=by
 have e:=Nz x l;have c:l.contains x=false:=by
  rw[ab3];intro a;have:=h x (by simpa using a);omega
 rw[c,o6,Of] at e;have:=Lib.indexByte_ge l x;omega
def Cy8{r:Int}(g:OM r=true)(h:128<=r):2<=(ac1 r).data.toList.length/\(ac1 r).data.toList.length<=4/\128<=((ac1 r).data.toList.getD ((ac1 r).data.toList.length-1) 0).toNat:=by
 have a:Utf8.valid r=true:=by
  rw[validRune_eq];unfold validRune;simp only[OM,ag6,s8,E9,Of] at g;exact decide_eq_true (by omega)
 obtain⟨b,c,d⟩:=encode_facts r a h;have f:=ag3 (ac1 r);rw[<-f];refine⟨b,c,?_⟩;have e:=d (by omega);rw[k9,o0 (by omega),af7];exact e
def Cm6(r:Int)(h:ltN r 1114112=true):∃v H,OD LF r (λk=>rv (.s (.int .i64 k)) []) (λk I=>rv (.s (.int .i64 k)) [.iter [47,63,35] I])=rv v H/\v.stab [] H = .s (.int .i64 (irn r)):=by
 obtain⟨A,M⟩:=E9.1 h;have B:=C9;unfold OD;rw[A5,o6,aa];unfold My;by_cases p:r<128
 ·obtain⟨n,rfl⟩:=w8 A;have e:wu8 (n:Int)=(n:Int):=O4;have f:u8n (n:Int)=ag4 n:=by unfold u8n;simp
  have g:(((ag4 n).toNat:Nat):Int)=(n:Int):=by simp;omega
  rw[A7,aa,e,G2,f];have o:=D64 (ag4 n);rw[g] at o;rw[<-o];exact⟨_,_,rfl,rfl⟩
 ·rw[A5,ab,C07 (by omega)];by_cases t:r=65533
  ·subst t;obtain⟨m,i⟩:∃m,LF=m+1+1+1+1:=⟨LF-4,by omega⟩
   have w:ae3 ⟨ad5 ([47,63,35]:By)⟩ 0=(47,1):=rfl;have x:ae3 ⟨ad5 ([47,63,35]:By)⟩ 1=(63,1):=rfl;have y:ae3 ⟨ad5 ([47,63,35]:By)⟩ 2=(35,1):=rfl;have go:∀(R:Type) (c:Int->Nat->Option R) (a:Nat->Option R),Bb LF LF 0 c a=a 3:=λR c a=>by
    have L:Bb LF (m+1) 3 c a=a 3:=by rw[Gc];rfl
    have K:Bb LF (m+1+1) 2 c a=a 3:=by rw[Gc];unfold Fd;rw[y];exact L
    have J:Bb LF (m+1+1+1) 1 c a=a 3:=by rw[Gc];unfold Fd;rw[x];exact K
    have d:Bb LF (m+1+1+1+1) 0 c a=a 3:=by rw[Gc];unfold Fd;rw[w];exact J
    rw[<-i] at d;exact d
   rw[go];exact⟨_,_,rfl,rfl⟩
  ·rw[show(r==(65533:Int))=false by simpa using t,ab];cases F:OM r with
   | false=>exact⟨_,_,rfl,rfl⟩
   | true=>
    obtain⟨O,P,G⟩:=Cy8 F (by omega);simp only[vl,o5,ab];generalize (ac1 r).data.toList=l at *;obtain⟨m,i⟩:∃m,LF=m+1:=⟨LF-1,by omega⟩
    have z:A1 ((l.length:Int)-1)=((l.length-1:Nat):Int):=by rw[A4];omega
    have go:∀(R:Type) (c:Int->Option R) (a:Unit->Option R),a ()=c (-1)->Hy LF LF l ((l.length-1:Nat):Int) c a=c (-1):=λR c a C=>by
     have d:Hy LF (m+1) l ((l.length-1:Nat):Int) c a=c (-1):=by
      rw[GA];unfold Pk;by_cases N:l.length=4
      ·rw[A5];exact C
      ·rw[A7,G2,G2,E1,E1];simp only[vl,aa];have D:(([47,63,35]:By).getD (l.length-1) 0).toNat<128:=by
        have:l.length=2\/l.length=3:=by omega
        rcases this with q|q<;>rw[q]<;>decide
       have j:((((([47,63,35]:By).getD (l.length-1) 0).toNat:Nat):Int)!=(((l.getD (l.length-1) 0).toNat:Nat):Int))=true:=by
        rw[bne_iff_ne];omega
       have f:A1 (((l.length-1:Nat):Int)+1)=((l.length:Nat):Int):=by rw[A4];omega
       have g:cut ([47,63,35]:By) ((l.length:Nat):Int) 3=([47,63,35]:By).drop l.length:=by
        rw[show(3:Int)=((3:Nat):Int) from rfl,Fj];rfl
       have u:=(l.getD (l.length-1) 0).toNat_lt;rw[j,aa,f,K2,aa,g,D5 (by simp;omega),aa,G2,aa,Kf,Ee9 (λb u=>?_) G]
       ·rfl
       ·have:=ac0 u;simp only[ab9,af6,or_false] at this;rcases this with rfl|rfl|rfl<;>decide
     rw[<-i] at d;exact d
    rw[z,go _ _ _ rfl];exact⟨_,_,rfl,rfl⟩
def Cq1:C0 c9 GX 89 BL:=by
 refine C0.fix (pf:=Vq) _ (J0 [] (C₀:=RD LF) (M3.ok (l:=[]) rfl trivial) (H7 rfl (by kernel_rfl)) follows ?_);intro args ret a h;unfold Vq at h;split at h
 ·rename_i n;obtain⟨rfl,rfl⟩:=J6 h;have e:=(Bq4 LF noY () 0 n).trans (Af3 n);exact⟨rfl,rfl,rfl,1,_,_,e,rfl⟩
 ·cases h
def Dg0:C0 c9 GX 123 KB:=by
 refine C0.fix (pf:=BS) _ (J0 [] (C₀:=Am9 LF) (M3.ok (l:=[]) rfl trivial) (H7 rfl (by kernel_rfl)) follows ?_);intro args ret a h;unfold BS at h;split at h
 ·rename_i n;obtain⟨rfl,rfl⟩:=J6 h;have e:=(Co8 LF noY () 0 n).trans (A30 n);exact⟨rfl,rfl,rfl,1,_,_,e,rfl⟩
 ·cases h
def Df3:C0 c9 GX 90 Qr:=λargs ret a h=>by
 have:M6 (Qr args)=none:=by unfold Qr QJ;split<;>rfl
 rw[this] at h;cases h
def Df2:C0 c9 GX 88 JR:=by
 refine C0.fix (pf:=BK) _ (J0 [] (C₀:=N9 LF) (M3.ok (l:=[(86,Xm),(123,KB)]) rfl ⟨Ah1,Dg0,trivial⟩) (H7 rfl (by kernel_rfl)) follows ?_);intro args ret f h;unfold BK at h;split at h
 ·rename_i p r;obtain⟨a,h⟩:=C8 h;obtain⟨b,h⟩:=C8 h;obtain⟨rfl,rfl⟩:=J6 h;obtain rfl:p=isl:=by simpa[DE] using a
  obtain⟨d,H,e,c⟩:=Cm6 r b;exact⟨rfl,rfl,rfl,1,d,H,(Cm5 LF noY () 0 r).trans e,c⟩
 ·cases h
def OF:∀(w:Nat) (l:By),w<=l.length->(∀i,i<w->Z9 (l.getD i 0)=false)->L6 l=w+L6 (l.drop w)
 | 0,l,_,_=>by simp
 | w+1,[],h,_=>by simp at h
 | w+1,b::l,h,hb=>by
  have a:=hb 0 (by omega);rw[ac2] at a;have d:=OF w l (by simpa using h) (λi c=>by have:=hb (i+1) (by omega);rwa [List.getD_cons_succ] at this);rw[Jf,a,List.drop_succ_cons];simp only[ac5,if_false];omega
def A09(s:By)(O:s.length<=8):∀(f m n:Nat),s.length-m<=f->m<=s.length->f<n->∃H t,∀(R:Type) (j:Int->List Blk->Option R) (k:By->Nat->Option R),
  Mx LF n s m j k=if L6 (s.drop m)<(s.drop m).length then j ((m+L6 (s.drop m):Nat):Int) H else k s t:=by
 intro f
 induction f with
 | zero=>
  intro m n G K L;rcases n with _|n;omega
  refine⟨[],m,λR j k=>?_⟩;rw[Cx];unfold Ar;rw[decide_eq_false (by omega),ab,j8 (by omega),ae (by simp)]
 | succ f z=>
  intro m n G K L;rcases n with _|n;omega
  by_cases a:m<s.length
  ·have F:=Lib.decodeL_drop ⟨s.toArray⟩ m;have h:ae3 ⟨ad5 s⟩ m=ag2 (s.drop m):=by rw[<-F]
   have p:=E6 s m a;have N:(s.drop m).length=s.length-m:=j9;generalize M:s.getD m 0=b at p;by_cases o:b.toNat<128
   ·have y:ag2 (s.drop m)=(b.toNat,1):=by rw[p];exact Lib.decodeL_ascii b _ o
    have l:=D65 b;cases g:Z9 b with
    | true=>
     rw[g,o5] at l;have u:L6 (s.drop m)=0:=by rw[p,Jf,g];rfl
     refine⟨[Blk.iter s (m+1)],m,λR j k=>?_⟩;rw[Cx];unfold Ar;rw[decide_eq_true a,h,y,u,W4];simp only[vl,aa];rw[show DE ([47,63,35]:By)=true from rfl,aa,E9.2 ⟨by omega,by omega⟩,aa,l];rfl
    | false=>
     rw[g,o6] at l;have u:L6 (s.drop m)=L6 (s.drop (m+1))+1:=by rw[p,Jf,g];rfl
     have v:(s.drop (m+1)).length=s.length-(m+1):=j9;obtain⟨H,t,e⟩:=z (m+1) n (by omega) (by omega) (by omega);refine⟨H,t,λR j k=>?_⟩;rw[Cx];unfold Ar;rw[decide_eq_true a,h,y];simp only[vl,aa];rw[show DE ([47,63,35]:By)=true from rfl,aa,E9.2 ⟨by omega,by omega⟩,aa,l,o5,ab,e,u];by_cases q:L6 (s.drop (m+1))<(s.drop (m+1)).length
     ·rw[ac q,W4,show m+1+L6 (s.drop (m+1))=m+(L6 (s.drop (m+1))+1) by omega]
     ·rw[ae q,I6]
   ·obtain⟨A,B,C,D,x⟩:=D54 b (s.drop (m+1)) (by omega);rw[<-p] at A B C D x;have v:(s.drop (m+1)).length=s.length-(m+1):=j9;generalize ag2 (s.drop m)=d at *;obtain⟨c,w⟩:=d;simp only at A B C D x;have r:=OF w (s.drop m) (by omega) (λi I=>C84 (x i I));rw[ae1] at r;have J:(s.drop (m+w)).length=s.length-(m+w):=j9;have l:ltI (irn (c:Int)) 0=true:=by rw[C07 (by omega)];rfl
    obtain⟨H,t,e⟩:=z (m+w) n (by omega) (by omega) (by omega);refine⟨H,t,λR j k=>?_⟩;rw[Cx];unfold Ar;rw[decide_eq_true a,h];simp only[vl,aa];rw[show DE ([47,63,35]:By)=true from rfl,aa,E9.2 ⟨by omega,by omega⟩,aa,l,o5,ab,e,r];by_cases q:L6 (s.drop (m+w))<(s.drop (m+w)).length
    ·rw[ac q,W4,show m+w+L6 (s.drop (m+w))=m+(w+L6 (s.drop (m+w))) by omega]
    ·rw[ae q,I6]
  ·refine⟨[],m,λR j k=>?_⟩;rw[Cx];unfold Ar;rw[decide_eq_false a,ab,j8 (by omega),ae (by simp)]
def Cm3(s:By)(h:s.length<=8):∃r H,Ae6 LF s (λc a=>rv (.s (.int .i64 c)) a)=rv r H/\r.stab [] H = .s (.int .i64 (Lib.indexAny s isl)):=by
 have b:=C9;obtain⟨H,d,e⟩:=A09 s h s.length 0 LF (by omega) (by omega) (by omega);unfold Ae6;rw[A5,ab,e,Kr,p7,ac3];by_cases q:L6 s<s.length
 ·rw[ac q,ac q];exact⟨_,_,rfl,rfl⟩
 ·rw[ae q,ae q];exact⟨_,_,rfl,rfl⟩
def Df1:C0 c9 GX 49 Aj4:=by
 refine C0.fix (pf:=Sd) _ (J0 [] (C₀:=Lu LF) (M3.ok (l:=[(88,JR),(89,BL),(90,Qr)]) rfl ⟨Df2,Cq1,Df3,trivial⟩) (H7 rfl (by kernel_rfl)) follows ?_);intro args ret f h;unfold Sd at h;split at h
 ·rename_i s p;obtain⟨a,h⟩:=C8 h;obtain⟨b,h⟩:=C8 h;obtain⟨rfl,rfl⟩:=J6 h;obtain rfl:p=isl:=by simpa[DE] using a
  obtain⟨d,H,e,c⟩:=Cm3 s (p9 b);exact⟨rfl,rfl,rfl,1,d,H,(Cm2 LF noY () 0 s).trans e,c⟩
 ·cases h
def Nc{c:Bool}{t:Tr}(h:c=true):M6 (.need c t)=M6 t:=by subst h;rfl
def Dz9:C0 c9 GX 49 XC:=λargs ret c h=>by
 have a:=Df0 args ret c;have b:=Df1 args ret c;unfold XC at h;unfold Aj3 at a;unfold Aj4 at b;generalize D1 [[0],[0]] args=l at h a b;unfold Aj2 at h;split at h
 ·rename_i s p;obtain⟨e,h⟩:=C8 h;obtain⟨d,h⟩:=C8 h;by_cases f:s.length<=8
  ·refine b ?_;unfold Sd;rw[Nc d,Nc (x9 f)];exact h
  ·refine a ?_;unfold Sc;rw[Nc e,Nc d,Nc (x9 (by omega))];exact h
 ·cases h
section
def Dy2:C0 c9 GX 133 Bv0:=xf [] (Bz2 LF) IL rfl ⟨Bt4,trivial⟩ rfl follows λargs=>by
 unfold IL;split
 ·rename_i s p;exact λa=>⟨rfl,rfl,rfl,_,_,(C21 LF noY () 0 s p).trans (Bd2 s p a),rfl⟩
 ·trivial
def Ec5:C0 c9 GX 96 Cs8:=xf [] (Cx6 LF) XG rfl ⟨Dy2,trivial⟩ rfl follows λargs=>by
 unfold XG;split
 ·rename_i s p;exact λa=>⟨rfl,rfl,rfl,_,_,(Dv8 LF noY () 0 s p).trans (Cn7 s p a),rfl⟩
 ·trivial
def B86:C0 c9 GX 29 XI:=xf [] (B06 LF) JY rfl trivial rfl follows λargs=>by
 unfold JY;split
 ·rename_i s;exact⟨rfl,rfl,rfl,_,_,(Da9 LF noY () 0 s).trans (Br7 s ),rfl⟩
 ·trivial
def HT:C0 c9 GX 13 Sf:=xf [] (B07 LF) JZ rfl ⟨B86,trivial⟩ rfl follows λargs=>by
 unfold JZ;split
 ·rename_i s;exact⟨rfl,rfl,rfl,_,_,(Db1 LF noY () 0 s).trans (Bs0 s ),rfl⟩
 ·trivial
def Ec7:C0 c9 GX 46 Ct1:=xf [] (CQ LF) XK rfl ⟨Ah1,trivial⟩ rfl follows λargs=>by
 unfold XK;split
 ·rename_i s;exact λa=>⟨rfl,rfl,rfl,_,_,(Dw5 LF noY () 0 s).trans (Co7 s a),rfl⟩
 ·trivial
def Ec6:C0 c9 GX 95 Ct0:=xf [0,0] (CO LF) XH rfl trivial rfl follows λargs=>by
 unfold XH;split
 ·rename_i s;exact λa=>⟨rfl,rfl,rfl,_,_,(Dw1 LF noY () 0 s).trans (Co0 s a),rfl⟩
 ·trivial
def Df7:C0 c9 GX 51 Aj6:=xf [0,0] (Am8 LF) BP rfl ⟨B78,Ah0,Ah1,Dc8,Ec5,Ec6,B86,trivial⟩ rfl follows λargs=>by
 unfold BP;split
 ·rename_i n o j k v4 b c d e f g h i l m a;exact λq=>λr=>λt=>λu=>λv=>(let⟨y,w,p,x⟩:=Co4 n o j k v4 b c d e f g h i l m a q r t u v;⟨rfl,rfl,rfl,y,w,(Co3 LF noY () 0 n o j k v4 b c d e f g h i l m a).trans p,x⟩)
 ·trivial
def Df8:C0 c9 GX 27 A69:=xf [0,0] (CP LF) XJ rfl ⟨De9,Ec7,Bt3,HT,Dc5,Dz9,Ah0,Df7,trivial⟩ rfl follows λargs=>by
 unfold XJ;split
 ·rename_i s;exact λb=>(let⟨e,c,a,d⟩:=Dw3 s b;⟨rfl,rfl,rfl,e,c,(Dw2 LF noY () 0 s).trans a,d⟩)
 ·trivial
def Df6:C0 c9 GX 11 JX:=xf [0,0] (Am7 LF) BO rfl ⟨Df8,trivial⟩ rfl follows λargs=>by
 unfold BO;split
 ·rename_i s;exact λb=>(let⟨e,c,a,d⟩:=Co2 s b;⟨rfl,rfl,rfl,e,c,(Co1 LF noY () 0 s).trans a,d⟩)
 ·trivial
def D02:C0 c9 GX 55 Bw9:=xf [] (B08 LF) KA rfl ⟨HT,Bt1,Dx8,trivial⟩ rfl follows λargs=>by
 unfold KA;split
 ·rename_i m n i j v4 a b c d e f g h k l;exact λp=>λq=>λr=>λt=>(let⟨w,u,o,v⟩:=Db3 m n i j v4 a b c d e f g h k l p q r t;⟨rfl,rfl,rfl,w,u,(Db2 LF noY () 0 m n i j v4 a b c d e f g h k l).trans o,v⟩)
 ·trivial
def Cq3:C0 c9 GX 30 QL:=xf [] (RF LF) Vt rfl ⟨D02,Df8,trivial⟩ rfl follows λargs=>by
 unfold Vt;split
 ·rename_i m n i j v4 a b c d e f g h k l;exact λp=>λq=>λr=>λt=>(let⟨w,u,o,v⟩:=Bs2 m n i j v4 a b c d e f g h k l p q r t;⟨rfl,rfl,rfl,w,u,(Bs1 LF noY () 0 m n i j v4 a b c d e f g h k l).trans o,v⟩)
 ·trivial
end
section
variable {W R : Type} (L : Nat) (Q : G1) (Y : Yh W) (s : W) (k : Out -> St W -> Option R)
noncomputable def Am4(L:Nat):=mkC L 20 [] [(1,[2]),(0,[0])] [] [2]
def Ad9(L:Nat)(b:By)(a:Bool->Option R):Option R:=cond (b==[104,116,116,112]) (a true) (cond (b==[104,116,116,112,115]) (a true) (cond (b==[119,115]) (a true) (a (b==[119,115,115]))))
def Ck9(d:Nat)(s0):evC (Am4 L) (d+1) W Y 20 [pS s0] [] s=Ad9 L s0 (λa=>some (pB a,[],s)):=evT Tryz.f20 λQ=>by
 unfold Ad9;kernel_rfl
noncomputable def B03(L:Nat):=mkC L 74 [] [(8,[2]),(4,[2]),(7,[2]),(6,[7]),(5,[3,3]),(3,[3,0]),(2,[3,0]),(1,[3]),(0,[0])] [(0,[])] [2]
def B64(L:Nat)(b:By)(a:Int->Option R):Option R:=cond (b==[104,116,116,112]) (cond (b==[104,116,116,112]) (a 80) (cond (b==[104,116,116,112,115]) (cond (b==[104,116,116,112,115]) (a 443) (a (-1))) (cond (b==[119,115,115]) (a 443) (a (-1))))) (cond (b==[119,115]) (a 80) (cond (b==[104,116,116,112,115]) (cond (b==[104,116,116,112,115]) (a 443) (a (-1))) (cond (b==[119,115,115]) (a 443) (a (-1)))))
def C79(d:Nat)(s0):evC (B03 L) (d+1) W Y 74 [pS s0] [] s=B64 L s0 (λa=>some (pI a,[],s)):=evT Tryz.f74 λQ=>by
 unfold B64;kernel_rfl
noncomputable abbrev Xp:Code:=D7 ai8
noncomputable def Dg(L:Nat):=mkC L 72 [(5,[0,0,2,0,0]),(2,[0,0,2,0])] [(9,[4]),(3,[0,0,3]),(6,[0,0,3,0]),(8,[4]),(7,[0,0,3,0,18]),(5,[0,0,3,0,9]),(4,[0,0,3,0]),(2,[0,0,3,4]),(1,[0,0,3]),(0,[0,0])] [(0,[0]),(1,[0,0,3]),(2,[0,0,3]),(3,[0,0,3,0])] [4]
def Iy(L n:Nat)(d a:By)(c b:Int)(e:Int->Option R)(f:By->By->Int->Option R):Option R:=match n with|0=>none|n+1=>cond (ltI b (a.length:Int)) (cond (inR c d.length) (cond (inR b a.length) (cond ((bAt d c)==(bAt a b)) (e c) (Iy L n d a c (A1 (b+1)) e f)) none) none) (f d a c)
def Ax5(n c a b kk3):D4 0 ((Dg L).keep 5) (bd (Dg L) Q Y (cd [1,0,1,0,0,1,0,0,1,0,0] Xp)) n ⟨gp [(0,pS c),(0,pS a),(3,pI b),(0,pI kk3)] 22,[],s⟩ k =
 Iy L n c a b kk3 (λn0=>k .ret ⟨gp [(4,pI n0)] 24,[],s⟩) (λc a b=>k (.exit 2) ⟨gp [(0,pS c),(0,pS a),(3,pI b)] 23,[],s⟩):=by
 induction n generalizing c a b kk3 with
 | zero=>rfl
 | succ n d=>rw[Iy];simp only[<-d];kernel_rfl
def Iz(L n:Nat)(e b:By)(f:Int)(g:Int->Option R)(h:By->Option R):Option R:=match n with|0=>none|n+1=>cond (ltI f (e.length:Int)) (Iy L L e b f 0 g (λd a c=>Iz L n d a (A1 (c+1)) g h)) (h e)
def Ax6(n b set1 i2):D4 0 ((Dg L).keep 2) (bd (Dg L) Q Y (cd [1,0,1,0,0] Xp)) n ⟨gp [(0,pS b),(0,pS set1),(3,pI i2)] 23,[],s⟩ k =
 Iz L n b set1 i2 (λn0=>k .ret ⟨gp [(4,pI n0)] 24,[],s⟩) (λb=>k (.exit 0) ⟨gp [(0,pS b)] 28,[],s⟩):=by
 induction n generalizing b set1 i2 with
 | zero=>rfl
 | succ n e=>rw[Iz];exact(j4 (by kernel_rfl) (A0 ((Ax5 L Q Y s (F2 2 (F2 1 (F6 (Dg L) Q Y (cd [1,0,1,0,0,1,1] Xp) (lpK 0 ((Dg L).keep 2) (bd (Dg L) Q Y (cd [1,0,1,0,0] Xp)) n k)))) L b set1 i2 0).trans (congr (congr rfl (by kernel_rfl)) (fx3 λd a c=>(j4 (by kernel_rfl) (e d a (A1 (c+1))))))) rfl))
def C71(L:Nat)(e a:By)(d:Int->Option R):Option R:=Iz L L e a 0 d (λc=>vl (c.length:Int) λb=>d b)
def C72(d:Nat)(s0 set1):evC (Dg L) (d+1) W Y 72 [pS s0,pS set1] [] s=C71 L s0 set1 (λa=>some (pI a,[],s)):=evT ai8 λQ=>by
 unfold C71;exact(j4 (by kernel_rfl) (ag (Ax6 L Q Y s (F2 0 (F6 (Dg L) Q Y (cd [1,1] Xp) (I8 (Dg L) ai8))) L s0 set1 0)))
noncomputable abbrev P4:Code:=D7 ah5
noncomputable def N8(L:Nat):=mkC L 71 [(2,[0,1,0,0,0])] [(11,[2,0,0]),(3,[0,4]),(10,[2,0,0]),(9,[0,4,67]),(8,[0,4,1,0]),(7,[0,4,0,0]),(6,[2,0,0]),(5,[0,4,0,16]),(4,[0,4,0]),(2,[0,4,6]),(1,[0,4]),(0,[0])] [(0,[]),(1,[0,4])] [2,0,0] [(77,JD)] [77]
def Mt(a:By)(b f:Int)(e:Bool)(g:By->By->Option R)(h:Kdg R):Option R:=cond e (cond (J5 0 b a.length) (cond (A2 (j7 (cut a 0 b))) (vl (C6 (cut a 0 b)) λc=>cond (J5 (A1 (b+1)) (a.length:Int) a.length) (vl (cut a (A1 (b+1)) (a.length:Int)) λd=>g c d) none) none) none) (h a b f e)
abbrev Wx(b:Code):Prop:=∀(k:Out->St W->Option R) a e c d,C3 (N8 L) Q Y b ⟨gp [(0,pS a),(4,pI e),(0,p8 c),(16,pB d)] 50,[],s⟩ k=Mt a e c d (λa f=>k .ret ⟨gp [(2,pS a),(0,pS f),(0,pB true)] 69,[],s⟩) (λa e c d=>k .normal ⟨gp [(0,pS a),(4,pI e),(0,p8 c),(16,pB d)] 50,[],s⟩)
def Ay8:Wx (R:=R) L Q Y s (cd [1,0,1,0,0,1,0,0,1,0,1] P4):=by intro k d c a b;unfold Mt;kernel_rfl
def Mu(c:By)(a:Int)(b:By->Int->Option R):Option R:=b c a
abbrev Wy(b:Code):Prop:=∀(k:Out->St W->Option R) c a,C3 (N8 L) Q Y b ⟨gp [(0,pS c),(4,pI a),(1,pB true),(0,pB true)] 65,[],s⟩ k=Mu c a (λc a=>k .normal ⟨gp [(0,pS c),(4,pI a),(67,pB false)] 0,[],s⟩)
def FU:Wy (R:=R) L Q Y s (cd [1,0,1,0,0,1,0,0,1,1,1,1] P4):=by intro k b a;unfold Mu;kernel_rfl
def Jb(c:By)(a:Int)(b:By->Int->Option R):Option R:=b c a
abbrev Wz(b:Code):Prop:=∀(k:Out->St W->Option R) c a other2,C3 (N8 L) Q Y b ⟨gp [(0,pS c),(4,pI a),(1,pB true),(0,pB other2)] 65,[],s⟩ k=Jb c a (λc a=>k .normal ⟨gp [(0,pS c),(4,pI a),(67,pB false)] 0,[],s⟩)
def FW:Wz (R:=R) L Q Y s (cd [1,0,1,0,0,1,0,0,1,1,1,1] P4):=by intro k c b a;unfold Jb;kernel_rfl
def Zp(c:By)(a d:Int)(b:By->Int->Option R):Option R:=cond (not (ltI d 48)) (cond (not (ltI 57 d)) (Mu c a b) (cond (d==43) (Mu c a b) (cond (d==45) (Mu c a b) (Jb c a b)))) (cond (d==43) (Jb c a b) (cond (d==45) (Jb c a b) (Jb c a b)))
abbrev Xa(b:Code):Prop:=∀(k:Out->St W->Option R) c a b2,C3 (N8 L) Q Y b ⟨gp [(0,pS c),(4,pI a),(0,p8 b2),(0,pB true)] 66,[],s⟩ k=Zp c a b2 (λc a=>k .normal ⟨gp [(0,pS c),(4,pI a),(67,pB false)] 0,[],s⟩)
def Ay9(a:Code)(c:Wy (R:=R) L Q Y s a)(b:Wz (R:=R) L Q Y s a):Xa (R:=R) L Q Y s (cd [1,0,1,0,0,1,0,0,1,1,1] (Q9 [1,0,1,0,0,1,0,0,1,1,1,1] a P4)):=by intro k e d f;unfold Zp;exact(j4 (by kernel_rfl) (A0 (A0 (ag (c k e d)) (A0 (ag (c k e d)) (A0 (ag (c k e d)) (ag (b k e d (f==46)))))) (A0 (ag (b k e d true)) (A0 (ag (b k e d true)) (ag (b k e d (f==46)))))))
def Az0:Xa (R:=R) L Q Y s (cd [1,0,1,0,0,1,0,0,1,1,1] P4):=by intro k c b a;exact j4 (by kernel_rfl) (Ay9 L Q Y s (cd [1,0,1,0,0,1,0,0,1,1,1,1] P4) (FU L Q Y s) (FW L Q Y s) k c b a)
def Mv(d:By)(b:Int)(a:Bool)(e:Unit->Option R)(c:By->Int->Bool->Option R):Option R:=cond (not a) (cond (b==0) (e ()) (c d b (b==0))) (c d b false)
abbrev NV(b:Code):Prop:=∀(k:Out->St W->Option R) c a letter2,C3 (N8 L) Q Y b ⟨gp [(0,pS c),(4,pI a),(1,pB letter2),(0,pB true)] 65,[],s⟩ k=Mv c a letter2 (λ_=>k .ret ⟨gp [(2,pS e0),(0,pS e0),(0,pB false)] 69,[],s⟩) (λc a d=>k .normal ⟨gp [(0,pS c),(4,pI a),(67,pB d)] 0,[],s⟩)
def Az1:NV (R:=R) L Q Y s (cd [1,0,1,0,0,1,0,0,1,1,1,1] P4):=by intro k c b a;unfold Mv;kernel_rfl
def Jc(f:By)(c:Int)(a b:Bool)(d:Unit->Option R)(e:By->Int->Bool->Option R):Option R:=cond (not a) (cond (not b) (d ()) (cond (c==0) (d ()) (e f c (c==0)))) (e f c false)
abbrev NW(b:Code):Prop:=∀(k:Out->St W->Option R) c a letter2 other3,C3 (N8 L) Q Y b ⟨gp [(0,pS c),(4,pI a),(1,pB letter2),(0,pB other3)] 65,[],s⟩ k=Jc c a letter2 other3 (λ_=>k .ret ⟨gp [(2,pS e0),(0,pS e0),(0,pB false)] 69,[],s⟩) (λc a d=>k .normal ⟨gp [(0,pS c),(4,pI a),(67,pB d)] 0,[],s⟩)
def Az2:NW (R:=R) L Q Y s (cd [1,0,1,0,0,1,0,0,1,1,1,1] P4):=by intro k d c a b;unfold Jc;kernel_rfl
def Jd(f:By)(c b:Int)(a:Bool)(d:Unit->Option R)(e:By->Int->Bool->Option R):Option R:=cond (not (ltI b 48)) (cond (not (ltI 57 b)) (Mv f c a (λ_=>d ()) e) (cond (b==43) (Mv f c a (λ_=>d ()) e) (cond (b==45) (Mv f c a (λ_=>d ()) e) (Jc f c a (b==46) (λ_=>d ()) e)))) (cond (b==43) (Jc f c a true (λ_=>d ()) e) (cond (b==45) (Jc f c a true (λ_=>d ()) e) (Jc f c a (b==46) (λ_=>d ()) e)))
abbrev Xb(b:Code):Prop:=∀(k:Out->St W->Option R) d c a letter3,C3 (N8 L) Q Y b ⟨gp [(0,pS d),(4,pI c),(0,p8 a),(0,pB letter3)] 66,[],s⟩ k=Jd d c a letter3 (λ_=>k .ret ⟨gp [(2,pS e0),(0,pS e0),(0,pB false)] 69,[],s⟩) (λd c a=>k .normal ⟨gp [(0,pS d),(4,pI c),(67,pB a)] 0,[],s⟩)
def Az3(a:Code)(d:Wy (R:=R) L Q Y s a)(e:Wz (R:=R) L Q Y s a)(b:NV (R:=R) L Q Y s a)(c:NW (R:=R) L Q Y s a):Xb (R:=R) L Q Y s (cd [1,0,1,0,0,1,0,0,1,1,1] (Q9 [1,0,1,0,0,1,0,0,1,1,1,1] a P4)):=by intro k i h g f;unfold Jd;simp only[<-b k,<-c k];kernel_rfl
def Az4:Xb (R:=R) L Q Y s (cd [1,0,1,0,0,1,0,0,1,1,1] P4):=by intro k d c b a;exact j4 (by kernel_rfl) (Az3 L Q Y s (cd [1,0,1,0,0,1,0,0,1,1,1,1] P4) (FU L Q Y s) (FW L Q Y s) (Az1 L Q Y s) (Az2 L Q Y s) k d c b a)
def Bq(f:By)(c a:Int)(d:By->Int->Bool->Option R)(g:Unit->Option R):Option R:=cond (not (ltI a 97)) (cond (not (ltI 122 a)) (Zp f c a (λe b=>d e b false)) (cond (not (ltI a 65)) (Jd f c a (not (ltI 90 a)) (λ_=>g ()) d) (Jd f c a false (λ_=>g ()) d))) (cond (not (ltI a 65)) (Jd f c a (not (ltI 90 a)) (λ_=>g ()) d) (Jd f c a false (λ_=>g ()) d))
abbrev Pd(b:Code):Prop:=∀(k:Out->St W->Option R) d c a b3,C3 (N8 L) Q Y b ⟨gp [(0,pS d),(4,pI c),(0,p8 a),(16,pB b3)] 50,[],s⟩ k=Bq d c a (λd c a=>k .normal ⟨gp [(0,pS d),(4,pI c),(67,pB a)] 0,[],s⟩) (λ_=>k .ret ⟨gp [(2,pS e0),(0,pS e0),(0,pB false)] 69,[],s⟩)
def Az5(a:Code)(b:Xa (R:=R) L Q Y s a)(c:Xb (R:=R) L Q Y s a):Pd (R:=R) L Q Y s (cd [1,0,1,0,0,1,0,0,1,1] (Q9 [1,0,1,0,0,1,0,0,1,1,1] a P4)):=by intro k g f d e;unfold Bq;simp only[<-b k,<-c k];kernel_rfl
def Az6:Pd (R:=R) L Q Y s (cd [1,0,1,0,0,1,0,0,1,1] P4):=by intro k d c a b;exact j4 (by kernel_rfl) (Az5 L Q Y s (cd [1,0,1,0,0,1,0,0,1,1,1] P4) (Az0 L Q Y s) (Az4 L Q Y s) k d c a b)
def Q2(L n:Nat)(b:By)(a:Int)(c:By->By->Bool->Option R)(t:Unit->Option R):Option R:=match n with|0=>none|n+1=>cond (ltI a (b.length:Int)) (cond (inR a b.length) (cond ((bAt b a)==58) (Mt b a (bAt b a) (ltI 0 a) (λu v=>c u v true) (λw r q A=>Bq w r q (λj e x=>vl (A1 (e+1)) λh=>Q2 L n j h c t) (λ_=>c e0 e0 false))) (Mt b a (bAt b a) false (λl m=>c l m true) (λo f d y=>Bq o f d (λp g z=>vl (A1 (g+1)) λi=>Q2 L n p i c t) (λ_=>c e0 e0 false)))) none) (t ())
def Az7(b:Code)(c:Wx (R:=R) L Q Y s b)(a:Code)(d:Pd (R:=R) L Q Y s a)(n:Nat)(e:By)(f:Int):D4 0 ((N8 L).keep 2) (bd (N8 L) Q Y (cd [1,0,1,0,0] (Q9 [1,0,1,0,0,1,0,0,1,1] a (Q9 [1,0,1,0,0,1,0,0,1,0,1] b P4)))) n ⟨gp [(0,pS e),(4,pI f)] 68,[],s⟩ k =
 Q2 L n e f (λe D C=>k .ret ⟨gp [(2,pS e),(0,pS D),(0,pB C)] 69,[],s⟩) (λ_=>k (.exit 0) ⟨gp [] 74,[],s⟩):=by
 induction n generalizing e f with
 | zero=>rfl
 | succ n B=>rw[Q2];exact let q:=(F2 1 (F6 (N8 L) Q Y (cd [1,0,1,0,0,1,1] P4) (lpK 0 ((N8 L).keep 2) (bd (N8 L) Q Y (cd [1,0,1,0,0] (Q9 [1,0,1,0,0,1,0,0,1,1] a (Q9 [1,0,1,0,0,1,0,0,1,0,1] b P4)))) n k)));let w:=(F6 (N8 L) Q Y a q);(j4 (by kernel_rfl) (A0 (A0 (A0 ((c w e f (bAt e f) (ltI 0 f)).trans (congr (congr rfl (by kernel_rfl)) (fx4 λv u r t=>(j4 (by kernel_rfl) ((d q v u r t).trans (congr (congr rfl (fx3 λm z x=>(j4 (by kernel_rfl) (A6 λj=>(B m j))))) (by kernel_rfl))))))) ((c w e f (bAt e f) false).trans (congr (congr rfl (by kernel_rfl)) (fx4 λo i g h=>(j4 (by kernel_rfl) ((d q o i g h).trans (congr (congr rfl (fx3 λp A y=>(j4 (by kernel_rfl) (A6 λl=>(B p l))))) (by kernel_rfl)))))))) rfl) rfl))
def Ay7(L:Nat)(b:By)(a:By->By->Bool->Option R):Option R:=Q2 L L b 0 a (λ_=>a e0 e0 false)
def C77(a:Code)(c:Wx (R:=PV × List Blk × W) L Q Y s a)(b:Code)(d:Pd (R:=PV × List Blk × W) L Q Y s b)(e:By):C3 (N8 L) Q Y (cd [] (Q9 [1,0,1,0,0,1,0,0,1,1] b (Q9 [1,0,1,0,0,1,0,0,1,0,1] a P4))) ⟨[pS e]++tps 73,[],s⟩ (I8 (N8 L) ah5)=Ay7 L e (λf g h=>some (.tup [pS f,pS g,pB h],[],s)):=by unfold Ay7;exact(j4 (by kernel_rfl) (ag (Az7 L Q Y s (F2 0 (F6 (N8 L) Q Y (cd [1,1] P4) (I8 (N8 L) ah5))) a c b d L e 0)))
def C78(d:Nat)(s0):evC (N8 L) (d+1) W Y 71 [pS s0] [] s=Ay7 L s0 (λa b c=>some (.tup [pS a,pS b,pB c],[],s)):=
 (evE (fn:=ah5) (by kernel_rfl)).trans (j4 (by kernel_rfl) (C77 L (evC (N8 L) d) Y s (cd [1,0,1,0,0,1,0,0,1,0,1] P4) (Ay8 L (evC (N8 L) d) Y s) (cd [1,0,1,0,0,1,0,0,1,1] P4) (Az6 L (evC (N8 L) d) Y s) s0))
noncomputable abbrev N7:Code:=D7 ah4
noncomputable def L2(L:Nat):=mkC L 36 [(36,[2,0,1,3,0,4,0]),(20,[2,0,1,3,0,0]),(2,[0,1,0,0])] [(46,[2,0]),(45,[2,7]),(44,[2,7,173]),(43,[2,2,4]),(42,[2,0]),(41,[2,2,4,4,160]),(37,[2,2,3,0,4,0]),(40,[2,2,3,0,4,0]),(39,[2,0]),(38,[2,2,3,0,4,0,147]),(36,[2,2,3,0,4,0,135]),(35,[2,2,3,0,4,0]),(34,[2,2,3,0,1,2]),(33,[2,2,3,0,1,133]),(32,[2,2,3,0,1]),(31,[2,0]),(30,[2,2,3,0,1,0,0,122]),(29,[2,2,3,0,1,0,0]),(28,[2,0]),(27,[2,2,3,0,1,114]),(26,[2,2,3,0,1]),(25,[2,2,3,0,1,95]),(24,[2,2,3,0,1]),(21,[2,2,3,0,0]),(23,[2,2,3,0]),(22,[2,2,3,0,0,79]),(20,[2,2,3,0,0,73]),(19,[2,2,3,0,0]),(18,[2,2,3,0]),(17,[2,2,0,2,0,66]),(16,[2,2,0,2,0]),(15,[2,2,0,2]),(14,[2,2,0,1]),(13,[2,2,0]),(12,[2,0]),(11,[2,2,0,49]),(10,[2,0]),(9,[2,2,0,38]),(8,[2,0]),(7,[2,2,0,34]),(6,[2,2,0,0]),(3,[0,1,1]),(5,[2,0]),(4,[0,1,1,27]),(2,[0,1,1,15]),(1,[0,1,1]),(0,[0,1])] [(4,[2,2,4,4]),(5,[2,2,3,0,4,0]),(2,[2,2,3,0]),(3,[2,2,3,0,0]),(0,[0,1]),(1,[0,1,1])] [2,0] [(71,Bw5),(20,Xl),(72,Bw4),(73,QG),(74,Bw6)] [71,20,72,74]
def Ga(L n:Nat)(a:By)(b:Int)(c:(List Blk)->Option R)(d:By->Option R):Option R:=match n with|0=>none|n+1=>cond (ltI b (a.length:Int)) (cond (inR b a.length) (cond (not (ltI 32 (bAt a b))) (c []) (cond (inR b a.length) (cond ((bAt a b)==127) (c []) (Ga L n a (A1 (b+1)) c d)) none)) none) (d a)
def Ay3(n a i1):D4 1 ((L2 L).keep 2) (bd (L2 L) Q Y (cd [1,0,1,0,0] N7)) n ⟨gp [(0,pS a),(1,.ptr 0 0 0),(1,pI i1)] 182,[bU0],s⟩ k =
 Ga L n a i1 (λb=>k .ret ⟨gp [(2,.ptr 0 0 0),(0,pI 4)] 183,(bU0::b),s⟩) (λa=>k (.exit 0) ⟨gp [(0,pS a),(1,.ptr 0 0 0)] 184,[bU0],s⟩):=by
 induction n generalizing a i1 with
 | zero=>rfl
 | succ n c=>rw[Ga];simp only[<-c];kernel_rfl
abbrev Kdj(R:Type):=By->By->By->By->Option R
def Aq(L n:Nat)(b a:By)(c:Int)(g:By)(f:Kdj R):Option R:=match n with|0=>none|n+1=>cond (not (ltI c 0)) (cond (inR c a.length) (cond ((bAt a c)==64) (cond (J5 0 c a.length) (vl (cut a 0 c) λd=>cond (J5 (A1 (c+1)) (a.length:Int) a.length) (vl (cut a (A1 (c+1)) (a.length:Int)) λe=>f b e d g) none) none) (Aq L n b a (A1 (c-1)) g f)) none) (f b a e0 g)
def FS(n b a i2 c):D4 2 ((L2 L).keep 20) (bd (L2 L) Q Y (cd [1,1,1,1,1,1,1,1,1,1,1,0,1,0,0] N7)) n ⟨gp [(2,.ptr 0 0 0),(2,pS b),(3,pS a),(0,.ptr 1 0 0),(0,pI i2)] 175,[bU0,(bU b [] 0 [] 0 0 0 0 0 0 0 0 0 (-1) c)],s⟩ k =
 Aq L n b a i2 c (λb a e c=>k (.exit 2) ⟨gp [(2,.ptr 0 0 0),(2,pS b),(3,pS a),(0,.ptr 1 0 0)] 176,[bU0,(bU b e 0 [] 0 0 0 0 0 0 0 0 0 (-1) c)],s⟩):=by
 induction n generalizing b a i2 c with
 | zero=>rfl
 | succ n d=>rw[Aq];simp only[<-d];kernel_rfl
def Du(c a:By)(d:Int)(h:Bool)(f g:By)(i:(List Blk)->Option R)(j:By->By->Int->Bool->By->By->Option R)(l:By->By->Int->Bool->By->By->Option R):Option R:=cond h (cond (A2 a.length) (vl (↑(T8 a ([93]:By)):Int) λe=>vl (A1 (e+1)) λb=>cond (ltI (a.length:Int) b) (i [(bU c f 0 [] 0 0 0 0 0 0 0 0 0 (-1) g)]) (cond (ltI b (a.length:Int)) (cond (inR b a.length) (cond ((bAt a b)!=58) (i [(bU c f 0 [] 0 0 0 0 0 0 0 0 0 (-1) g)]) (j c a b ((bAt a b)!=58) f g)) none) (j c a b false f g))) none) (l c a d h f g)
abbrev Ws(b:Code):Prop:=∀(k:Out->St W->Option R) c a d e f g,C3 (L2 L) Q Y b ⟨gp [(2,.ptr 0 0 0),(2,pS c),(3,pS a),(0,.ptr 1 0 0),(1,pI d),(95,pB e)] 78,[bU0,(bU c f 0 [] 0 0 0 0 0 0 0 0 0 (-1) g)],s⟩ k=Du c a d e f g (λh=>k .ret ⟨gp [(2,.ptr 0 0 0),(0,pI 4)] 183,(bU0::h),s⟩) (λc a d e f g=>k .normal ⟨gp [(2,.ptr 0 0 0),(2,pS c),(3,pS a),(0,.ptr 1 0 0),(1,pI d),(114,pB e)] 59,[bU0,(bU c f 0 [] 0 0 0 0 0 0 0 0 0 (-1) g)],s⟩) (λc a d e f g=>k .normal ⟨gp [(2,.ptr 0 0 0),(2,pS c),(3,pS a),(0,.ptr 1 0 0),(1,pI d),(95,pB e)] 78,[bU0,(bU c f 0 [] 0 0 0 0 0 0 0 0 0 (-1) g)],s⟩)
def FP:Ws (R:=R) L Q Y s (cd [1,1,1,1,1,1,1,1,1,1,1,1,1,0,1] N7):=by intro k b a c d e f;unfold Du;kernel_rfl
abbrev Kcc(R:Type):=By->Int->By->Int->By->Int->Int->Int->Int->Int->Int->Int->Int->Int->By->Option R
def Gb(L n:Nat)(b a:By)(y l:Int)(v:By)(o:Int)(r:By)(p i q c d e f g h:Int)(j:By)(w:(List Blk)->Option R)(x:Kcc R):Option R:=match n with|0=>none|n+1=>cond (ltI l (a.length:Int)) (cond (inR l a.length) (cond (ltI (bAt a l) (48:Int)) (w [(bU b v o r p i q c d e f g h (-1) j),(bH o r p i q c d e f g h)]) (cond (inR l a.length) (cond (ltI 57 (bAt a l)) (w [(bU b v o r p i q c d e f g h (-1) j),(bH o r p i q c d e f g h)]) (cond (inR l a.length) (vl (wu8 ((bAt a l)-48)) λt=>vl (A1 ((A1 (y*10))+(A1 t))) λm=>vl (if ((1048576:Int)<m) then (1048576:Int) else m) λu=>Gb L n b a u (A1 (l+1)) v o r p i q c d e f g h j w x) none)) none)) none) (x b y v o r p i q c d e f g h j)
def FT(n a authority1 n2 i3 j g s6 h f i b c d e n14 n15 s16):D4 3 ((L2 L).keep 36) (bd (L2 L) Q Y (cd [1,1,1,1,1,1,1,1,1,1,1,1,1,1,1,1,1,0,1,0,1,0,1,0,0] N7)) n ⟨gp [(2,.ptr 0 0 0),(2,pS a),(3,pS authority1),(0,.ptr 1 0 0),(4,pI n2),(0,pI i3)] 170,[bU0,(bU a j g s6 h f i b c d e n14 n15 (-1) s16),(bH g s6 h f i b c d e n14 n15)],s⟩ k =
 Gb L n a authority1 n2 i3 j g s6 h f i b c d e n14 n15 s16 (λp=>k .ret ⟨gp [(2,.ptr 0 0 0),(0,pI 16)] 183,(bU0::p),s⟩) (λa r t m j g o h f i b c d e l=>k (.exit 4) ⟨gp [(2,.ptr 0 0 0),(2,pS a),(4,.ptr 1 0 0),(4,pI r)] 171,[bU0,(bU a t m j g o h f i b c d e (-1) l),(bH m j g o h f i b c d e)],s⟩):=by
 induction n generalizing a authority1 n2 i3 j g s6 h f i b c d e n14 n15 s16 with
 | zero=>rfl
 | succ n q=>rw[Gb];simp only[<-q];kernel_rfl
abbrev Kba(R:Type):=Int->By->By->Int->By->Int->Int->Int->Int->Int->Int->Int->Int->Int->Int->By->(List Blk)->Option R
def U7(L:Nat)(d b:By)(t:Int)(x y:By)(w:Kba R):Option R:=cond (J5 0 t b.length) (vl (cut b 0 t) λv=>cond (A2 v.length) (vl (E2 v) λa=>cond ((↑(a).2:Int)!=0) (w (↑(a).2:Int) e0 e0 0 e0 0 0 0 0 0 0 0 0 0 0 e0 [(bU d x 0 [] 0 0 0 0 0 0 0 0 0 (-1) y),(bH (hK a) (hN a) (hV a) (hA a 0) (hA a 1) (hA a 2) (hA a 3) (hA a 4) (hA a 5) (hA a 6) (hA a 7))]) (vl (A1 (t+1)) λA=>cond (ltI A (b.length:Int)) (vl (A1 (t+1)) λB=>Gb L L d b 0 B x (hK a) (hN a) (hV a) (hA a 0) (hA a 1) (hA a 2) (hA a 3) (hA a 4) (hA a 5) (hA a 6) (hA a 7) y (λz=>w 16 e0 e0 0 e0 0 0 0 0 0 0 0 0 0 0 e0 z) (λc u q e p f g h i j l m n o r=>cond (ltI 65535 u) (w 16 e0 e0 0 e0 0 0 0 0 0 0 0 0 0 0 e0 [(bU c q e p f g h i j l m n o (-1) r),(bH e p f g h i j l m n o)]) (cond (u==(V4 c)) (w 0 c q e p f g h i j l m n o (-1) r [(bU c q e p f g h i j l m n o (-1) r),(bH e p f g h i j l m n o)]) (w 0 c q e p f g h i j l m n o u r [(bU c q e p f g h i j l m n o u r),(bH e p f g h i j l m n o)])))) (cond (((-1):Int)==(V4 d)) (w 0 d x (hK a) (hN a) (hV a) (hA a 0) (hA a 1) (hA a 2) (hA a 3) (hA a 4) (hA a 5) (hA a 6) (hA a 7) (-1) y [(bU d x (hK a) (hN a) (hV a) (hA a 0) (hA a 1) (hA a 2) (hA a 3) (hA a 4) (hA a 5) (hA a 6) (hA a 7) (-1) y),(bH (hK a) (hN a) (hV a) (hA a 0) (hA a 1) (hA a 2) (hA a 3) (hA a 4) (hA a 5) (hA a 6) (hA a 7))]) (w 0 d x (hK a) (hN a) (hV a) (hA a 0) (hA a 1) (hA a 2) (hA a 3) (hA a 4) (hA a 5) (hA a 6) (hA a 7) (-1) y [(bU d x (hK a) (hN a) (hV a) (hA a 0) (hA a 1) (hA a 2) (hA a 3) (hA a 4) (hA a 5) (hA a 6) (hA a 7) (-1) y),(bH (hK a) (hN a) (hV a) (hA a 0) (hA a 1) (hA a 2) (hA a 3) (hA a 4) (hA a 5) (hA a 6) (hA a 7))])))) none) none
abbrev Wt(b:Code):Prop:=∀(k:Out->St W->Option R) name0 authority1 end2 b3 a s5,C3 (L2 L) Q Y b ⟨gp [(2,.ptr 0 0 0),(2,pS name0),(3,pS authority1),(0,.ptr 1 0 0),(1,pI end2),(114,pB b3)] 59,[bU0,(bU name0 a 0 [] 0 0 0 0 0 0 0 0 0 (-1) s5)],s⟩ k=U7 L name0 authority1 end2 a s5 (λn0 q r l a m n o i p d e f g h j c=>k .ret ⟨gp [(2,.ptr 0 0 0),(0,pI n0)] 183,((bU q r l a m n o i p d e f g h j)::c),s⟩)
def FQ:Wt (R:=R) L Q Y s (cd [1,1,1,1,1,1,1,1,1,1,1,1,1,1] N7):=by intro k c b e j h i;unfold U7;exact(j4 (by kernel_rfl) (A0 (A6 λg=>(A0 (A6 λa=>(A0 rfl (A6 λf=>(A0 (A6 λd=>(ag (FT L Q Y s (F2 4 (F6 (L2 L) Q Y (cd [1,1,1,1,1,1,1,1,1,1,1,1,1,1,1,1,1,0,1,0,1,1] N7) (F6 (L2 L) Q Y (cd [1,1,1,1,1,1,1,1,1,1,1,1,1,1,1,1,1,1] N7) k))) L c b 0 d h (hK a) (hN a) (hV a) (hA a 0) (hA a 1) (hA a 2) (hA a 3) (hA a 4) (hA a 5) (hA a 6) (hA a 7) i))) (A0 rfl rfl))))) rfl)) rfl))
def Ms(L:Nat)(p c:By)(u:Int)(A B:By)(x:Kba R):Option R:=cond (J5 0 u c.length) (vl (cut c 0 u) λv=>cond (A2 v.length) (vl (E2 v) λa=>cond ((↑(a).2:Int)!=0) (x (↑(a).2:Int) e0 e0 0 e0 0 0 0 0 0 0 0 0 0 0 e0 [(bU p A 0 [] 0 0 0 0 0 0 0 0 0 (-1) B),(bH (hK a) (hN a) (hV a) (hA a 0) (hA a 1) (hA a 2) (hA a 3) (hA a 4) (hA a 5) (hA a 6) (hA a 7))]) (vl (A1 (u+1)) λy=>cond (ltI y (c.length:Int)) (vl (A1 (u+1)) λz=>Gb L L p c 0 z A (hK a) (hN a) (hV a) (hA a 0) (hA a 1) (hA a 2) (hA a 3) (hA a 4) (hA a 5) (hA a 6) (hA a 7) B (λw=>x 16 e0 e0 0 e0 0 0 0 0 0 0 0 0 0 0 e0 w) (λb t q d o e f g h i j l m n r=>cond (ltI 65535 t) (x 16 e0 e0 0 e0 0 0 0 0 0 0 0 0 0 0 e0 [(bU b q d o e f g h i j l m n (-1) r),(bH d o e f g h i j l m n)]) (cond (t==(V4 b)) (x 0 b q d o e f g h i j l m n (-1) r [(bU b q d o e f g h i j l m n (-1) r),(bH d o e f g h i j l m n)]) (x 0 b q d o e f g h i j l m n t r [(bU b q d o e f g h i j l m n t r),(bH d o e f g h i j l m n)])))) (cond (((-1):Int)==(V4 p)) (x 0 p A (hK a) (hN a) (hV a) (hA a 0) (hA a 1) (hA a 2) (hA a 3) (hA a 4) (hA a 5) (hA a 6) (hA a 7) (-1) B [(bU p A (hK a) (hN a) (hV a) (hA a 0) (hA a 1) (hA a 2) (hA a 3) (hA a 4) (hA a 5) (hA a 6) (hA a 7) (-1) B),(bH (hK a) (hN a) (hV a) (hA a 0) (hA a 1) (hA a 2) (hA a 3) (hA a 4) (hA a 5) (hA a 6) (hA a 7))]) (x 0 p A (hK a) (hN a) (hV a) (hA a 0) (hA a 1) (hA a 2) (hA a 3) (hA a 4) (hA a 5) (hA a 6) (hA a 7) (-1) B [(bU p A (hK a) (hN a) (hV a) (hA a 0) (hA a 1) (hA a 2) (hA a 3) (hA a 4) (hA a 5) (hA a 6) (hA a 7) (-1) B),(bH (hK a) (hN a) (hV a) (hA a 0) (hA a 1) (hA a 2) (hA a 3) (hA a 4) (hA a 5) (hA a 6) (hA a 7))])))) none) none
abbrev Wu(b:Code):Prop:=∀(k:Out->St W->Option R) name0 authority1 end2 b3 a s5,C3 (L2 L) Q Y b ⟨gp [(2,.ptr 0 0 0),(2,pS name0),(3,pS authority1),(0,.ptr 1 0 0),(1,pI end2),(95,pB b3)] 78,[bU0,(bU name0 a 0 [] 0 0 0 0 0 0 0 0 0 (-1) s5)],s⟩ k=Ms L name0 authority1 end2 a s5 (λn0 q r l a m n o i p d e f g h j c=>k .ret ⟨gp [(2,.ptr 0 0 0),(0,pI n0)] 183,((bU q r l a m n o i p d e f g h j)::c),s⟩)
def FR:Wu (R:=R) L Q Y s (cd [1,1,1,1,1,1,1,1,1,1,1,1,1,1] N7):=by intro k d b f j h i;unfold Ms;exact(j4 (by kernel_rfl) (A0 (A6 λg=>(A0 (A6 λa=>(A0 rfl (A6 λe=>(A0 (A6 λc=>(ag (FT L Q Y s (F2 4 (F6 (L2 L) Q Y (cd [1,1,1,1,1,1,1,1,1,1,1,1,1,1,1,1,1,0,1,0,1,1] N7) (F6 (L2 L) Q Y (cd [1,1,1,1,1,1,1,1,1,1,1,1,1,1,1,1,1,1] N7) k))) L d b 0 c h (hK a) (hN a) (hV a) (hA a 0) (hA a 1) (hA a 2) (hA a 3) (hA a 4) (hA a 5) (hA a 6) (hA a 7) i))) (A0 rfl rfl))))) rfl)) rfl))
def Ja(L:Nat)(v b O:By)(A:Kba R):Option R:=vl (A1 ((b.length:Int)-1)) λC=>Aq L L v b C O (λg a r t=>cond (A2 a.length) (vl (↑(T8 a ([58]:By)):Int) λq=>cond (not (a==e0)) (cond (inR 0 a.length) (vl (bAt a (0:Int)) λD=>Du g a q (D==91) r t (λB=>A 4 e0 e0 0 e0 0 0 0 0 0 0 0 0 0 0 e0 B) (λm e o M F G=>U7 L m e o F G A) (λn f p N H I=>Ms L n f p H I A)) none) (Du g a q false r t (λu=>A 4 e0 e0 0 e0 0 0 0 0 0 0 0 0 0 0 e0 u) (λh c j J w x=>U7 L h c j w x A) (λi d l K y z=>Ms L i d l y z A))) none)
abbrev Wv(b:Code):Prop:=∀(k:Out->St W->Option R) name0 authority1 a,C3 (L2 L) Q Y b ⟨gp [(2,.ptr 0 0 0),(2,pS name0),(3,pS authority1),(0,.ptr 1 0 0)] 176,[bU0,(bU name0 [] 0 [] 0 0 0 0 0 0 0 0 0 (-1) a)],s⟩ k=Ja L name0 authority1 a (λn0 q a l r m n o i p d e f g h j c=>k .ret ⟨gp [(2,.ptr 0 0 0),(0,pI n0)] 183,((bU q a l r m n o i p d e f g h j)::c),s⟩)
def Ax8(b:Code)(d:Ws (R:=R) L Q Y s b)(a:Code)(e:Wt (R:=R) L Q Y s a)(f:Wu (R:=R) L Q Y s a):Wv (R:=R) L Q Y s (cd [1,1,1,1,1,1,1,1,1,1,1] (Q9 [1,1,1,1,1,1,1,1,1,1,1,1,1,1] a (Q9 [1,1,1,1,1,1,1,1,1,1,1,1,1,0,1] b N7))):=by intro k B l T;unfold Ja;exact let S:=(F6 (L2 L) Q Y a k);(j4 (by kernel_rfl) (A6 λJ=>((FS L Q Y s (F2 2 (F6 (L2 L) Q Y (cd [1,1,1,1,1,1,1,1,1,1,1,1] (Q9 [1,1,1,1,1,1,1,1,1,1,1,1,1,1] a (Q9 [1,1,1,1,1,1,1,1,1,1,1,1,1,0,1] b N7))) k)) L B l J T).trans (congr rfl (fx4 λm c x y=>(j4 (by kernel_rfl) (A0 (A6 λw=>(A0 (A0 (A6 λK=>((d S m c w (K==91) x y).trans (congr (congr (congr rfl (by kernel_rfl)) (fx6 λr i u H M N=>(j4 (by kernel_rfl) (ag (e k r i u H M N))))) (fx6 λt j v I O P=>(j4 (by kernel_rfl) (ag (f k t j v I O P))))))) rfl) ((d S m c w false x y).trans (congr (congr (congr rfl (by kernel_rfl)) (fx6 λn g p z C D=>(j4 (by kernel_rfl) (ag (e k n g p z C D))))) (fx6 λo h q A F G=>(j4 (by kernel_rfl) (ag (f k o h q A F G)))))))) rfl)))))))
def Ax9:Wv (R:=R) L Q Y s (cd [1,1,1,1,1,1,1,1,1,1,1] N7):=by intro k b a c;exact j4 (by kernel_rfl) (Ax8 L Q Y s (cd [1,1,1,1,1,1,1,1,1,1,1,1,1,0,1] N7) (FP L Q Y s) (cd [1,1,1,1,1,1,1,1,1,1,1,1,1,1] N7) (FQ L Q Y s) (FR L Q Y s) k b a c)
def NU(L:Nat)(y z b:By)(J:Kba R):Option R:=vl (A1 ((b.length:Int)-1)) λw=>Aq L L y b w z (λg a r t=>cond (A2 a.length) (vl (↑(T8 a ([58]:By)):Int) λq=>cond (not (a==e0)) (cond (inR 0 a.length) (vl (bAt a (0:Int)) λx=>Du g a q (x==91) r t (λu=>J 4 e0 e0 0 e0 0 0 0 0 0 0 0 0 0 0 e0 u) (λh c m K A B=>U7 L h c m A B J) (λi d n M C D=>Ms L i d n C D J)) none) (Du g a q false r t (λv=>J 4 e0 e0 0 e0 0 0 0 0 0 0 0 0 0 0 e0 v) (λj e o N F G=>U7 L j e o F G J) (λl f p O H I=>Ms L l f p H I J))) none)
abbrev Ww(b:Code):Prop:=∀(k:Out->St W->Option R) name0 rest1 authority2 b3,C3 (L2 L) Q Y b ⟨gp [(2,.ptr 0 0 0),(2,pS name0),(0,pS rest1),(2,pS authority2),(0,.ptr 1 0 0),(66,pB b3)] 109,[bU0,(bU name0 [] 0 [] 0 0 0 0 0 0 0 0 0 (-1) rest1)],s⟩ k=NU L name0 rest1 authority2 (λn0 p q j r l m n h o c d e f g i a=>k .ret ⟨gp [(2,.ptr 0 0 0),(0,pI n0)] 183,((bU p q j r l m n h o c d e f g i)::a),s⟩)
def Ay1(b:Code)(d:Ws (R:=R) L Q Y s b)(a:Code)(e:Wt (R:=R) L Q Y s a)(f:Wu (R:=R) L Q Y s a):Ww (R:=R) L Q Y s (cd [1,1,1,1,1,1,1,1,1,1,1] (Q9 [1,1,1,1,1,1,1,1,1,1,1,1,1,1] a (Q9 [1,1,1,1,1,1,1,1,1,1,1,1,1,0,1] b N7))):=by intro k G H m U;unfold NU;exact let T:=(F6 (L2 L) Q Y a k);(j4 (by kernel_rfl) (A6 λD=>((FS L Q Y s (F2 2 (F6 (L2 L) Q Y (cd [1,1,1,1,1,1,1,1,1,1,1,1] (Q9 [1,1,1,1,1,1,1,1,1,1,1,1,1,1] a (Q9 [1,1,1,1,1,1,1,1,1,1,1,1,1,0,1] b N7))) k)) L G m D H).trans (congr rfl (fx4 λl c x y=>(j4 (by kernel_rfl) (A0 (A6 λw=>(A0 (A0 (A6 λF=>((d T l c w (F==91) x y).trans (congr (congr (congr rfl (by kernel_rfl)) (fx6 λn g r z I J=>(j4 (by kernel_rfl) (ag (e k n g r z I J))))) (fx6 λo h t A K M=>(j4 (by kernel_rfl) (ag (f k o h t A K M))))))) rfl) ((d T l c w false x y).trans (congr (congr (congr rfl (by kernel_rfl)) (fx6 λp i u B N O=>(j4 (by kernel_rfl) (ag (e k p i u B N O))))) (fx6 λq j v C P S=>(j4 (by kernel_rfl) (ag (f k q j v C P S)))))))) rfl)))))))
def Ay2:Ww (R:=R) L Q Y s (cd [1,1,1,1,1,1,1,1,1,1,1] N7):=by intro k b c a d;exact j4 (by kernel_rfl) (Ay1 L Q Y s (cd [1,1,1,1,1,1,1,1,1,1,1,1,1,0,1] N7) (FP L Q Y s) (cd [1,1,1,1,1,1,1,1,1,1,1,1,1,1] N7) (FQ L Q Y s) (FR L Q Y s) k b c a d)
def Ru(L:Nat)(s0:By)(k0:Kaj R):Option R:=Ga L L s0 0 (λb3=>k0 e0 e0 0 e0 0 0 0 0 0 0 0 0 0 0 e0 4 (bU0::b3)) (λa=>cond (A2 a.length) (cond (not (((Fb a)).2).2) (k0 e0 e0 0 e0 0 0 0 0 0 0 0 0 0 0 e0 15 [bU0]) (cond (not (D2 ((Fb a)).1)) (k0 ((Fb a)).1 e0 0 e0 0 0 0 0 0 0 0 0 0 (-1) (((Fb a)).2).1 0 [(bU (((Fb a)).1) e0 (0:Int) e0 (0:Int) (0:Int) (0:Int) (0:Int) (0:Int) (0:Int) (0:Int) (0:Int) (0:Int) ((-1):Int) ((((Fb a)).2).1))]) (cond (ltI (↑(j7 (((Fb a)).2).1):Int) (2:Int)) (k0 e0 e0 0 e0 0 0 0 0 0 0 0 0 0 0 e0 4 [bU0]) (cond (J5 0 (2:Int) (j7 (((Fb a)).2).1)) (vl (cut (((Fb a)).2).1 (0:Int) (2:Int)) λb4=>cond (not (b4==[47,47])) (k0 e0 e0 0 e0 0 0 0 0 0 0 0 0 0 0 e0 4 [bU0]) (cond (J5 2 (↑(j7 (((Fb a)).2).1):Int) (j7 (((Fb a)).2).1)) (vl (cut (((Fb a)).2).1 (2:Int) (↑(j7 (((Fb a)).2).1):Int)) λb=>cond (A2 b.length) (vl (↑(T8 b ([47,63,35]:By)):Int) λd=>cond (J5 0 d b.length) (cond (J5 d (b.length:Int) b.length) (vl (cut b d (b.length:Int)) λc=>cond (c==e0) (cond (F7 1 c.length) (vl (([47]:By)++c) λb1=>Ja L ((Fb a)).1 (cut b 0 d) b1 (λa8 P S e T f g h i j l m n o p U a5=>k0 P S e T f g h i j l m n o p U a8 ((bU P S e T f g h i j l m n o p U)::a5))) none) (cond (inR 0 c.length) (cond ((bAt c (0:Int))!=47) (cond (F7 1 c.length) (vl (([47]:By)++c) λb2=>Ja L ((Fb a)).1 (cut b 0 d) b2 (λa9 V X q Z r t u v w x y z A B a0 a6=>k0 V X q Z r t u v w x y z A B a0 a9 ((bU V X q Z r t u v w x y z A B a0)::a6))) none) (NU L ((Fb a)).1 c (cut b 0 d) (λb0 a1 a2 C a3 D F G H I J K M N O a4 a7=>k0 a1 a2 C a3 D F G H I J K M N O a4 b0 ((bU a1 a2 C a3 D F G H I J K M N O a4)::a7)))) none)) none) none) none) none)) none)))) none)
def C74(a:Code)(b:Wv (R:=PV × List Blk × W) L Q Y s a)(c:Ww (R:=PV × List Blk × W) L Q Y s a)(t:By):C3 (L2 L) Q Y (cd [] (Q9 [1,1,1,1,1,1,1,1,1,1,1] a N7)) ⟨[pS t]++tps 186,[],s⟩ (I8 (L2 L) ah4)=Ru L t (λu v w x y z A B r8 C m n o p q r l=>some (.tup [(gU u v w x y z A B r8 C m n o p q),pI r],l,s)):=by unfold Ru;exact let j:=(I8 (L2 L) ah4);(j4 (by kernel_rfl) ((Ay3 L Q Y s (F2 0 (F6 (L2 L) Q Y (cd [1,1] (Q9 [1,1,1,1,1,1,1,1,1,1,1] a N7)) j)) L t 0).trans (congr (congr rfl (by kernel_rfl)) (fx1 λe=>(j4 (by kernel_rfl) (A0 (A0 rfl (A0 rfl (A0 rfl (A0 (A6 λD=>(A0 rfl (A0 (A6 λf=>(A0 (A6 λd=>(A0 (A0 (A6 λi=>(A0 (A0 (A6 λg=>(ag (b j ((Fb e)).1 (cut f 0 d) g))) rfl) (A0 (A0 (A0 (A6 λh=>(ag (b j ((Fb e)).1 (cut f 0 d) h))) rfl) (ag (c j ((Fb e)).1 i (cut f 0 d) ((bAt i (0:Int))!=47)))) rfl))) rfl) rfl)) rfl)) rfl))) rfl)))) rfl))))))
def C75(d:Nat)(s0):evC (L2 L) (d+1) W Y 36 [pS s0] [] s=Ru L s0 (λi j l m n o p q r8 r b c e f g h a=>some (.tup [(gU i j l m n o p q r8 r b c e f g),pI h],a,s)):=
 (evE (fn:=ah4) (by kernel_rfl)).trans (j4 (by kernel_rfl) (C74 L (evC (L2 L) d) Y s (cd [1,1,1,1,1,1,1,1,1,1,1] N7) (Ax9 L (evC (L2 L) d) Y s) (Ay2 L (evC (L2 L) d) Y s) s0))
noncomputable def RC(L:Nat):=mkC L 18 [] [(3,[2,0]),(2,[2,0]),(1,[0,1,3]),(0,[0,1])] [] [2,0] [(36,WS)]
def HN(L:Nat)(b:By)(c:Kaj R):Option R:=cond (ltI 2048 (b.length:Int)) (c e0 e0 0 e0 0 0 0 0 0 0 0 0 0 0 e0 3 [bU0]) (cond (A2 b.length) (vl (D3 b) λa=>c (uS a) (uU a) (uK a) (uN a) (uV a) (uA a 0) (uA a 1) (uA a 2) (uA a 3) (uA a 4) (uA a 5) (uA a 6) (uA a 7) (uP a) (uR a) (uE a) [(bQ a)]) none)
def Bo2(d:Nat)(s0):evC (RC L) (d+1) W Y 18 [pS s0] [] s=HN L s0 (λi j l m n o p q r8 r b c e f g h a=>some (.tup [(gU i j l m n o p q r8 r b c e f g),pI h],a,s)):=evT Tryz.f18 λQ=>by
 unfold HN;kernel_rfl
noncomputable def Am5(L:Nat):=mkC L 78 [] [(11,[2]),(8,[1,1]),(10,[1,1]),(9,[1,1,37]),(7,[1,1,28]),(6,[1,1]),(5,[1,1]),(4,[1,1,15]),(3,[1,1]),(2,[2]),(1,[1,5]),(0,[1])] [] [2] [(20,Xl),(23,WJ),(81,HX)] [20,23,81]
def Xc(L:Nat)(j t:By)(u:Int)(m:By)(n o p q u8 r e f g c:Int)(a:By)(z:By->(List Blk)->Option R):Option R:=cond (not (D2 j)) (cond (F7 j.length 1) (vl (j++[58]) λA=>cond (F7 A.length a.length) (z (A++a) [(bU j t u m n o p q u8 r e f g c a)]) none) none) (cond (F7 j.length 3) (vl (j++[58,47,47]) λb=>cond (not (t==e0)) (cond (F7 t.length 1) (vl (t++[64]) λh=>cond (F7 b.length h.length) (cond (A2 m.length) (cond (ltN n 4294967296) (cond (ok8 o p q u8 r e f g) (vl (Y7 (mkH u m n (n8 o p q u8 r e f g))) λi=>cond (F7 (j7 (b++h)) i.length) (cond (not (ltI c 0)) (cond (ltN c 9223372036854775808) (vl (ah6 (j0 c)) λD=>cond (F7 1 D.length) (vl (([58]:By)++D) λF=>cond (F7 (j7 ((b++h)++i)) F.length) (vl (((b++h)++i)++F) λv=>cond (F7 v.length a.length) (z (v++a) [(bU j t u m n o p q u8 r e f g c a)]) none) none) none) none) (cond (ltI c ((-1):Int)) (cond (F7 (j7 ((b++h)++i)) 2) (vl (((b++h)++i)++[58,120]) λw=>cond (F7 w.length a.length) (z (w++a) [(bU j t u m n o p q u8 r e f g c a)]) none) none) (cond (F7 (j7 ((b++h)++i)) a.length) (vl (((b++h)++i)++a) λB=>z B [(bU j t u m n o p q u8 r e f g c a)]) none))) none) none) none) none) none) none) (cond (A2 m.length) (cond (ltN n 4294967296) (cond (ok8 o p q u8 r e f g) (vl (Y7 (mkH u m n (n8 o p q u8 r e f g))) λd=>cond (F7 b.length d.length) (cond (not (ltI c 0)) (cond (ltN c 9223372036854775808) (vl (ah6 (j0 c)) λx=>cond (F7 1 x.length) (vl (([58]:By)++x) λl=>cond (F7 (j7 (b++d)) l.length) (cond (F7 (j7 ((b++d)++l)) a.length) (vl (((b++d)++l)++a) λC=>z C [(bU j t u m n o p q u8 r e f g c a)]) none) none) none) none) (cond (ltI c ((-1):Int)) (cond (F7 (j7 (b++d)) 2) (vl ((b++d)++[58,120]) λy=>cond (F7 y.length a.length) (z (y++a) [(bU j t u m n o p q u8 r e f g c a)]) none) none) (cond (F7 (j7 (b++d)) a.length) (z ((b++d)++a) [(bU j t u m n o p q u8 r e f g c a)]) none))) none) none) none) none)) none)
def Cl0(d:Nat)(u0 u1 u2 u3 u4 u5 u6 u7 u8 u9 u10 u11 u12 u13 u14):evC (Am5 L) (d+1) W Y 78 [(gU u0 u1 u2 u3 u4 u5 u6 u7 u8 u9 u10 u11 u12 u13 u14)] [] s=Xc L u0 u1 u2 u3 u4 u5 u6 u7 u8 u9 u10 u11 u12 u13 u14 (λb a=>some (pS b,a,s)):=evT Tryz.f78 λQ=>by
 unfold Xc;kernel_rfl
noncomputable def KX(L:Nat):=mkC L 38 [] [(2,[2]),(1,[1,1,0]),(0,[1])] [] [2] [(78,Aj1),(36,WS)] [78]
def Zq(L:Nat)(h i:By)(q:Int)(j:By)(l m n o u8 p b c d e:Int)(f:By)(r:Bool->(List Blk)->Option R):Option R:=cond (smU h i j f) (cond (ltN l 4294967296) (cond (ok8 m n o u8 p b c d) (cond (Eb e) (vl (Ji (mkU h i q j l (n8 m n o u8 p b c d) e f)) λg=>cond (A2 g.length) (vl (D3 g) λa=>cond ((uE a)==0) (r (((uS a)==h)&&(((uU a)==i)&&(((uK a)==q)&&(((uN a)==j)&&(((uV a)==l)&&(((uA a 0)==m)&&(((uA a 1)==n)&&(((uA a 2)==o)&&(((uA a 3)==u8)&&(((uA a 4)==p)&&(((uA a 5)==b)&&(((uA a 6)==c)&&(((uA a 7)==d)&&(((uP a)==e)&&(((uR a)==f)&&true))))))))))))))) [(bU h i q j l m n o u8 p b c d e f),(bQ a)]) (r false [(bU h i q j l m n o u8 p b c d e f),(bQ a)])) none) none) none) none) none
def Az9(d:Nat)(u0 u1 u2 u3 u4 u5 u6 u7 u8 u9 u10 u11 u12 u13 u14):evC (KX L) (d+1) W Y 38 [(gU u0 u1 u2 u3 u4 u5 u6 u7 u8 u9 u10 u11 u12 u13 u14)] [] s=Zq L u0 u1 u2 u3 u4 u5 u6 u7 u8 u9 u10 u11 u12 u13 u14 (λb a=>some (pB b,a,s)):=evT Tryz.f38 λQ=>by
 unfold Zq;kernel_rfl
end
def Az8{e:Bool->Option R}(s:By):Ad9 LF s e=e (D2 s):=by unfold Ad9 D2 Pt bWs Eg BW;generalize (s==([104,116,116,112]:By))=a;generalize (s==([119,115]:By))=b;generalize (s==([104,116,116,112,115]:By))=c;generalize (s==([119,115,115]:By))=d;cases a<;>cases b<;>cases c<;>cases d<;>rfl
def Bo7{e:Int->Option R}(s:By):B64 LF s e=e (V4 s):=by unfold B64 V4 Pt bWs Eg BW;generalize (s==([104,116,116,112]:By))=a;generalize (s==([119,115]:By))=b;generalize (s==([104,116,116,112,115]:By))=c;generalize (s==([119,115,115]:By))=d;cases a<;>cases b<;>cases c<;>cases d<;>rfl
def Mq(a b:UInt8):((a.toNat:Int)==(b.toNat:Int))=(a==b):=by rw[y5,beq_iff_eq,beq_iff_eq];exact⟨λh=>ab1.1 (by omega),λh=>by rw[h]⟩
def C73{a:Int->Option R}{b:By->By->Int->Option R}(s t:By)(i:Nat)(h:s.length<=1000000000)(k:t.length<=1000000000)(g:i<s.length):∀(r j n:Nat),j+r=t.length->r<n->
  Iy LF n s t (i:Int) (j:Int) a b=if (t.drop j).contains (s.getD i 0)=true then a (i:Int) else b s t (i:Int):=by
 intro r
 induction r with
 | zero=>
  intro j n d e;rcases n with _|n;omega
  rw[Iy];rw[A5,j8 (by omega)];rfl
 | succ r f=>
  intro j n d e;rcases n with _|n;omega
  have c:A1 ((j:Int)+1)=((j+1:Nat):Int):=ah
  rw[Iy];rw[A7,G2,G2,E1,E1,Mq,E6 t j (by omega),ac6,c];simp only[aa];rw[f (j+1) n (by omega) (by omega)];cases (s.getD i 0==t.getD j 0)<;>rfl
def Ck7{a:Int->Option R}{c:By->Option R}(s t:By)(j:s.length<=1000000000)(k:t.length<=1000000000):∀(r i n:Nat),i+r=s.length->r<n->
  Iz LF n s t (i:Int) a c=if T8 (s.drop i) t<r then a ((i+T8 (s.drop i) t:Nat):Int) else c s:=by
 have e:=C9;intro r
 induction r with
 | zero=>
  intro i n f g;rcases n with _|n;omega
  rw[Iz];rw[A5,I6];rfl
 | succ r l=>
  intro i n f g;rcases n with _|n;omega
  have d:A1 ((i:Int)+1)=((i+1:Nat):Int):=ah
  rw[Iz];rw[A7,aa];refine j4 (C73 s t i j k (by omega) t.length 0 LF (by omega) (by omega)) ?_;rw[p7,d,l (i+1) n (by omega) (by omega),E6 s i (by omega)];unfold T8;cases h:t.contains (s.getD i 0) with
  | true=>
   rw[ac rfl,aa0,h];rfl
  | false=>
   rw[ae (by simp),aa0,h];simp only[o6,if_true,o9,ad0];rw[show i+1+(ah2 (λb=>!t.contains b) (s.drop (i+1))).length=i+((ah2 (λb=>!t.contains b) (s.drop (i+1))).length+1) by omega]
def Ba3(s t:By):T8 s t<=s.length:=ai0 (List.takeWhile_sublist _)
def Bo0{a:Int->Option R}(s t:By)(b:A2 s.length=true)(c:A2 t.length=true):C71 LF s t a=a (T8 s t:Int):=by
 have e:=L4 b;have f:=L4 c;have d:=C9;have g:=Ba3 s t;refine(Ck7 s t e f s.length 0 LF (by omega) (by omega)).trans ?_;rw[p7,ac3];split
 ·rfl
 ·rw[show T8 s t=s.length by omega]
set_option maxHeartbeats 4000000 in theorem FX{R:Type}(s:By)(i:Nat)(b:UInt8)(f:By->Int->Option R)(g:Unit->Option R) :
  Bq s (i:Int) (b.toNat:Int) (λs i _=>f s i) g=if R9 b=true\/(i≠0/\Q7 b=true) then f s i else g ():=by
 have a:(b=43)=(b.toNat=43):=by rw[eq_iff_iff,<-ab1];rfl
 have d:(b=45)=(b.toNat=45):=by rw[eq_iff_iff,<-ab1];rfl
 have e:(b=46)=(b.toNat=46):=by rw[eq_iff_iff,<-ab1];rfl
 simp only[X8,Ka,a,d,e];unfold Bq Jd Zp Mv Jc Mu Jb;generalize b.toNat=c;simp only[cond_eq_ite,ab4,Rj,beq_iff_eq,Bool.not_eq_false',Of,beq_eq_false_iff_ne,o5,o6,ac5,Bool.true_eq_false,if_true,if_false,ne_eq]
 repeat' split
 all_goals first|rfl|(exfalso;omega)
def Ag2{c:UInt8}:∀{p:By},c∉p->p.takeWhile (λb=>b !=c)=p
 | [],_=>rfl
 | b::p,h=>by
  simp only[ab9,not_or] at h;rw[aa0,ac (by simpa using ai3 h.1),Ag2 h.2]
def Da4{c:UInt8}{p:By}(r:By)(h:c∉p):(p++c::r).takeWhile (λb=>b !=c)=p:=by
 rw[List.takeWhile_append_of_pos (λx a=>by
  rw[bne_iff_ne];intro e;subst e;exact h a),aa0,ae (by simp),List.append_nil]
def Eg1{c b:UInt8}(r:By)(h:b≠c):(b::r).takeWhile (λb=>b !=c)=b::r.takeWhile λb=>b !=c:=by rw[aa0,ac (by simpa using h)]
def Cv2(b:UInt8):((b.toNat:Int)==58)=(b==58):=Mq b 58
def Bo5{c:By->By->Bool->Option R}(s:By)(q:s.length<=1000000000):∀(r i n:Nat),1<=i->i+r=s.length->r<n->
  Q2 LF n s (i:Int) c (λ_=>c [] [] false)=if ((s.drop i).takeWhile λb=>b !=58).all Q7=true/\((s.drop i).takeWhile λb=>b !=58).length<r then c (C6 (s.take (i+((s.drop i).takeWhile λb=>b !=58).length))) (s.drop (i+((s.drop i).takeWhile λb=>b !=58).length+1)) true else c [] [] false:=by
 intro r
 induction r with
 | zero=>
  intro i n k l o;rcases n with _|n;omega
  rw[Q2];rw[A5,I6];rfl
 | succ r p=>
  intro i n k l o;rcases n with _|n;omega
  have g:A1 ((i:Int)+1)=((i+1:Nat):Int):=ah
  rw[Q2];unfold Mt;rw[A7,G2,E1,E6 s i (by omega),Cv2,A7];simp only[aa,ab];by_cases a:s.getD i 0=58
  ·rw[a,show((58:UInt8)==58)=true from rfl,aa,show((58:UInt8)::s.drop (i+1)).takeWhile (λb=>b !=58)=[] from rfl,ac ⟨rfl,by simp⟩];simp only[vl];rw[K2,M8,j5,D5 (by rw[o7];omega),g,K2,R7,j5];rfl
  ·rw[show(s.getD i 0==58)=false by simpa using a,ab,Eg1 _ a];simp only[vl];refine(FX s i (s.getD i 0) (λf e=>Q2 LF n f (A1 (e+1)) c λ_=>c [] [] false) (λ_=>c [] [] false)).trans ?_;rw[g,p (i+1) n (by omega) (by omega) (by omega),af0,o9];have j:(R9 (s.getD i 0)=true\/i≠0/\Q7 (s.getD i 0)=true)↔Q7 (s.getD i 0)=true:=by
    refine⟨λh=>?_,λh=>.inr ⟨by omega,h⟩⟩;rcases h with h|⟨_,h⟩
    ·rw[Ka];rw[X8] at h;exact h.elim .inl λh=>.inr (.inl h)
    ·exact h
   by_cases d:Q7 (s.getD i 0)=true
   ·rw[ac (j.2 d)];simp only[d,w6,ad0];rw[show i+1+((s.drop (i+1)).takeWhile λb=>b !=58).length=i+(((s.drop (i+1)).takeWhile λb=>b !=58).length+1) by omega]
   ·rw[ae (λh=>d (j.1 h)),ae (λh=>d (by have:=h.1;rw[s8] at this;exact this.1))]
def Bo6{a:By->By->Bool->Option R}(s:By)(n:A2 s.length=true):Ay7 LF s a=a (Fb s).1 (Fb s).2.1 (Fb s).2.2:=by
 have u:=L4 n;have o:=C9;obtain⟨N,hN⟩:∃m,LF=m+1:=⟨LF-1,by omega⟩
 unfold Ay7;rw[show Q2 LF LF = @Q2 R LF (N+1) by rw[<-hN],Q2];unfold Mt;cases s with
 | nil=>
  rfl
 | cons b r=>
  rw[o9] at u;rw[C5 (by simp only[o9];omega),G9 (by omega) (by simp),Bk,ac2,Cv2,A5];simp only[aa,ab,vl];have l:A1 (((0:Nat):Int)+1)=((1:Nat):Int):=rfl;have go:Bq (b::r) ((0:Nat):Int) (b.toNat:Int) (λe d _=>Q2 LF N e (A1 (d+1)) a λ_=>a [] [] false) (λ_=>a [] [] false)=if R9 b=true/\(r.takeWhile λb=>b !=58).all Q7=true/\(r.takeWhile λb=>b !=58).length<r.length then a (C6 ((b::r).take (1+(r.takeWhile λb=>b !=58).length))) ((b::r).drop (1+(r.takeWhile λb=>b !=58).length+1)) true else a [] [] false:=by
   refine(FX (b::r) 0 b (λe d=>Q2 LF N e (A1 (d+1)) a λ_=>a [] [] false) (λ_=>a [] [] false)).trans ?_;rw[l,Bo5 (b::r) (by simp;omega) r.length 1 N (by omega) (by simp;omega) (by omega)];by_cases j:R9 b=true
   ·rw[ac (.inl j)];simp only[j,true_and];rfl
   ·rw[ae (by simp[j]),ae (λh=>j h.1)]
  have k:∀c,(bif c then Bq (b::r) 0 (b.toNat:Int) (λe d _=>Q2 LF N e (A1 (d+1)) a λ_=>a [] [] false) (λ_=>a [] [] false) else Bq (b::r) 0 (b.toNat:Int) (λe d _=>Q2 LF N e (A1 (d+1)) a λ_=>a [] [] false) (λ_=>a [] [] false))=Bq (b::r) ((0:Nat):Int) (b.toNat:Int) (λe d _=>Q2 LF N e (A1 (d+1)) a λ_=>a [] [] false) (λ_=>a [] [] false):=λc=>by cases c<;>rfl
  refine(k _).trans (go.trans ?_);unfold Fb;rcases V0 58 r with f|⟨p,t,rfl,f⟩
  ·rw[Ag2 f,I6];by_cases i:b=58
   ·subst i;rw[show ac9 (58::r) [58]=([],r,true) from Ak (p:=[]) (by simp)];rfl
   ·rw[Ly (by simp only[ab9,not_or];exact⟨ai3 i,f⟩)];rfl
  ·rw[Da4 t f];by_cases i:b=58
   ·subst i;rw[show ac9 (58::(p++58::t)) [58]=([],p++58::t,true) from Ak (p:=[]) (by simp),ae (λh=>by cases h.1)];rfl
   ·rw[show ac9 (b::(p++58::t)) [58]=(b::p,t,true) from Ak (p:=b::p) (by simp only[ab9,not_or];exact⟨ai3 i,f⟩)];simp only[w6];have q:Ae (b::p)=(R9 b&&p.all Q7):=rfl;rw[q];by_cases g:R9 b=true/\p.all Q7=true
    ·rw[ac ⟨g.1,g.2,by simp⟩,g.1,g.2,show(b::(p++58::t))=(b::p)++58::t from rfl,show 1+p.length=(b::p).length by rw[o9];omega,ae2,show(b::p)++58::t=((b::p)++[58])++t by simp,ad8 (by simp)];rfl
    ·rw[ae (λh=>g ⟨h.1,h.2.1⟩),ae (by simpa using g)]
def PL:Int->By->Option Int
 | n,[]=>some n
 | n,b::r=>if 48<=b.toNat/\b.toNat<=57 then PL (min (n*10+((b.toNat-48:Nat):Int)) 1048576) r else none
def As9:∀(l:By) (n v:Int),0<=v->v<=65536->n<=1048576->(v<65536->n=v)->(v=65536->65536<=n)->Kv v l=(PL n l).bind λm=>if 65535<m then none else some m
 | [],n,v,d,e,f,c,g=>by
  unfold Kv PL;rw[ab6];by_cases h:v<65536
  ·rw[ac h,I6,c h]
  ·rw[ae h,W4]
 | b::r,n,v,d,e,f,c,g=>by
  unfold Kv PL;by_cases a:48<=b.toNat/\b.toNat<=57
  ·rw[ac a,ac a];exact As9 r _ _ (by omega) (by omega) (by omega) (by omega) (by omega)
  ·rw[ae a,ae a];rfl
def Be1(b:UInt8)(r:By):Kv (-1) (b::r)=Kv 0 (b::r):=rfl
def Av1:∀(l:By) (n m:Int),0<=n->n<=1048576->PL n l=some m->0<=m/\m<=1048576
 | [],n,m,a,c,h=>by
  obtain rfl:n=m:=ae0 h;exact⟨a,c⟩
 | b::r,n,m,a,c,h=>by
  unfold PL at h;split at h
  ·exact Av1 r _ m (by omega) (by omega) h
  ·cases h
def Ay6(q u t:By)(d:Int)(e:By)(f g h j k l o p c:Int)(a:By)(L:a.length<=1000000000)(w:List Blk->Option R)(x:Kcc R):∀(r i n:Nat) (v:Int),i+r=a.length->r<n->0<=v->v<=1048576->
  Gb LF n q a v (i:Int) u d e f g h j k l o p c t w x=match PL v (a.drop i) with
   | none=>w [bU q u d e f g h j k l o p c (-1) t,bH d e f g h j k l o p c]
   | some m=>x q m u d e f g h j k l o p c t:=by
 intro r
 induction r with
 | zero=>
  intro i n v I J D F;rcases n with _|n;omega
  rw[Gb];rw[A5,j8 (by omega)];rfl
 | succ r K=>
  intro i n v I J D F;rcases n with _|n;omega
  have y:A1 ((i:Int)+1)=((i+1:Nat):Int):=ah
  rw[Gb];rw[A7,G2,E1,E6 a i (by omega),y];have M:=(a.getD i 0).toNat_lt;generalize a.getD i 0=b at *;unfold PL;simp only[aa,vl];by_cases G:b.toNat<48
  ·rw[A7,aa,I6]
  ·rw[A5,ab];by_cases H:57<b.toNat
   ·rw[A7,aa,I6]
   ·rw[A5,ab,ac (show 48<=b.toNat/\b.toNat<=57 by omega)];have z:A1 (v*10)=v*10:=A4;have A:wu8 ((b.toNat:Int)-48)=((b.toNat-48:Nat):Int):=by rw[O4];omega
    have B:A1 ((b.toNat-48:Nat):Int)=((b.toNat-48:Nat):Int):=A4;have C:A1 (v*10+((b.toNat-48:Nat):Int))=v*10+((b.toNat-48:Nat):Int):=A4;rw[z,A,B,C,show(if (1048576:Int)<v*10+((b.toNat-48:Nat):Int) then (1048576:Int) else v*10+((b.toNat-48:Nat):Int))=min (v*10+((b.toNat-48:Nat):Int)) 1048576 by omega];exact K (i+1) n _ (by omega) (by omega) (by omega) (by omega)
abbrev KE(R:Type):=Int->By->By->Int->By->Int->Int->Int->Int->Int->Int->Int->Int->Int->Int->By->List Blk->Option R
abbrev RK(a:KE R)(q:X1 × Nat)(H:List Blk):Option R:=a (uE q) (uS q) (uU q) (uK q) (uN q) (uV q) (uA q 0) (uA q 1) (uA q 2) (uA q 3) (uA q 4) (uA q 5) (uA q 6) (uA q 7) (uP q) (uR q) H
def Jy(c l j a:By)(e:Nat)(p:a.length<=1000000000)(v:e<=a.length):∃H,∀(R:Type) (f:KE R),U7 LF c a (e:Int) l j f=RK f (hpT (a.take e) (a.drop e) c l j) H:=by
 have o:=C9;have n:A1 ((e:Int)+1)=((e+1:Nat):Int):=ah
 have k:A2 (a.take e).length=true:=D5 (by rw[o7];omega);by_cases h:(E2 (a.take e)).2=0
 ·by_cases r:e+1<a.length
  ·have i:(a.drop e).drop 1=a.drop (e+1):=by rw[ae1]
   have q:=E6 a (e+1) r;have t:Kv (-1) (a.drop (e+1))=(PL 0 (a.drop (e+1))).bind λm=>if 65535<m then none else some m:=by
    rw[q,Be1];exact As9 _ 0 0 (by omega) (by omega) (by omega) (by omega) (by omega)
   have w:=@Av1 (a.drop (e+1)) 0;generalize u:PL 0 (a.drop (e+1))=g at *;have cs:g=none\/(∃m,g=some m/\65535<m)\/(∃m,g=some m/\¬ 65535<m/\m=V4 c)\/∃m,g=some m/\¬ 65535<m/\m≠V4 c:=by
    cases g with
    | none=>exact .inl rfl
    | some m=>
     by_cases b:65535<m
     ·exact .inr (.inl ⟨m,rfl,b⟩)
     ·by_cases d:m=V4 c
      ·exact .inr (.inr (.inl ⟨m,rfl,b,d⟩))
      ·exact .inr (.inr (.inr ⟨m,rfl,b,d⟩))
   rcases cs with rfl|⟨m,rfl,b⟩|⟨m,rfl,b,d⟩|⟨m,rfl,b,d⟩
   all_goals
    apply x5;intro R f;unfold U7 hpT;rw[K2,M8,j5,i,t];simp only[vl,aa,k,h,n];rw[A7,Ay6 c l j _ _ _ _ _ _ _ _ _ _ _ a p _ _ (a.length-(e+1)) (e+1) LF 0 (by omega) (by omega) (by omega) (by omega),u]
   ·rfl
   ·simp only[ab6,ac b];rw[A7];rfl
   ·simp only[ab6,ae b,ac d];rw[A5,show(m==V4 c)=true by simpa using d];rfl
   ·simp only[ab6,ae b,ae d];rw[A5,show(m==V4 c)=false by simpa using d];rfl
  ·have i:(a.drop e).drop 1=[]:=by rw[ae1,j8 (by omega)]
   apply x5;intro R f;unfold U7 hpT;rw[K2,M8,j5,i];simp only[vl,aa,k,h,n];rw[A5];simp only[Kv,show((-1:Int)<65536)=True by simp,if_true,ite_self,show((((0:Nat):Int)!=0))=false from rfl,ab,ne_eq,not_true_eq_false,if_false];cases (-1:Int)==V4 c<;>rfl
 ·apply x5;intro R f;unfold U7 hpT;rw[K2,M8,j5];simp only[vl,aa,k];rw[show(((E2 (a.take e)).2:Int)!=0)=true by simpa using h,aa,ac h];rfl
def Dm2{c:UInt8}{a:By}(h:Im c a=none):c∉a:=λd=>by
 rcases V0 c a with b|⟨p,r,rfl,b⟩
 ·exact b d
 ·rw[Ar1 r b] at h;cases h
def Ap7(c:UInt8)(a:By):T8 a [c]=match Im c a with|some k=>k|none=>a.length:=by
 have e:T8 a [c]=(a.takeWhile λb=>b !=c).length:=by
  unfold T8
  congr 2
  funext b
  simp[ac6,bne];rfl
 rw[e];cases h:Im c a with
 | none=>rw[Ag2 (Dm2 h)]
 | some k=>
  obtain⟨p,r,rfl,d,rfl⟩:=Tj h;rw[Da4 r d]
def NT(c f d a:By)(w:a.length<=1000000000):∃H,∀(R:Type) (g:KE R),(cond (not (a==([]:By)))
   (cond (inR (0:Int) (j7 a))
   (Du c a (T8 a [58]:Int) (bAt a 0==(91:Int)) f d (λH=>RK g (Be,4) H) (λo t n y u v=>U7 LF o t n u v g) (λo t n y u v=>U7 LF o t n u v g))
   none)
   (Du c a (T8 a [58]:Int) false f d (λH=>RK g (Be,4) H) (λo t n y u v=>U7 LF o t n u v g) (λo t n y u v=>U7 LF o t n u v g)))=RK g (R2 c f d a) H:=by
 cases a with
 | nil=>
  obtain⟨H,e⟩:=Jy c f d [] 0 w (aa3 _);exact⟨H,e⟩
 | cons b r=>
  have F:(((b.toNat:Int))==91)=(b==91):=Mq b 91;have z:(!((b::r)==([]:By)))=true:=rfl;have G:inR (0:Int) (b::r).length=true:=G9 (by omega) (by simp);have A:A2 (b::r).length=true:=D5 w;rw[Ym];unfold Mo Du;simp only[z,G,A,aa,ab,vl,Bk,ac2,F,ag7,p5,Ap7];by_cases j:b=91
  ·rw[show(b==91)=true by simpa using j,ac j];simp only[aa];cases B:Im 93 (b::r) with
   | none=>
    apply x5;intro R g;simp only;rw[A4,A7];rfl
   | some k=>
    obtain⟨_,K⟩:=YY B;have C:A1 ((k:Int)+1)=((k+1:Nat):Int):=ah
    simp only[C];rw[A5];simp only[ab];obtain⟨H,e⟩:=Jy c f d (b::r) (k+1) w (by omega);by_cases I:k+1<(b::r).length
    ·rw[A7,G2];simp only[aa,E1];have m:=E6 (b::r) (k+1) I;by_cases i:(b::r).getD (k+1) 0=58
     ·have l:hpC ((b::r).take (k+1)) ((b::r).drop (k+1)) c f d=hpT ((b::r).take (k+1)) ((b::r).drop (k+1)) c f d:=ae (λh=>h.2 (by rw[m,i];rfl));rw[l];refine⟨H,λR g=>j4 ?_ (e R g)⟩;rw[i];rfl
     ·have l:hpC ((b::r).take (k+1)) ((b::r).drop (k+1)) c f d=(Be,4):=ac ⟨by rw[m];simp,by rw[m];simpa using i⟩;rw[l];apply x5;intro R g;rw[show((((b::r).getD (k+1) 0).toNat:Int)!=58)=true by rw[bne,Cv2];simpa using i];rfl
    ·have m:(b::r).drop (k+1)=[]:=j8 (by omega);rw[A5];have l:hpC ((b::r).take (k+1)) ((b::r).drop (k+1)) c f d=hpT ((b::r).take (k+1)) ((b::r).drop (k+1)) c f d:=ae (λh=>h.1 m);rw[l];exact⟨H,e⟩
  ·rw[show(b==91)=false by simpa using j,ae j];simp only[ab];cases B:Im 58 (b::r) with
   | none=>
    obtain⟨H,e⟩:=Jy c f d (b::r) (b::r).length w (aa3 _);rw[List.take_length,List.drop_length] at e;exact⟨H,e⟩
   | some k=>
    obtain⟨p,q,x,J,D⟩:=Tj B;obtain⟨H,e⟩:=Jy c f d (b::r) k w (by rw[x,p6];omega);have m:(b::r).drop k=58::q:=by rw[x,<-D,List.drop_left]
    have l:hpC ((b::r).take k) ((b::r).drop k) c f d=hpT ((b::r).take k) ((b::r).drop k) c f d:=ae (λh=>h.2 (by rw[m];rfl));refine⟨H,λR g=>(e R g).trans ?_⟩;show _=RK g (hpC _ _ c f d) H;rw[l]
def Ay5{c:Kdj R}(d a f:By)(l:a.length<=1000000000)(b:(64:UInt8)∉a):∀(j n:Nat),j<=a.length->j<n->Aq LF n d a ((j:Int)-1) f c=c d a [] f:=by
 intro j
 induction j with
 | zero=>
  intro n g i;rcases n with _|n;omega
  rw[Aq];rw[A7];rfl
 | succ j k=>
  intro n g i;rcases n with _|n;omega
  rw[Aq];have h:a.getD j 0≠64:=λe=>b (by
   rw[<-e,k9,o0 (by omega)];exact aa2 _)
  rw[show((j+1:Nat):Int)-1=(j:Int) by omega,A5,G2,E1,show(((a.getD j 0).toNat:Int)==64)=(a.getD j 0==64) from Mq _ 64,show(a.getD j 0==64)=false by simpa using h];simp only[o6,aa,ab];rw[E0 (n:=(j:Int)-1) (by omega) (by omega)];exact k n (by omega) (by omega)
def Ay4{b:Kdj R}(c p r d:By)(l:(p++64::r).length<=1000000000)(a:(64:UInt8)∉r):∀(k n:Nat),k<=r.length->p.length+k<n->Aq LF n c (p++64::r) ((p.length+k:Nat):Int) d b=b c r p d:=by
 have o:(p++64::r).length=p.length+r.length+1:=by rw[p6,o9];omega
 intro k
 induction k with
 | zero=>
  intro n g i;rcases n with _|n;omega
  have f:A1 ((p.length:Int)+1)=((p.length+1:Nat):Int):=ah
  rw[Aq];rw[af4,A5,G2,E1,show(p++64::r).getD p.length 0=64 by simp[k9]];simp only[vl,aa,o6];rw[K2,M8,j5,ae2,f,K2,R7,j5,show p++64::r=(p++[64])++r by simp,ad8 (by simp)];rfl
 | succ k j=>
  intro n g i;rcases n with _|n;omega
  rw[Aq];have h:(p++64::r).getD (p.length+(k+1)) 0≠64:=λe=>a (by
   rw[<-e,k9,v8 (by omega),show p.length+(k+1)-p.length=k+1 by omega,x4,o0 (by omega)];exact aa2 _)
  rw[A5,G2,E1,show((((p++64::r).getD (p.length+(k+1)) 0).toNat:Int)==64)=((p++64::r).getD (p.length+(k+1)) 0==64) from Mq _ 64,show((p++64::r).getD (p.length+(k+1)) 0==64)=false by simpa using h,show((p.length+(k+1):Nat):Int)-1=((p.length+k:Nat):Int) by omega];simp only[o6,aa,ab];rw[E0 (n:=((p.length+k:Nat):Int)) (by omega) (by omega)];exact j n (by omega) (by omega)
def Ay0(c d a:By)(f:a.length<=1000000000):∃H,∀(R:Type) (b:KE R),Ja LF c a d b=RK b (I9 c d a) H:=by
 have j:=C9;unfold I9;by_cases h:0<=M9 64 a
 ·obtain⟨p,r,rfl,g,k⟩:=MK h;rw[ac h,k,j5,ae2,show p++64::r=(p++[64])++r by simp,ad8 (by simp),show(p++[64])++r=p++64::r by simp];have m:(p++64::r).length=p.length+r.length+1:=by rw[p6,o9];omega
  obtain⟨H,e⟩:=NT c p d r (by omega);refine⟨H,λR b=>j4 ?_ (e R b)⟩;unfold Ja;simp only[vl];rw[A4,show((p++64::r).length:Int)-1=((p.length+r.length:Nat):Int) by omega,Ay4 c p r d f g r.length LF (aa3 _) (by omega),M5];rfl
 ·rw[ae h];have i:(64:UInt8)∉a:=λl=>by
   obtain⟨p,r,rfl,g⟩:=DJ l;rw[DI p g] at h;omega
  obtain⟨H,e⟩:=NT c [] d a f;refine⟨H,λR b=>j4 ?_ (e R b)⟩;unfold Ja;simp only[vl];rw[A4,Ay5 c a d f i a.length LF (aa3 _) (by omega),D5 f];rfl
def Bo4{a:List Blk->Option R}{b:By->Option R}(s:By)(g:s.length<=1000000000):∀(r i n:Nat),i+r=s.length->r<n->
  Ga LF n s (i:Int) a b=if (s.drop i).any ctl then a [] else b s:=by
 intro r
 induction r with
 | zero=>
  intro i n d e;rcases n with _|n;omega
  rw[Ga];rw[A5,j8 (by omega)];rfl
 | succ r f=>
  intro i n d e;rcases n with _|n;omega
  have c:A1 ((i:Int)+1)=((i+1:Nat):Int):=ah
  rw[Ga];rw[A7,G2,E1,E6 s i (by omega),c,List.any_cons,B15];simp only[aa];rw[f (i+1) n (by omega) (by omega)];cases ltI 32 ((s.getD i 0).toNat:Int) with
  | false=>rfl
  | true=>cases (((s.getD i 0).toNat:Int)==127)<;>rfl
def YM(t:By):T8 t [47,63,35]=L6 t:=by
 unfold T8 L6
 congr 2
 funext b
 simp[Z9,ac6,ab8];rfl
def Ef5(r:By):([47,47]:By).isPrefixOf r=(r.take 2==[47,47]):=by rw[y5,List.isPrefixOf_iff_prefix,List.prefix_iff_eq_take,beq_iff_eq];exact eq_comm
def Ck8(s:By)(i:A2 s.length=true):∃H,∀(R:Type) (d:KU R),Ru LF s d=KZ d (D3 s) H:=by
 have P:=L4 i;have M:=C9;have L:∀{R:Type} (d:List Blk->Option R) (y:By->Option R),Ga LF LF s 0 d y=if s.any ctl then d [] else y s:=λd y=>Bo4 s P s.length 0 LF (by omega) (by omega)
 unfold D3;by_cases g:s.any ctl=true
 ·rw[ac g];apply x5;intro R d;unfold Ru;rw[L,ac g];rfl
 rw[ae g];have x:(ac9 s [58]).2.1.length<=s.length:=by
  rcases V0 58 s with h|⟨p,r,rfl,h⟩
  ·rw[Ly h];exact Nat.zero_le _
  ·rw[Ak h,p6,o9];show r.length<=_;omega
 have a:Fb s=if (ac9 s [58]).2.2&&Ae (ac9 s [58]).1 then (C6 (ac9 s [58]).1,(ac9 s [58]).2.1,true) else ([],[],false):=rfl
 generalize ac9 s [58]=q at *;obtain⟨p,r,f⟩:=q;simp only at a x ⊢;cases v:(f&&Ae p) with
 | false=>
  rw[v] at a;rw[ac (by rw[<-ah9,v];rfl)];apply x5;intro R d;unfold Ru;rw[L,ae g,i,a];rfl
 | true=>
 rw[v] at a;rw[ae (by rw[<-ah9,v];simp)];simp only[if_true] at a;cases c:D2 (C6 p) with
 | false=>
  apply x5;intro R d;unfold Ru;rw[L,ae g,i,a];simp only[vl,aa,o5,ab];rw[c];rfl
 | true=>
 rw[ae (by simp)];by_cases U:r.length<2
 ·rw[ac (by rw[Ef5];simp only[ab4,beq_eq_false_iff_ne];intro e;have:=congrArg j7 e;rw[o7] at this;simp at this;omega)];apply x5;intro R d;unfold Ru;rw[L,ae g,i,a];simp only[vl,aa,o5,ab];rw[c,A7];rfl
 have z:cut r (0:Int) (2:Int)=r.take 2:=M8 r 2;have K:cut r (2:Int) (r.length:Int)=r.drop 2:=R7 r 2;rw[Ef5];cases Wg:(r.take 2==([47,47]:By)) with
 | false=>
  apply x5;intro R d;unfold Ru;rw[L,ae g,i,a];simp only[vl,aa,o5,ab];rw[c,A5,K2];simp only[vl,aa,o5,ab,z];rw[Wg];rfl
 | true=>
 rw[ae (by simp)];generalize S:r.drop 2=t at *;have lt:t.length<=r.length:=by rw[<-S,j9];omega
 have Q:=Zz t;obtain⟨H,e⟩:=Ay0 (C6 p) (U9 (t.drop (L6 t))) (t.take (L6 t)) (by rw[o7];omega);refine⟨(λq=>bU (uS q) (uU q) (uK q) (uN q) (uV q) (uA q 0) (uA q 1) (uA q 2) (uA q 3) (uA q 4) (uA q 5) (uA q 6) (uA q 7) (uP q) (uR q)::H) (I9 (C6 p) (U9 (t.drop (L6 t))) (t.take (L6 t))),λR d=>?_⟩;refine j4 ?_ (e R λn0 G I A J B C D n8 F j k l m n o w=>d G I A J B C D n8 F j k l m n o n0 (bU G I A J B C D n8 F j k l m n o::w));unfold Ru;rw[L,ae g,i,a];simp only[vl,aa,o5,ab];rw[c,A5,K2];simp only[vl,aa,o5,ab,z];rw[Wg,K2];simp only[vl,aa,o5,ab,K];rw[M5,YM,K2,K2,M8,R7,j5];simp only[aa];have V:(t.drop (L6 t)).length<=t.length:=by rw[j9];omega
 generalize t.drop (L6 t)=X at *;generalize t.take (L6 t)=T at *;unfold U9;cases X with
 | nil=>rfl
 | cons b X=>
  have N:inR (0:Int) (b::X).length=true:=G9 (by omega) (by simp);have O:((((b::X).getD 0 0).toNat:Int)!=47)=(b !=47):=by rw[bne,bne];exact congrArg _ (Mq b 47)
  rw[show((b::X)==([]:By))=false from rfl,N,Bk,O];simp only[aa,ab,ag7,p5];by_cases u:b=47
  ·rw[show(b !=47)=false by simpa using u,ac u];rfl
  ·rw[show(b !=47)=true by simpa using u,ae u,I1 (by omega)];rfl
def C76(s:By)(a:A2 s.length=true):∃r H,Ru LF s rvU=rv r H/\r.stab [0,0] H=pvU (D3 s):=by obtain⟨H,e⟩:=Ck8 s a;exact⟨_,_,e _ _,rfl⟩
def Bo3(s:By)(a:A2 s.length=true):∃r H,HN LF s rvU=rv r H/\r.stab [0,0] H=pvU (C1 s):=by
 unfold HN C1;by_cases h:2048<s.length
 ·rw[A7,ac h];exact⟨_,_,rfl,rfl⟩
 ·rw[A5,ae h,a];exact⟨_,_,rfl,rfl⟩
section
variable {W R : Type} (L : Nat) (Q : G1) (Y : Yh W) (s : W) (k : Out -> St W -> Option R)
noncomputable def Am3(L:Nat):=mkC L 175 [] [(1,[2]),(0,[0])] [] [2]
def Ad5(L:Nat)(n0:Int)(a:Bool->Option R):Option R:=cond (not (ltI n0 0)) (cond (not (ltI 1114111 n0)) (cond (ltI n0 55296) (a true) (a (ltI 57343 n0))) (a false)) (a false)
def Ck0(d:Nat)(n0):evC (Am3 L) (d+1) W Y 175 [pI n0] [] s=Ad5 L n0 (λa=>some (pB a,[],s)):=evT Tryz.f175 λQ=>by
 unfold Ad5;kernel_rfl
noncomputable abbrev Qu:Code:=D7 ag0
noncomputable def Ah(L:Nat):=mkC L 178 [(6,[0,5,0])] [(9,[6]),(8,[0,6]),(7,[0,6]),(6,[0,6,11]),(5,[0,6]),(4,[0]),(2,[0,0]),(3,[0,0]),(1,[0,0,6]),(0,[0,0,0])] [(0,[0,6]),(1,[0,6])] [6]
def Hw(L n:Nat)(a b:Int)(e:Int->Int->Option R):Option R:=match n with|0=>none|n+1=>cond (ltI 455 a) (vl (A1 (aa1 a (35:Int))) λc=>vl (A1 (b+36)) λd=>Hw L n c d e) (e a b)
def Ab2(n a b):D4 0 ((Ah L).keep 6) (bd (Ah L) Q Y (cd [1,1,1,1,0,0,0] Qu)) n ⟨gp [(0,pI a),(6,pI b)] 23,[],s⟩ k =
 Hw L n a b (λa b=>k (.exit 0) ⟨gp [(0,pI a),(6,pI b)] 23,[],s⟩):=by
 induction n generalizing a b with
 | zero=>rfl
 | succ n c=>rw[Hw];simp only[<-c];kernel_rfl
def Hv(L:Nat)(b h:Int)(i:Int->Option R):Option R:=cond (h !=0) (vl (A1 (aa1 b h)) λg=>Hw L L (A1 (b+g)) 0 (λa d=>vl (A1 ((36:Int)*a)) λe=>vl (A1 (a+38)) λc=>cond (c !=0) (vl (A1 (aa1 e c)) λf=>i (A1 (d+f))) none)) none
abbrev FJ(b:Code):Prop:=∀(k:Out->St W->Option R) delta0 n1,C3 (Ah L) Q Y b ⟨gp [(0,pI delta0),(0,pI n1)] 29,[],s⟩ k=Hv L delta0 n1 (λn0=>k .ret ⟨gp [(6,pI n0)] 24,[],s⟩)
def Ab1:FJ (R:=R) L Q Y s (cd [1,1] Qu):=by intro k a c;unfold Hv;exact(j4 (by kernel_rfl) (A0 (A6 λb=>(ag (Ab2 L Q Y s (F2 0 (F6 (Ah L) Q Y (cd [1,1,1,1,1] Qu) k)) L (A1 (a+b)) 0))) rfl))
def NK(L:Nat)(a h:Int)(b:Bool)(g:Int->Option R):Option R:=cond b (vl (A1 (aa1 a (700:Int))) λe=>Hv L e h (λc=>g c)) (vl (A1 (aa1 a (2:Int))) λf=>Hv L f h (λd=>g d))
def Ch3(d:Code)(a:FJ (R:=PV × List Blk × W) L Q Y s d)(b e:Int)(c:Bool):C3 (Ah L) Q Y (cd [] (Q9 [1,1] d Qu)) ⟨[pI b,pI e,pB c]++tps 28,[],s⟩ (I8 (Ah L) ag0)=NK L b e c (λi=>some (pI i,[],s)):=by unfold NK;exact let h:=(I8 (Ah L) ag0);(j4 (by kernel_rfl) (A0 (A6 λf=>(ag (a h f e))) (A6 λg=>(ag (a h g e)))))
def Ch4(d:Nat)(delta0 n1 first2):evC (Ah L) (d+1) W Y 178 [pI delta0,pI n1,pB first2] [] s=NK L delta0 n1 first2 (λa=>some (pI a,[],s)):=
 (evE (fn:=ag0) (by kernel_rfl)).trans (j4 (by kernel_rfl) (Ch3 L (evC (Ah L) d) Y s (cd [1,1] Qu) (Ab1 L (evC (Ah L) d) Y s) delta0 n1 first2))
noncomputable def Cx2(L:Nat):=mkC L 176 [] [(1,[4]),(0,[0,0])] [] [4]
def Dt5(L:Nat)(c a:Int)(e:Int->Option R):Option R:=vl (A1 ((36:Int)*(A1 (c+1)))) λb=>vl (if ((if ((A1 (b-a))<(26:Int)) then (A1 (b-a)) else (26:Int)) > (1:Int)) then (if ((A1 (b-a))<(26:Int)) then (A1 (b-a)) else (26:Int)) else (1:Int)) λd=>e d
def Dt6(d:Nat)(kk0 bias1):evC (Cx2 L) (d+1) W Y 176 [pI kk0,pI bias1] [] s=Dt5 L kk0 bias1 (λa=>some (pI a,[],s)):=evT Tryz.f176 λQ=>by
 unfold Dt5;kernel_rfl
noncomputable def Bz7(L:Nat):=mkC L 177 [] [(3,[2]),(2,[2]),(1,[0,3]),(0,[0])] [] [2]
def B50(L:Nat)(a:Int)(d:Int->Option R):Option R:=cond (ltI a 26) (vl (wu8 (A1 ((97:Int)+a))) λb=>d b) (vl (A1 ((A1 ((48:Int)+a))-26)) λc=>d (wu8 c))
def C41(d:Nat)(d0):evC (Bz7 L) (d+1) W Y 177 [pI d0] [] s=B50 L d0 (λa=>some (p8 a,[],s)):=evT Tryz.f177 λQ=>by
 unfold B50;kernel_rfl
noncomputable def Cx4(L:Nat):=mkC L 196 [] [(7,[2]),(2,[2]),(4,[2]),(6,[2]),(5,[0,22]),(3,[0,12]),(1,[0,2]),(0,[0])] [(0,[])] [2]
def Ae0(a:Int)(g:Bool)(e:Int->Option R)(f:Int->Bool->Option R):Option R:=cond g (vl (A1 (wu8 (a-65))) λb=>e b) (cond (not (ltI a 48)) (cond (not (ltI 57 a)) (vl (A1 (wu8 (a-48))) λc=>vl (A1 (c+26)) λd=>e d) (f a (not (ltI 57 a)))) (f a false))
def Ae1(a:Int)(l:Bool)(f:Int->Option R)(j:Int->Bool->Option R):Option R:=cond l (vl (A1 (wu8 (a-97))) λg=>f g) (cond (not (ltI a 65)) (Ae0 a (not (ltI 90 a)) (λh=>f h) (λb c=>j b c)) (Ae0 a false (λi=>f i) (λd e=>j d e)))
def Du6(L:Nat)(c:Int)(d:Int->Option R):Option R:=cond (not (ltI c 97)) (Ae1 c (not (ltI 122 c)) (λa=>d a) (λe f=>d (-1))) (Ae1 c false (λb=>d b) (λg h=>d (-1)))
def Du7(d:Nat)(b0):evC (Cx4 L) (d+1) W Y 196 [p8 b0] [] s=Du6 L b0 (λa=>some (pI a,[],s)):=evT Tryz.f196 λQ=>by
 unfold Du6;kernel_rfl
noncomputable abbrev De:Code:=D7 af9
noncomputable def P9(L:Nat):=mkC L 152 [(32,[0,1,0,0,1,0,0,0,0,2,0,0]),(25,[0,1,0,0,1,0,0,0,0,2]),(18,[0,1,0,0,1,0,0,0,0,0,0]),(15,[0,1,0,0,1,0,0,0,0]),(5,[0,1,0,0,0])] [(43,[2,0]),(42,[0,3,1,0,0,0,0]),(41,[0,3,1,0,0,0,0]),(26,[0,3,1,0,0,0,0,2]),(40,[0,3,1,0,0,0,0,2]),(39,[0,3,1,0,0,0,0,2]),(38,[0,3,1,0,0,1,2]),(37,[0,3,1,0,0,0,3]),(36,[0,3,1,0,0,0,0,2,0,0]),(35,[0,3,1,0,0,0,0,2,0,0]),(34,[0,3,1,0,0,0,0,2,0,0,0]),(33,[0,3,1,0,0,0,0,2,0,0,0]),(32,[0,3,1,0,0,0,0,2,0,0,94]),(31,[0,3,1,0,0,0,0,2,0,0]),(30,[0,3,1,0,0,0,0,2,0]),(29,[0,3,1,0,0,0,0,2,90]),(28,[0,3,1,0,0,0,0,2]),(27,[0,3,1,0,0,0,0,2,82]),(25,[0,3,1,0,0,0,0,2,74]),(24,[0,3,1,0,0,0,0,2]),(23,[0,3,1,0,0,0,0]),(22,[0,3,1,0,1,0,0]),(19,[0,3,1,0,0,0,0,0,0]),(21,[0,3,1,0,0,0,0,0,0]),(20,[0,3,1,0,0,0,0,0,0,56]),(18,[0,3,1,0,0,0,0,0,0,48]),(17,[0,3,1,0,0,0,0,0,0]),(16,[0,3,1,0,0,0,0,0]),(15,[0,3,1,0,0,0,0,46]),(14,[0,3,1,0,0,0,0]),(13,[0,3,1,0]),(12,[0,3,1,0,42]),(11,[0,3,1,0]),(6,[0,3,0]),(10,[0,3,0]),(9,[0,3,0,30]),(8,[2,0]),(7,[0,3,0,25]),(5,[0,3,0,17]),(4,[0,3,0]),(3,[0,3]),(2,[2,0]),(1,[0,18]),(0,[0])] [(2,[4]),(3,[0,3,1,0,0,0,0]),(6,[0,3,1,0,0,0,0]),(7,[0,3,1,0,0,0,0,2]),(8,[0,3,1,0,0,0,3,0]),(9,[0,3,1,0,0,0,0,2,0,0]),(4,[0,3,1,0,0,0,0,0]),(5,[0,3,1,0,0,0,0,0,0]),(0,[0,3]),(1,[0,3,0])] [2,0] [(175,Xk),(176,A66),(177,Bv3),(178,IR)] [175,176,177,178]
def Y3(L n:Nat)(c b:Bool)(a:LL)(d:Int)(e:LL)(f:LL->Option R)(g:Kbd R):Option R:=match n with|0=>none|n+1=>cond (ltI d (a.length:Int)) (cond (inR d a.length) (cond (okE Na a (j0 d) 0) (vl (gE a (j0 d) 0) λh=>cond (not (ptI h)) (f e) (cond (inR d a.length) (cond (okE Na a (j0 d) 0) (vl (gE a (j0 d) 0) λi=>cond (ltI i 128) (cond (inR d a.length) (cond (okE Na a (j0 d) 0) (vl (gE a (j0 d) 0) λj=>cond (G0 (e.length+1)) (Y3 L n c b a (A1 (d+1)) (e++[[(SV.int .u8 (wu8 j))]]) f g) none) none) none) (Y3 L n c b a (A1 (d+1)) e f g)) none) none)) none) none) (g c b a e)
def Bi3(n b a c i3 l4):D4 1 ((P9 L).keep 5) (bd (P9 L) Q Y (cd [1,1,1,0,1,0,0] De)) n ⟨gp [(0,.s (.sl b a 1 c)),(3,.fl 0),(0,pI i3)] 148,[.arr true 5 1 l4],s⟩ k =
 Y3 L n b a c i3 l4 (λe=>k .ret ⟨gp [(2,pS ([]:By)),(0,pI 2)] 150,[.arr true 5 1 e],s⟩) (λb a c f=>k (.exit 0) ⟨gp [(0,.s (.sl b a 1 c)),(3,.fl 0)] 149,[.arr true 5 1 f],s⟩):=by
 induction n generalizing b a c i3 l4 with
 | zero=>rfl
 | succ n d=>rw[Y3];simp only[<-d];kernel_rfl
def Jw(L n:Nat)(c b:Bool)(a:LL)(h e o f g d i:Int)(l10:LL)(p:Kah R):Option R:=match n with|0=>none|n+1=>cond (ltI i (a.length:Int)) (cond (inR i a.length) (cond (okE Na a (j0 i) 0) (vl (gE a (j0 i) 0) λl=>cond (not (ltI l o)) (cond (inR i a.length) (cond (okE Na a (j0 i) 0) (vl (gE a (j0 i) 0) λj=>vl (if (j<d) then j else d) λm=>Jw L n c b a h e o f g m (A1 (i+1)) l10 p) none) none) (Jw L n c b a h e o f g d (A1 (i+1)) l10 p)) none) none) (p c b a h e o f g d l10)
def Bi4(n b a c h d i e g f i9 l10):D4 1 ((P9 L).keep 18) (bd (P9 L) Q Y (cd [1,1,1,1,1,1,1,0,0,0,1,0,1,0,1,0,0] De)) n ⟨gp [(0,.s (.sl b a 1 c)),(3,.fl 0),(1,pI h),(0,pI d),(0,pI i),(0,pI e),(0,pI g),(0,pI f),(0,pI i9)] 141,[.arr true 5 1 l10],s⟩ k =
 Jw L n b a c h d i e g f i9 l10 (λb a c h d i e g f l=>k (.exit 4) ⟨gp [(0,.s (.sl b a 1 c)),(3,.fl 0),(1,pI h),(0,pI d),(0,pI i),(0,pI e),(0,pI g),(0,pI f)] 142,[.arr true 5 1 l],s⟩):=by
 induction n generalizing b a c h d i e g f i9 l10 with
 | zero=>rfl
 | succ n j=>rw[Jw];simp only[<-j];kernel_rfl
def Hb(L n:Nat)(c b:Bool)(f:LL)(i g w h a i8 u e:Int)(o:LL)(v:Kah R):Option R:=match n with|0=>none|n+1=>cond (ltN e 10000000000) (cond (ltN a 1000000) (vl (N4 (ah0 (36:Int) e) a) λp=>cond (not (ltI u p)) (cond (ltN e 10000000000) (cond (ltN a 1000000) (vl (N4 (ah0 (36:Int) e) a) λd=>vl (A1 ((36:Int)-d)) λj=>cond (j !=0) (vl (x7 (A1 (u-d)) j) λl=>cond (ltN (A1 (d+l)) 36) (vl (↑(ag5 (Bn (j0 (A1 (d+l))))):Int) λq=>cond (G0 (o.length+1)) (vl (A1 ((36:Int)-d)) λm=>cond (m !=0) (vl (A1 (aa1 (A1 (u-d)) m)) λr=>vl (A1 (e+1)) λt=>Hb L n c b f i g w h a i8 r t (o++[[(SV.int .u8 q)]]) v) none) none) none) none) none) none) (v c b f i g w h i8 u o)) none) none
def NO(n b a c f d g e bias7 i8 q9 kk10 l11):D4 1 ((P9 L).keep 32) (bd (P9 L) Q Y (cd [1,1,1,1,1,1,1,0,0,0,1,0,1,1,1,1,0,1,0,0,1,0,0,1,1,1,1,0,0,0] De)) n ⟨gp [(0,.s (.sl b a 1 c)),(3,.fl 0),(1,pI f),(0,pI d),(0,pI g),(0,pI e),(0,pI bias7),(2,pI i8),(0,pI q9),(0,pI kk10)] 138,[.arr true 5 1 l11],s⟩ k =
 Hb L n b a c f d g e bias7 i8 q9 kk10 l11 (λb a c f d g e h l j=>k (.exit 8) ⟨gp [(0,.s (.sl b a 1 c)),(3,.fl 0),(1,pI f),(0,pI d),(0,pI g),(0,pI e),(3,pI h),(0,pI l)] 139,[.arr true 5 1 j],s⟩):=by
 induction n generalizing b a c f d g e bias7 i8 q9 kk10 l11 with
 | zero=>rfl
 | succ n i=>rw[Hb];simp only[<-i];kernel_rfl
def Bz(L n:Nat)(c b:Bool)(a:LL)(i d B e f i8:Int)(I:LL)(H:Kbj R):Option R:=match n with|0=>none|n+1=>cond (ltI i8 (a.length:Int)) (cond (inR i8 a.length) (cond (okE Na a (j0 i8) 0) (vl (gE a (j0 i8) 0) λJ=>cond (ltI J B) (vl (A1 (e+1)) λw=>cond (inR i8 a.length) (cond (okE Na a (j0 i8) 0) (vl (gE a (j0 i8) 0) λK=>cond (K !=B) (Bz L n c b a i d B w f (A1 (i8+1)) I H) (Hb L L c b a i d B w f i8 w 0 I (λr p u g j N m F C z=>cond (ltN C 36) (vl (↑(ag5 (Bn (j0 C))):Int) λO=>cond (G0 (z.length+1)) (vl (A1 (g+1)) λx=>cond (ltN m 1152921504606846976) (cond (ltN x 1000000) (cond (ltI 0 x) (vl (↑(T4 (j0 m) (j0 x) (g==j)):Int) λP=>vl (A1 (g+1)) λS=>vl (A1 (F+1)) λT=>Bz L n r p u S j N 0 P T (z++[[(SV.int .u8 O)]]) H) none) none) none) none) none))) none) none) (cond (inR i8 a.length) (cond (okE Na a (j0 i8) 0) (vl (gE a (j0 i8) 0) λM=>cond (M !=B) (Bz L n c b a i d B e f (A1 (i8+1)) I H) (Hb L L c b a i d B e f i8 e 0 I (λt q v h l U o G D A=>cond (ltN D 36) (vl (↑(ag5 (Bn (j0 D))):Int) λV=>cond (G0 (A.length+1)) (vl (A1 (h+1)) λy=>cond (ltN o 1152921504606846976) (cond (ltN y 1000000) (cond (ltI 0 y) (vl (↑(T4 (j0 o) (j0 y) (h==l)):Int) λX=>vl (A1 (h+1)) λZ=>vl (A1 (G+1)) λa0=>Bz L n t q v Z l U 0 X a0 (A++[[(SV.int .u8 V)]]) H) none) none) none) none) none))) none) none)) none) none) (H c b a i d B e f I)
def Bi5(n b a c g d t e f i8 l9):D4 1 ((P9 L).keep 25) (bd (P9 L) Q Y (cd [1,1,1,1,1,1,1,0,0,0,1,0,1,1,1,1,0,1,0,0] De)) n ⟨gp [(0,.s (.sl b a 1 c)),(3,.fl 0),(1,pI g),(0,pI d),(0,pI t),(0,pI e),(0,pI f),(2,pI i8)] 140,[.arr true 5 1 l9],s⟩ k =
 Bz L n b a c g d t e f i8 l9 (λb a c g d t e f l8=>k (.exit 6) ⟨gp [(0,.s (.sl b a 1 c)),(3,.fl 0),(1,pI g),(0,pI d),(0,pI t),(0,pI e),(0,pI f)] 143,[.arr true 5 1 l8],s⟩):=by
 induction n generalizing b a c g d t e f i8 l9 with
 | zero=>rfl
 | succ n M=>rw[Bz];exact let N:=(F2 8 (F6 (P9 L) Q Y (cd [1,1,1,1,1,1,1,0,0,0,1,0,1,1,1,1,0,1,0,0,1,0,0,1,1,1,1,1] De) (F2 7 (F6 (P9 L) Q Y (cd [1,1,1,1,1,1,1,0,0,0,1,0,1,1,1,1,0,1,0,0,1,1] De) (lpK 1 ((P9 L).keep 25) (bd (P9 L) Q Y (cd [1,1,1,1,1,1,1,0,0,0,1,0,1,1,1,1,0,1,0,0] De)) n k)))));(j4 (by kernel_rfl) (A0 (A0 (A0 (A6 λS=>(A0 (A6 λr=>(A0 (A0 (A6 λT=>(A0 (M b a c g d t r f (A1 (i8+1)) l9) ((NO L Q Y s N L b a c g d t r f i8 r 0 l9).trans (congr rfl (Cz3 λj h m w p A u O Z y=>(j4 (by kernel_rfl) (A0 (A6 λB=>(A0 (A6 λV=>(A0 (A0 (A0 (A6 λC=>(A6 λD=>(A6 λF=>(M j h m D p A 0 C F (y++[[(SV.int .u8 B)]]))))) rfl) rfl) rfl)) rfl)) rfl))))))) rfl) rfl)) (A0 (A0 (A6 λU=>(A0 (M b a c g d t e f (A1 (i8+1)) l9) ((NO L Q Y s N L b a c g d t e f i8 e 0 l9).trans (congr rfl (Cz3 λl i o x q G v P a0 z=>(j4 (by kernel_rfl) (A0 (A6 λH=>(A0 (A6 λX=>(A0 (A0 (A0 (A6 λI=>(A6 λJ=>(A6 λK=>(M l i o J q G 0 I K (z++[[(SV.int .u8 H)]]))))) rfl) rfl) rfl)) rfl)) rfl))))))) rfl) rfl))) rfl) rfl) rfl))
def Hd(L n:Nat)(l j:Bool)(g:LL)(v w K x y:Int)(J:LL)(I:LL->Option R):Option R:=match n with|0=>none|n+1=>cond (ltI v (g.length:Int)) (Jw L L l j g v w K x y 1073741824 0 J (λd b h f m B p r a z=>vl (A1 (f+1)) λC=>vl (A1 ((A1 (a-B))*C)) λD=>Bz L L d b h f m a (A1 (p+D)) r 0 z (λe c i u o F q t A=>vl (A1 (q+1)) λG=>vl (A1 (F+1)) λH=>Hd L n e c i u o H G t A I))) (I J)
def NP(n points_z0 points_t1 points2 done3 basic4 n5 delta6 bias7 l8):D4 1 ((P9 L).keep 15) (bd (P9 L) Q Y (cd [1,1,1,1,1,1,1,0,0,0] De)) n ⟨gp [(0,.s (.sl points_z0 points_t1 1 points2)),(3,.fl 0),(1,pI done3),(0,pI basic4),(0,pI n5),(0,pI delta6),(0,pI bias7)] 143,[.arr true 5 1 l8],s⟩ k =
 Hd L n points_z0 points_t1 points2 done3 basic4 n5 delta6 bias7 l8 (λB=>k (.exit 2) ⟨gp [(4,.fl 0)] 149,[.arr true 5 1 B],s⟩):=by
 induction n generalizing points_z0 points_t1 points2 done3 basic4 n5 delta6 bias7 l8 with
 | zero=>rfl
 | succ n A=>rw[Hd];exact(j4 (by kernel_rfl) (A0 ((Bi4 L Q Y s (F2 4 (F6 (P9 L) Q Y (cd [1,1,1,1,1,1,1,0,0,0,1,0,1,1] De) (F2 3 (lpK 1 ((P9 L).keep 15) (bd (P9 L) Q Y (cd [1,1,1,1,1,1,1,0,0,0] De)) n k)))) L points_z0 points_t1 points2 done3 basic4 n5 delta6 bias7 1073741824 0 l8).trans (congr rfl (Cz3 λc a e o g x i l j r=>(j4 (by kernel_rfl) (A6 λy=>(A6 λu=>((Bi5 L Q Y s (F2 6 (F6 (P9 L) Q Y (cd [1,1,1,1,1,1,1,0,0,0,1,0,1,1,1,1,1] De) (F2 3 (lpK 1 ((P9 L).keep 15) (bd (P9 L) Q Y (cd [1,1,1,1,1,1,1,0,0,0] De)) n k)))) L c a e o g j (A1 (i+u)) l 0 r).trans (congr rfl (fx9 λd b f p h z q m t=>(j4 (by kernel_rfl) (A6 λv=>(A6 λw=>(A d b f p h w v m t))))))))))))) rfl))
def Av2(L:Nat)(f e:Bool)(d:LL)(o:Unit->Option R)(m:By->Int->LL->Option R):Option R:=cond (ltI 256 (d.length:Int)) (o ()) (Y3 L L f e d 0 [] (λn=>m ([]:By) 2 n) (λb a c g=>vl (g.length:Int) λl=>vl (g.length:Int) λj=>cond (ltI 0 j) (cond (G0 (g.length+1)) (Hd L L b a c l j 128 0 72 (g++[[(SV.int .u8 45)]]) (λh=>cond (aa7 h Qh) (m (x3 Nu h) 0 h) none)) none) (Hd L L b a c l j 128 0 72 g (λi=>cond (aa7 i Qh) (m (x3 Nu i) 0 i) none))))
def Dr9(d:Nat)(points_z0 points_t1 points2):evC (P9 L) (d+1) W Y 152 [.s (.sl points_z0 points_t1 1 points2)] [] s=Av2 L points_z0 points_t1 points2 (λ_=>some (.tup [pS ([]:By),pI 3],[],s)) (λj l i=>some (.tup [pS j,pI l],[.arr true 5 1 i],s)):=evT af9 λQ=>by
 unfold Av2;exact let h:=(F2 2 (F6 (P9 L) Q Y (cd [1,1,1,1,1,1,1,1] De) (I8 (P9 L) af9)));(j4 (by kernel_rfl) (A0 rfl ((Bi3 L Q Y s (F2 0 (F6 (P9 L) Q Y (cd [1,1,1,1] De) (I8 (P9 L) af9))) L points_z0 points_t1 points2 0 []).trans (congr (congr rfl (by kernel_rfl)) (fx4 λb a c g=>(j4 (by kernel_rfl) (A6 λe=>(A6 λf=>(A0 (A0 (ag (NP L Q Y s h L b a c e f 128 0 72 (g++[[(SV.int .u8 45)]]))) rfl) (ag (NP L Q Y s h L b a c e f 128 0 72 g)))))))))))
noncomputable abbrev Aw:Code:=D7 ae7
noncomputable def L8(L:Nat):=mkC L 179 [(27,[0,1,0,2,1,0,0,0,0,0,0,0]),(23,[0,1,0,2,1,0,0,0,0]),(13,[0,1,0,0,1,0]),(5,[0,1,0,0,0])] [(51,[2,0]),(50,[0,5,1,0,0,0,0]),(49,[2,0]),(48,[0,5,1,0,0,0,0,118]),(47,[0,5,1,0,0,0,0]),(46,[2,0]),(45,[0,5,1,0,0,0,0,103]),(44,[0,5,1,0,0,0,0]),(43,[0,5,1,0,0,0,0]),(42,[0,5,1,0,0,0,0]),(41,[0,5,1,0,0,0]),(26,[0,5,1,0,0,0,0,0,0,0]),(40,[2,0]),(39,[0,5,1,0,0,0,0,0,0,0,77]),(38,[0,5,1,0,0,0,0,0,0,0]),(37,[0,5,1,0,0,0,0,0,0,0,1,69]),(36,[0,5,1,0,0,0,0,0,0,0,0,0]),(35,[2,0]),(34,[0,5,1,0,0,0,0,0,0,0,0,64]),(33,[0,5,1,0,0,0,0,0,0,0,0]),(32,[2,0]),(31,[0,5,1,0,0,0,0,0,0,0,0,57]),(30,[0,5,1,0,0,0,0,0,0,0,0]),(29,[0,5,1,0,0,0,0,0,0,0,0]),(28,[2,0]),(27,[0,5,1,0,0,0,0,0,0,0,50]),(25,[0,5,1,0,0,0,0,0,0,0]),(24,[0,5,1,0,0,0,0,0,0]),(23,[0,5,1,0,0,0,0,46]),(22,[0,5,1,0,0,0,0]),(21,[0,5,1,0,0,0]),(20,[0,5,1]),(19,[0,5,1,44]),(18,[0,3,1,1]),(17,[2,0]),(16,[0,3,1,43]),(14,[0,3,1,0]),(15,[0,3,1,0]),(13,[0,3,1,0,30]),(12,[0,3,1,0]),(11,[0,3,1]),(6,[0,3,0]),(10,[0,3,0]),(9,[0,3,0,28]),(8,[2,0]),(7,[0,3,0,24]),(5,[0,3,0,18]),(4,[0,3,0]),(3,[0,3]),(2,[2,0]),(1,[0,19]),(0,[0])] [(4,[6]),(5,[0,5,1,0,0,0,0]),(6,[0,5,1,0,0,1,0]),(7,[0,5,1,0,0,0,0,0,0,0]),(2,[0,3,1]),(3,[0,3,1,0]),(0,[0,3]),(1,[0,3,0])] [2,0] [(196,Cs7),(176,A66),(178,IR),(175,Xk)] [196,176,178,175] (rw:=[(47,6)])
def Fy(L n:Nat)(c:By)(a b:Int)(d:Unit->Option R)(e:By->Int->Option R):Option R:=match n with|0=>none|n+1=>cond (ltI b (c.length:Int)) (cond (inR b c.length) (cond (not (ltI (bAt c b) (128:Int))) (d ()) (cond (inR b c.length) (cond ((bAt c b)==45) (Fy L n c b (A1 (b+1)) d e) (Fy L n c a (A1 (b+1)) d e)) none)) none) (e c a)
def Aw5(n b a i2):D4 0 ((L8 L).keep 5) (bd (L8 L) Q Y (cd [1,1,1,0,1,0,0] Aw)) n ⟨gp [(0,pS b),(3,pI a),(0,pI i2)] 129,[],s⟩ k =
 Fy L n b a i2 (λ_=>k .ret ⟨gp [(2,.fl 0),(0,pI 4)] 131,[.arr true 3 1 []],s⟩) (λb a=>k (.exit 0) ⟨gp [(0,pS b),(3,pI a)] 130,[],s⟩):=by
 induction n generalizing b a i2 with
 | zero=>rfl
 | succ n c=>rw[Fy];simp only[<-c];kernel_rfl
def Ix(L n:Nat)(c:By)(a b:Int)(d:LL)(e:By->Int->LL->Option R):Option R:=match n with|0=>none|n+1=>cond (ltI b a) (cond (inR b c.length) (cond (G0 (d.length+1)) (Ix L n c a (A1 (b+1)) (d++[[(SV.int .i64 (A1 (bAt c b)))]]) e) none) none) (e c a d)
def Aw6(n b a i2 l3):D4 1 ((L8 L).keep 13) (bd (L8 L) Q Y (cd [1,1,1,1,1,0,1,0,0] Aw)) n ⟨gp [(0,pS b),(3,pI a),(1,.fl 0),(0,pI i2)] 127,[.arr true 3 1 l3],s⟩ k =
 Ix L n b a i2 l3 (λb a d=>k (.exit 2) ⟨gp [(0,pS b),(3,pI a),(1,.fl 0)] 128,[.arr true 3 1 d],s⟩):=by
 induction n generalizing b a i2 l3 with
 | zero=>rfl
 | succ n c=>rw[Ix];simp only[<-c];kernel_rfl
abbrev Kca(R:Type):=By->LL->Int->Int->Int->Int->LL->Option R
def Z1(L n:Nat)(l:By)(g:LL)(b q r a f o h:Int)(j:LL)(m:Int->LL->Option R)(p:Kca R):Option R:=match n with|0=>none|n+1=>cond (not (ltI b (l.length:Int))) (m 4 j) (cond (inR b l.length) (cond (inR (bAt l b) 256) (vl (F5 (u8n (bAt l b))) λi=>cond (ltI i 0) (m 4 j) (vl (A1 (r+(A1 (i*o)))) λc=>cond (ltI 1099511627776 c) (m 19 j) (cond (ltN h 10000000000) (cond (ltN a 1000000) (vl (N4 (ah0 (36:Int) h) a) λd=>cond (ltI i d) (p l g (A1 (b+1)) q c f j) (vl (A1 ((36:Int)-d)) λe=>cond (ltI 1099511627776 (A1 (o*e))) (m 19 j) (Z1 L n l g (A1 (b+1)) q c a f (A1 (o*e)) (A1 (h+1)) j m p))) none) none))) none) none)
def Aw7(n f a b d c bias5 old6 w7 kk8 l9):D4 1 ((L8 L).keep 27) (bd (L8 L) Q Y (cd [1,1,1,1,1,1,1,1,1,1,1,0,0,0,1,0,1,0,1,0,0] Aw)) n ⟨gp [(0,pS f),(5,.s (.sl false false 1 a)),(1,pI b),(0,pI d),(0,pI c),(0,pI bias5),(0,pB false),(0,pI old6),(0,pI w7),(0,pI kk8)] 119,[.arr true 3 1 l9],s⟩ k =
 Z1 L n f a b d c bias5 old6 w7 kk8 l9 (λn0 h=>k .ret ⟨gp [(2,.fl 1),(0,pI n0)] 131,[.arr true 3 1 h,.arr true 3 1 []],s⟩) (λf a b d c e i=>k (.exit 6) ⟨gp [(0,pS f),(5,.s (.sl false false 1 a)),(1,pI b),(0,pI d),(0,pI c),(1,pB false),(0,pI e)] 121,[.arr true 3 1 i],s⟩):=by
 induction n generalizing f a b d c bias5 old6 w7 kk8 l9 with
 | zero=>rfl
 | succ n g=>rw[Z1];simp only[<-g];kernel_rfl
def R4(L n:Nat)(C:By)(m:LL)(q D y p:Int)(B:LL)(x:Int->LL->Option R)(z:LL->LL->Option R)(A:LL->LL->Option R):Option R:=match n with|0=>none|n+1=>cond (ltI q (C.length:Int)) (Z1 L L C m q D y p y 1 0 B (λt r=>x t r) (λw a o d b h i=>vl (A1 ((a.length:Int)+1)) λj=>cond (ltN (A1 (b-h)) 1152921504606846976) (cond (ltN j 1000000) (cond (ltI 0 j) (vl (↑(T4 (j0 (A1 (b-h))) (j0 j) false):Int) λu=>vl (A1 ((a.length:Int)+1)) λl=>cond (l !=0) (vl (A1 (aa1 b l)) λe=>vl (A1 ((a.length:Int)+1)) λf=>cond (f !=0) (cond (not (ptI (A1 (d+e)))) (x 2 i) (cond (J5 0 (x7 b f) a.length) (vl (cut a 0 (x7 b f)) λc=>cond (J5 (x7 b f) (a.length:Int) a.length) (vl (cut a (x7 b f) (a.length:Int)) λg=>cond (G0 (0+c.length)) (cond (G0 (c.length+1)) (cond (G0 ((j7 (c++[[(SV.int .i64 (A1 (d+e)))]]))+g.length)) (cond (ltI 256 (↑(j7 ((c++[[(SV.int .i64 (A1 (d+e)))]])++g)):Int)) (z i ((c++[[(SV.int .i64 (A1 (d+e)))]])++g)) (vl (A1 ((x7 b f)+1)) λv=>R4 L n w ((c++[[(SV.int .i64 (A1 (d+e)))]])++g) o (A1 (d+e)) v u i x z A)) none) none) none) none) none)) none) none) none) none) none)) (A m B)
def Aw8(n s0 out1 at2 n3 i4 bias5 l6):D4 1 ((L8 L).keep 23) (bd (L8 L) Q Y (cd [1,1,1,1,1,1,1,1,1,1,1,0,0,0] Aw)) n ⟨gp [(0,pS s0),(5,.s (.sl false false 1 out1)),(1,pI at2),(0,pI n3),(0,pI i4),(0,pI bias5),(0,pB false)] 122,[.arr true 3 1 l6],s⟩ k =
 R4 L n s0 out1 at2 n3 i4 bias5 l6 (λn0 g=>k .ret ⟨gp [(2,.fl 1),(0,pI n0)] 131,[.arr true 3 1 g,.arr true 3 1 []],s⟩) (λv g=>k .ret ⟨gp [(2,.fl 2),(0,pI 3)] 131,[.arr true 3 1 v,.arr false 3 1 g,.arr true 3 1 []],s⟩) (λj g=>k (.exit 4) ⟨gp [(6,.s (.sl false false 1 j))] 128,[.arr true 3 1 g],s⟩):=by
 induction n generalizing s0 out1 at2 n3 i4 bias5 l6 with
 | zero=>rfl
 | succ n u=>rw[R4];exact(j4 (by kernel_rfl) (A0 ((Aw7 L Q Y s (F2 6 (F6 (L8 L) Q Y (cd [1,1,1,1,1,1,1,1,1,1,1,0,0,0,1,0,1,1] Aw) (F2 5 (lpK 1 ((L8 L).keep 23) (bd (L8 L) Q Y (cd [1,1,1,1,1,1,1,1,1,1,1,0,0,0] Aw)) n k)))) L s0 out1 at2 n3 i4 bias5 i4 1 0 l6).trans (congr (congr rfl (by kernel_rfl)) (fx7 λl o c a p m d=>(j4 (by kernel_rfl) (A6 λq=>(A0 (A0 (A0 (A6 λh=>(A6 λr=>(A0 (A6 λb=>(A6 λt=>(A0 (A0 rfl (A0 (A6 λe=>(A0 (A6 λf=>(A0 (A0 (A0 (A0 rfl (A6 λi=>(u l ((e++[[(SV.int .i64 (A1 (a+b)))]])++f) c (A1 (a+b)) i h d))) rfl) rfl) rfl)) rfl)) rfl)) rfl))) rfl))) rfl) rfl) rfl)))))) rfl))
def Z2(L n:Nat)(h:By)(a m j f:Int)(g:LL)(i:Int->LL->Option R)(l:Kbh R):Option R:=match n with|0=>none|n+1=>cond (not (ltI a (h.length:Int))) (i 4 g) (cond (inR a h.length) (cond (inR (bAt h a) 256) (vl (F5 (u8n (bAt h a))) λb=>cond (ltI b 0) (i 4 g) (vl (A1 (m+(A1 (b*j)))) λc=>cond (ltI 1099511627776 c) (i 19 g) (cond (ltN f 10000000000) (cond (ltN 72 1000000) (vl (N4 (ah0 (36:Int) f) (72:Int)) λd=>cond (ltI b d) (l h (A1 (a+1)) c g) (vl (A1 ((36:Int)-d)) λe=>cond (ltI 1099511627776 (A1 (j*e))) (i 19 g) (Z2 L n h (A1 (a+1)) c (A1 (j*e)) (A1 (f+1)) g i l))) none) none))) none) none)
def Aw9(n c a b w3 kk4 l5):D4 1 ((L8 L).keep 27) (bd (L8 L) Q Y (cd [1,1,1,1,1,1,1,1,1,1,1,0,0,0,1,0,1,0,1,0,0] Aw)) n ⟨gp [(0,pS c),(5,.fl 0),(1,pI a),(0,pI 128),(0,pI b),(0,pI 72),(0,pB true),(0,pI 0),(0,pI w3),(0,pI kk4)] 119,[.arr true 3 1 l5],s⟩ k =
 Z2 L n c a b w3 kk4 l5 (λn0 e=>k .ret ⟨gp [(2,.fl 1),(0,pI n0)] 131,[.arr true 3 1 e,.arr true 3 1 []],s⟩) (λc a b f=>k (.exit 6) ⟨gp [(0,pS c),(5,.fl 0),(1,pI a),(0,pI 128),(0,pI b),(1,pB true),(0,pI 0)] 121,[.arr true 3 1 f],s⟩):=by
 induction n generalizing c a b w3 kk4 l5 with
 | zero=>rfl
 | succ n d=>rw[Z2];simp only[<-d];kernel_rfl
def N0(L n:Nat)(D:By)(m:Int)(C:LL)(A:Int->LL->Option R)(B:LL->LL->Option R)(F:LL->LL->Option R)(G:LL->Option R):Option R:=match n with|0=>none|n+1=>cond (ltI m (D.length:Int)) (Z2 L L D m 0 1 0 C (λu o=>A u o) (λz l b a=>vl (A1 (b-0)) λi=>vl (A1 ((a.length:Int)+1)) λe=>cond (ltN i 1152921504606846976) (cond (ltN e 1000000) (cond (ltI 0 e) (vl (↑(T4 (j0 i) (j0 e) true):Int) λv=>vl (A1 ((a.length:Int)+1)) λj=>cond (j !=0) (vl (A1 (aa1 b j)) λw=>vl (A1 ((128:Int)+w)) λf=>vl (A1 ((a.length:Int)+1)) λc=>cond (c !=0) (cond (not (ptI f)) (A 2 a) (cond (J5 0 (x7 b c) a.length) (cond (J5 (x7 b c) (a.length:Int) a.length) (cond (G0 (0+(j7 (ae6 ((j0 (x7 b c))-0) (ae5 0 a))))) (cond (G0 ((j7 (ae6 ((j0 (x7 b c))-0) (ae5 0 a)))+1)) (vl ((ae6 ((j0 (x7 b c))-0) (ae5 0 a))++[[(SV.int .i64 f)]]) λh=>cond (G0 (h.length+(j7 (ae6 ((j0 (a.length:Int))-(j0 (x7 b c))) (ae5 (j0 (x7 b c)) a))))) (vl (h++(ae6 ((j0 (a.length:Int))-(j0 (x7 b c))) (ae5 (j0 (x7 b c)) a))) λd=>cond (ltI 256 (d.length:Int)) (B a d) (vl (A1 ((x7 b c)+1)) λx=>R4 L n z d l f x v a (λy p=>A y p) (λq r=>B q r) (λg t=>F g t))) none) none) none) none) none)) none) none) none) none) none)) (G C)
def FN(n s0 at1 l2):D4 1 ((L8 L).keep 23) (bd (L8 L) Q Y (cd [1,1,1,1,1,1,1,1,1,1,1,0,0,0] Aw)) n ⟨gp [(0,pS s0),(5,.fl 0),(1,pI at1),(0,pI 128),(0,pI 0),(0,pI 72),(0,pB true)] 122,[.arr true 3 1 l2],s⟩ k =
 N0 L n s0 at1 l2 (λn0 d=>k .ret ⟨gp [(2,.fl 1),(0,pI n0)] 131,[.arr true 3 1 d,.arr true 3 1 []],s⟩) (λl d=>k .ret ⟨gp [(2,.fl 2),(0,pI 3)] 131,[.arr true 3 1 l,.arr false 3 1 d,.arr true 3 1 []],s⟩) (λh d=>k (.exit 4) ⟨gp [(6,.s (.sl false false 1 h))] 128,[.arr true 3 1 d],s⟩) (λl=>k (.exit 4) ⟨gp [(6,.fl 0)] 128,[.arr true 3 1 l],s⟩):=by
 induction n generalizing s0 at1 l2 with
 | zero=>rfl
 | succ n A=>rw[N0];exact(j4 (by kernel_rfl) (A0 ((Aw9 L Q Y s (F2 6 (F6 (L8 L) Q Y (cd [1,1,1,1,1,1,1,1,1,1,1,0,0,0,1,0,1,1] Aw) (F2 5 (lpK 1 ((L8 L).keep 23) (bd (L8 L) Q Y (cd [1,1,1,1,1,1,1,1,1,1,1,0,0,0] Aw)) n k)))) L s0 at1 0 1 0 l2).trans (congr (congr rfl (by kernel_rfl)) (fx4 λi a m b=>(j4 (by kernel_rfl) (A6 λu=>(A6 λv=>(A0 (A0 (A0 (A6 λe=>(A6 λw=>(A0 (A6 λx=>(A6 λf=>(A6 λy=>(A0 (A0 rfl (A0 (A0 (A0 (A0 (A6 λo=>(A0 (A6 λc=>(A0 rfl (A6 λg=>((Aw8 L Q Y s k n i c a f g e b).trans (congr (congr (congr rfl (fx2 λz p=>rfl)) (fx2 λq r=>rfl)) (fx2 λj t=>rfl)))))) rfl)) rfl) rfl) rfl) rfl)) rfl)))) rfl))) rfl) rfl) rfl))))))) rfl))
def B61(L:Nat)(A:By)(u:Int->LL->Option R)(v:Int->LL->Option R)(y:LL->LL->Option R)(z:LL->LL->Option R):Option R:=cond (ltI 1024 (A.length:Int)) (u 3 []) (Fy L L A 0 0 (λ_=>u 4 []) (λx e=>Ix L L x e 0 [] (λt a b=>cond (ltI 256 (b.length:Int)) (v 3 b) (cond (ltI 0 a) (vl (A1 (a+1)) λw=>N0 L L t w b (λq f=>v q f) (λg h=>y g h) (λc i=>z c i) (λj=>u 0 j)) (N0 L L t a b (λr l=>v r l) (λm n=>y m n) (λd o=>z d o) (λp=>u 0 p))))))
def C67(d:Nat)(s0):evC (L8 L) (d+1) W Y 179 [pS s0] [] s=B61 L s0 (λf c=>some (.tup [.fl 0,pI f],[.arr true 3 1 c],s)) (λf c=>some (.tup [.fl 1,pI f],[.arr true 3 1 c,.arr true 3 1 []],s)) (λl c=>some (.tup [.fl 2,pI 3],[.arr true 3 1 l,.arr false 3 1 c,.arr true 3 1 []],s)) (λf c=>some (.tup [.s (.sl false false 1 f),pI 0],[.arr true 3 1 c],s)):=evT ae7 λQ=>by
 unfold B61;exact let j:=(F2 4 (F6 (L8 L) Q Y (cd [1,1,1,1,1,1,1,1,1,1,1,1] Aw) (I8 (L8 L) ae7)));(j4 (by kernel_rfl) (A0 rfl ((Aw5 L Q Y s (F2 0 (F6 (L8 L) Q Y (cd [1,1,1,1] Aw) (I8 (L8 L) ae7))) L s0 0 0).trans (congr (congr rfl (by kernel_rfl)) (fx2 λi a=>(j4 (by kernel_rfl) ((Aw6 L Q Y s (F2 2 (F6 (L8 L) Q Y (cd [1,1,1,1,1,1] Aw) (I8 (L8 L) ae7))) L i a 0 []).trans (congr rfl (fx3 λg b e=>(j4 (by kernel_rfl) (A0 rfl (A0 (A6 λh=>(ag (FN L Q Y s j L g h e))) (ag (FN L Q Y s j L g b e))))))))))))))
noncomputable abbrev Bh:Code:=D7 af8
noncomputable def Q8(L:Nat):=mkC L 151 [(17,[0,1,0,0,0,1,0,0,0]),(3,[0,1,0,0,0])] [(27,[2,0]),(26,[0,3,0]),(25,[0,3,0,1]),(24,[2,0]),(23,[0,3,0,1,0,77]),(18,[0,3,0,1,0,0,0]),(22,[0,3,0,1,0,0,0]),(21,[2,0]),(20,[0,3,0,1,0,0,0,0,61]),(19,[0,3,0,1,0,0,0,0]),(17,[0,3,0,1,0,0,0,48]),(16,[0,3,0,1,0,0,0]),(15,[2,0]),(14,[0,3,0,1,0,0,46]),(9,[0,3,0,1,0,0]),(11,[0,3,0,1,0,0]),(13,[0,3,0,1,0,0]),(6,[2,0]),(12,[0,3,0,0,35]),(10,[0,3,0,0,26]),(8,[0,3,0,0,17]),(7,[0,3,0,0,0,0,0,11]),(5,[0,3,0,0,0,0,0]),(4,[0,3,0,0]),(3,[0,3,0,9]),(2,[0,3,0]),(1,[0,3]),(0,[0])] [(0,[4]),(1,[0,3,0]),(3,[0,3,0,1,0,0]),(4,[0,3,0,1,0,0,0]),(2,[0,3,0,1,0,0])] [2,0] [(175,Xk)] [175]
def Zn(L n:Nat)(d:By)(a e:Int)(c:LL)(b:Kbh R):Option R:=match n with|0=>none|n+1=>b d a e c
def Bn4(n c a d b):D4 1 ((Q8 L).keep 17) (bd (Q8 L) Q Y (cd [1,1,0,1,0,0,1,0,1,1,1,1,0,1,0,0] Bh)) n ⟨gp [(0,pS c),(3,.fl 0),(0,pI a),(1,pI 1),(0,pI d),(0,pI 0),(0,pI 1)] 84,[.arr true 3 1 b],s⟩ k =
 Zn L n c a d b (λc a d b=>k (.exit 3) ⟨gp [(0,pS c),(3,.fl 0),(0,pI a),(1,pI 1),(0,pI d),(0,pI 0)] 85,[.arr true 3 1 b],s⟩):=by
 induction n generalizing c a d b with
 | zero=>rfl
 | succ n e=>rw[Zn];kernel_rfl
def Zm(L:Nat)(i:By)(g j:Int)(h:LL)(d:LL->Option R)(l:By->Int->LL->Option R):Option R:=vl (A1 ((i.length:Int)-g)) λe=>cond (ltI e 1) (d h) (Zn L L i g j h (λf c b a=>cond (ltI b 0) (d a) (cond (not (ptI b)) (d a) (cond (G0 (a.length+1)) (l f (A1 (c+1)) (a++[[(SV.int .i64 b)]])) none))))
abbrev DV(b:Code):Prop:=∀(k:Out->St W->Option R) c a b2 b3 l4,C3 (Q8 L) Q Y b ⟨gp [(0,pS c),(3,.fl 0),(0,pI a),(0,pI b2),(0,pI 1),(0,pI b2),(0,pI 0),(11,pB b3)] 73,[.arr true 3 1 l4],s⟩ k=Zm L c a b2 l4 (λd=>k .ret ⟨gp [(2,.fl 1),(0,pB false)] 91,[.arr true 3 1 d,.arr true 3 1 []],s⟩) (λc a e=>k .normal ⟨gp [(0,pS c),(3,.fl 0),(0,pI a)] 89,[.arr true 3 1 e],s⟩)
def Bm8:DV (R:=R) L Q Y s (cd [1,1,0,1,0,0,1,0,1,1,1] Bh):=by intro k e b a f c;unfold Zm;exact(j4 (by kernel_rfl) (A6 λd=>(A0 rfl (ag (Bn4 L Q Y s (F2 3 (F6 (Q8 L) Q Y (cd [1,1,0,1,0,0,1,0,1,1,1,1,1] Bh) k)) L e b a c)))))
abbrev Kcb(R:Type):=By->Int->Int->Int->Int->LL->Option R
def Pa(h:By)(e c:Int)(i:Bool)(d:LL)(f:Kcb R)(g:LL->Option R):Option R:=cond i (vl (A1 (c-224)) λa=>f h e 3 a 2048 d) (cond (not (ltI c 240)) (cond (ltI c 245) (vl (A1 (c-240)) λb=>f h e 4 b 65536 d) (g d)) (g d))
abbrev TT(b:Code):Prop:=∀(k:Out->St W->Option R) d c b2 b3 l4,C3 (Q8 L) Q Y b ⟨gp [(0,pS d),(3,.fl 0),(0,pI c),(0,pI b2),(26,pB b3)] 61,[.arr true 3 1 l4],s⟩ k=Pa d c b2 b3 l4 (λd c g h a f=>k .normal ⟨gp [(0,pS d),(3,.fl 0),(0,pI c),(1,pI g),(0,pI h),(0,pI a)] 85,[.arr true 3 1 f],s⟩) (λe=>k .ret ⟨gp [(2,.fl 1),(0,pB false)] 91,[.arr true 3 1 e,.arr true 3 1 []],s⟩)
def Bn0:TT (R:=R) L Q Y s (cd [1,1,0,1,0,0,1,0,1,1,0,0,1,1,1,1,1] Bh):=by intro k e c a b d;unfold Pa;kernel_rfl
def Pb(v:By)(r c:Int)(x:Bool)(u:LL)(t:Kcb R)(w:LL->Option R):Option R:=cond x (vl (A1 (c-192)) λj=>t v r 2 j 128 u) (cond (not (ltI c 224)) (Pa v r c (ltI c 240) u (λn d l p a f=>t n d l p a f) (λg=>w g)) (Pa v r c false u (λo e m q b h=>t o e m q b h) (λi=>w i)))
abbrev Uj(b:Code):Prop:=∀(k:Out->St W->Option R) d c b2 b3 l4,C3 (Q8 L) Q Y b ⟨gp [(0,pS d),(3,.fl 0),(0,pI c),(0,pI b2),(17,pB b3)] 70,[.arr true 3 1 l4],s⟩ k=Pb d c b2 b3 l4 (λd c g h a f=>k .normal ⟨gp [(0,pS d),(3,.fl 0),(0,pI c),(1,pI g),(0,pI h),(0,pI a)] 85,[.arr true 3 1 f],s⟩) (λe=>k .ret ⟨gp [(2,.fl 1),(0,pB false)] 91,[.arr true 3 1 e,.arr true 3 1 []],s⟩)
def Bn1(a:Code)(b:TT (R:=R) L Q Y s a):Uj (R:=R) L Q Y s (cd [1,1,0,1,0,0,1,0,1,1,0,0,1,1,1] (Q9 [1,1,0,1,0,0,1,0,1,1,0,0,1,1,1,1,1] a Bh)):=by intro k g e c d f;unfold Pb;simp only[<-b k];kernel_rfl
def Bn2:Uj (R:=R) L Q Y s (cd [1,1,0,1,0,0,1,0,1,1,0,0,1,1,1] Bh):=by intro k e c a b d;exact j4 (by kernel_rfl) (Bn1 L Q Y s (cd [1,1,0,1,0,0,1,0,1,1,0,0,1,1,1,1,1] Bh) (Bn0 L Q Y s) k e c a b d)
def Hh(L n:Nat)(h:By)(f j m a c:Int)(g:LL)(i:LL->Option R)(l:Kcb R):Option R:=match n with|0=>none|n+1=>cond (ltI c j) (cond (inR (A1 (f+c)) h.length) (vl (bAt h (A1 (f+c))) λb=>cond (ltI (A1 b) (128:Int)) (i g) (cond (ltI 191 (A1 b)) (i g) (vl (A1 ((A1 (m*64))+(A1 b))) λd=>vl (A1 (d-128)) λe=>Hh L n h f j e a (A1 (c+1)) g i l))) none) (l h f j m a g)
def Bn6(n d b c e a kk5 l6):D4 1 ((Q8 L).keep 17) (bd (Q8 L) Q Y (cd [1,1,0,1,0,0,1,0,1,1,1,1,0,1,0,0] Bh)) n ⟨gp [(0,pS d),(3,.fl 0),(0,pI b),(1,pI c),(0,pI e),(0,pI a),(0,pI kk5)] 84,[.arr true 3 1 l6],s⟩ k =
 Hh L n d b c e a kk5 l6 (λg=>k .ret ⟨gp [(2,.fl 1),(0,pB false)] 91,[.arr true 3 1 g,.arr true 3 1 []],s⟩) (λd b c e a h=>k (.exit 3) ⟨gp [(0,pS d),(3,.fl 0),(0,pI b),(1,pI c),(0,pI e),(0,pI a)] 85,[.arr true 3 1 h],s⟩):=by
 induction n generalizing d b c e a kk5 l6 with
 | zero=>rfl
 | succ n f=>rw[Hh];simp only[<-f];kernel_rfl
def Fo(L:Nat)(o:By)(l n q d:Int)(m:LL)(j:LL->Option R)(p:By->Int->LL->Option R):Option R:=vl (A1 ((o.length:Int)-l)) λg=>cond (ltI g n) (j m) (Hh L L o l n q d 1 m (λf=>j f) (λi e h c b a=>cond (ltI c b) (j a) (cond (not (ptI c)) (j a) (cond (G0 (a.length+1)) (p i (A1 (e+h)) (a++[[(SV.int .i64 c)]])) none))))
abbrev DW(b:Code):Prop:=∀(k:Out->St W->Option R) c a n2 v3 least4 l5,C3 (Q8 L) Q Y b ⟨gp [(0,pS c),(3,.fl 0),(0,pI a),(1,pI n2),(0,pI v3),(0,pI least4)] 85,[.arr true 3 1 l5],s⟩ k=Fo L c a n2 v3 least4 l5 (λd=>k .ret ⟨gp [(2,.fl 1),(0,pB false)] 91,[.arr true 3 1 d,.arr true 3 1 []],s⟩) (λc a e=>k .normal ⟨gp [(0,pS c),(3,.fl 0),(0,pI a)] 89,[.arr true 3 1 e],s⟩)
def Bn3:DW (R:=R) L Q Y s (cd [1,1,0,1,0,0,1,0,1,1,1] Bh):=by intro k f c e g a d;unfold Fo;exact(j4 (by kernel_rfl) (A6 λb=>(A0 rfl (ag (Bn6 L Q Y s (F2 3 (F6 (Q8 L) Q Y (cd [1,1,0,1,0,0,1,0,1,1,1,1,1] Bh) k)) L f c e g a 1 d)))))
def Az(L n:Nat)(d:By)(c:Int)(D:LL)(e:LL->Option R)(C:LL->Option R):Option R:=match n with|0=>none|n+1=>cond (ltI c (d.length:Int)) (cond (inR c d.length) (cond (ltI (A1 (bAt d c)) (128:Int)) (Zm L d c (A1 (bAt d c)) D (λG=>e G) (λI F H=>Az L n I F H e C)) (cond (not (ltI (A1 (bAt d c)) (194:Int))) (Pb d c (A1 (bAt d c)) (ltI (A1 (bAt d c)) (224:Int)) D (λw f u A a j=>Fo L w f u A a j (λm=>e m) (λx g o=>Az L n x g o e C)) (λl=>e l)) (Pb d c (A1 (bAt d c)) false D (λy h v B b p=>Fo L y h v B b p (λr=>e r) (λz i t=>Az L n z i t e C)) (λq=>e q)))) none) (C D)
def Bn7(a:Code)(e:DV (R:=R) L Q Y s a)(d:DW (R:=R) L Q Y s a)(b:Code)(c:Uj (R:=R) L Q Y s b)(n:Nat)(i:By)(h:Int)(j:LL):D4 1 ((Q8 L).keep 3) (bd (Q8 L) Q Y (cd [1,1,0,1,0,0] (Q9 [1,1,0,1,0,0,1,0,1,1,0,0,1,1,1] b (Q9 [1,1,0,1,0,0,1,0,1,1,1] a Bh)))) n ⟨gp [(0,pS i),(3,.fl 0),(0,pI h)] 89,[.arr true 3 1 j],s⟩ k =
 Az L n i h j (λI=>k .ret ⟨gp [(2,.fl 1),(0,pB false)] 91,[.arr true 3 1 I,.arr true 3 1 []],s⟩) (λI=>k (.exit 0) ⟨gp [(4,.fl 0)] 90,[.arr true 3 1 I],s⟩):=by
 induction n generalizing i h j with
 | zero=>rfl
 | succ n G=>rw[Az];exact let D:=(F2 1 (lpK 1 ((Q8 L).keep 3) (bd (Q8 L) Q Y (cd [1,1,0,1,0,0] (Q9 [1,1,0,1,0,0,1,0,1,1,0,0,1,1,1] b (Q9 [1,1,0,1,0,0,1,0,1,1,1] a Bh)))) n k));let K:=(F2 2 (F6 (Q8 L) Q Y a D));(j4 (by kernel_rfl) (A0 (A0 (A0 ((e D i h (A1 (bAt i h)) (ltI (A1 (bAt i h)) (128:Int)) j).trans (congr (congr rfl (by kernel_rfl)) (fx3 λJ F H=>(j4 (by kernel_rfl) (G J F H))))) (A0 ((c K i h (A1 (bAt i h)) (ltI (A1 (bAt i h)) (224:Int)) j).trans (congr (congr rfl (fx6 λx l v B f q=>(j4 (by kernel_rfl) ((d D x l v B f q).trans (congr (congr rfl (by kernel_rfl)) (fx3 λy m r=>(j4 (by kernel_rfl) (G y m r)))))))) (by kernel_rfl))) ((c K i h (A1 (bAt i h)) false j).trans (congr (congr rfl (fx6 λz o w C g t=>(j4 (by kernel_rfl) ((d D z o w C g t).trans (congr (congr rfl (by kernel_rfl)) (fx3 λA p u=>(j4 (by kernel_rfl) (G A p u)))))))) (by kernel_rfl))))) rfl) rfl))
def Dt1(L:Nat)(e:By)(c:LL->Option R)(d:LL->Option R):Option R:=Az L L e 0 [] (λa=>c a) (λb=>d b)
def Dt2(b:Code)(c:DV (R:=PV × List Blk × W) L Q Y s b)(e:DW (R:=PV × List Blk × W) L Q Y s b)(a:Code)(d:Uj (R:=PV × List Blk × W) L Q Y s a)(g:By):C3 (Q8 L) Q Y (cd [] (Q9 [1,1,0,1,0,0,1,0,1,1,0,0,1,1,1] a (Q9 [1,1,0,1,0,0,1,0,1,1,1] b Bh))) ⟨[pS g]++tps 94,[],s⟩ (I8 (Q8 L) af8)=Dt1 L g (λf=>some (.tup [.fl 1,pB false],[.arr true 3 1 f,.arr true 3 1 []],s)) (λf=>some (.tup [.fl 0,pB true],[.arr true 3 1 f],s)):=by unfold Dt1;exact(j4 (by kernel_rfl) (ag (Bn7 L Q Y s (F2 0 (F6 (Q8 L) Q Y (cd [1,1,1] Bh) (I8 (Q8 L) af8))) b c e a d L g 0 [])))
def Dt3(d:Nat)(s0):evC (Q8 L) (d+1) W Y 151 [pS s0] [] s=Dt1 L s0 (λa=>some (.tup [.fl 1,pB false],[.arr true 3 1 a,.arr true 3 1 []],s)) (λa=>some (.tup [.fl 0,pB true],[.arr true 3 1 a],s)):=
 (evE (fn:=af8) (by kernel_rfl)).trans (j4 (by kernel_rfl) (Dt2 L (evC (Q8 L) d) Y s (cd [1,1,0,1,0,0,1,0,1,1,1] Bh) (Bm8 L (evC (Q8 L) d) Y s) (Bn3 L (evC (Q8 L) d) Y s) (cd [1,1,0,1,0,0,1,0,1,1,0,0,1,1,1] Bh) (Bn2 L (evC (Q8 L) d) Y s) s0))
noncomputable abbrev By0:Code:=D7 ah8
noncomputable def Su(L:Nat):=mkC L 154 [(6,[0,1,0,1,0])] [(12,[2]),(11,[0,4,1,0]),(7,[0,2,1,0]),(10,[2]),(9,[0,2,1,0,34]),(8,[0,2,1,0]),(6,[0,2,1,0,12]),(5,[0,2,1,0]),(4,[0,2,1]),(3,[2]),(2,[0,2,11]),(1,[0,2,0]),(0,[0])] [(0,[0,2,1]),(1,[0,2,1,0])] [2] [(179,Bw1),(152,A62)] [152]
def Ap(L n:Nat)(a:By)(d:Bool)(b:LL)(e:Bool)(c:Int)(f:Unit->Option R)(g:Kdc R):Option R:=match n with|0=>none|n+1=>cond (ltI c (b.length:Int)) (cond e (cond (inR c b.length) (cond (okE Na b (j0 c) 0) (cond (not (ltI (gE b (j0 c) 0) (65:Int))) (cond (inR c b.length) (cond (okE Na b (j0 c) 0) (cond (not (ltI 90 (gE b (j0 c) 0))) (f ()) (Ap L n a d b true (A1 (c+1)) f g)) none) none) (Ap L n a d b true (A1 (c+1)) f g)) none) none) (cond (inR c b.length) (cond (okE Na b (j0 c) 0) (cond (inR c b.length) (cond (okE Na b (j0 c) 0) (cond (not (ltI (gE b (j0 c) 0) (65:Int))) (cond (inR c b.length) (cond (okE Na b (j0 c) 0) (cond (not (ltI 90 (gE b (j0 c) 0))) (f ()) (Ap L n a d b (not (ltI (gE b (j0 c) 0) (128:Int))) (A1 (c+1)) f g)) none) none) (Ap L n a d b (not (ltI (gE b (j0 c) 0) (128:Int))) (A1 (c+1)) f g)) none) none) none) none)) (g a d b e)
def Ax2(n c b d a i4):D4 0 ((Su L).keep 6) (bd (Su L) Q Y (cd [1,1,1,1,0,1,0,0] By0)) n ⟨gp [(0,pS c),(2,.s (.sl b b 1 d)),(1,pB a),(0,pI i4)] 50,[],s⟩ k =
 Ap L n c b d a i4 (λ_=>k .ret ⟨gp [(2,pB false)] 54,[],s⟩) (λc b d a=>k (.exit 0) ⟨gp [(0,pS c),(2,.s (.sl b b 1 d)),(1,pB a)] 51,[],s⟩):=by
 induction n generalizing c b d a i4 with
 | zero=>rfl
 | succ n e=>rw[Ap];simp only[<-e];kernel_rfl
def B63(L:Nat)(a:By)(e:Bool->Option R):Option R:=cond (A2 a.length) (vl (↑((P6 a)).2:Int) λf=>cond (f !=0) (e false) (Ap L L a (s9 ((P6 a)).1) (Oi ((P6 a)).1) false 0 (λ_=>e false) (λc h d b=>cond (aa7 d Px) (vl ((Z8 (x3 elI d))).1 λi=>vl (↑((Z8 (x3 elI d))).2:Int) λg=>cond (g==0) (cond (i==c) (e b) (e false)) (e false)) none))) none
def C70(d:Nat)(rest0):evC (Su L) (d+1) W Y 154 [pS rest0] [] s=B63 L rest0 (λb=>some (pB b,[],s)):=evT ah8 λQ=>by
 unfold B63;exact(j4 (by kernel_rfl) (A0 (A6 λa=>(A0 rfl (ag (Ax2 L Q Y s (F2 0 (F6 (Su L) Q Y (cd [1,1,1,1,1] By0) (I8 (Su L) ah8))) L rest0 (s9 ((P6 rest0)).1) (Oi ((P6 rest0)).1) false 0)))) rfl))
noncomputable abbrev Bx8:Code:=D7 ah7
noncomputable def Sr(L:Nat):=mkC L 115 [(4,[0,1,0])] [(9,[2]),(5,[0,2]),(8,[2]),(7,[0,2,52]),(6,[0,2,0]),(4,[0,2,24]),(3,[0,2]),(2,[2]),(1,[0,23]),(0,[0])] [(0,[0]),(1,[0,2])] [2] [(154,Bw3)] [154]
def Q1(L n:Nat)(a:By)(b:Int)(c:Unit->Option R)(d:By->Option R):Option R:=match n with|0=>none|n+1=>cond (ltI b (a.length:Int)) (cond (inR b a.length) (cond (not (ltI (bAt a b) (97:Int))) (cond (not (ltI 122 (bAt a b))) (Q1 L n a (A1 (b+1)) c d) (cond (not (ltI (bAt a b) (48:Int))) (cond (not (ltI 57 (bAt a b))) (Q1 L n a (A1 (b+1)) c d) (cond ((bAt a b)==45) (Q1 L n a (A1 (b+1)) c d) (cond (not ((bAt a b)==95)) (c ()) (Q1 L n a (A1 (b+1)) c d)))) (cond ((bAt a b)==45) (Q1 L n a (A1 (b+1)) c d) (cond (not ((bAt a b)==95)) (c ()) (Q1 L n a (A1 (b+1)) c d))))) (cond (not (ltI (bAt a b) (48:Int))) (cond (not (ltI 57 (bAt a b))) (Q1 L n a (A1 (b+1)) c d) (cond ((bAt a b)==45) (Q1 L n a (A1 (b+1)) c d) (cond (not ((bAt a b)==95)) (c ()) (Q1 L n a (A1 (b+1)) c d)))) (cond ((bAt a b)==45) (Q1 L n a (A1 (b+1)) c d) (cond (not ((bAt a b)==95)) (c ()) (Q1 L n a (A1 (b+1)) c d))))) none) (d a)
def Aw0(n a i1):D4 0 ((Sr L).keep 4) (bd (Sr L) Q Y (cd [1,1,0,1,0,0] Bx8)) n ⟨gp [(0,pS a),(2,pI i1)] 66,[],s⟩ k =
 Q1 L n a i1 (λ_=>k .ret ⟨gp [(2,pB false)] 67,[],s⟩) (λa=>k (.exit 0) ⟨gp [(0,pS a)] 69,[],s⟩):=by
 induction n generalizing a i1 with
 | zero=>rfl
 | succ n b=>rw[Q1];simp only[<-b];kernel_rfl
def B59(L:Nat)(c:By)(b:Bool->Option R):Option R:=cond (c==[]) (b false) (cond (ltI 63 (c.length:Int)) (b false) (cond (inR 0 c.length) (cond ((bAt c (0:Int))==45) (b false) (vl (A1 ((c.length:Int)-1)) λd=>cond (inR d c.length) (cond ((bAt c d)==45) (b false) (Q1 L L c 0 (λ_=>b false) (λa=>cond (ltI (a.length:Int) (4:Int)) (b true) (cond (J5 0 (4:Int) a.length) (vl (cut a 0 (4:Int)) λf=>cond (not (f==[120,110,45,45])) (b true) (cond (J5 4 (a.length:Int) a.length) (vl (cut a 4 (a.length:Int)) λe=>cond (A2 e.length) (b (Fl e)) none) none)) none)))) none)) none))
def C63(d:Nat)(s0):evC (Sr L) (d+1) W Y 115 [pS s0] [] s=B59 L s0 (λb=>some (pB b,[],s)):=evT ah7 λQ=>by
 unfold B59;exact(j4 (by kernel_rfl) (A0 rfl (A0 rfl (A0 (A0 rfl (A6 λa=>(A0 (A0 rfl (ag (Aw0 L Q Y s (F2 0 (F6 (Sr L) Q Y (cd [1,1,1] Bx8) (I8 (Sr L) ah7))) L s0 0))) rfl))) rfl))))
noncomputable def B02(L:Nat):=mkC L 113 [] [(15,[2,0]),(14,[2,0]),(13,[6,37]),(12,[6]),(11,[2,0]),(10,[9,29]),(9,[9,0]),(8,[7]),(7,[6,20]),(6,[0,3,1]),(5,[2,0]),(4,[0,3,15]),(3,[2,0]),(2,[0,3,12]),(1,[0,3,0]),(0,[0])] [] [2,0] [(151,Cs2),(77,JD),(152,A62),(115,WN)] [77,152,115]
def B58(L:Nat)(a:By)(b:By->Int->Option R):Option R:=cond (A2 a.length) (cond (not (Option.isSome (Ey a))) (b ([]:By) 4) (cond (ltI 256 (↑(j7 (Oi (Ut a))):Int)) (b ([]:By) 3) (cond (A2 a.length) (cond (ltI (↑(j7 (Oi (Ut a))):Int) (a.length:Int)) (cond (A2 (j7 (C6 a))) (cond (aa7 (Oi (Ut (C6 a))) Px) (vl ((Z8 (x3 elI (Oi (Ut (C6 a)))))).1 λd=>vl (↑((Z8 (x3 elI (Oi (Ut (C6 a)))))).2:Int) λe=>cond (e !=0) (b ([]:By) 14) (cond (F7 4 d.length) (vl (([120,110,45,45]:By)++d) λc=>cond (A2 c.length) (cond (not (N5 c)) (b ([]:By) 14) (b c 0)) none) none)) none) none) (cond (A2 (j7 (C6 a))) (cond (not (N5 (C6 a))) (b ([]:By) 14) (b (C6 a) 0)) none)) none))) none
def C62(d:Nat)(s0):evC (B02 L) (d+1) W Y 113 [pS s0] [] s=B58 L s0 (λa b=>some (.tup [pS a,pI b],[],s)):=evT Tryz.f113 λQ=>by
 unfold B58;kernel_rfl
end
def Ax1{a:Bool->Option R}(n:Int):Ad5 LF n a=a (ptI n):=by
 unfold Ad5;by_cases h:n<0
 ·rw[C5 h];have:ptI n=false:=by
   cases n with
   | ofNat m=>exact absurd h (by simp)
   | negSucc m=>rfl
  grind
 ·obtain⟨m,rfl⟩:=w8 (show 0<=n by omega);rw[A5,Oo];unfold Z0;by_cases b:1114111<m
  ·rw[A7];have:x8 m 1114111=false:=by rw[ab3,ne_eq,ah3];omega
   grind
  ·rw[A5];have:x8 m 1114111=true:=by rw[ah3];omega
   rw[this];by_cases c:m<55296
   ·rw[A7];have:ah1 m 55296=true:=by rw[ad6];omega
    grind
   ·rw[A5];have e:ah1 m 55296=false:=by rw[ab3,ne_eq,ad6];omega
    rw[e];simp only[o6,aa,ab,x6,w6]
    congr 1
def Au7{k0:Int->Int->Option R}:∀(d n k:Nat),d<2305843009213693952->d<n->k+d<=4611686018427387904->
  ∃a b,a<=455/\b<=k+d/\BU d k=b+36*a / (a+38)/\Hw LF n (d:Int) (k:Int) k0=k0 (a:Int) (b:Int):=by
 intro d
 induction d using Nat.strongRecOn with
 | _ d l=>
  intro n k p r q;rcases n with _|n;omega
  rw[Hw];by_cases h:455<d
  ·obtain⟨a,b,g,o,i,j⟩:=l (d / 35) (by omega) n (k+36) (by omega) (by omega) (by omega);refine⟨a,b,g,by omega,by rw[KG h];exact i,?_⟩;have e:aa1 (d:Int) 35=((d / 35:Nat):Int):=O2 d 35;have c:A1 ((d / 35:Nat):Int)=((d / 35:Nat):Int):=A4;have f:A1 ((k:Int)+36)=((k+36:Nat):Int):=ah
   rw[A7];simp only[aa,vl,e,c,f];exact j
  ·refine⟨d,k,by omega,by omega,Vu h,?_⟩;rw[A5];rfl
def Au8{k0:Int->Option R}(d c:Int)(f:Bool)(z:ltN d 1152921504606846976=true)(A:ltN c 1000000=true)(B:ltI 0 c=true):NK LF d c f k0=k0 (T4 d.toNat c.toNat f:Nat):=by
 obtain⟨k,F⟩:=E9.1 z;obtain⟨j,D⟩:=E9.1 A;obtain⟨d,rfl⟩:=w8 k;obtain⟨c,rfl⟩:=w8 j;have J:=Of.1 B;have C:=C9;have key:∀x:Nat,x<1152921504606846976->Hv LF (x:Int) (c:Int) k0=k0 ((BU (x+x / c) 0:Nat):Int):=by
  intro x L;have G:x / c<=x:=ag9 _ _;unfold Hv;have g:aa1 (x:Int) (c:Int)=((x / c:Nat):Int):=O2 x c;generalize x / c=q at *;have h:A1 (q:Int)=(q:Int):=A4;have o:A1 ((x:Int)+(q:Int))=((x+q:Nat):Int):=ah
  rw[show((c:Int)!=0)=true by simp;omega];simp only[aa,vl,g,h,o];obtain⟨a,n,H,I,w,y⟩:=Au7 (R:=R) (k0:=λb l=>vl (A1 ((36)*b)) λm=>vl (A1 (b+(38))) λe=>cond (e !=(0)) (vl (A1 (aa1 m e)) λi=>k0 (A1 (l+i))) none) (x+q) LF 0 (by omega) (by omega) (by omega);refine j4 y ?_;have K:36*a / (a+38)<=36*a:=ag9 _ _;have p:A1 (36*(a:Int))=((36*a:Nat):Int):=ah
  have r:A1 ((a:Int)+38)=((a+38:Nat):Int):=ah
  have t:aa1 ((36*a:Nat):Int) ((a+38:Nat):Int)=((36*a / (a+38):Nat):Int):=O2 _ _;have u:A1 ((36*a / (a+38):Nat):Int)=((36*a / (a+38):Nat):Int):=A4;have v:A1 ((n:Int)+((36*a / (a+38):Nat):Int))=((n+36*a / (a+38):Nat):Int):=ah
  simp only[vl,p,r,t,u,v];rw[show(((a+38:Nat):Int)!=0)=true by simp;omega,w];rfl
 unfold NK T4;rw[j5,j5];cases f with
 | true=>
  have g:aa1 (d:Int) 700=((d / 700:Nat):Int):=O2 d 700;have h:A1 ((d / 700:Nat):Int)=((d / 700:Nat):Int):=A4;simp only[aa,vl,g,h,if_true];exact key _ (by omega)
 | false=>
  have g:aa1 (d:Int) 2=((d / 2:Nat):Int):=O2 d 2;have h:A1 ((d / 2:Nat):Int)=((d / 2:Nat):Int):=A4;simp only[ab,vl,g,h,ac5,if_false];exact key _ (by omega)
def Bh4{b:Int->Option R}(d:Int)(c:ltN d 36=true):B50 LF d b=b ((Bn d.toNat).toNat:Nat):=by
 obtain⟨a,e⟩:=E9.1 c;obtain⟨d,rfl⟩:=w8 a;unfold B50;rw[j5,RU (by omega)];by_cases h:d<26
 ·rw[A7,ac h];simp only[aa,vl]
  congr 1
  rw[A4,O4];rfl
 ·rw[A5,ae h];simp only[ab,vl]
  congr 1
  rw[E0 (n:=48+(d:Int)) (by omega) (by omega),A4,O4];omega
def Cl8{g:Int->Option R}(b:Int)(h:inR b 256=true):Du6 LF b g=g (F5 (u8n b)):=by
 simp only[inR,s8,af] at h;have j:b=((u8n b).toNat:Int):=by
  unfold u8n;simp;omega
 generalize u8n b=c at *;subst j;have i:=c.toNat_lt;unfold Du6 F5;simp only[Ae1,Ae0,vl];rcases GE c with⟨d,f,e⟩|⟨d,f,e⟩|⟨d,f,e⟩|⟨d,f,o,e⟩
 ·have a:A1 (wu8 ((c.toNat:Int)-97))=((c.toNat-97:Nat):Int):=by
   rw[O4,A4];omega
  simp (disch:=omega) only[C5,D8,o5,o6,ab,aa,a,e]
 ·have a:A1 (wu8 ((c.toNat:Int)-65))=((c.toNat-65:Nat):Int):=by
   rw[O4,A4];omega
  simp (disch:=omega) only[C5,D8,o5,o6,ab,aa,a,e]
 ·have a:A1 (A1 (wu8 ((c.toNat:Int)-48))+26)=((c.toNat-22:Nat):Int):=by
   rw[O4,E0 (n:=(c.toNat:Int)-48) (by omega) (by omega),A4];omega
  simp (disch:=omega) only[C5,D8,o5,o6,ab,aa,a,e]
 ·rw[e];by_cases k:c.toNat<48
  ·simp (disch:=omega) only[C5,D8,o5,o6,ab,aa]
  ·by_cases l:c.toNat<65
   ·simp (disch:=omega) only[C5,D8,o5,o6,ab,aa]
   ·by_cases m:c.toNat<97
    ·simp (disch:=omega) only[C5,D8,o5,o6,ab,aa]
    ·simp (disch:=omega) only[C5,D8,o5,o6,ab,aa]
def Ck6{a:Int->Option R}(k b:Int)(c:ltN k 10000000000=true)(d:ltN b 1000000=true):Dt5 LF k b a=a (N4 (ah0 36 k) b):=by obtain⟨j,l⟩:=E9.1 c;obtain⟨e,f⟩:=E9.1 d;unfold Dt5 N4;have g:A1 (k+1)=k+1:=A4;have h:A1 ((36:Int)*(k+1))=36*(k+1):=A4;have i:A1 (36*(k+1)-b)=36*(k+1)-b:=A4;grind
end
end Go.Proofs.YteickfjoihhgkaaGreatDoor.E
