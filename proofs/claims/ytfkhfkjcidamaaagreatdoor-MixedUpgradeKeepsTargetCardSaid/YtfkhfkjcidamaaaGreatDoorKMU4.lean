/-
  Parts of the proof, merged by a program of the prover's own; no condition.
-/
import Derived.Test.YtfkhfkjcidamaaaGreatDoorKMU3
import Derived.LaidMore
import Derived.LaidSub
import Derived.Lay
import Derived.Lib.IndexAny
import Derived.Lib.MapLaws
import Derived.Lib.TrimAscii
import Derived.Lib.TrimUEq
import Derived.Lib.ValidLaws
import Derived.OpenShut
import Derived.ProofKit
import Derived.Shelf.Vars
import Derived.Test.YtfkhfkjcidamaaaGreatDoorChecked
import Derived.Test.YtfkhfkjcidamaaaGreatDoorRows
open Go.Proofs.Tryz renaming prog->a8,f180->ai6,checked->ak4,f115->ak9,f121->al0,f159->al1,f181->al2,f196->al3,f119->am5,f133->am6,f165->am7,f214->am8,f236->am9,f82->ao1
open List renaming getD->b8,length->b9,length_drop->j0,length_cons->j4,length_take->j6,length_singleton->j7,length_eq_zero_iff->j8,length_append->j9,drop_of_length_le->o8,mem_cons->p5,length_map->p9,drop_zero->v7,getD_eq_getElem?_getD->w6,size_toArray->x3,mem_append->x5,length_nil->x8,mem_singleton->x9,mem_of_mem_drop->y7,append_assoc->y9,getElem?_append_right->z7,length_pos_iff->aa0,isPrefixOf->aa1,nil_append->aa2,countP_le_length->aa3,getElem?_take_of_lt->aa5,map_cons->aa8,all_eq_true->ab1,cons_append->ab2,append_nil->ab5,mem_of_mem_take->ab6,toArray->ab7,all_cons->ab9,getElem?_eq_getElem->ac0,map_congr_left->ac1,getElem?_cons_zero->ac2,getElem?_take->ac3,getElem?_toArray->ac7,take_left->ad0,getElem?_append_left->ad2,getElem?_cons_succ->ad9,take_of_length_le->ae4,map->ae5,map_append->ae6,drop_succ_cons->ae8,takeWhile_cons->ae9,map_map->af1,isSuffixOf_iff_suffix->af4,getElem?_eq_some_iff->af6,getLastD_eq_getLast?->af7,getElem?_map->ag0,countP_cons_of_neg->ag6,not_mem_nil->ag7,all_map->ag8,drop_left'->ah1,getElem?_eq_none->ah3,singleton_append->ah4,take_append_drop->ah5,drop_drop->ah9,drop_left->ai0,getLast?_append->ai1,replicate->ai2,drop->ai5,countP_pos_iff->ai7,getElem?_range->ai8,any_cons->aj0,getElem?_drop->aj1,map_nil->aj9,mem_of_head?->ak0,isEmpty_iff->ak6,take_length->ak7,append->al5,map_id->al6,mem_map->an5,all->an9
open Option.some renaming injEq->j1,inj->o5
open Int renaming toNat_natCast->j2,eq_ofNat_of_zero_le->x4,toNat->y5,add->ad7,tdiv->ah6,tmod->aj6,mul_nonneg->al9
open Eq renaming trans->j5
open Bool renaming and_eq_true->k9,not_true->o6,false_eq_true->o7,not_false->o9,eq_false_iff->w8,or_eq_true->ac4,and_true->ad3,true_and->ad4,eq_iff_iff->ad6,false_or->ag3,not_eq_true'->aj4,false_and->al7,or_self->an0
open Go.Value renaming int->o0
open UInt8 renaming ofNat->p4,toNat_inj->ae7,toNat->ao2
open Go.Lib renaming decodeL->p6,decDigits->v8,cut->x7,indexByte->aa4,join->aa6,index->ac6,decDigits_one->ac9,tabData->ad8,VarReads->ae0,decodeL_width->ae1,indexAny->ae2,join_one->af0,decodeL_ascii->af9,decodeL_drop->ag5,acceptData->ah7,decodeL_le->ah8,decodeL_N->ai9,deBruijn64tab->aj7,runeCountFrom->aj8,decodeL_rune->ak5,decodeN->al4,runeCountL->am0,firstTab->an1,join_nil->an2,pow10Tab->an3,validGoD->an4
open Nat renaming ble->p7,ble_eq->w9,le_refl->y8,mul_one->aa9,eq_of_beq_eq_true->ab3,le_of_ble_eq_true->ab4,zero_le->ab8,strongRecOn->ac5,ble_eq_true_of_le->ac8,div_le_self->ah2,mul_le_mul->ai3,mul_le_mul_right->ai4,lt_of_lt_of_le->aj2,pow_succ->ak1,sub_self->ak2,zero_add->ak3,mod_lt->am1,add_zero->an6,beq->an7
open Option renaming map_some->x6,isSome_map->ag1,bind_some->ak8,isSome->am3
open Array renaming length_toList->aa7,getElem?_append_left->af2,getElem?_eq_some_iff->af3,getElem?_eq_getElem->af5,size_append->aj3
open Go.Utf8 renaming decode->ab0
open Classical renaming byContradiction->ad1
open Go.World renaming laidAll->ad5,cell?->ag2,frozen?->ag4,shape?->ah0
open Go.Lib.laidMet renaming reads->ae3
open Go.MakeChecks renaming laidMetH_plain->af8
open Ne renaming symm->ag9
open Function renaming comp_def->aj5
open Go.DataW renaming trod->al8
open Prod.mk renaming injEq->am4
namespace Go.Proofs.YtfkhfkjcidamaaaGreatDoor.E
set_option linter.all false
section
open Go Go.Proofs
set_option maxRecDepth 100000
section
variable {Z R : Type} (L : Nat) (Q : G4) (Y : Yh Z) (s : Z) (k : Out -> St Z -> Option R)
noncomputable def A40(L:Nat):Cfg:=B8 L [238] (A2 []) [] (A2 [(2,[2]),(1,[1,1]),(0,[1])]) [] (A2 []) (some [2]) [] [] []
def Dz9{R:Type}(L:Nat)(b:Int)(a:Int->Option R):Option R:=a b
def Dj4(d:Nat)(b):evC (A40 L) (d+1) Z Y 238 [pI b] [] s=Dz9 L b (λn0=>some (.fnr (Fn.func 253) [] [.ptr 1 0 0,.ptr 0 0 0],[.box [pI n0],.box [pI (0:Int)]],s)):=by refine(evE (fn:=Tryz.f238) (by kernel_rfl)).trans ?_;generalize evC (A40 L) d=Q;unfold Dz9;kernel_rfl
noncomputable def XM(L:Nat):Cfg:=B8 L [253] (A2 []) [] (A2 [(2,[2]),(1,[0,0]),(0,[0,0])]) [] (A2 []) (some [2]) [] [] []
def By9{R:Type}(L:Nat)(k b:Int)(d:Int->Int->Int->Option R):Option R:=vl (A1 ((A1 (k+36))-b)) λa=>vl (if ((26:Int)<(if ((1:Int) > a) then (1:Int) else a)) then (26:Int) else (if ((1:Int) > a) then (1:Int) else a)) λc=>d c (A1 (k+36)) b
def Cw8(d:Nat)(k b):evC (XM L) (d+1) Z Y 253 [.ptr 0 0 0,.ptr 1 0 0] [.box [pI k],.box [pI b]] s=By9 L k b (λe a c=>some (pI e,[.box [pI a],.box [pI c]],s)):=by refine(evE (fn:=Tryz.f253) (by kernel_rfl)).trans ?_;generalize evC (XM L) d=Q;unfold By9;kernel_rfl
noncomputable abbrev Dw9:Code:=C7 am8
noncomputable def BH(L:Nat):Cfg:=B8 L [214] (A2 [(2,[0,0,4,0])]) [(238,IK),(239,Az7)] (A2 [(6,[0,0,5]),(5,[0,0,5,0]),(4,[6]),(3,[0,0,5,0,6]),(2,[0,0,5,0]),(1,[0,0,5]),(0,[0,0,0])]) [239] (A2 [(0,[6]),(1,[0,0,5])]) (some [6]) [(253,Rj)] [] [253]
def Jn{R:Type}(L n:Nat)(f:Int)(p:Bool)(g:LL)(a b:Int)(o:Bool->LL->Int->Int->Option R):Option R:=match n with|0=>none|n+1=>cond (ltN b 1000000000000) (cond (ltN a 1000000) (cond (ltI f (L9 b a)) (cond (ltN f 36) (vl (↑(ao2 (Bc (y5 f))):Int) λh=>cond (G2 (g.length+1)) (o p (g++[[(SV.int .u8 h)]]) a (ad7 b (36:Int))) none) none) (vl (A1 (f-(L9 b a))) λi=>vl (A1 ((36:Int)-(L9 b a))) λc=>cond (c !=0) (vl (A1 ((L9 b a)+(aj6 i c))) λd=>cond (ltN d 36) (vl (↑(ao2 (Bc (y5 d))):Int) λj=>cond (G2 (g.length+1)) (vl (A1 (f-(L9 b a))) λl=>vl (A1 ((36:Int)-(L9 b a))) λe=>cond (e !=0) (vl (A1 (ah6 l e)) λm=>Jn L n m p (g++[[(SV.int .u8 j)]]) a (ad7 b (36:Int)) o) none) none) none) none)) none) none
def Bb5(n q0 z1 l2 a n4):D0 3 ((BH L).keep 2) (bd (BH L) Q Y (cd [1,1,0,0] Dw9)) n ⟨gp [(0,.fl 0),(0,pI q0),(5,.fnr (Fn.func 253) [] [.ptr 2 0 0,.ptr 1 0 0])] 31,[.arr z1 5 1 l2,.box [pI a],.box [pI n4]],s⟩ k =
 Jn L n q0 z1 l2 a n4 (λe c d a=>k .ret ⟨gp [(6,.fl 0)] 32,[.arr e 5 1 c,.box [pI d],.box [pI a]],s⟩):=by
 induction n generalizing q0 z1 l2 a n4 with
 | zero=>rfl
 | succ n b=>rw[Jn];simp only[<-b];kernel_rfl
def Dz6{R:Type}(L:Nat)(q b:Int)(z:Bool)(l:LL)(f:Bool->LL->Int->Int->Option R):Option R:=Jn L L q z l b 0 (λe a c d=>f e a c d)
def Di2(d:Nat)(q b z l):evC (BH L) (d+1) Z Y 214 [.fl 0,pI q,pI b] [.arr z 5 1 l] s=Dz6 L q b z l (λf a c e=>some (.fl 0,[.arr f 5 1 a,.box [pI c],.box [pI e]],s)):=by refine(evE (fn:=am8) (by kernel_rfl)).trans ?_;generalize evC (BH L) d=Q;unfold Dz6;exact(j5 (by kernel_rfl) ((Bb5 L Q Y s (E2 0 (F4 (BH L) am8)) L q z l b 0).trans (by kernel_rfl)))
noncomputable abbrev Fp:Code:=C7 al2
noncomputable def R6(L:Nat):Cfg:=B8 L [181] (A2 [(29,[0,1,0,0,2,0,0,0,0,61,0,0]),(21,[0,1,0,0,2,0,0,0,0,0,38,0,0]),(17,[0,1,0,0,2,0,0,0,0]),(5,[0,1,0,0,15,0,0])]) [(213,Pj),(215,Pi)] (A2 [(40,[2,0]),(18,[0,3,2,0,0,0,0]),(39,[0,3,2,0,0,0,0]),(38,[0,3,2,0,0,0,0,61,0,0]),(32,[0,3,2,0,0,0,0,61,0,0]),(37,[0,3,2,0,0,0,0,61,0,0]),(36,[0,3,2,0,0,0,0,61,0,0]),(35,[0,3,2,0,1,0,61,0,0]),(34,[0,3,2,0,0,1,61,0,0]),(33,[0,3,2,0,0,0,0,61,0,0,9]),(31,[0,3,2,0,0,0,0,4,56,0,0,3]),(30,[0,3,2,0,0,0,0,4,56,0,0]),(29,[0,3,2,0,0,0,0,61,0,0,0]),(28,[0,3,2,0,0,0,0,61,0,0]),(27,[0,3,2,0,0,0,0]),(26,[0,3,2,1,0,0,0]),(25,[0,3,2,0,0,0,0,0,38,0,0]),(24,[0,3,2,0,0,0,0,0,38,0,0]),(23,[0,3,2,0,0,0,0,0,1,36,0,0,5]),(22,[0,3,2,0,0,0,0,0,1,36,0,0]),(21,[0,3,2,0,0,0,0,0,38,0,0,0]),(20,[0,3,2,0,0,0,0,0,38,0,0]),(19,[0,3,2,0,0,0,0,0]),(17,[0,3,2,0,0,0,0,36]),(16,[0,3,2,0,0,0,0]),(15,[0,3,2,0,0,0]),(14,[0,3,2]),(13,[0,3,2,32]),(12,[0,3,2]),(11,[0,3,15,0,0]),(10,[0,3,15,0,0]),(9,[0,3,1,13,0,0,7]),(8,[2,0]),(7,[0,3,1,13,0,0,5]),(6,[0,3,1,13,0,0]),(5,[0,3,15,0,0,0]),(4,[0,3,15,0,0]),(3,[0,3]),(2,[2,0]),(1,[0,18]),(0,[0])]) [213,215] (A2 [(2,[4]),(3,[0,3,2,0,0,0,0]),(6,[0,3,2,0,0,0,0]),(7,[0,3,2,0,0,0,0,61,0,0]),(8,[0,3,2,0,0,0,0,61,0,0]),(4,[0,3,2,0,0,0,0,0]),(5,[0,3,2,0,0,0,0,0,38,0,0]),(0,[0,3]),(1,[0,3,15,0,0])]) (some [2,0]) [(214,UU)] [] [214]
def W0{R:Type}(L n:Nat)(c b:Bool)(a:LL)(i e:Int)(f:LL)(g:LL->Option R)(h:Bool->Bool->LL->LL->Option R):Option R:=match n with|0=>none|n+1=>cond (ltI e i) (cond (inR e a.length) (cond (okE Ma a (y5 e) 0) (vl (gE a (y5 e) 0) λd=>cond (not (ptI d)) (g f) (cond (ltI d 128) (cond (G2 (f.length+1)) (W0 L n c b a i (A1 (e+1)) (f++[[(SV.int .u8 (wu8 d))]]) g h) none) (W0 L n c b a i (A1 (e+1)) f g h))) none) none) (h c b a f)
def Bc6(n b a c n3 n4 l5):D0 1 ((R6 L).keep 5) (bd (R6 L) Q Y (cd [1,1,1,0,1,0,0] Fp)) n ⟨gp [(0,.s (.sl b a 1 c)),(3,.fl 0),(15,.s (.sl b a 1 c)),(0,pI n3),(0,pI n4)] 84,[.arr true 5 1 l5],s⟩ k =
 W0 L n b a c n3 n4 l5 (λe=>k .ret ⟨gp [(2,pS ([]:List UInt8)),(0,pI (2:Int))] 103,[.arr true 5 1 e],s⟩) (λb a c f=>k (.exit 0) ⟨gp [(0,.s (.sl b a 1 c)),(3,.fl 0)] 102,[.arr true 5 1 f],s⟩):=by
 induction n generalizing b a c n3 n4 l5 with
 | zero=>rfl
 | succ n d=>rw[W0];simp only[<-d];kernel_rfl
def Jq{R:Type}(L n:Nat)(c b:Bool)(a:LL)(d o e f g m q h:Int)(i:LL)(p:Bool->Bool->LL->Int->Int->Int->Int->Int->Int->LL->Option R):Option R:=match n with|0=>none|n+1=>cond (ltI h q) (cond (inR h a.length) (cond (okE Ma a (y5 h) 0) (vl (gE a (y5 h) 0) λj=>cond (not (ltI j o)) (vl (if (j<m) then j else m) λl=>Jq L n c b a d o e f g l q (A1 (h+1)) i p) (Jq L n c b a d o e f g m q (A1 (h+1)) i p)) none) none) (p c b a d o e f g m i)
def Bc7(n b a c d i e f g h n9 n10 l11):D0 1 ((R6 L).keep 21) (bd (R6 L) Q Y (cd [1,1,1,1,1,1,1,0,1,0,0,1,0,0,1,0,1,0,0] Fp)) n ⟨gp [(0,.s (.sl b a 1 c)),(3,.fl 0),(2,pI d),(0,pI i),(0,pI e),(0,pI f),(0,pI g),(0,pI h),(38,.s (.sl b a 1 c)),(0,pI n9),(0,pI n10)] 53,[.arr true 5 1 l11],s⟩ k =
 Jq L n b a c d i e f g h n9 n10 l11 (λb a c d i e f g h l=>k (.exit 4) ⟨gp [(0,.s (.sl b a 1 c)),(3,.fl 0),(2,pI d),(0,pI i),(0,pI e),(0,pI f),(0,pI g),(0,pI h)] 94,[.arr true 5 1 l],s⟩):=by
 induction n generalizing b a c d i e f g h n9 n10 l11 with
 | zero=>rfl
 | succ n j=>rw[Jq];simp only[<-j];kernel_rfl
def Cw{R:Type}(L n:Nat)(d c:Bool)(a:LL)(e m b g f i l:Int)(l10:LL)(t:Bool->Bool->LL->Int->Int->Int->Int->Int->LL->Option R):Option R:=match n with|0=>none|n+1=>cond (ltI l i) (cond (inR l a.length) (cond (okE Ma a (y5 l) 0) (vl (gE a (y5 l) 0) λj=>cond (ltI j m) (vl (A1 (b+1)) λp=>Cw L n d c a e m p g f i (A1 (l+1)) l10 t) (cond (j==m) (cond (ltN b 1152921504606846976) (cond (ltN g 1000000) (cond (p7 l10.length 100000) (vl (al5 l10 (ae5 E4 (Q6 (y5 b) 0 (y5 g)))) λo=>vl (A1 (f+1)) λh=>cond (ltN b 1152921504606846976) (cond (ltN h 1000000) (cond (ltI 0 h) (vl (↑(R5 (y5 b) (y5 h) (f==e)):Int) λq=>vl (A1 (f+1)) λr=>Cw L n d c a e m 0 q r i (A1 (l+1)) o t) none) none) none) none) none) none) (Cw L n d c a e m b g f i (A1 (l+1)) l10 t))) none) none) (t d c a e m b g f l10)
def Bc8(n b a c d h e f g n8v n9 l10):D0 1 ((R6 L).keep 29) (bd (R6 L) Q Y (cd [1,1,1,1,1,1,1,0,1,0,0,1,0,0,1,1,1,1,0,1,0,0] Fp)) n ⟨gp [(0,.s (.sl b a 1 c)),(3,.fl 0),(2,pI d),(0,pI h),(0,pI e),(0,pI f),(0,pI g),(61,.s (.sl b a 1 c)),(0,pI n8v),(0,pI n9)] 31,[.arr true 5 1 l10],s⟩ k =
 Cw L n b a c d h e f g n8v n9 l10 (λb a c d h e f g j=>k (.exit 6) ⟨gp [(0,.s (.sl b a 1 c)),(3,.fl 0),(2,pI d),(0,pI h),(0,pI e),(0,pI f),(0,pI g)] 95,[.arr true 5 1 j],s⟩):=by
 induction n generalizing b a c d h e f g n8v n9 l10 with
 | zero=>rfl
 | succ n i=>rw[Cw];simp only[<-i];kernel_rfl
def Gh{R:Type}(L n:Nat)(j i:Bool)(b:LL)(v K w y u:Int)(J:LL)(I:LL->Option R):Option R:=match n with|0=>none|n+1=>cond (ltI u (b.length:Int)) (Jq L L j i b v K w y u 1114112 (b.length:Int) 0 J (λe c a l B o q g x z=>vl (A1 (g+1)) λC=>vl (A1 ((A1 (x-B))*C)) λD=>Cw L L e c a l x (A1 (o+D)) q g (a.length:Int) 0 z (λf d h m F p r t A=>vl (A1 (p+1)) λG=>vl (A1 (F+1)) λH=>Gh L n f d h m H G r t A I))) (I J)
def MW(n points_z0 points_t1 points2 basic3 n4 delta5 bias6 done7 l8):D0 1 ((R6 L).keep 17) (bd (R6 L) Q Y (cd [1,1,1,1,1,1,1,0,1,0,0] Fp)) n ⟨gp [(0,.s (.sl points_z0 points_t1 1 points2)),(3,.fl 0),(2,pI basic3),(0,pI n4),(0,pI delta5),(0,pI bias6),(0,pI done7)] 95,[.arr true 5 1 l8],s⟩ k =
 Gh L n points_z0 points_t1 points2 basic3 n4 delta5 bias6 done7 l8 (λB=>k (.exit 2) ⟨gp [(4,.fl 0)] 102,[.arr true 5 1 B],s⟩):=by
 induction n generalizing points_z0 points_t1 points2 basic3 n4 delta5 bias6 done7 l8 with
 | zero=>rfl
 | succ n A=>rw[Gh];exact(j5 (by kernel_rfl) (A0 ((Bc7 L Q Y s (E2 4 (E1 (R6 L) Q Y (cd [1,1,1,1,1,1,1,0,1,0,0,1,0,0,1,1] Fp) (E2 3 (E1 (R6 L) Q Y (cd [1,1,1,1,1,1,1,0,1,0,0,1,1] Fp) (lpK 1 ((R6 L).keep 17) (bd (R6 L) Q Y (cd [1,1,1,1,1,1,1,0,1,0,0] Fp)) n k))))) L points_z0 points_t1 points2 basic3 n4 delta5 bias6 done7 1114112 (points2.length:Int) 0 l8).trans (congr rfl (Dd4 λd b a g x i j m t q=>(j5 (by kernel_rfl) (A4 λy=>(A4 λu=>((Bc8 L Q Y s (E2 6 (E1 (R6 L) Q Y (cd [1,1,1,1,1,1,1,0,1,0,0,1,0,0,1,1,1,1,1] Fp) (E2 3 (E1 (R6 L) Q Y (cd [1,1,1,1,1,1,1,0,1,0,0,1,1] Fp) (lpK 1 ((R6 L).keep 17) (bd (R6 L) Q Y (cd [1,1,1,1,1,1,1,0,1,0,0] Fp)) n k))))) L d b a g t (A1 (i+u)) j m (a.length:Int) 0 q).trans (congr rfl (fx9 λe c f h z p l o r=>(j5 (by kernel_rfl) (A4 λv=>(A4 λw=>(A e c f h w v l o r))))))))))))) rfl))
def Ao5{R:Type}(L:Nat)(l j:Bool)(p:LL)(m:Unit->Option R)(h:By->Int->LL->Option R):Option R:=cond (ltI 256 (p.length:Int)) (m ()) (W0 L L l j p (p.length:Int) 0 [] (λi=>h ([]:List UInt8) 2 i) (λb a c g=>vl (g.length:Int) λf=>cond (ltI 0 f) (cond (G2 (g.length+1)) (Gh L L b a c f 128 0 72 f (g++[[(SV.int .u8 (45:Int))]]) (λd=>cond (an9 d Pb) (h (ae5 Mu d) 0 d) none)) none) (Gh L L b a c f 128 0 72 f g (λe=>cond (an9 e Pb) (h (ae5 Mu e) 0 e) none))))
def Di7(d:Nat)(p_z p_t p):evC (R6 L) (d+1) Z Y 181 [.s (.sl p_z p_t 1 p)] [] s=Ao5 L p_z p_t p (λ_=>some (.tup [pS ([]:List UInt8),pI (3:Int)],[],s)) (λi j h=>some (.tup [pS i,pI j],[.arr true 5 1 h],s)):=by refine(evE (fn:=al2) (by kernel_rfl)).trans ?_;generalize evC (R6 L) d=Q;unfold Ao5;exact let g:=(E2 2 (E1 (R6 L) Q Y (cd [1,1,1,1,1,1,1,1] Fp) (F4 (R6 L) al2)));(j5 (by kernel_rfl) (A0 rfl ((Bc6 L Q Y s (E2 0 (E1 (R6 L) Q Y (cd [1,1,1,1] Fp) (F4 (R6 L) al2))) L p_z p_t p (p.length:Int) 0 []).trans (congr (congr rfl (by kernel_rfl)) (fx4 λb a c f=>(j5 (by kernel_rfl) (A4 λe=>(A0 (A0 ((MW L Q Y s g L b a c e 128 0 72 e (f++[[(SV.int .u8 (45:Int))]])).trans (by kernel_rfl)) rfl) ((MW L Q Y s g L b a c e 128 0 72 e f).trans (by kernel_rfl))))))))))
end
def Zm(k b:Nat):L9 ((36*k:Nat):Int) (b:Int)=(thr k b:Int):=by unfold L9 thr;omega
def Ca7{R:Type}{a:Int->Option R}(b:Int):Dz9 LF b a=a b:=rfl
def Bd1{R:Type}{a:Int->Int->Int->Option R}(k b:Int)(e:ltN k 1000000000000=true)(f:ltN b 1000000=true):By9 LF k b a=a (L9 k b) (ad7 k 36) b:=by
 obtain⟨g,h⟩:=E3.1 e;obtain⟨i,j⟩:=E3.1 f;unfold By9;have c:A1 (k+36)=k+36:=A7;have d:A1 (k+36-b)=k+36-b:=A7;simp only[vl,c,d];have:(if (26:Int)<(if (1:Int) > k+36-b then (1:Int) else k+36-b) then (26:Int) else (if (1:Int) > k+36-b then (1:Int) else k+36-b))=L9 k b:=by
  unfold L9;omega
 grind
def Ru{q k b:Nat}(h:q<thr k b):Q6 q k b=[Bc q]:=by rw[Q6,dif_pos h]
def BT{q k b:Nat}(h:¬q<thr k b):Q6 q k b=Bc (thr k b+(q-thr k b) % (36-thr k b))::Q6 ((q-thr k b) / (36-thr k b)) (k+1) b:=by rw[Q6,dif_neg h]
def YD{x y m:Nat}(a:10<=y)(h:x<10*m):x / y<m:=by have b:x / y<=x / 10:=Nat.div_le_div_left a (by omega);omega
def A62(b:Nat):∀(r q k:Nat),q<10 ^ r->(Q6 q k b).length<=r+1:=by
 intro r
 induction r with
 | zero=>
  intro q k h;have c:=X8 k b;rw[Ru (by simp at h;omega)];simp
 | succ r d=>
  intro q k h;have c:=X8 k b;by_cases a:q<thr k b
  ·rw[Ru a];simp
  ·rw[BT a,j4];have:=d ((q-thr k b) / (36-thr k b)) (k+1) (YD (by omega) (by rw[ak1] at h;omega));omega
def B91(z:Bool)(b:Nat)(K:b<1000000):∀(r q k n:Nat) (l:LL),q<10 ^ r->q<1152921504606846976->k+r<=1000->r<n->l.length+r<=200000->
  ∃(d f:Int),∀(R:Type) (a:Bool->LL->Int->Int->Option R),Jn LF n (q:Int) z l (b:Int) ((36*k:Nat):Int) a=a z (l++(Q6 q k b).map E4) d f:=by
 have c:∀(q k n:Nat) (l:LL),q<thr k b->k<=1000->l.length<=200000->∃(d f:Int),∀(R:Type) (a:Bool->LL->Int->Int->Option R),Jn LF (n+1) (q:Int) z l (b:Int) ((36*k:Nat):Int) a=a z (l++(Q6 q k b).map E4) d f:=by
  intro q k n l g i j;have p:=X8 k b;refine⟨(b:Int),ad7 ((36*k:Nat):Int) 36,λR a=>?_⟩;rw[Jn];rw[M5,M5,Zm,A8,M5,Ru g];simp only[vl,cond_true,j2];rw[F8 (by omega)];rfl
 intro r
 induction r with
 | zero=>
  intro q k n l h _ i H j;have p:=X8 k b;obtain⟨n,rfl⟩:∃m,n=m+1:=⟨n-1,by omega⟩
  exact c q k n l (by simp at h;omega) (by omega) (by omega)
 | succ r I=>
  intro q k n l h o i H j;have p:=X8 k b;obtain⟨n,rfl⟩:∃m,n=m+1:=⟨n-1,by omega⟩
  by_cases g:q<thr k b
  ·exact c q k n l g (by omega) (by omega)
  ·have D:(q-thr k b) / (36-thr k b)<10 ^ r:=YD (by omega) (by rw[ak1] at h;omega);have F:(q-thr k b) / (36-thr k b)<=q:=Nat.le_trans (ah2 _ _) (by omega);have G:(q-thr k b) % (36-thr k b)<36-thr k b:=am1 _ (by omega);obtain⟨d,f,e⟩:=I ((q-thr k b) / (36-thr k b)) (k+1) n (l++[E4 (Bc (thr k b+(q-thr k b) % (36-thr k b)))]) D (by omega) (by omega) (by omega) (by rw[j9,j7];omega);refine⟨d,f,λR a=>?_⟩;rw[Jn];have t:A1 ((q:Int)-(thr k b:Int))=((q-thr k b:Nat):Int):=by rw[A7];omega
   have u:A1 ((36:Int)-(thr k b:Int))=((36-thr k b:Nat):Int):=by rw[A7];omega
   have v:aj6 ((q-thr k b:Nat):Int) ((36-thr k b:Nat):Int)=(((q-thr k b) % (36-thr k b):Nat):Int):=Db _ _;have w:ah6 ((q-thr k b:Nat):Int) ((36-thr k b:Nat):Int)=(((q-thr k b) / (36-thr k b):Nat):Int):=M8 _ _;have C:((((36-thr k b:Nat):Int))!=0)=true:=by rw[bne_iff_ne];omega
   rw[M5,M5,Zm,A6];simp only[vl,t,u,v,w,C,cond_true,cond_false];rw[BT g];generalize hA:(q-thr k b) / (36-thr k b)=A at *;generalize J:(q-thr k b) % (36-thr k b)=B at *;have x:A1 ((thr k b:Int)+(B:Int))=((thr k b+B:Nat):Int):=by rw[A7];rfl
   have y:A1 (A:Int)=(A:Int):=A7;rw[x,y,M5,F8 (by omega),j2,show ad7 ((36*k:Nat):Int) 36=((36*(k+1):Nat):Int) from(by show((36*k:Nat):Int)+36=_;omega)];refine j5 (e R a) ?_;simp[y9]
def B92(q b:Int)(z:Bool)(l:LL)(h:ltN q 1152921504606846976=true)(i:ltN b 1000000=true)(j:p7 l.length 100000=true) :
  ∃(c d:Int),∀(R:Type) (a:Bool->LL->Int->Int->Option R),Dz6 LF q b z l a=a z (al5 l ((Q6 q.toNat 0 b.toNat).map E4)) c d:=by
 obtain⟨f,m⟩:=E3.1 h;obtain⟨g,n⟩:=E3.1 i;obtain⟨q,rfl⟩:=x4 f;obtain⟨b,rfl⟩:=x4 g;have o:=ab4 j;have k:=C5;obtain⟨c,d,e⟩:=B91 z b (by omega) 19 q 0 LF l (by omega) (by omega) (by omega) (by omega) (by omega);exact⟨c,d,λR a=>e R _⟩
def Bl(l:List Int):LL:=l.map λx=>[SV.int .i64 x]
def B7(l:List Nat):LL:=l.map λx:Nat=>[SV.int .i64 (x:Int)]
def Ry(l:List Nat):Bl (l.map λn:Nat=>(n:Int))=B7 l:=by simp[Bl,B7,aj5]
def W6(l:List Int):(Bl l).length=l.length:=by simp[Bl]
def D4(l:List Nat):(B7 l).length=l.length:=by simp[B7]
def Ll(a b:List Nat):B7 (a++b)=B7 a++B7 b:=by simp[B7]
def ZH{l:List Int}{i:Nat}(h:i<l.length):okE Ma (Bl l) i 0=true:=by unfold okE Bl Ma;simp[w6,h,okS,SV.has]
def A69(l:List Int)(i:Nat)(h:i<l.length):gE (Bl l) i 0=l.getD i 0:=by unfold gE gC Bl;simp[w6,ac0 h,SV.gI]
def Sa{l:List Nat}{i:Nat}(h:i<l.length):okE Ma (B7 l) i 0=true:=by rw[<-Ry];exact ZH (by simpa using h)
def CA(l:List Nat)(i:Nat)(h:i<l.length):gE (B7 l) i 0=(l.getD i 0:Int):=by rw[<-Ry,A69 _ _ (by simpa using h)];grind
def Bw6{l:LL}(h:l.all Ou=true):∃P:List Int,l=Bl P:=by
 induction l with
 | nil=>exact⟨[],rfl⟩
 | cons x r b=>
  simp only[ab9,k9] at h;obtain⟨P,rfl⟩:=b h.2;have a:=h.1;unfold Ou at a;split at a
  ·rename_i n;exact⟨n::P,rfl⟩
  ·cases a
def Aj3(P:List Int):(Bl P).map elI=P:=by
 unfold Bl;rw[af1]
 conv=>rhs;rw[<-al6 P]
 apply ac1;intro x _;simp[elI,SV.gI]
def Aj1(l:List Int)(i:Nat)(h:i<l.length):l.drop i=l.getD i 0::l.drop (i+1):=by simp_all
def Ww(l:List Nat)(i:Nat)(h:i<l.length):l.drop i=l.getD i 0::l.drop (i+1):=by simp_all
def Da0:∀(r d k:Nat),d<456*35 ^ r->AY d k<=k+36*r+36:=by
 intro r
 induction r with
 | zero=>
  intro d k h;rw[Tx (by simp at h;omega)];have:36*d / (d+38)<=36:=by
   apply Nat.div_le_of_le_mul;omega
  omega
 | succ r b=>
  intro d k h;by_cases a:455<d
  ·rw[JT a];grind
  grind
def Po(d c:Nat)(f:Bool)(h:d<1152921504606846976):R5 d c f<=500:=by
 unfold R5;have a:∀x:Nat,x<=d->AY (x+x / c) 0<=500:=by
  intro x a;have:=ah2 x c;have:=Da0 11 (x+x / c) 0 (by omega);omega
 grind
def QX{q k b:Nat}(h:q<1152921504606846976):(Q6 q k b).length<=20:=A62 b 19 q k (by omega)
def By7(z t:Bool)(c:List Nat)(a m:Nat)(Q:m<=1114112)(P:c.length<=256):∀(r i n:Nat) (s:TO),i+r=c.length->r<n->s.delta+r<=1000000000000->s.bias<=500->s.out.length+20*r<=90000->s.done+r<=1000->a<=256->
  (∀(R:Type) (d:Bool->Bool->LL->Int->Int->Int->Int->Int->LL->Option R),Cw LF n z t (B7 c) (a:Int) (m:Int) (s.delta:Int) (s.bias:Int) (s.done:Int) (c.length:Int) (i:Int) (s.out.map E4) d =
   d z t (B7 c) (a:Int) (m:Int) ((I5 m a (c.drop i) s).delta:Int) ((I5 m a (c.drop i) s).bias:Int) ((I5 m a (c.drop i) s).done:Int) ((I5 m a (c.drop i) s).out.map E4))/\
  (I5 m a (c.drop i) s).bias<=500/\(I5 m a (c.drop i) s).out.length<=s.out.length+20*(c.drop i).countP (· == m)/\(I5 m a (c.drop i) s).done=s.done+(c.drop i).countP (· == m)/\
  (I5 m a (c.drop i) s).delta<=(if 0<(c.drop i).countP (· == m) then r else s.delta+r):=by
 intro r
 induction r with
 | zero=>
  intro i n s N O K x L M y;obtain⟨n,rfl⟩:∃m,n=m+1:=⟨n-1,by omega⟩
  rw[o8 (by omega)];refine⟨λR d=>?_,x,by simp[I5],by simp[I5],by simp[I5]⟩;rw[Cw];rw[A6];rfl
 | succ r F=>
  intro i n s N O K x L M y;obtain⟨n,rfl⟩:∃m,n=m+1:=⟨n-1,by omega⟩
  rw[Ww c i (by omega)];have C:=CA c i (by omega);have ok:=Sa (l:=c) (i:=i) (by omega);generalize c.getD i 0=p at *;have A:A1 ((i:Int)+1)=((i+1:Nat):Int):=by rw[A7];rfl
  have I:A1 ((s.delta:Int)+1)=((s.delta+1:Nat):Int):=by rw[A7];rfl
  have J:A1 ((s.done:Int)+1)=((s.done+1:Nat):Int):=by rw[A7];rfl
  by_cases D:p<m
  ·have e:(p==m)=false:=by rw[beq_eq_false_iff_ne];omega
   have j:I5 m a (p::c.drop (i+1)) s=I5 m a (c.drop (i+1)) { s with delta:=s.delta+1 }:=by rw[I5,if_pos D]
   obtain⟨o,u,v,w,f⟩:=F (i+1) n { s with delta:=s.delta+1 } (by omega) (by omega) (by simp only;omega) x (by simp only;omega) (by simp only;omega) y;rw[j,ag6 (by rw[e];simp)];refine⟨λR d=>?_,u,v,w,?_⟩
   ·rw[Cw];rw[A8,D4,F1,j2,ok];simp only[cond_true,vl,C,A,I];rw[A8,cond_true];exact o R d
   ·simp only at f;split at f<;>split<;>omega
  ·by_cases H:p=m
   ·subst H;have G:=QX (q:=s.delta) (k:=0) (b:=s.bias) (by omega);have B:=Po s.delta (s.done+1) (s.done==a) (by omega);have j:I5 p a (p::c.drop (i+1)) s=I5 p a (c.drop (i+1)) { delta:=0,bias:=R5 s.delta (s.done+1) (s.done==a),done:=s.done+1,out:=s.out++Q6 s.delta 0 s.bias }:=by rw[I5,if_neg D,if_pos rfl]
    obtain⟨o,u,v,w,f⟩:=F (i+1) n { delta:=0,bias:=R5 s.delta (s.done+1) (s.done==a),done:=s.done+1,out:=s.out++Q6 s.delta 0 s.bias } (by omega) (by omega) (by simp only;omega) B (by simp only[j9];omega) (by simp only;omega) y;rw[j,List.countP_cons_of_pos (by simp)];refine⟨λR d=>?_,u,?_,?_,?_⟩
    ·rw[Cw];have g:((s.done:Int)==(a:Int))=(s.done==a):=by grind
     rw[A8,D4,F1,j2,ok];simp only[cond_true,vl,C,A,J];rw[A6,cond_false,beq_self_eq_true,cond_true,M5,M5,p9,ac8 (show s.out.length<=100000 by omega),M5,A8,g];simp only[cond_true,j2];have h:al5 (s.out.map E4) ((Q6 s.delta 0 s.bias).map E4)=(s.out++Q6 s.delta 0 s.bias).map E4:=by rw[ae6];rfl
     rw[h];exact o R d
    ·simp only[j9] at v;omega
    ·simp only at w;omega
    ·simp only at f;rw[R2];split at f<;>omega
   ·have e:(p==m)=false:=by rw[beq_eq_false_iff_ne];omega
    have j:I5 m a (p::c.drop (i+1)) s=I5 m a (c.drop (i+1)) s:=by rw[I5,if_neg D,if_neg H]
    obtain⟨o,u,v,w,f⟩:=F (i+1) n s (by omega) (by omega) (by omega) x (by omega) (by omega) y;rw[j,ag6 (by rw[e];simp)];refine⟨λR d=>?_,u,v,w,?_⟩
    ·rw[Cw];rw[A8,D4,F1,j2,ok];simp only[cond_true,vl,C,A];rw[A6,cond_false,show((p:Int)==(m:Int))=false by rw[beq_eq_false_iff_ne];omega,cond_false];exact o R d
    ·split at f<;>split<;>omega
def Bc9{R:Type}{k0:Bool->Bool->LL->Int->Int->Int->Int->Int->Int->LL->Option R}(z t:Bool)(a:List Nat)(k:a.length<=256)(n0:Nat)(b delta c done:Int)(l:LL):∀(r i n m:Nat),i+r=a.length->r<n->
  Jq LF n z t (B7 a) b (n0:Int) delta c done (m:Int) (a.length:Int) (i:Int) l k0=k0 z t (B7 a) b (n0:Int) delta c done ((I2 n0 (a.drop i) m:Nat):Int) l:=by
 intro r
 induction r with
 | zero=>
  intro i n m g j;obtain⟨n,rfl⟩:∃m,n=m+1:=⟨n-1,by omega⟩
  rw[Jq];rw[A6,o8 (by omega)];rfl
 | succ r d=>
  intro i n m g j;obtain⟨n,rfl⟩:∃m,n=m+1:=⟨n-1,by omega⟩
  have f:=CA a i (by omega);have ok:=Sa (l:=a) (i:=i) (by omega);rw[Jq,Ww a i (by omega)];generalize a.getD i 0=p at *;have e:A1 ((i:Int)+1)=((i+1:Nat):Int):=by rw[A7];rfl
  rw[A8,D4,F1,j2,ok];simp only[cond_true,vl,f,e,I2];by_cases h:n0<=p
  ·rw[if_pos h,A6,o9,cond_true];have:(if (p:Int)<(m:Int) then (p:Int) else (m:Int))=((min m p:Nat):Int):=by split<;>omega
   rw[this];exact d (i+1) n (min m p) (by omega) (by omega)
  ·rw[if_neg h,A8,o6,cond_false];exact d (i+1) n m (by omega) (by omega)
def Fb(n:Nat):∀(l:List Nat) (m:Nat),(I2 n l m=m\/(I2 n l m∈l/\n<=I2 n l m))/\I2 n l m<=m/\∀p∈l,n<=p->I2 n l m<=p
 | [],m=>⟨.inl rfl,y8 _,λp h=>by cases h⟩
 | q::r,m=>by
  obtain⟨a,b,c⟩:=Fb n r (if n<=q then min m q else m);simp only[I2];grind
def Wp{n m:Nat}(a:n<=m):∀l:List Nat,(∀p∈l,n<=p->m<=p)->l.countP (λp=>decide (p<m+1))=l.countP (λp=>decide (p<n))+l.countP (· == m)
 | [],_=>rfl
 | p::l,h=>by
  have d:=Wp a l (λq b=>h q (List.mem_cons_of_mem _ b));have c:=h p List.mem_cons_self;grind
def A50{n:Nat}{l:List Nat}(h:l.countP (λp=>decide (p<n))<l.length):∃p∈l,n<=p:=by
 apply ad1;intro a;have:l.countP (λp=>decide (p<n))=l.length:=by simp_all
 omega
def Cw5(z t:Bool)(a:List Nat)(b:Nat)(x:a.length<=256)(N:b<=256)(g:∀p∈a,p<=1114111):∀(f n d:Nat) (s:TO),s.done=a.countP (λp=>decide (p<n))->a.length<=s.done+f->f<d->s.delta<=300->s.bias<=500->s.out.length+20*(a.length-s.done)<=80000->n<=1114112->
  ∀(R:Type) (k0:LL->Option R),Gh LF d z t (B7 a) (b:Int) (n:Int) (s.delta:Int) (s.bias:Int) (s.done:Int) (s.out.map E4) k0=k0 ((T0 a b f n s).out.map E4):=by
 intro f;have M:=C5
 induction f with
 | zero=>
  intro n d s P S T I v J L R k0;obtain⟨d,rfl⟩:∃m,d=m+1:=⟨d-1,by omega⟩
  rw[Gh];rw[D4,A6];rfl
 | succ f U=>
  intro n d s P S T I v J L R k0;obtain⟨d,rfl⟩:∃m,d=m+1:=⟨d-1,by omega⟩
  rw[Gh];rw[D4];have O:a.countP (λp=>decide (p<n))<=a.length:=aa3;by_cases j:s.done<a.length
  ·obtain⟨A,k,q⟩:=A50 (n:=n) (l:=a) (by omega);obtain⟨g1,g2,u⟩:=Fb n a 1114112;have g4:=u A k q;have g5:=g A k;have e:I2 n a 1114112∈a/\n<=I2 n a 1114112:=by grind
   have Q:T0 a b (f+1) n s=T0 a b f (I2 n a 1114112+1) { I5 (I2 n a 1114112) b a { s with delta:=s.delta+(I2 n a 1114112-n)*(s.done+1) } with delta:=(I5 (I2 n a 1114112) b a { s with delta:=s.delta+(I2 n a 1114112-n)*(s.done+1) }).delta+1 }:=by
    rw[T0,if_pos j]
   rw[Q,A8,cond_true];have c:=λ(K:Bool->Bool->LL->Int->Int->Int->Int->Int->Int->LL->Option R)=>Bc9 (k0:=K) z t a x n (b:Int) (s.delta:Int) (s.bias:Int) (s.done:Int) (s.out.map E4) a.length 0 LF 1114112 (by omega) (by omega)
   rw[v7] at c;refine j5 (c _) ?_;generalize I2 n a 1114112=m at *;have y:(m-n)*(s.done+1)<=1114112*256:=ai3 (by omega) (by omega);have B:A1 ((s.done:Int)+1)=((s.done+1:Nat):Int):=by rw[A7];rfl
   have C:A1 ((m:Int)-(n:Int))=((m-n:Nat):Int):=by rw[A7];omega
   have D:A1 (((m-n:Nat):Int)*((s.done+1:Nat):Int))=(((m-n)*(s.done+1):Nat):Int):=by
    rw[<-Int.natCast_mul];exact A7
   have F:A1 ((s.delta:Int)+(((m-n)*(s.done+1):Nat):Int))=((s.delta+(m-n)*(s.done+1):Nat):Int):=by
    rw[A7];rfl
   simp only[vl,B,C,D,F];have i:=By7 z t a b m (by omega) x a.length 0 LF { s with delta:=s.delta+(m-n)*(s.done+1) } (by omega) (by omega) (by simp only;omega) v (by simp only;omega) (by simp only;omega) N;rw[v7] at i;obtain⟨V,W,X,Y,Z⟩:=i;rw[D4];refine j5 (V R _) ?_;have h:0<a.countP (· == m):=ai7.2 ⟨m,e.1,by simp⟩;rw[if_pos h] at Z;have r:=Wp e.2 a u;generalize I5 m b a { s with delta:=s.delta+(m-n)*(s.done+1) } = o at *;simp only at X Y;have G:A1 ((o.delta:Int)+1)=((o.delta+1:Nat):Int):=by rw[A7];rfl
   have H:A1 ((m:Int)+1)=((m+1:Nat):Int):=by rw[A7];rfl
   have w:a.countP (λp=>decide (p<m+1))<=a.length:=aa3;simp only[G,H];exact U (m+1) d { o with delta:=o.delta+1 } (by simp only;omega) (by simp only;omega) (by omega) (by simp only;omega) W (by simp only;omega) (by omega) R k0
  ·rw[A6];rw[T0,if_neg j];rfl
def Y0(l:List Int):By:=(l.filter λx=>decide (x<128)).map λx=>p4 x.toNat
def C41(x:Int)(a:0<=x)(h:x<128):[SV.int .u8 (wu8 x)]=E4 (p4 x.toNat):=by
 unfold E4;have e:wu8 x=x:=by unfold wu8;exact Int.emod_eq_of_lt a (show x<256 by omega)
 rw[e];have:((p4 x.toNat).toNat:Int)=x:=by simp;omega
 rw[this]
def Vg{x:Int}(h:ptI x=true):0<=x/\x<=1114111:=by
 cases x with
 | negSucc m=>cases h
 | ofNat m=>
  have:W8 m=true:=h;unfold W8 at this;simp only[k9,w9] at this;grind
def Bc4(z t:Bool)(P:List Int)(A:P.length<=256):∀(r i n:Nat) (out:By),i+r=P.length->r<n->out.length+r<=1000->
  ((P.drop i).all ptI=true->∀(R:Type) (a:LL->Option R) (b:Bool->Bool->LL->LL->Option R),W0 LF n z t (Bl P) (P.length:Int) (i:Int) (out.map E4) a b=b z t (Bl P) ((out++Y0 (P.drop i)).map E4))/\
  ((P.drop i).all ptI=false->∃l,∀(R:Type) (a:LL->Option R) (b:Bool->Bool->LL->LL->Option R),W0 LF n z t (Bl P) (P.length:Int) (i:Int) (out.map E4) a b=a l):=by
 intro r
 induction r with
 | zero=>
  intro i n out u v w;obtain⟨n,rfl⟩:∃m,n=m+1:=⟨n-1,by omega⟩
  rw[o8 (by omega)];refine⟨λ_ R a b=>?_,λh=>(by cases h)⟩;rw[W0];rw[A6];simp[Y0]
 | succ r q=>
  intro i n out u v w;obtain⟨n,rfl⟩:∃m,n=m+1:=⟨n-1,by omega⟩
  have j:=A69 P i (by omega);have ok:=ZH (l:=P) (i:=i) (by omega);rw[Aj1 P i (by omega)];generalize P.getD i 0=x at *;have p:A1 ((i:Int)+1)=((i+1:Nat):Int):=by rw[A7];rfl
  cases f:ptI x with
  | false=>
   refine⟨λh=>?_,λ_=>⟨out.map E4,λR a b=>?_⟩⟩
   ·rw[ab9,f] at h;cases h
   ·rw[W0];rw[A8,W6,F1,j2,ok];simp only[cond_true,vl,j,f,o9]
  | true=>
   obtain⟨y,B⟩:=Vg f;rw[ab9,f,ad4];by_cases c:x<128
   ·have d:Y0 (x::P.drop (i+1))=p4 x.toNat::Y0 (P.drop (i+1)):=by
     unfold Y0;rw[List.filter_cons_of_pos (by simpa using c)];rfl
    have g:out.map E4++[[SV.int .u8 (wu8 x)]]=(out++[p4 x.toNat]).map E4:=by rw[C41 x y c];simp
    obtain⟨k,o⟩:=q (i+1) n (out++[p4 x.toNat]) (by omega) (by omega) (by simp;omega);have step:∀(R:Type) (a:LL->Option R) (b:Bool->Bool->LL->LL->Option R),W0 LF (n+1) z t (Bl P) (P.length:Int) (i:Int) (out.map E4) a b=W0 LF n z t (Bl P) (P.length:Int) ((i+1:Nat):Int) ((out++[p4 x.toNat]).map E4) a b:=by
     intro R a b;rw[W0];rw[A8,W6,F1,j2,ok];simp only[cond_true,vl,j,f,o6,cond_false,p];rw[B9 c,p9,F8 (by omega),g];rfl
    refine⟨λh R a b=>?_,λh=>?_⟩
    ·rw[step,k h,d];simp
    ·obtain⟨l,e⟩:=o h;exact⟨l,λR a b=>by rw[step];exact e R a b⟩
   ·have d:Y0 (x::P.drop (i+1))=Y0 (P.drop (i+1)):=by
     unfold Y0;rw[List.filter_cons_of_neg (by simpa using c)]
    obtain⟨k,o⟩:=q (i+1) n out (by omega) (by omega) (by omega);have step:∀(R:Type) (a:LL->Option R) (b:Bool->Bool->LL->LL->Option R),W0 LF (n+1) z t (Bl P) (P.length:Int) (i:Int) (out.map E4) a b=W0 LF n z t (Bl P) (P.length:Int) ((i+1:Nat):Int) (out.map E4) a b:=by
     intro R a b;rw[W0];rw[A8,W6,F1,j2,ok];simp only[cond_true,vl,j,f,o6,cond_false,p];rw[A6];rfl
    refine⟨λh R a b=>?_,λh=>?_⟩
    ·rw[step,k h,d]
    ·obtain⟨l,e⟩:=o h;exact⟨l,λR a b=>by rw[step];exact e R a b⟩
def Bz0{P:List Int}(h:P.all ptI=true):∃a:List Nat,P=a.map (λn:Nat=>(n:Int))/\a.all W8=true/\∀p∈a,p<=1114111:=by
 induction P with
 | nil=>exact⟨[],rfl,rfl,by simp⟩
 | cons x P c=>
  rw[ab9,k9] at h;obtain⟨a,rfl,b,e⟩:=c h.2;obtain⟨d,f⟩:=Vg h.1;obtain⟨m,rfl⟩:=x4 d;refine⟨m::a,rfl,?_,?_⟩
  ·rw[ab9,b,ad3];exact h.1
  grind
def JZ(a:List Nat):Y0 (a.map λn:Nat=>(n:Int))=J1 a:=by
 unfold Y0 J1
 induction a with
 | nil=>rfl
 | cons p r b=>
  grind
def Uh(a:List Nat):(J1 a).length=a.countP (λp=>decide (p<128)):=by unfold J1;grind
def Bc5(z t:Bool)(P:List Int):(Y2 P=([],3)/\∀(R:Type) (b:Unit->Option R) (f:By->Int->LL->Option R),Ao5 LF z t (Bl P) b f=b ())\/
  (∃l,∀(R:Type) (b:Unit->Option R) (f:By->Int->LL->Option R),Ao5 LF z t (Bl P) b f=f (Y2 P).1 ((Y2 P).2:Nat) l):=by
 have x:=C5;by_cases j:256<P.length
 ·refine .inl ⟨by unfold Y2;rw[if_pos j],λR b f=>?_⟩;unfold Ao5;rw[W6,A8];rfl
 ·right
  obtain⟨v,w⟩:=Bc4 z t P (by omega) P.length 0 LF [] (by omega) (by omega) (by simp;omega);rw[v7] at v w;cases g:P.all ptI with
  | false=>
   obtain⟨l,e⟩:=w g;refine⟨l,λR b f=>?_⟩;unfold Ao5;rw[W6,A6,cond_false];refine j5 (e R _ _) ?_;unfold Y2;rw[if_neg j,g];rfl
  | true=>
   obtain⟨a,rfl,A,q⟩:=Bz0 g;rw[p9] at j;have m:Y2 (a.map λn:Nat=>(n:Int))=Du a:=by
    unfold Y2;rw[p9,if_neg j,g];simp[aj5]
   have k:=Uh a;have y:a.countP (λp=>decide (p<128))<=a.length:=aa3;have main:∀(o:By),o.length<=300->∀(R:Type) (b:LL->Option R),Gh LF LF z t (B7 a) ((J1 a).length:Int) 128 0 72 ((J1 a).length:Int) (o.map E4) b=b ((T0 a (J1 a).length 256 128 { delta:=0,bias:=72,done:=(J1 a).length,out:=o }).out.map E4):=by
    intro o B R b;exact Cw5 z t a (J1 a).length (by omega) (by omega) q 256 128 LF { delta:=0,bias:=72,done:=(J1 a).length,out:=o } k (by simp only;omega) (by omega) (by simp) (by simp) (by simp only;omega) (by omega) R b
   have d:Du a=((T0 a (J1 a).length 256 128 { delta:=0,bias:=72,done:=(J1 a).length,out:=if (J1 a).isEmpty then [] else J1 a++[45] }).out,0):=by
    unfold Du;grind
   refine⟨(Du a).1.map E4,λR b f=>?_⟩;unfold Ao5;rw[W6,p9,A6,cond_false,m];have i:=v g R;rw[p9] at i;refine j5 (i _ _) ?_;rw[aa2,JZ,Ry];simp only[vl,p9];by_cases c:J1 a=[]
   ·rw[c,x8,A6,cond_false];have r:=main [] (by simp) R;rw[c,x8] at r;rw[aj9] at r;refine j5 (r _) ?_;rw[c] at d;rw[d];simp only[List.isEmpty_nil,if_true,x8];rw[Y7,Z6];rfl
   ·have u:0<(J1 a).length:=aa0.2 c;rw[A8,cond_true,F8 (by omega),cond_true];have h:(J1 a).map E4++[[SV.int .u8 (45:Int)]]=(J1 a++[45]).map E4:=by rw[ae6];rfl
    rw[h];refine j5 (main (J1 a++[45]) (by simp;omega) R _) ?_;rw[d,if_neg (by simpa using c)];rw[Y7,Z6];rfl
def Di8(z t:Bool)(p:LL)(b:p.all Ou=true):∃r H,Ao5 LF z t p (λ_=>rv (.tup [.s (.str []),.s (.int .i64 3)]) []) (λd e l=>rv (.tup [.s (.str d),.s (.int .i64 e)]) [.arr true 5 1 l])=rv r H/\
  r.stab [0,0] H = .tup [.s (.str (Y2 (p.map elI)).1),.s (.int .i64 ((Y2 (p.map elI)).2:Nat))]:=by
 obtain⟨P,rfl⟩:=Bw6 b;rw[Aj3];rcases Bc5 z t P with⟨c,a⟩|⟨l,a⟩
 ·exact⟨_,_,a _ _ _,by rw[c];rfl⟩
 ·exact⟨_,_,a _ _ _,rfl⟩
section
variable {Z R : Type} (L : Nat) (Q : G4) (Y : Yh Z) (s : Z) (k : Out -> St Z -> Option R)
noncomputable abbrev Dw8:Code:=C7 am9
noncomputable def BE(L:Nat):Cfg:=B8 L [236] (A2 [(3,[0,1,0,0])]) [(238,IK),(250,Az9)] (A2 [(17,[2]),(16,[0,2,0,53]),(15,[0,2,0]),(14,[2]),(13,[0,2,0,1,45]),(12,[0,2,0,0,0]),(11,[2]),(10,[0,2,0,0,41]),(9,[0,2,0,0]),(8,[0,2,0,0]),(7,[2]),(6,[0,2,0,0,18]),(5,[0,2,0,0]),(4,[2]),(3,[0,2,0,11]),(2,[0,2,0]),(1,[0,2]),(0,[0])]) [250] (A2 [(0,[2]),(1,[0,2,0])]) (some [2]) [(253,Rj)] [] [253]
def Ga{R:Type}(L n:Nat)(p:Int)(c:By)(j o d:Int)(g l:Bool)(i:LL)(a:Int)(h:Int->By->Int->Int->Int->Bool->Bool->LL->Int->Option R):Option R:=match n with|0=>none|n+1=>cond (c==[]) (h 4 c j o d g l i a) (cond (inR 0 c.length) (cond (inR (bAt c (0:Int)) 256) (vl (E5 (u8n (bAt c (0:Int)))) λf=>cond (ltI f 0) (h 4 c j o d g l i a) (cond (J0 1 (c.length:Int) c.length) (vl (cut c 1 (c.length:Int)) λe=>vl (A1 (o+(A1 (f*p)))) λb=>cond (ltI 1099511627776 b) (h 19 e j b d g l i a) (cond (ltN a 1000000000000) (cond (ltN d 1000000) (cond (ltI f (L9 a d)) (h 0 e j b d g l i (ad7 a (36:Int))) (vl (A1 ((36:Int)-(L9 a d))) λm=>cond (ltI 1099511627776 (A1 (p*m))) (h 19 e j b d g l i (ad7 a (36:Int))) (Ga L n (A1 (p*m)) e j b d g l i (ad7 a (36:Int)) h))) none) none)) none)) none) none)
def A60(n w0 g e f b c h d a):D0 4 ((BE L).keep 3) (bd (BE L) Q Y (cd [1,1,1,0,0] Dw8)) n ⟨gp [(0,.ptr 0 0 0),(2,.fnr (Fn.func 253) [] [.ptr 3 0 0,.ptr 2 0 0]),(0,pI w0)] 54,[.box [pS g,.fl 1,pI e,pI f,pI b,pB c],.arr h 3 1 d,.box [pI b],.box [pI a]],s⟩ k =
 Ga L n w0 g e f b c h d a (λn0 g e f b c h d a=>k .ret ⟨gp [(2,pI n0)] 56,[.box [pS g,.fl 1,pI e,pI f,pI b,pB c],.arr h 3 1 d,.box [pI b],.box [pI a]],s⟩):=by
 induction n generalizing w0 g e f b c h d a with
 | zero=>rfl
 | succ n i=>rw[Ga];simp only[<-i];kernel_rfl
def Dx6{R:Type}(L:Nat)(g:By)(n i b:Int)(q z:Bool)(l:LL)(p:Int->By->Int->Int->Int->Bool->Bool->LL->Int->Option R):Option R:=Ga L L 1 g n i b q z l 0 (λj o m d e a h c f=>p j o m d e a h c f)
def Dc6(d:Nat)(rest n i b st z l):evC (BE L) (d+1) Z Y 236 [.ptr 0 0 0] [.box [pS rest,.fl 1,pI n,pI i,pI b,pB st],.arr z 3 1 l] s=Dx6 L rest n i b st z l (λj m g h c e o f a=>some (pI j,[.box [pS m,.fl 1,pI g,pI h,pI c,pB e],.arr o 3 1 f,.box [pI c],.box [pI a]],s)):=by refine(evE (fn:=am9) (by kernel_rfl)).trans ?_;generalize evC (BE L) d=Q;unfold Dx6;exact(j5 (by kernel_rfl) ((A60 L Q Y s (E2 0 (F4 (BE L) am9)) L 1 rest n i b st z l 0).trans (by kernel_rfl)))
noncomputable def XA(L:Nat):Cfg:=B8 L [212] (A2 []) [(215,Pi),(213,Pj)] (A2 [(16,[2]),(15,[]),(14,[0]),(13,[2]),(12,[0,67]),(11,[2]),(10,[0,4,60]),(9,[0,4]),(8,[0,4]),(7,[0,4]),(6,[0,4]),(5,[0,2,1]),(4,[2]),(3,[0,2,0,8]),(2,[0,2,0]),(1,[0,2]),(0,[0])]) [215,213] (A2 []) (some [2]) [(236,TU),(237,WD)] [] [236,237]
def Bv7{R:Type}(L:Nat)(a:By)(n i b:Int)(m z:Bool)(l:LL)(j:Int->By->Int->Int->Int->Bool->Bool->LL->Option R):Option R:=cond (A3 a.length) (cond (ltN b 1000000) (cond (ltN i 1099511627777) (cond ((MK b a i)!=0) (j (MK b a i) (MM b a i) n (Ve b a i) b m z l) (vl (A1 ((l.length:Int)+1)) λc=>vl (A1 ((Ve b a i)-i)) λh=>cond (ltN h 1152921504606846976) (cond (ltN c 1000000) (cond (ltI 0 c) (vl (↑(R5 (y5 h) (y5 c) (not m)):Int) λf=>cond (c !=0) (vl (A1 (ah6 (Ve b a i) c)) λd=>cond (c !=0) (vl (aj6 (Ve b a i) c) λe=>cond (not (ptI (A1 (n+d)))) (j 2 (MM b a i) (A1 (n+d)) e f true z l) (cond (ltI 256 c) (j 3 (MM b a i) (A1 (n+d)) e f true z l) (cond (ltN e (Nat.add l.length 1)) (cond (p7 l.length 100000) (vl (Na l (y5 e) (A1 (n+d))) λg=>j 0 (MM b a i) (A1 (n+d)) (A1 (e+1)) f true z g) none) none))) none) none) none) none) none)) none) none) none
def Cq0(d:Nat)(rest n i b st z l):evC (XA L) (d+1) Z Y 212 [.ptr 0 0 0] [.box [pS rest,.fl 1,pI n,pI i,pI b,pB st],.arr z 3 1 l] s=Bv7 L rest n i b st z l (λh j e f g a m c=>some (pI h,[.box [pS j,.fl 1,pI e,pI f,pI g,pB a],.arr m 3 1 c],s)):=by refine(evE (fn:=Tryz.f212) (by kernel_rfl)).trans ?_;generalize evC (XA L) d=Q;unfold Bv7;kernel_rfl
noncomputable abbrev Uc:Code:=C7 ai6
noncomputable def Ar(L:Nat):Cfg:=B8 L [180] (A2 [(20,[2,0,1]),(13,[0,1,0,1,0,22,0]),(4,[0,1,0,9,0])]) [(98,GC)] (A2 [(24,[2,0]),(23,[2,0]),(22,[5,2,59]),(21,[5,2]),(20,[5,58]),(19,[2,0]),(18,[5,53]),(17,[5]),(16,[0,4,0,22,0]),(15,[0,4,0,22,0]),(14,[0,4,0,0,21,0]),(13,[0,4,0,22,0,0]),(12,[0,4,0,22,0]),(11,[0,4,0,21]),(10,[0,4,0]),(9,[0,4]),(8,[0,12,0]),(7,[2,0]),(6,[0,12,0,5]),(5,[0,3,8,0]),(4,[0,12,0,0]),(3,[0,12,0]),(2,[2,0]),(1,[0,10]),(0,[0])]) [98] (A2 [(4,[5]),(5,[5]),(2,[0,4,0]),(3,[0,4,0,22,0]),(0,[0]),(1,[0,12,0])]) (some [2,0]) [(212,GB)] [] [212] (nt:=[(211,1,3,1)])
def Nl{R:Type}(L n:Nat)(b:By)(e a:Int)(c:Unit->Option R)(d:By->Option R):Option R:=match n with|0=>none|n+1=>cond (ltI a e) (cond (inR a b.length) (cond (not (ltI (bAt b a) (128:Int))) (c ()) (Nl L n b e (A1 (a+1)) c d)) none) (d b)
def Bc2(n a n1 n2):D0 0 ((Ar L).keep 4) (bd (Ar L) Q Y (cd [1,1,0,1,0,0] Uc)) n ⟨gp [(0,pS a),(12,pI n1),(0,pI n2)] 59,[],s⟩ k =
 Nl L n a n1 n2 (λ_=>k .ret ⟨gp [(2,.fl 0),(0,pI (4:Int))] 70,[.arr true 3 1 []],s⟩) (λa=>k (.exit 0) ⟨gp [(0,pS a)] 73,[],s⟩):=by
 induction n generalizing a n1 n2 with
 | zero=>rfl
 | succ n b=>rw[Nl];simp only[<-b];kernel_rfl
def Jp{R:Type}(L n:Nat)(c:By)(a b:Int)(d:LL)(e:By->Int->LL->Option R):Option R:=match n with|0=>none|n+1=>cond (ltI b a) (cond (inR b c.length) (cond (G2 (d.length+1)) (Jp L n c a (A1 (b+1)) (d++[[(SV.int .i64 (A1 (bAt c b)))]]) e) none) none) (e c a d)
def Bc3(n b a n2 l3):D0 2 ((Ar L).keep 13) (bd (Ar L) Q Y (cd [1,1,1,1,0,1,1,0,0,1,0,0] Uc)) n ⟨gp [(0,pS b),(4,.ptr 1 0 0),(0,pI a),(22,pI a),(0,pI n2)] 43,[.arr true 3 1 l3,.box [pS b,.fl 0,pI (128:Int),pI (0:Int),pI (72:Int),pB false]],s⟩ k =
 Jp L n b a n2 l3 (λb a d=>k (.exit 2) ⟨gp [(0,pS b),(4,.ptr 1 0 0),(0,pI a)] 67,[.arr true 3 1 d,.box [pS b,.fl 0,pI (128:Int),pI (0:Int),pI (72:Int),pB false]],s⟩):=by
 induction n generalizing b a n2 l3 with
 | zero=>rfl
 | succ n c=>rw[Jp];simp only[<-c];kernel_rfl
def U3{R:Type}(L n:Nat)(b:LL)(a:By)(c d e:Int)(f:Bool)(i:Int->LL->By->Int->Int->Int->Bool->Option R)(j:LL->By->Int->Int->Int->Bool->Option R):Option R:=match n with|0=>none|n+1=>cond (not (a==[])) (cond (A3 a.length) (cond (ltN e 1000000) (cond (ltN d 1099511627777) (cond (ltN c 1152921504606846976) (cond (p7 b.length 100000) (vl ((F7 (DS.mk a c d e f b))).1 λh=>vl (DS.l ((F7 (DS.mk a c d e f b))).2) λg=>cond (h !=0) (i h g (DS.rest ((F7 (DS.mk a c d e f b))).2) (DS.n ((F7 (DS.mk a c d e f b))).2) (DS.i ((F7 (DS.mk a c d e f b))).2) (DS.b ((F7 (DS.mk a c d e f b))).2) (DS.st ((F7 (DS.mk a c d e f b))).2)) (U3 L n g (DS.rest ((F7 (DS.mk a c d e f b))).2) (DS.n ((F7 (DS.mk a c d e f b))).2) (DS.i ((F7 (DS.mk a c d e f b))).2) (DS.b ((F7 (DS.mk a c d e f b))).2) (DS.st ((F7 (DS.mk a c d e f b))).2) i j)) none) none) none) none) none) (j b a c d e f)
def MV(n d f e a b c):D0 2 ((Ar L).keep 20) (bd (Ar L) Q Y (cd [1,1,1,1,1,1,0,0,0] Uc)) n ⟨gp [(5,.ptr 1 0 0)] 68,[.arr true 3 1 d,.box [pS f,.fl 0,pI e,pI a,pI b,pB c]],s⟩ k =
 U3 L n d f e a b c (λn0 i l a b j g=>k .ret ⟨gp [(2,.fl 2),(0,pI n0)] 70,[.arr true 3 1 i,.box [pS l,.fl 0,pI a,pI b,pI j,pB g],.arr true 3 1 []],s⟩) (λd f e a b c=>k (.exit 4) ⟨gp [(5,.ptr 1 0 0)] 68,[.arr true 3 1 d,.box [pS f,.fl 0,pI e,pI a,pI b,pB c]],s⟩):=by
 induction n generalizing d f e a b c with
 | zero=>rfl
 | succ n h=>rw[U3];simp only[<-h];kernel_rfl
def Yd{R:Type}(L:Nat)(M:By)(N:Int->Option R)(K:Int->LL->By->Int->Int->Int->Bool->Option R)(O:LL->By->Int->Int->Int->Bool->Option R):Option R:=cond (ltI 1024 (M.length:Int)) (N 3) (Nl L L M (M.length:Int) 0 (λ_=>N 4) (λa=>cond (A3 a.length) (vl (L2 (u8n (45:Int)) a) λC=>cond (ltI 0 C) (Jp L L a C 0 [] (λb h c=>vl (A1 (h+1)) λD=>cond (J0 D (b.length:Int) b.length) (vl (cut b D (b.length:Int)) λJ=>cond (ltI 256 (c.length:Int)) (K 3 c J 128 0 72 false) (U3 L L c J 128 0 72 false (λn i F o p q d=>K n i F o p q d) (λj G r t u e=>O j G r t u e))) none)) (U3 L L [] a 128 0 72 false (λv l H w x y f=>K v l H w x y f) (λm I z A B g=>O m I z A B g))) none))
def Di3(d:Nat)(s0):evC (Ar L) (d+1) Z Y 180 [pS s0] [] s=Yd L s0 (λg=>some (.tup [.fl 0,pI g],[.arr true 3 1 []],s)) (λg o v e f r m=>some (.tup [.fl 2,pI g],[.arr true 3 1 o,.box [pS v,.fl 0,pI e,pI f,pI r,pB m],.arr true 3 1 []],s)) (λn u q e f l=>some (.tup [.fl 0,pI (0:Int)],[.arr true 3 1 n,.box [pS u,.fl 0,pI q,pI e,pI f,pB l]],s)):=by refine(evE (fn:=ai6) (by kernel_rfl)).trans ?_;generalize evC (Ar L) d=Q;unfold Yd;exact let i:=(E2 4 (E1 (Ar L) Q Y (cd [1,1,1,1,1,1,1] Uc) (F4 (Ar L) ai6)));(j5 (by kernel_rfl) (A0 rfl ((Bc2 L Q Y s (E2 0 (E1 (Ar L) Q Y (cd [1,1,1] Uc) (F4 (Ar L) ai6))) L s0 (s0.length:Int) 0).trans (congr (congr rfl (by kernel_rfl)) (fx1 λa=>(j5 (by kernel_rfl) (A0 (A4 λc=>(A0 ((Bc3 L Q Y s (E2 2 (E1 (Ar L) Q Y (cd [1,1,1,1,0,1,1,0,1] Uc) (E1 (Ar L) Q Y (cd [1,1,1,1,1] Uc) (F4 (Ar L) ai6)))) L a c 0 []).trans (congr rfl (fx3 λt j b=>(j5 (by kernel_rfl) (A4 λp=>(A0 (A4 λh=>(A0 rfl ((MV L Q Y s i L b h 128 0 72 false).trans (by kernel_rfl)))) rfl)))))) ((MV L Q Y s i L [] a 128 0 72 false).trans (by kernel_rfl)))) rfl)))))))
noncomputable abbrev Ag9:Code:=C7 am6
noncomputable def Hm(L:Nat):Cfg:=B8 L [133] (A2 [(2,[0,0,2,0])]) [] (A2 [(6,[4]),(3,[0,0,3]),(5,[4]),(4,[0,0,3,11]),(2,[0,0,3,4]),(1,[0,0,3]),(0,[0,0])]) [] (A2 [(0,[]),(1,[0,0,3])]) (some [4]) [] [] []
def Dw{R:Type}(L n:Nat)(b:By)(c a:Int)(d:Int->Option R)(e:Unit->Option R):Option R:=match n with|0=>none|n+1=>cond (not (ltI a 0)) (cond (inR a b.length) (cond ((bAt b a)==c) (d a) (Dw L n b c (A1 (a-1)) d e)) none) (e ())
def YP(n s0 c1 i2):D0 0 ((Hm L).keep 2) (bd (Hm L) Q Y (cd [1,0,1,0,0] Ag9)) n ⟨gp [(0,pS s0),(0,p8 c1),(3,pI i2)] 13,[],s⟩ k =
 Dw L n s0 c1 i2 (λn0=>k .ret ⟨gp [(4,pI n0)] 14,[],s⟩) (λ_=>k (.exit 0) ⟨gp [] 19,[],s⟩):=by
 induction n generalizing s0 c1 i2 with
 | zero=>rfl
 | succ n a=>rw[Dw];simp only[<-a];kernel_rfl
def YO{R:Type}(L:Nat)(d:By)(e:Int)(c:Int->Option R):Option R:=vl (A1 ((d.length:Int)-1)) λa=>Dw L L d e a (λb=>c b) (λ_=>c (-1))
def B65(d:Nat)(s0 c1):evC (Hm L) (d+1) Z Y 133 [pS s0,p8 c1] [] s=YO L s0 c1 (λb=>some (pI b,[],s)):=by refine(evE (fn:=am6) (by kernel_rfl)).trans ?_;generalize evC (Hm L) d=Q;unfold YO;exact(j5 (by kernel_rfl) (A4 λa=>((YP L Q Y s (E2 0 (E1 (Hm L) Q Y (cd [1,1] Ag9) (F4 (Hm L) am6))) L s0 c1 a).trans (by kernel_rfl))))
noncomputable def XE(L:Nat):Cfg:=B8 L [98] (A2 []) [(133,Af4)] (A2 [(1,[4]),(0,[0,0])]) [133] (A2 []) (some [4]) [] [] []
def Bx0{R:Type}(L:Nat)(b:By)(a:Int)(c:Int->Option R):Option R:=cond (A3 b.length) (cond (inR a 256) (c (L2 (u8n a) b)) none) none
def Ct1(d:Nat)(s0 c1):evC (XE L) (d+1) Z Y 98 [pS s0,p8 c1] [] s=Bx0 L s0 c1 (λa=>some (pI a,[],s)):=by refine(evE (fn:=Tryz.f98) (by kernel_rfl)).trans ?_;generalize evC (XE L) d=Q;unfold Bx0;kernel_rfl
end
def Gr(c:UInt8):-1<=E5 c/\E5 c<=35:=by unfold E5 Oz;grind
def Of(k b:Int):1<=L9 k b/\L9 k b<=26:=by unfold L9;omega
def Ec{x w:Int}(b:0<=x)(c:x<=35)(a:0<=w)(w1:w<=1099511627776):0<=x*w/\x*w<=38482906972160:=by refine⟨al9 b a,?_⟩;have:=Int.mul_le_mul c w1 a (show(0:Int)<=35 by omega);omega
def Wu(b:Int):∀(s:By) (i w k:Int),0<=i->0<=w->w<=1099511627776->(V2 b s i w k).1=0->i<=(V2 b s i w k).2.2/\(V2 b s i w k).2.2<=1099511627776/\(V2 b s i w k).2.1.length<s.length
 | [],i,w,k,_,_,_,h=>by simp[V2] at h
 | c::r,i,w,k,m,d,a,h=>by
  have l:=Gr c;have o:=Of k b;unfold V2 at h ⊢;split at h
  ·simp at h
  ·rename_i e;rw[if_neg e];have n:=Ec (by omega) l.2 d a;split at h
   ·simp at h
   ·rename_i f;rw[if_neg f];split at h
    ·grind
    ·rename_i g;rw[if_neg g];split at h
     ·omega
     ·rename_i j;rw[if_neg j];obtain⟨p,q,t⟩:=Wu b r (i+E5 c*w) (w*(36-L9 k b)) (k+36) (by omega) (al9 d (by omega)) (by omega) h;grind
def B39(f:Int)(b:Int)(g z:Bool)(l:LL)(M:0<=b)(N:b<1000000):∀(s:By) (n:Nat) (i w k:Int),s.length<n->s.length<=1000000000->0<=i->i<=1099511627776->0<=w->w<=1099511627776->0<=k->k+36*s.length<=100000000000->
  ∃H,∀(R:Type) (a:Int->By->Int->Int->Int->Bool->Bool->LL->Int->Option R),Ga LF n w s f i b g z l k a=a (V2 b s i w k).1 (V2 b s i w k).2.1 f (V2 b s i w k).2.2 b g z l H:=by
 intro s
 induction s with
 | nil=>
  intro n i w k K L O B G h P o;obtain⟨n,rfl⟩:∃m,n=m+1:=⟨n-1,by omega⟩
  refine⟨k,λR a=>?_⟩;rw[Ga];rfl
 | cons c r T=>
  intro n i w k K L O B G h P o;obtain⟨n,rfl⟩:∃m,n=m+1:=⟨n-1,by omega⟩
  rw[j4] at K L o;have S:=Gr c;have V:=Of k b;have Q:u8n (bAt (c::r) 0)=c:=by unfold u8n bAt;simp
  have C:inR (bAt (c::r) 0) 256=true:=by rw[Ba];have:=c.toNat_lt;exact K8 (by omega) (by simp;omega)
  have j:cut (c::r) 1 ((c::r).length:Int)=r:=by
   have:=Fy (c::r) 1 (c::r).length;grind
  have F:((c::r)==([]:By))=false:=rfl;have start:∀(R:Type) (a:Int->By->Int->Int->Int->Bool->Bool->LL->Int->Option R),Ga LF (n+1) w (c::r) f i b g z l k a =
    cond (ltI (E5 c) 0) (a 4 (c::r) f i b g z l k)
     (vl (A1 (i+(A1 (E5 c*w)))) λd=>cond (ltI 1099511627776 d) (a 19 r f d b g z l k)
      (cond (ltI (E5 c) (L9 k b)) (a 0 r f d b g z l (ad7 k 36))
       (vl (A1 (36-(L9 k b))) λp=>cond (ltI 1099511627776 (A1 (w*p))) (a 19 r f d b g z l (ad7 k 36)) (Ga LF n (A1 (w*p)) r f d b g z l (ad7 k 36) a)))):=by
   intro R a;rw[Ga];rw[F,C,K8 (by omega) (by rw[j4];omega),Ay (by omega) (by rw[j4];omega) (by omega),j,Q,M5,M5];rfl
  unfold V2;by_cases u:E5 c<0
  ·rw[if_pos u];refine⟨k,λR a=>?_⟩;rw[start,B9 u];rfl
  ·rw[if_neg u];have U:=Ec (by omega) S.2 G h;have q:A1 (E5 c*w)=E5 c*w:=A7;have t:A1 (i+E5 c*w)=i+E5 c*w:=A7;by_cases v:1099511627776<i+E5 c*w
   ·rw[if_pos v];refine⟨k,λR a=>?_⟩;rw[start,A6,q,t];simp only[vl,cond_false];rw[B9 v];rfl
   ·rw[if_neg v];by_cases y:E5 c<L9 k b
    ·rw[if_pos y];refine⟨ad7 k 36,λR a=>?_⟩;rw[start,A6,q,t];simp only[vl,cond_false];rw[A6,B9 y];rfl
    ·rw[if_neg y];have I:A1 (36-L9 k b)=36-L9 k b:=A7;have D:=Ec (x:=36-L9 k b) (by omega) (by omega) G h;rw[Int.mul_comm] at D;have J:A1 (w*(36-L9 k b))=w*(36-L9 k b):=A7;by_cases A:1099511627776<w*(36-L9 k b)
     ·rw[if_pos A];refine⟨ad7 k 36,λR a=>?_⟩;rw[start,A6,q,t];simp only[vl,cond_false];rw[A6,A6,I,J,B9 A];rfl
     ·rw[if_neg A];obtain⟨H,e⟩:=T n (i+E5 c*w) (w*(36-L9 k b)) (k+36) (by omega) (by omega) (by omega) (by omega) (by omega) (by omega) (by omega) (by omega);refine⟨H,λR a=>?_⟩;rw[start,A6,q,t];simp only[vl,cond_false];rw[A6,A6,I,J,A6];exact e R a
def B40(a:By)(n i b:Int)(f z:Bool)(l:LL)(h:A3 a.length=true)(j:ltN b 1000000=true)(k:ltN i 1099511627777=true) :
  ∃c,∀(R:Type) (d:Int->By->Int->Int->Int->Bool->Bool->LL->Int->Option R),Dx6 LF a n i b f z l d=d (MK b a i) (MM b a i) n (Ve b a i) b f z l c:=by
 have q:=L7 h;obtain⟨g,p⟩:=E3.1 j;obtain⟨o,r⟩:=E3.1 k;have m:=C5;obtain⟨c,e⟩:=B39 n b f z l g (by omega) a LF i 1 0 (by omega) (by omega) o (by omega) (by omega) (by omega) (by omega) (by omega);exact⟨c,λR d=>e R _⟩
def A61{R:Type}{j:Int->By->Int->Int->Int->Bool->Bool->LL->Option R}(a:By)(n i b:Int)(d z:Bool)(l:LL)(y:A3 a.length=true)(C:ltN b 1000000=true)(g:ltN i 1099511627777=true)(D:ltN n 1152921504606846976=true)(h:p7 l.length 100000=true) :
  Bv7 LF a n i b d z l j=j (F7 ⟨a,n,i,b,d,l⟩).1 (F7 ⟨a,n,i,b,d,l⟩).2.rest (F7 ⟨a,n,i,b,d,l⟩).2.n (F7 ⟨a,n,i,b,d,l⟩).2.i (F7 ⟨a,n,i,b,d,l⟩).2.b (F7 ⟨a,n,i,b,d,l⟩).2.st z (F7 ⟨a,n,i,b,d,l⟩).2.l:=by
 obtain⟨F,P⟩:=E3.1 g;obtain⟨n0,Q⟩:=E3.1 D;have M:=ab4 h;unfold Bv7 F7;rw[y,C,g];simp only[cond_true];by_cases e:MK b a i=0
 ·rw[if_pos e,e];obtain⟨G,I,S⟩:=Wu b a i 1 0 F (by omega) (by omega) e;have H:i<=Ve b a i:=G;have J:Ve b a i<=1099511627776:=I;have o:A1 ((l.length:Int)+1)=(l.length:Int)+1:=A7;simp only[vl];rw[o];generalize Ve b a i=x at *;have f:0<=x:=by omega
  obtain⟨X,rfl⟩:=x4 f;have p:A1 ((X:Int)-i)=(X:Int)-i:=A7;have u:((l.length:Int)+1)=((l.length+1:Nat):Int):=rfl;have v:ah6 (X:Int) ((l.length+1:Nat):Int)=((X / (l.length+1):Nat):Int):=M8 _ _;have w:aj6 (X:Int) ((l.length+1:Nat):Int)=((X % (l.length+1):Nat):Int):=Db _ _;have L:=ah2 X (l.length+1);have N:=am1 X (show 0<l.length+1 by omega);rw[p,u,v,w];generalize hA:X / (l.length+1)=A at *;generalize K:X % (l.length+1)=B at *;have q:A1 (A:Int)=(A:Int):=A7;have r:A1 (n+(A:Int))=n+(A:Int):=A7;have t:A1 ((B:Int)+1)=(B:Int)+1:=A7;have k:((0:Int)!=0)=false:=rfl;have m:((((l.length+1:Nat):Int))!=0)=true:=by rw[bne_iff_ne];omega
  rw[q,r,t,k,M5,M5,A8,m];simp only[cond_true,cond_false];cases O:ptI (n+(A:Int)) with
  | false=>simp
  | true=>
   simp only[o6,cond_false,if_true];by_cases c:(256:Int)<((l.length+1:Nat):Int)
   ·rw[if_pos c,B9 c];rfl
   ·rw[if_neg c,A6,cond_false,Sz (by omega) (by show(B:Int)<((l.length+1:Nat):Int);omega),h];rfl
 ·rw[if_neg e,show(MK b a i !=0)=true from bne_iff_ne.2 e];rfl
def LW(c:UInt8):∀l:By,-1<=L2 c l
 | []=>by simp[L2]
 | b::r=>by
  have:=LW c r;unfold L2;omega
def LX(c b:UInt8):∀l:By,L2 c (l++[b])=if b=c then (l.length:Int) else L2 c l
 | []=>by
  by_cases h:b=c<;>simp[L2,h]
 | a::l=>by
  have d:=LX c b l;rw[ab2,L2,d];by_cases h:b=c
  ·grind
  ·rw[if_neg h,if_neg h];rfl
def Al5{R:Type}{b:Int->Option R}{d:Unit->Option R}(s:By)(c:UInt8)(l:s.length<=1000000000):∀(m n:Nat),m<=s.length->m<n->
  Dw LF n s (c.toNat:Int) ((m:Int)-1) b d=if L2 c (s.take m)<0 then d () else b (L2 c (s.take m)):=by
 intro m
 induction m with
 | zero=>
  intro n g i;obtain⟨n,rfl⟩:∃m,n=m+1:=⟨n-1,by omega⟩
  rw[Dw];rw[A8];rfl
 | succ m k=>
  intro n g i;obtain⟨n,rfl⟩:∃m,n=m+1:=⟨n-1,by omega⟩
  rw[Dw];have e0:(((m+1:Nat):Int)-1)=(m:Int):=by omega
  have e:A1 ((m:Int)-1)=(m:Int)-1:=A7;have j:s.take (m+1)=s.take m++[s.getD m 0]:=by
   rw[List.take_add_one,w6,ac0 (by omega)];rfl
  rw[e0,e,A6,F1,D3,j,LX];simp only[o9,cond_true];by_cases h:s.getD m 0=c
  ·rw[if_pos h,h,beq_self_eq_true,cond_true,j6,Nat.min_eq_left (by omega),G0]
  ·have a:(((s.getD m 0).toNat:Int)==(c.toNat:Int))=false:=by
    rw[beq_eq_false_iff_ne];intro f;exact h (UInt8.toNat.inj (Int.ofNat.inj f))
   rw[if_neg h,a,cond_false];exact k n (by omega) (by omega)
def C43{c:Int}(h:inR c 256=true):c=((u8n c).toNat:Int):=by simp only[inR,k9,decide_eq_true_eq] at h;unfold u8n;simp;omega
def Al6{R:Type}{a:Int->Option R}(s:By)(c:Int)(e:A3 s.length=true)(f:inR c 256=true):YO LF s c a=a (L2 (u8n c) s):=by
 have j:=L7 e;have g:=C5;have i:=C43 f;generalize u8n c=d at *;subst i;unfold YO;have b:A1 ((s.length:Int)-1)=(s.length:Int)-1:=A7;simp only[vl];rw[b];refine j5 (Al5 s d (by omega) s.length LF (by omega) (by omega)) ?_;rw[ak7];have:=LW d s;by_cases h:L2 d s<0
 ·rw[if_pos h,show L2 d s=-1 by omega]
 ·rw[if_neg h]
def A90{R:Type}{a:Int->Option R}(s:By)(c:Int)(b:A3 s.length=true)(d:inR c 256=true):Bx0 LF s c a=a (L2 (u8n c) s):=by unfold Bx0;grind
def Qj:∀s:By,(45∈s->L2 45 s=(H5 s:Int))/\(45∉s->L2 45 s=-1/\H5 s=0)
 | []=>⟨λh=>(by cases h),λ_=>⟨rfl,rfl⟩⟩
 | b::r=>by
  obtain⟨a,c⟩:=Qj r;unfold L2 H5;grind
def Ax3{c:UInt8}(h:Oz c=none):E5 c=-1:=by unfold E5;rw[h]
def Ax4{c:UInt8}{x:Nat}(h:Oz c=some x):E5 c=x:=by unfold E5;rw[h]
def Wv(b:Nat):∀(s:By) (i w k:Nat),V2 (b:Int) s (i:Int) (w:Int) ((36*k:Nat):Int)=((((E0 b s i w k).2.2:Nat):Int),(V2 (b:Int) s (i:Int) (w:Int) ((36*k:Nat):Int)).2)/\
  ((E0 b s i w k).2.2=0->(V2 (b:Int) s (i:Int) (w:Int) ((36*k:Nat):Int)).2=((E0 b s i w k).2.1,((E0 b s i w k).1:Int)))
 | [],i,w,k=>⟨rfl,λh=>by simp[E0] at h⟩
 | c::r,i,w,k=>by
  unfold V2 E0;cases d:Oz c with
  | none=>
   rw[Ax3 d,R2];grind
  | some x=>
   rw[Ax4 d,G0,Zm];have e:(i:Int)+(x:Int)*(w:Int)=((i+x*w:Nat):Int):=by push_cast;rfl
   have n:=X8 k b;have f:(w:Int)*(36-(thr k b:Int))=((w*(36-thr k b):Nat):Int):=by grind
   have g:((36*k:Nat):Int)+36=((36*(k+1):Nat):Int):=by omega
   have a:X3=1099511627776:=by decide
   rw[e,f,g,a];simp only;generalize i+x*w=I;generalize w*(36-thr k b)=W;by_cases j:1099511627776<I
   ·grind
   ·rw[G0,if_neg j];by_cases l:x<thr k b
    ·grind
    ·rw[G0,if_neg l];by_cases m:1099511627776<W
     ·grind
     ·rw[G0,if_neg m];exact Wv b r I W (k+1)
def Cs3(l:List Nat)(i n:Nat):Na (B7 l) i (n:Int)=B7 (W7 l i n):=by unfold Na W7 B7;simp_all
def ZE(b:Nat)(s:By)(i:Nat):MK (b:Int) s (i:Int)=((E0 b s i 1 0).2.2:Int)/\((E0 b s i 1 0).2.2=0->MM (b:Int) s (i:Int)=(E0 b s i 1 0).2.1/\Ve (b:Int) s (i:Int)=((E0 b s i 1 0).1:Int)):=by obtain⟨a,c⟩:=Wv b s i 1 0;have e:V2 (b:Int) s (i:Int) 1 0=V2 (b:Int) s (i:Int) ((1:Nat):Int) ((36*0:Nat):Int):=rfl;unfold MK MM Ve;rw[e];refine⟨by rw[a],λh=>?_⟩;have:=c h;rw[this];exact⟨rfl,rfl⟩
def D69(s:By)(a:List Nat)(n i b:Nat)(c:Bool)(h:(E0 b s i 1 0).2.2=0)(q:i<=(E0 b s i 1 0).1)(o:W8 (n+(E0 b s i 1 0).1 / (a.length+1))=true)(p:¬ 256<a.length+1) :
  F7 ⟨s,(n:Int),(i:Int),(b:Int),c,B7 a⟩=(0,⟨(E0 b s i 1 0).2.1,((n+(E0 b s i 1 0).1 / (a.length+1):Nat):Int),(((E0 b s i 1 0).1 % (a.length+1)+1:Nat):Int),((R5 ((E0 b s i 1 0).1-i) (a.length+1) (!c):Nat):Int),true,B7 (W7 a ((E0 b s i 1 0).1 % (a.length+1)) (n+(E0 b s i 1 0).1 / (a.length+1)))⟩):=by
 obtain⟨j,k⟩:=ZE b s i;obtain⟨l,m⟩:=k h;unfold F7;simp only;rw[j,h,if_pos (show((0:Nat):Int)=0 from rfl),l,m,D4];generalize (E0 b s i 1 0).1=X at *;have d:((a.length:Int)+1)=((a.length+1:Nat):Int):=rfl;have e:ah6 (X:Int) ((a.length+1:Nat):Int)=((X / (a.length+1):Nat):Int):=M8 _ _;have f:aj6 (X:Int) ((a.length+1:Nat):Int)=((X % (a.length+1):Nat):Int):=Db _ _;have g:(n:Int)+((X / (a.length+1):Nat):Int)=((n+X / (a.length+1):Nat):Int):=rfl;rw[d,e,f,g,Nm,o,if_pos rfl,G0,j2,Cs3,j2,show((X:Int)-(i:Int)).toNat=X-i by omega];rfl
def Dx7(s:By)(a:List Nat)(n i b:Nat)(f:Bool):((E0 b s i 1 0).2.2≠0->(F7 ⟨s,(n:Int),(i:Int),(b:Int),f,B7 a⟩).1=((E0 b s i 1 0).2.2:Int))/\
  ((E0 b s i 1 0).2.2=0->W8 (n+(E0 b s i 1 0).1 / (a.length+1))=false->(F7 ⟨s,(n:Int),(i:Int),(b:Int),f,B7 a⟩).1=2)/\
  ((E0 b s i 1 0).2.2=0->W8 (n+(E0 b s i 1 0).1 / (a.length+1))=true->256<a.length+1->(F7 ⟨s,(n:Int),(i:Int),(b:Int),f,B7 a⟩).1=3):=by
 obtain⟨c,l⟩:=ZE b s i;have g:(((B7 a).length:Int)+1)=((a.length+1:Nat):Int):=by rw[D4];rfl
 have j:∀X:Nat,ah6 (X:Int) ((a.length+1:Nat):Int)=((X / (a.length+1):Nat):Int):=λX=>M8 _ _
 have k:∀A:Nat,(n:Int)+(A:Int)=((n+A:Nat):Int):=λA=>rfl
 refine⟨λh=>?_,λh e=>?_,λh e o=>?_⟩
 ·unfold F7;simp only;rw[c,G0]
 ·obtain⟨m,d⟩:=l h;unfold F7;simp only;rw[c,h,if_pos (show((0:Nat):Int)=0 from rfl),d,g,j,k,Nm,e,if_neg (by simp)]
 ·obtain⟨m,d⟩:=l h;unfold F7;simp only;rw[c,h,if_pos (show((0:Nat):Int)=0 from rfl),d,g,j,k,Nm,e,if_pos rfl,R2]
def Dr(a:List Nat)(n i b:Nat)(f:Bool):I1 [] a n i b f=(a,0):=by rw[I1];rfl
def Hv{s:By}(c:s≠[])(a:List Nat)(n i b:Nat)(f:Bool)(h:(E0 b s i 1 0).2.2≠0):I1 s a n i b f=([],(E0 b s i 1 0).2.2):=by rw[I1,dif_neg c];grind
def Ew{s:By}(c:s≠[])(a:List Nat)(n i b:Nat)(f:Bool)(h:(E0 b s i 1 0).2.2=0):I1 s a n i b f =
  if W8 (n+(E0 b s i 1 0).1 / (a.length+1)) then (if 256<a.length+1 then ([],3) else I1 (E0 b s i 1 0).2.1 (W7 a ((E0 b s i 1 0).1 % (a.length+1)) (n+(E0 b s i 1 0).1 / (a.length+1))) (n+(E0 b s i 1 0).1 / (a.length+1)) ((E0 b s i 1 0).1 % (a.length+1)+1) (R5 ((E0 b s i 1 0).1-i) (a.length+1) f) false) else ([],2):=by
 rw[I1,dif_neg c];simp only;rw[dif_pos h]
def Bx(l:List Nat)(i n:Nat):(W7 l i n).length=l.length+1:=by unfold W7;grind
def Ca0:∀(r:Nat) (s:By) (a:List Nat) (n i b f:Nat) (c:Bool),s.length<=r->r<f->s.length<=1000000->a.length<=256->n<=1114111->i<=1000->b<=500->
  ((I1 s a n i b (!c)).2=0->∃u t q p j,∀(R:Type) (d:Int->LL->By->Int->Int->Int->Bool->Option R) (g:LL->By->Int->Int->Int->Bool->Option R),U3 LF f (B7 a) s (n:Int) (i:Int) (b:Int) c d g=g (B7 (I1 s a n i b (!c)).1) u t q p j)/\
  ((I1 s a n i b (!c)).2≠0->(I1 s a n i b (!c)).1=[]/\∃l u t q p j,∀(R:Type) (d:Int->LL->By->Int->Int->Int->Bool->Option R) (g:LL->By->Int->Int->Int->Bool->Option R),U3 LF f (B7 a) s (n:Int) (i:Int) (b:Int) c d g=d ((I1 s a n i b (!c)).2:Nat) l u t q p j):=by
 intro r
 induction r with
 | zero=>
  intro s a n i b f c h K _ _ _ _ _;obtain⟨f,rfl⟩:∃m,f=m+1:=⟨f-1,by omega⟩
  have v:s=[]:=j8.1 (by omega);subst v;rw[Dr];refine⟨λ_=>⟨[],n,i,b,c,λR d g=>?_⟩,λh=>absurd rfl h⟩;rw[U3];rfl
 | succ r L=>
  intro s a n i b f c h K X Y Z h4 h5;obtain⟨f,rfl⟩:∃m,f=m+1:=⟨f-1,by omega⟩
  by_cases v:s=[]
  ·subst v;rw[Dr];refine⟨λ_=>⟨[],n,i,b,c,λR d g=>?_⟩,λh=>absurd rfl h⟩;rw[U3];rfl
  ·have start:∀(R:Type) (d:Int->LL->By->Int->Int->Int->Bool->Option R) (g:LL->By->Int->Int->Int->Bool->Option R),U3 LF (f+1) (B7 a) s (n:Int) (i:Int) (b:Int) c d g =
     cond ((F7 ⟨s,n,i,b,c,B7 a⟩).1 !=0) (d (F7 ⟨s,n,i,b,c,B7 a⟩).1 (F7 ⟨s,n,i,b,c,B7 a⟩).2.l (F7 ⟨s,n,i,b,c,B7 a⟩).2.rest (F7 ⟨s,n,i,b,c,B7 a⟩).2.n (F7 ⟨s,n,i,b,c,B7 a⟩).2.i (F7 ⟨s,n,i,b,c,B7 a⟩).2.b (F7 ⟨s,n,i,b,c,B7 a⟩).2.st)
      (U3 LF f (F7 ⟨s,n,i,b,c,B7 a⟩).2.l (F7 ⟨s,n,i,b,c,B7 a⟩).2.rest (F7 ⟨s,n,i,b,c,B7 a⟩).2.n (F7 ⟨s,n,i,b,c,B7 a⟩).2.i (F7 ⟨s,n,i,b,c,B7 a⟩).2.b (F7 ⟨s,n,i,b,c,B7 a⟩).2.st d g):=by
    intro R d g;rw[U3];rw[show(s==([]:By))=false from beq_eq_false_iff_ne.2 v,K3,M5,M5,M5,D4,ac8 (show a.length<=100000 by omega)];rfl
   obtain⟨G,H,I⟩:=Dx7 s a n i b c;have o:=D69 s a n i b c;generalize F7 ⟨s,n,i,b,c,B7 a⟩=D at *;by_cases k:(E0 b s i 1 0).2.2=0
   ·rw[Ew v a n i b (!c) k];obtain⟨M,N⟩:=ZE b s i;obtain⟨O,P⟩:=N k;have J:MK (b:Int) s (i:Int)=0:=by rw[M,k];rfl
    obtain⟨U,V,W⟩:=Wu b s i 1 0 (by omega) (by omega) (by omega) J;have A:(i:Int)<=Ve (b:Int) s (i:Int):=U;have B:Ve (b:Int) s (i:Int)<=1099511627776:=V;have C:(MM (b:Int) s (i:Int)).length<s.length:=W;rw[P] at A B;rw[O] at C;cases x:W8 (n+(E0 b s i 1 0).1 / (a.length+1)) with
    | false=>
     rw[if_neg (by simp)];refine⟨λh=>by simp at h,λ_=>⟨rfl,D.2.l,D.2.rest,D.2.n,D.2.i,D.2.b,D.2.st,λR d g=>?_⟩⟩
     ·rw[start,H k x];rfl
    | true=>
     rw[if_pos rfl];by_cases w:256<a.length+1
     ·rw[if_pos w];refine⟨λh=>by simp at h,λ_=>⟨rfl,D.2.l,D.2.rest,D.2.n,D.2.i,D.2.b,D.2.st,λR d g=>?_⟩⟩;rw[start,I k x w];rfl
     ·rw[if_neg w];have o:=o k (by omega) x w;have z:n+(E0 b s i 1 0).1 / (a.length+1)<=1114111:=by
       unfold W8 at x;simp_all
      have F:=am1 (E0 b s i 1 0).1 (show 0<a.length+1 by omega);have y:=Po ((E0 b s i 1 0).1-i) (a.length+1) (!c) (by omega);have:=L (E0 b s i 1 0).2.1 (W7 a ((E0 b s i 1 0).1 % (a.length+1)) (n+(E0 b s i 1 0).1 / (a.length+1))) (n+(E0 b s i 1 0).1 / (a.length+1)) ((E0 b s i 1 0).1 % (a.length+1)+1) (R5 ((E0 b s i 1 0).1-i) (a.length+1) (!c)) f true (by omega) (by omega) (by omega) (by rw[Bx];omega) z (by omega) y;obtain⟨Q,S⟩:=this;refine⟨λh=>?_,λh=>?_⟩
      ·obtain⟨u,t,q,p,j,e⟩:=Q h;refine⟨u,t,q,p,j,λR d g=>?_⟩;rw[start,o];exact e R d g
      ·obtain⟨T,l,u,t,q,p,j,e⟩:=S h;refine⟨T,l,u,t,q,p,j,λR d g=>?_⟩;rw[start,o];exact e R d g
   ·rw[Hv v a n i b (!c) k];refine⟨λh=>absurd h k,λ_=>⟨rfl,D.2.l,D.2.rest,D.2.n,D.2.i,D.2.b,D.2.st,λR d g=>?_⟩⟩;rw[start,G k,show(((E0 b s i 1 0).2.2:Int)!=0)=true by rw[bne_iff_ne];omega];rfl
def Ed(l:List Nat):Ni l=B7 l:=rfl
def Bc0{R:Type}{k0:Unit->Option R}{k1:By->Option R}(s:By)(f:s.length<=1000000):∀(r i n:Nat),i+r=s.length->r<n->
  Nl LF n s (s.length:Int) (i:Int) k0 k1=if (s.drop i).any (λb=>p7 128 b.toNat) then k0 () else k1 s:=by
 intro r
 induction r with
 | zero=>
  intro i n c d;obtain⟨n,rfl⟩:∃m,n=m+1:=⟨n-1,by omega⟩
  rw[Nl];rw[A6,o8 (by omega)];rfl
 | succ r e=>
  intro i n c d;obtain⟨n,rfl⟩:∃m,n=m+1:=⟨n-1,by omega⟩
  rw[Nl];have a:A1 ((i:Int)+1)=((i+1:Nat):Int):=by rw[A7];rfl
  rw[A8,F1,D3,D6 s i (by omega),a,aj0];simp only[cond_true];generalize s.getD i 0=b;by_cases h:128<=b.toNat
  ·rw[A6,ac8 h];rfl
  ·have:p7 128 b.toNat=false:=by rw[w8,ne_eq,w9];exact h
   rw[A8,this,ag3];exact e (i+1) n (by omega) (by omega)
def B99{R:Type}{k0:By->Int->LL->Option R}(s:By)(q:s.length<=1000000)(k:Nat)(p:k<=s.length):∀(r i n:Nat) (l:List Nat),i+r=k->r<n->l.length=i->
  Jp LF n s (k:Int) (i:Int) (B7 l) k0=k0 s (k:Int) (B7 (l++((s.take k).drop i).map (·.toNat))):=by
 intro r
 induction r with
 | zero=>
  intro i n l f h g;obtain⟨n,rfl⟩:∃m,n=m+1:=⟨n-1,by omega⟩
  rw[Jp];rw[A6,o8 (by rw[j6];omega)];simp
 | succ r j=>
  intro i n l f h g;obtain⟨n,rfl⟩:∃m,n=m+1:=⟨n-1,by omega⟩
  rw[Jp];have c:A1 ((i:Int)+1)=((i+1:Nat):Int):=by rw[A7];rfl
  have e:(s.take k).drop i=s.getD i 0::(s.take k).drop (i+1):=by
   rw[D6 (s.take k) i (by rw[j6];omega)]
   congr 1
   rw[w6,w6,aa5 (by omega)]
  rw[A8,F1,D3,e,D4,F8 (by omega),c];simp only[cond_true];generalize s.getD i 0=b;have o:=b.toNat_lt;have d:A1 (b.toNat:Int)=(b.toNat:Int):=A7;have a:B7 l++[[SV.int .i64 (A1 (b.toNat:Int))]]=B7 (l++[b.toNat]):=by rw[d,Ll];rfl
  rw[a,j (i+1) n _ (by omega) (by omega) (by simp;omega)];simp
def Qk:∀s:By,H5 s<=s.length-1
 | []=>by simp[H5]
 | b::r=>by
  have:=Qk r;unfold H5;grind
def Bc1(s:By)(M:A3 s.length=true):(∃e,O5 s=([],e)/\∀(R:Type) (k0:Int->Option R) (k1:Int->LL->By->Int->Int->Int->Bool->Option R) (a:LL->By->Int->Int->Int->Bool->Option R),Yd LF s k0 k1 a=k0 (e:Nat))\/
  (∃e l k j i f c,O5 s=([],e)/\∀(R:Type) (k0:Int->Option R) (k1:Int->LL->By->Int->Int->Int->Bool->Option R) (a:LL->By->Int->Int->Int->Bool->Option R),Yd LF s k0 k1 a=k1 (e:Nat) l k j i f c)\/
  ((O5 s).2=0/\∃k j i f c,∀(R:Type) (k0:Int->Option R) (k1:Int->LL->By->Int->Int->Int->Bool->Option R) (a:LL->By->Int->Int->Int->Bool->Option R),Yd LF s k0 k1 a=a (B7 (O5 s).1) k j i f c):=by
 have N:=C5;unfold O5;by_cases C:1024<s.length
 ·rw[if_pos C];refine .inl ⟨3,rfl,λR k0 k1 a=>?_⟩;unfold Yd;rw[A8];rfl
 ·rw[if_neg C];have r:=λ(R:Type) (G:Unit->Option R) (H:By->Option R)=>Bc0 (k0:=G) (k1:=H) s (by omega) s.length 0 LF (by omega) (by omega)
  rw[v7] at r;cases A:s.any (λb=>p7 128 b.toNat) with
  | true=>
   rw[if_pos rfl];refine .inl ⟨4,rfl,λR k0 k1 a=>?_⟩;unfold Yd;rw[A6,cond_false];refine j5 (r R _ _) ?_;rw[A,if_pos rfl];rfl
  | false=>
   rw[if_neg (by simp)];obtain⟨I,J⟩:=Qj s;have O:=Qk s;have key:∀(d:List Nat) (t:By),d.length<=256->t.length<=1024->(∀(R:Type) (k0:Int->Option R) (k1:Int->LL->By->Int->Int->Int->Bool->Option R) (a:LL->By->Int->Int->Int->Bool->Option R),Yd LF s k0 k1 a=U3 LF LF (B7 d) t 128 0 72 false k1 a)->
     (∃e l k j i f c,I1 t d 128 0 72 true=([],e)/\∀(R:Type) (k0:Int->Option R) (k1:Int->LL->By->Int->Int->Int->Bool->Option R) (a:LL->By->Int->Int->Int->Bool->Option R),Yd LF s k0 k1 a=k1 (e:Nat) l k j i f c)\/
     ((I1 t d 128 0 72 true).2=0/\∃k j i f c,∀(R:Type) (k0:Int->Option R) (k1:Int->LL->By->Int->Int->Int->Bool->Option R) (a:LL->By->Int->Int->Int->Bool->Option R),Yd LF s k0 k1 a=a (B7 (I1 t d 128 0 72 true).1) k j i f c):=by
    intro d t P V B;obtain⟨D,F⟩:=Ca0 t.length t d 128 0 72 LF false (y8 _) (by omega) (by omega) P (by omega) (by omega) (by omega);rw[o9] at D F;by_cases w:(I1 t d 128 0 72 true).2=0
    ·obtain⟨k,j,i,f,c,e⟩:=D w;exact .inr ⟨w,k,j,i,f,c,λR k0 k1 a=>by rw[B];exact e R k1 a⟩
    ·obtain⟨S,l,k,j,i,f,c,e⟩:=F w;exact .inl ⟨_,l,k,j,i,f,c,Prod.ext S rfl,λR k0 k1 a=>by rw[B];exact e R k1 a⟩
   have Q:u8n 45=45:=rfl;have top:∀(R:Type) (k0:Int->Option R) (k1:Int->LL->By->Int->Int->Int->Bool->Option R) (a:LL->By->Int->Int->Int->Bool->Option R),Yd LF s k0 k1 a =
     cond (ltI 0 (L2 45 s)) (Jp LF LF s (L2 45 s) 0 [] (λn x u=>cond (J0 (A1 (x+1)) (n.length:Int) n.length)
      (vl (cut n (A1 (x+1)) (n.length:Int)) λy=>cond (ltI 256 (u.length:Int)) (k1 3 u y 128 0 72 false) (U3 LF LF u y 128 0 72 false k1 a)) none))
      (U3 LF LF [] s 128 0 72 false k1 a):=by
    intro R k0 k1 a;unfold Yd;rw[A6,cond_false];refine j5 (r R _ _) ?_;rw[A,if_neg (by simp),M,Q];rfl
   by_cases T:0<H5 s
   ·have v:45∈s:=by
     apply ad1;intro h;have:=(J h).2;omega
    have z:=I v;generalize H5 s=m at *;have g:=λ(R:Type) (K:By->Int->LL->Option R)=>B99 (k0:=K) s (by omega) m (by omega) m 0 LF [] (by omega) (by omega) rfl
    rw[v7] at g;have L:A1 ((m:Int)+1)=((m+1:Nat):Int):=by rw[A7];rfl
    have p:((s.take m).map (·.toNat)).length=m:=by rw[p9,j6];omega
    have q:∀(R:Type) (k0:Int->Option R) (k1:Int->LL->By->Int->Int->Int->Bool->Option R) (a:LL->By->Int->Int->Int->Bool->Option R),Yd LF s k0 k1 a =
      cond (ltI 256 (m:Int)) (k1 3 (B7 ((s.take m).map (·.toNat))) (s.drop (m+1)) 128 0 72 false) (U3 LF LF (B7 ((s.take m).map (·.toNat))) (s.drop (m+1)) 128 0 72 false k1 a):=by
     intro R k0 k1 a;rw[top,z,A8,cond_true];refine j5 (g R _) ?_;rw[L,I3,Fy,ak7,aa2,D4,p];rfl
    by_cases o:256<m
    ·rw[if_pos o];refine .inr (.inl ⟨3,B7 ((s.take m).map (·.toNat)),s.drop (m+1),128,0,72,false,rfl,λR k0 k1 a=>?_⟩);rw[q,A8];rfl
    ·rw[if_neg o,if_neg (show ¬m=0 by omega)];exact .inr (key _ (s.drop (m+1)) (by rw[p];omega) (by rw[j0];omega) (λR k0 k1 a=>by rw[q,A6];rfl))
   ·have w:H5 s=0:=by omega
    have z:¬ 0<L2 45 s:=by
     by_cases U:45∈s;all_goals grind
    rw[w,G0,if_pos rfl];refine .inr (key [] s (by simp) (by omega) (λR k0 k1 a=>?_));rw[top,A6];rfl
def Xz(l:List Nat):(B7 l).isEmpty=l.isEmpty:=by cases l<;>rfl
def Di4(s:By)(k:A3 s.length=true):∃r H,Yd LF s (λf=>rv (.tup [.fl 0,.s (.int .i64 f)]) [.arr true 3 1 []]) (λf o w c d t j=>rv (.tup [.fl 2,.s (.int .i64 f)]) [.arr true 3 1 o,.box [.s (.str w),.fl 0,.s (.int .i64 c),.s (.int .i64 d),.s (.int .i64 t),.s (.bool j)],.arr true 3 1 []]) (λn v q c d i=>rv (.tup [.fl 0,.s (.int .i64 (0:Int))]) [.arr true 3 1 n,.box [.s (.str v),.fl 0,.s (.int .i64 q),.s (.int .i64 c),.s (.int .i64 d),.s (.bool i)]])=rv r H/\
  r.stab [1,0] H = .tup [.s (.sl (O5 s).1.isEmpty (O5 s).1.isEmpty 1 (Ni (O5 s).1)),.s (.int .i64 ((O5 s).2:Nat))]:=by
 rcases Bc1 s k with⟨e,a,b⟩|⟨e,l,u,p,m,h,g,a,b⟩|⟨a,u,p,m,h,g,b⟩
 ·refine⟨_,_,b _ _ _ _,?_⟩;rw[a];rfl
 ·refine⟨_,_,b _ _ _ _,?_⟩;rw[a];rfl
 ·refine⟨_,_,b _ _ _ _,?_⟩;rw[a,Ed];simp[PV.stab,Qb,Sq,PV.snap,N1,Xz]
end
section
open Go
def V7(x y:By)(r:List By)(p:By):aa6 (x::y::r) p=x++(p++aa6 (y::r) p):=by simp[aa6,List.intercalate]
def Qs(c:UInt8):∀l:List By,l≠[]->(∀x∈l,c∉x)->pcs c (aa6 l [c])=l
 | [],h,_=>absurd rfl h
 | [x],_,h=>by rw[af0,Lp (h x (by simp))]
 | x::y::r,_,h=>by
  rw[V7,ah4,GU (h x (by simp)),Qs c (y::r) (by simp) (λz a=>h z (by simp[a]))]
def Al8(c:UInt8):∀(n:Nat) (s:By),s.length<=n->aa6 (pcs c s) [c]=s
 | n,s,a=>by
  rcases P0 c s with h|⟨p,r,rfl,h⟩
  ·rw[Lp h,af0]
  ·rw[GU h];cases n with
   | zero=>simp at a
   | succ n=>
    have d:=Al8 c n r (by simp at a;omega);cases b:pcs c r with
    | nil=>exact absurd b (ZO c r)
    | cons y q=>
     rw[V7,<-b,d];rfl
def CN(c:UInt8)(s:By):aa6 (pcs c s) [c]=s:=Al8 c _ s (y8 _)
def Xw{c b:UInt8}:∀l:List By,b∈aa6 l [c]->b=c\/∃x∈l,b∈x
 | [],h=>by simp[an2] at h
 | [x],h=>by rw[af0] at h;exact .inr ⟨x,by simp,h⟩
 | x::y::r,h=>by
  rw[V7] at h;simp only[x5,x9] at h;rcases h with h|h|h
  ·grind
  ·grind
  ·rcases Xw (y::r) h with h|⟨z,a,h⟩
   all_goals grind
def Dh6{c b:UInt8}{s:By}(h:b∈s):b=c\/∃x∈pcs c s,b∈x:=by rw[<-CN c s] at h;exact Xw _ h
def Bx4(b:UInt8):Y3 b=46↔b=46:=by
 rcases K9 b with⟨h,e⟩|⟨h,e⟩|⟨h,c,e⟩
 ·rw[e]
 ·rw[e]
 ·constructor
  ·intro a;rw[a] at e;simp at e;omega
  ·intro a;subst a;simp at h
def B79(a b:By):B6 (a++b)=B6 a++B6 b:=ae6
def Ag(s:By):(B6 s).length=s.length:=p9 _
def Kq:∀(s a:By),M7 46 (B6 a) (B6 s)=(M7 46 a s).map B6
 | [],a=>rfl
 | b::r,a=>by
  show(if Y3 b=46 then _ else _)=_;simp only[M7];by_cases h:b=46
  ·rw[if_pos ((Bx4 b).2 h),if_pos h,aa8];have:=Kq r [];rw[<-this];rfl
  ·rw[if_neg (λe=>h ((Bx4 b).1 e)),if_neg h,<-Kq r (a++[b]),B79];rfl
def CW(s:By):pcs 46 (B6 s)=(pcs 46 s).map B6:=Kq s []
def Dc3(b:UInt8):dig (Y3 b)=dig b:=by
 rcases K9 b with⟨h,e⟩|⟨h,e⟩|⟨h,a,e⟩
 ·rw[e]
 ·rw[e]
 ·unfold dig;grind
def BQ(base:Nat):∀(s:By) (n:Nat),F0 base n (B6 s)=F0 base n s
 | [],n=>rfl
 | b::r,n=>by
  show(if dig (Y3 b)<base then _ else _)=_;simp only[F0,Dc3];split
  ·exact BQ base r _
  ·rfl
def Dg4(b:UInt8):Y3 b=48↔b=48:=by
 rcases K9 b with⟨h,e⟩|⟨h,e⟩|⟨h,c,e⟩
 ·rw[e]
 ·rw[e]
 ·constructor
  ·intro a;rw[a] at e;simp at e;omega
  ·intro a;subst a;simp at h
def Dy9(b:UInt8):(Y3 b=120\/Y3 b=88)↔(b=120\/b=88):=by
 rcases K9 b with⟨h,e⟩|⟨h,e⟩|⟨h,c,e⟩
 ·rw[e]
 ·rw[e]
 ·constructor
  ·rintro(a|a)
   ·rw[a] at e
    right
    apply ae7.1;grind
   simp_all
  ·rintro(a|a)
   ·simp_all
   ·subst a;left;apply ae7.1;rw[e];rfl
def Ea(s:By)(i:Nat):(B6 s).getD i 0=Y3 (s.getD i 0):=by unfold B6;simp only[w6,ag0];cases s[i]?<;>rfl
def B66(s:By):Z4 (B6 s)=Z4 s:=by rw[ad6,Gz,Gz,Ea,Ea,Dg4,Dy9]
def RT{s:By}:B6 s=[]↔s=[]:=by unfold B6;simp
def Xe(l:List By):(l.map B6).getLastD []=B6 (l.getLastD []):=by rw[af7,af7,List.getLast?_map];cases l.getLast?<;>rfl
def Bb8(s:By):C8 (B6 s)=(C8 s).map B6:=by unfold C8;rw[CW,Xe];simp only[p9,RT];grind
def B71(s:By):Dh (B6 s)=B6 (Dh s):=by unfold Dh;rw[Bb8,Xe]
def ME(s:By)(i:Nat):(B6 s).drop i=B6 (s.drop i):=by unfold B6;rw[List.map_drop]
def OT(s:By):(B6 s).isEmpty=s.isEmpty:=by cases s<;>rfl
def ZF(s:By):E9 (B6 s)=E9 s:=by unfold E9;rw[B71,B66,ME,BQ,BQ,OT]
def EU:∀(n:Nat) (s:By),s.length<=n->(∀b∈s,b.toNat<128)->W9 n s=some (s.map (·.toNat))
 | 0,s,h,_=>by
  have:s=[]:=j8.1 (by omega);subst this;rfl
 | n+1,[],_,_=>by simp[W9]
 | n+1,b::r,h,hs=>by
  simp only[W9];rw[if_neg (by simp),af9 b r (hs b (by simp))];have d:=hs b (by simp);rw[if_neg (by simp;omega)];simp only[ae8,v7];rw[EU n r (by simp at h;omega) (λc a=>hs c (by simp[a]))];rfl
def Bd4(s:By)(h:∀b∈s,b.toNat<128):Df s=some (s.map (·.toNat)):=EU _ s (y8 _) h
def Cb(b:UInt8):L5 b=true↔(97<=b.toNat/\b.toNat<=122)\/(48<=b.toNat/\b.toNat<=57)\/b=45\/b=95:=by simp[L5,or_assoc]
def Va{b:UInt8}(h:L5 b=true):b.toNat<128/\(b.toNat<65\/90<b.toNat)/\b≠46/\b≠37/\b≠91:=by
 rw[Cb] at h;have key:∀c:UInt8,b=c->b.toNat=c.toNat:=λc e=>by rw[e]
 rcases h with h|h|h|h
 ·refine⟨by omega,by omega,?_,?_,?_⟩<;>intro e<;>have:=key _ e<;>simp at this<;>omega
 ·refine⟨by omega,by omega,?_,?_,?_⟩<;>intro e<;>have:=key _ e<;>simp at this<;>omega
 all_goals simp_all
structure VL (s:By):Prop where
 ne:s≠[]
 le:s.length<=63
 byt:∀b∈s,L5 b=true
def Cj{s:By}(h:K6 s=true):VL s:=by unfold K6 at h;simp only[k9,aj4,ab1] at h;obtain⟨⟨⟨⟨⟨a,c⟩,g⟩,i⟩,d⟩,j⟩:=h;refine⟨by intro e;subst e;simp at a,ab4 c,λb f=>d b f⟩
def Dz0{s:By}(h:∀b∈s,b.toNat<65\/90<b.toNat):B6 s=s:=by
 unfold B6
 conv=>rhs;rw[<-al6 s]
 apply ac1;intro b d;rcases K9 b with⟨_,e⟩|⟨_,e⟩|⟨a,c,e⟩
 all_goals grind
def B76{s:By}(h:∀b∈B6 s,b.toNat<128):∀b∈s,b.toNat<128:=by
 intro b a;have:=h (Y3 b) (List.mem_map_of_mem a);rcases K9 b with⟨_,e⟩|⟨_,e⟩|⟨c,d,e⟩
 all_goals grind
def Cg7{s:By}(h:K6 (B6 s)=true):I7 s=(B6 s,0):=by have v:=Cj h;have c:=B76 (λb d=>(Va (v.byt b d)).1);have e:=Ag s;have a:=v.le;unfold I7;rw[Bd4 s c];grind
def JX:∀l:List By,(l.map B6).all K6=true->F6 l=(l.map B6,0)
 | [],_=>rfl
 | x::r,h=>by
  simp only[aa8,ab9,k9] at h;unfold F6;rw[Cg7 h.1,JX r h.2];rfl
structure VN (s:By):Prop where
 le:s.length<=253
 num:E9 s=false
 all:∀x∈pcs 46 s,K6 x=true
def Jc{s:By}:V0 s=true↔VN s:=by unfold V0;simp only[k9,aj4,ab1];exact⟨λh=>⟨ab4 h.1.1,h.1.2,h.2⟩,λh=>⟨⟨ac8 h.le,h.num⟩,h.all⟩⟩
def VN.byt{s:By}(h:VN s):∀b∈s,b=46\/L5 b=true:=by
 intro b hb;rcases Dh6 (c:=46) hb with h1|⟨x,hx,h1⟩
 ·grind
 ·exact .inr ((Cj (h.all x hx)).byt b h1)
def VN.byt'{s:By}(h:VN s){b:UInt8}(hb:b∈s):b.toNat<128/\(b.toNat<65\/90<b.toNat)/\b≠37/\b≠91:=by
 rcases h.byt b hb with h1|h1
 ·simp_all
 ·have:=Va h1;grind
def CM(c:UInt8):∀(l:List By),(∀x∈l,x≠[]/\c∉x)->(aa6 l [c]).getLast?≠some c
 | [],_=>by simp[an2]
 | [x],h=>by
  rw[af0];intro e;have:=List.mem_of_getLast? e;grind
 | x::y::r,h=>by
  have g:=CM c (y::r) (λz b=>h z (by simp[b]));have a:aa6 (y::r) [c]≠[]:=by
   intro e;have:pcs c (aa6 (y::r) [c])=y::r:=Qs c _ (by simp) (λz b=>(h z (by simp[b])).2);rw[e] at this;have f:pcs c []=[[]]:=rfl;grind
  rw[V7,ai1,ai1];cases d:(aa6 (y::r) [c]).getLast? with
  | none=>rw[List.getLast?_eq_none_iff] at d;exact absurd d a
  | some z=>
   grind
def VN.last{s:By}(h:VN s):s.getLast?≠some 46:=by have:=CM 46 (pcs 46 s) (λx hx=>⟨(Cj (h.all x hx)).ne,(Cv hx).1⟩);rwa [CN] at this
def VN.ne{s:By}(h:VN s):s≠[]:=by intro e;subst e;exact(Cj (h.all [] (by simp[pcs,M7]))).ne rfl
def VN.head{s:By}(h:VN s):s.head?≠some 91:=by intro e;exact(h.byt' (ak0 e)).2.2.2 rfl
def VN.low{s:By}(h:VN s):B6 s=s:=Dz0 λb hb=>(h.byt' hb).2.1
def ZP:∀s:By,(∀b∈s,b≠37)->R8 s=some s
 | [],_=>by unfold R8;rfl
 | b::r,h=>by
  unfold R8;rw[if_neg (h b (by simp)),ZP r (λc a=>h c (by simp[a]))];rfl
def OW{a e t name:By}(j:a.length<=1024)(f:a.head?≠some 91)(g:R8 a=some e)(h:G9 e=t)(i:B6 t=name)(c:VN name):C3 a=(⟨1,name,0,z8⟩,0):=by
 subst i;have b:E9 t=false:=by rw[<-ZF];exact c.num
 have d:((pcs 46 t).map B6).all K6=true:=by
  rw[<-CW,ab1];exact c.all
 unfold C3;rw[G0,if_neg f,g];simp only[h,b];rw[JX _ d];simp only[o7,if_false,if_true];rw[<-CW,CN,if_neg (by have:=c.le;omega),c.num];simp
def Bb7{s:By}(h:VN s):C3 s=(⟨1,s,0,z8⟩,0):=
 OW (by have:=h.le;omega) h.head (ZP s λb a=>(h.byt' a).2.2.1) (by unfold G9;rw[if_neg h.last]) h.low h
def Dv0{a b:By}:Cq a b=true↔VN a/\VN b/\(a=b\/∃p,b=p++46::a):=by
 unfold Cq;simp only[k9,ac4,Jc,and_assoc,beq_iff_eq,af4];constructor
 ·rintro⟨d,e,c|⟨p,c⟩⟩;all_goals grind
 grind
def Ao3{s:By}(h:∀x∈pcs 46 s,x≠[]):C8 s=pcs 46 s:=by unfold C8;grind
def D72(n:Nat):UInt8:=if n<10 then p4 (48+n) else p4 (55+n)
def D68(n:Nat)(h:n<16):dig (D72 n)=n:=by
 unfold D72 dig;split
 ·have:(p4 (48+n)).toNat=48+n:=by simp;omega
  grind
 ·have:(p4 (55+n)).toNat=55+n:=by simp;omega
  grind
def Ai9(n:Nat)(h:n<16):dig (Lh n)=n:=by
 unfold Lh dig;split
 ·have:(p4 (48+n)).toNat=48+n:=by simp;omega
  grind
 ·have:(p4 (87+n)).toNat=87+n:=by simp;omega
  grind
def BO:∀u:Nat,∀b∈v8 u,48<=b.toNat/\b.toNat<=57:=by
 intro u
 induction u using ac5 with
 | _ u c=>
  intro b a;by_cases h:u<10
  ·rw[ac9 h] at a;simp only[x9] at a;subst a;have:(p4 (48+u)).toNat=48+u:=by simp;omega
   omega
  ·rw[X5 u h] at a;rcases x5.1 a with a|a
   ·grind
   ·simp only[x9] at a;subst a;have:(p4 (48+u % 10)).toNat=48+u % 10:=by simp;omega
    omega
def Cp8{u:Nat}{c:UInt8}(h:c.toNat<48\/57<c.toNat):c∉v8 u:=λa=>by
 have:=BO u c a;omega
def Ai6:∀u:Nat,(v8 u).getD 0 0=48->u=0:=by
 intro u
 induction u using ac5 with
 | _ u d=>
  intro a;by_cases h:u<10
  ·rw[ac9 h] at a;simp only[List.getD_cons_zero] at a;have b:(p4 (48+u)).toNat=48+u:=by simp;omega
   simp_all
  ·rw[X5 u h] at a;have c:=aa0.2 (Cr (u / 10));grind
def QR(u:Nat):Z4 (v8 u)=false:=by
 cases h:Z4 (v8 u) with
 | false=>rfl
 | true=>
  have b:=(Gz _).1 h;have a:=Li h;rw[Ai6 u b.1,ac9 (by omega)] at a;simp at a
def Yb(u:Nat)(h:u<=X3):Ah (v8 u)=some u:=by unfold Ah;rw[if_neg (Cr u),QR];simp only[o7,if_false];rw[if_neg,BP u h];rintro⟨a,b⟩;rw[Ai6 u b,ac9 (by omega)] at a;simp at a
def v4P(v:Nat):List By:=[v8 (v / 16777216),v8 (v / 65536 % 256),v8 (v / 256 % 256),v8 (v % 256)]
def Wa(v:Nat):V4 v=aa6 (v4P v) [46]:=by unfold v4P;rw[V7,V7,V7,af0];rfl
def HL{v:Nat}{x:By}(h:x∈v4P v):∃u,x=v8 u:=by simp only[v4P,p5,ag7,or_false] at h;grind
def Cw4(v:Nat):pcs 46 (V4 v)=v4P v:=by rw[Wa];refine Qs 46 _ (by simp[v4P]) (λx a=>?_);obtain⟨u,rfl⟩:=HL a;exact Cp8 (by decide)
def Ao4(v:Nat):C8 (V4 v)=v4P v:=by rw[Ao3,Cw4];intro x a;rw[Cw4] at a;obtain⟨u,rfl⟩:=HL a;exact Cr u
def An4(v:Nat):E9 (V4 v)=true:=by
 have e:Dh (V4 v)=v8 (v % 256):=by
  unfold Dh;rw[Ao4];rfl
 unfold E9;rw[e,QR,BP _ (by unfold X3;omega)];have:=Cr (v % 256);grind
def Dz7(v:Nat)(h:v<4294967296):pnB (V4 v)=some v:=by unfold pnB;rw[Ao4];simp only[v4P,j4,x8,Vf];simp only[Yb _ (show v / 16777216<=X3 by unfold X3;omega),Yb _ (show v / 65536 % 256<=X3 by unfold X3;omega),Yb _ (show v / 256 % 256<=X3 by unfold X3;omega),Yb _ (show v % 256<=X3 by unfold X3;omega)];grind
def Ax1{v:Nat}{b:UInt8}(h:b∈V4 v):b=46\/(48<=b.toNat/\b.toNat<=57):=by
 rw[Wa] at h;rcases Xw _ h with h|⟨x,a,h⟩
 ·grind
 ·obtain⟨u,rfl⟩:=HL a;exact .inr (BO u b h)
def C51(v:Nat)(h:v<4294967296):(V4 v).length<=43:=by unfold V4;have a:=G1 (v / 16777216) (by omega);have b:=G1 (v / 65536 % 256) (by omega);have c:=G1 (v / 256 % 256) (by omega);have d:=G1 (v % 256) (by omega);grind
def Ao2(v:Nat)(h:v<4294967296):C3 (V4 v)=(⟨2,[],v,z8⟩,0):=by
 have a:∀b∈V4 v,b≠37/\b≠91:=by
  intro b a;rcases Ax1 a with rfl|⟨c,d⟩
  ·decide
  ·constructor<;>intro e<;>subst e<;>simp at c d
 have i:=C51 v h;unfold C3;rw[G0,if_neg (λe=>(a _ (ak0 e)).2 rfl),ZP _ (λb h=>(a b h).1)];have f:G9 (V4 v)=V4 v:=by
  unfold G9;rw[if_neg];rw[Wa];refine CM 46 _ (λx g=>?_);obtain⟨u,rfl⟩:=HL g;exact⟨Cr u,Cp8 (by decide)⟩
 simp only[f,An4,Dz7 v h,if_true]
def Ao6(free:Nat):∀(l:List By) (v x:Nat),Vf free v l=some x->x<(v+1)*256 ^ (l.length-1)*2 ^ free
 | [],v,x,h=>by simp[Vf] at h
 | [p],v,x,h=>by
  simp only[Vf] at h;split at h
  ·cases h
  ·split at h
   ·rename_i n c b;simp only[j1] at h;subst h;simp only[j4,x8,ak2,Nat.pow_zero,aa9,Nat.add_mul];omega
   ·cases h
 | p::q::r,v,x,h=>by
  rw[Vf] at h;split at h
  ·cases h
  ·simp only at h;split at h
   ·rename_i n c a;have d:=Ao6 free (q::r) _ x h;refine aj2 d (ai4 _ ?_);simp only[j4,Nat.add_sub_cancel];rw[ak1,Nat.mul_comm (256 ^ r.length) 256,<-Nat.mul_assoc];exact ai4 _ (by omega)
   ·cases h
def Di9{s:By}{v:Nat}(h:pnB s=some v):v<4294967296:=by
 unfold pnB at h;split at h
 ·cases h
 ·rename_i b;have a:=(Bn s).1;have:=Ao6 _ _ _ _ h;generalize (C8 s).length=n at *;have:n=1\/n=2\/n=3\/n=4:=by omega
  grind
def RE:∀(a b:By) (v:Nat),An v (a++b)=(An v a).bind λw=>An w b
 | [],b,v=>rfl
 | c::r,b,v=>by
  simp only[ab2,An];split
  ·exact RE r b _
  ·rfl
def B49:∀x:Nat,An 0 (P9 x)=some x:=by
 intro x
 induction x using ac5 with
 | _ x a=>
  by_cases h:x<16
  ·rw[Z3 h];simp only[An,Ai9 x h];grind
  ·rw[X6 h,RE,a (x / 16) (by omega)];simp only[ak8,An,Ai9 (x % 16) (by omega)];grind
def Dd6(x:Nat)(h:x<65536):grp (P9 x)=some x:=by have:=Xl x h;unfold grp;rw[if_neg,B49];grind
def GL:∀x:Nat,(58:UInt8)∉P9 x:=by
 intro x
 induction x using ac5 with
 | _ x a=>
  by_cases h:x<16
  ·rw[Z3 h];simpa using ag9 (GK x h)
  ·rw[X6 h];simp only[x5,x9,not_or];exact⟨a _ (by omega),ag9 (GK _ (by omega))⟩
def Bw3(x:Nat):P9 x≠[]:=by
 by_cases h:x<16
 ·rw[Z3 h];simp
 ·rw[X6 h];simp
def Ak5(last:Bool):∀l:List Nat,(∀x∈l,x<65536)->De last (l.map P9)=some l
 | [],_=>rfl
 | x::r,h=>by
  simp only[aa8,De];rw[Dd6 x (h x (by simp)),Ak5 last r (λy a=>h y (by simp[a]))];rfl
def SD(l:List Nat)(h:l≠[]):pcs 58 (K7 l)=l.map P9:=by unfold K7;refine Qs 58 _ (by simpa using h) (λx a=>?_);obtain⟨y,_,rfl⟩:=an5.1 a;exact GL y
def Ct0(l:List Nat)(h:l≠[]):K7 l≠[]:=by
 intro e;have:=SD l h;rw[e] at this;have a:pcs 58 []=[[]]:=rfl;rw[a] at this;cases l with
 | nil=>exact h rfl
 | cons x r=>
  simp only[aa8,List.cons.injEq] at this;exact Bw3 x this.1.symm
def Qe(l:List Nat)(last:Bool)(h:∀x∈l,x<65536):P6 (K7 l) last=some l:=by
 unfold P6;by_cases a:l=[]
 ·subst a;rfl
 ·rw[if_neg (Ct0 l a),SD l a,Ak5 last l h]
def sh(n:Nat)(i:Int):Int:=if i=-1 then -1 else i+n
def LS(b:UInt8)(l:By):ac6 (b::l) [58,58]=if b=58/\l.head? = some 58 then 0 else sh 1 (ac6 l [58,58]):=by
 have a:([58,58]:By).isPrefixOf (b::l)=decide (b=58/\l.head? = some 58):=by
  cases l with
  | nil=>simp[aa1]
  | cons c r=>
   grind
 show(if _ then _ else _)=_;rw[a];by_cases h:b=58/\l.head? = some 58
 ·grind
 ·rw[if_neg (by simpa using h),if_neg h];unfold sh;grind
def C19(n m:Nat)(i:Int)(h:-1<=i):sh n (sh m i)=sh (n+m) i:=by unfold sh;omega
def A84(s:By):-1<=ac6 s [58,58]:=by rcases Lib.index_spec s [58,58] with h|⟨i,h,_⟩<;>omega
def YM:∀(p r:By),(58:UInt8)∉p->ac6 (p++r) [58,58]=sh p.length (ac6 r [58,58])
 | [],r,_=>by unfold sh;simp<;>(intro h;rw[h])
 | b::p,r,h=>by
  simp only[p5,not_or] at h;rw[ab2,LS,if_neg (λe=>h.1 e.1.symm),YM p r h.2,C19 _ _ _ (A84 r),Nat.add_comm];rfl
def EL(x y:Nat)(t:List Nat):K7 (x::y::t)=P9 x++58::K7 (y::t):=by unfold K7;rw[aa8,aa8,V7];rfl
def A86(y:Nat)(t:List Nat)(r:By):(K7 (y::t)++r).head?≠some 58:=by
 have e:=Bw3 y;have c:=GL y;cases d:P9 y with
 | nil=>exact absurd d e
 | cons a b=>
  rw[d] at c;simp only[p5,not_or] at c;cases t with
  | nil=>rw[Lj,d];simpa using ag9 c.1
  | cons z t=>rw[EL,d];simpa using ag9 c.1
def CF:∀(l:List Nat) (r:By),l≠[]->ac6 (K7 l++r) [58,58]=sh (K7 l).length (ac6 r [58,58])
 | [],r,h=>absurd rfl h
 | [x],r,_=>by rw[Lj];exact YM _ _ (GL x)
 | x::y::t,r,_=>by
  rw[EL,y9,ab2,YM _ _ (GL x),LS,if_neg (λe=>A86 y t r e.2),CF (y::t) r (by simp),C19 _ _ _ (A84 r),C19 _ _ _ (A84 r)];grind
def Df5:ac6 [] [58,58]=-1:=rfl
def B33(l:List Nat):x7 (K7 l) [58,58]=(K7 l,[],false):=by
 have h:ac6 (K7 l) [58,58]=-1:=by
  by_cases a:l=[]
  ·subst a;rfl
  ·have:=CF l [] a;rw[ab5,Df5] at this;rw[this];rfl
 unfold x7;rw[h];rfl
def Db6(l:List Nat)(r:By):x7 (K7 l++58::58::r) [58,58]=(K7 l,r,true):=by
 have a:ac6 (58::58::r) [58,58]=0:=by rw[LS,if_pos ⟨rfl,rfl⟩]
 have h:ac6 (K7 l++58::58::r) [58,58]=((K7 l).length:Int):=by
  by_cases b:l=[]
  ·subst b;rw[Ha,aa2,a];rfl
  ·rw[CF l _ b,a];unfold sh;simp
 unfold x7;simp_all
def SX:∀l:List Nat,l.take (Nv l)=ai2 (Nv l) 0
 | []=>rfl
 | x::r=>by
  rw[NK];split
  ·rename_i h;subst h;rw[List.take_succ_cons,SX r];rfl
  ·rfl
def Br4(full:List Nat):∀(l:List Nat) (i z m:Nat),full.drop i=l->i<=full.length->(full.drop z).take m=ai2 m 0->z+m<=full.length->
  (full.drop (zGo l i z m).1).take (zGo l i z m).2=ai2 (zGo l i z m).2 0/\(zGo l i z m).1+(zGo l i z m).2<=full.length
 | [],i,z,m,_,_,b,c=>⟨b,c⟩
 | x::r,i,z,m,d,f,b,c=>by
  have e:full.length-i=r.length+1:=by
   have:=congrArg b9 d;grind
  have a:full.drop (i+1)=r:=by
   rw[<-ah9,d];rfl
  unfold zGo;split
  ·refine Br4 full r (i+1) i _ a (by omega) ?_ ?_
   ·rw[d,SX]
   ·have:=HE (x::r);grind
  ·exact Br4 full r (i+1) z m a (by omega) b c
def Dp5(a:List Nat)(c:a.length=8)(h:∀x∈a,x<65536):v6B (Ao a)=some a:=by
 obtain⟨f,g⟩:=Br4 a a 0 0 0 rfl (by omega) (by simp) (by omega);unfold Ao;generalize (zGo a 0 0 0).1=z at *;generalize (zGo a 0 0 0).2=m at *;by_cases d:m<2
 ·rw[if_pos d];unfold v6B;rw[B33];simp only[o9];rw[Qe a true h];show(if _ then _ else _)=_;simp[c]
 ·rw[if_neg d];unfold v6B;rw[Db6];simp only[o6];rw[Qe _ false (λx b=>h x (ab6 b)),Qe _ true (λx b=>h x (y7 b))];simp only[if_true,j6,j0,c];rw[R2]
  congr 1
  have e:8-min z 8-(8-(z+m))=m:=by omega
  rw[e,<-f,y9]
  conv=>rhs;rw[<-ah5 z a]
  congr 1
  conv=>rhs;rw[<-ah5 m (a.drop z)]
  simp_all
def Bq3(a:List Nat)(e:a.length=8)(h:∀x∈a,x<65536):(Ao a).length<=90:=by
 unfold Ao;split
 ·have:=Bz a h;omega
 ·have c:=Bz (a.take (zGo a 0 0 0).1) (λx b=>h x (ab6 b));have d:=Bz (a.drop ((zGo a 0 0 0).1+(zGo a 0 0 0).2)) (λx b=>h x (y7 b));grind
def Cw2(a:List Nat)(d:a.length=8)(h:∀x∈a,x<65536):C3 (91::(Ao a++[93]))=(⟨3,[],0,a⟩,0):=by
 have e:=Bq3 a d h;have b:(91::(Ao a++[93])).getLast? = some (93:UInt8):=by grind
 have c:((91::(Ao a++[93])).take ((91::(Ao a++[93])).length-1)).drop 1=Ao a:=by
  simp
 unfold C3;rw[if_neg (by simp;omega),if_pos (show(91::(Ao a++[93])).head? = some (91:UInt8) from rfl),if_pos ⟨b,by simp⟩,c,Dp5 a d h]
def Ak4{s:By}{last:Bool}{r:List Nat}(h:P6 s last=some r):∀x∈r,x<65536:=by
 unfold P6 at h;split at h
 ·grind
 ·exact Bw0 _ _ _ h
def D15{s:By}{a:List Nat}(h:v6B s=some a):a.length=8/\∀x∈a,x<65536:=by
 unfold v6B at h;split at h
 ·rename_i x y b c;have d:=Ak4 b;have e:=Ak4 c;grind
 ·cases h
def C34{s:By}(h:(I7 s).2=0):K6 (I7 s).1=true:=by unfold I7 at h ⊢;grind
def Kx:∀l:List By,(F6 l).2=0->(∀x∈(F6 l).1,K6 x=true)/\(F6 l).1.length=l.length
 | [],_=>⟨by simp[F6],rfl⟩
 | x::r,h=>by
  unfold F6 at h ⊢;by_cases a:(I7 x).2=0
  ·rw[if_pos a] at h ⊢;obtain⟨d,c⟩:=Kx r h;refine⟨λy b=>?_,by simp[c]⟩;rcases p5.1 b with rfl|b
   ·exact C34 a
   grind
  grind
structure Dj (h:B5):Prop where
 v4:h.v4<4294967296
 v6:h.v6.length=8/\∀x∈h.v6,x<65536
 kd:h.kind<4
def B25:z8.length=8/\∀x∈z8,x<65536:=by decide
def B93(s:By):Dj (C3 s).1/\((C3 s).2=0->K4 (C3 s).1=true):=by
 have no:Dj L8:=⟨by decide,B25,by decide⟩
 unfold C3;split
 ·grind
 split
 ·split
  ·cases d:v6B ((s.take (s.length-1)).drop 1) with
   | none=>exact⟨no,by simp⟩
   | some a=>exact⟨⟨show 0<4294967296 by decide,D15 d,show 3<4 by decide⟩,λ_=>by simp[K4]⟩
  grind
 cases l:R8 s with
 | none=>exact⟨no,by simp⟩
 | some t=>
  simp only;split
  ·cases d:pnB (G9 t) with
   | none=>exact⟨no,by simp⟩
   | some v=>exact⟨⟨Di9 d,B25,show 2<4 by decide⟩,λ_=>by simp[K4]⟩
  split
  ·rename_i g;split
   ·grind
   split
   ·grind
   ·rename_i k h;refine⟨⟨show 0<4294967296 by decide,B25,show 1<4 by decide⟩,λ_=>?_⟩;obtain⟨f,i⟩:=Kx _ g;have b:(F6 (pcs 46 (G9 t))).1≠[]:=by
     intro e;rw[e] at i;have:=ZO 46 (G9 t);grind
    have c:=Qs 46 (F6 (pcs 46 (G9 t))).1 b (λx j e=>(Va ((Cj (f x j)).byt 46 e)).2.2.1 rfl);unfold K4;simp only[if_true,beq_self_eq_true,ad3];rw[Jc];exact⟨by omega,by simpa using h,by rw[c];exact f⟩
  grind
def LP{h:B5}(ok:Dj h)(a:K4 h=true):C3 (S8 h)=(h,0):=by
 obtain⟨b,g,v4,v6⟩:=h;unfold S8;rw[if_pos a];unfold K4 at a;simp only at a ⊢;by_cases c:b=1
 ·subst c;simp only[if_true,k9,beq_iff_eq] at a ⊢;obtain⟨⟨f,rfl⟩,rfl⟩:=a;exact Bb7 (Jc.1 f)
 rw[if_neg c] at a ⊢;by_cases d:b=2
 ·subst d;simp only[if_true,k9,beq_iff_eq,ak6] at a ⊢;obtain⟨rfl,rfl⟩:=a;exact Ao2 v4 ok.v4
 rw[if_neg d] at a ⊢;by_cases e:b=3
 ·subst e;simp only[if_true,k9,beq_iff_eq,ak6] at a;obtain⟨rfl,rfl⟩:=a;exact Cw2 v6 ok.v6.1 ok.v6.2
 grind
def LI{h:B5}(a:K4 h=false):S8 h=[]:=by unfold S8;rw[a];rfl
def EV:∀(f:Nat) (l:By),an4 f l=(W9 f l).isSome
 | 0,_=>rfl
 | f+1,l=>by
  unfold an4 W9;split
  ·rfl
  ·split
   ·rfl
   ·rw[EV f,ag1]
def Bq4(l:By):Lib.validD l=(Df l).isSome:=EV _ l
def MZ:∀(n m:Nat) (l:By),l.length<=n->l.length<=m->W9 n l=W9 m l
 | 0,m,l,b,_=>by
  have:l=[]:=j8.1 (by omega);subst this;cases m<;>simp[W9]
 | n+1,0,l,_,hm=>by
  have:l=[]:=j8.1 (by omega);subst this;simp[W9]
 | n+1,m+1,l,b,hm=>by
  unfold W9;split
  ·rfl
  ·rename_i a;have d:=ae1 l;have c:0<l.length:=aa0.2 a;rw[MZ n m (l.drop (p6 l).2) (by rw[j0];omega) (by rw[j0];omega)]
def Ca8(l:By)(a:l≠[]):Df l=if (p6 l).1=65533/\(p6 l).2=1 then none else (Df (l.drop (p6 l).2)).map ((p6 l).1::·):=by
 have c:0<l.length:=aa0.2 a;have d:=ae1 l;obtain⟨n,b⟩:∃n,l.length=n+1:=⟨l.length-1,by omega⟩
 unfold Df;rw[b]
 conv=>lhs;unfold W9
 rw[if_neg a,MZ n (l.drop (p6 l).2).length _ (by rw[j0];omega) (y8 _)]
def SY:∀(f:Nat) (s:ByteArray) (pos:Nat) (p:List Nat),pos<=s.size->W9 f (s.data.toList.drop pos)=some p->s.size-pos<=f->aj8 s f pos=p.length
 | 0,s,pos,p,e,h,d=>by
  simp only[W9,j1] at h;subst h;rfl
 | f+1,s,pos,p,e,h,d=>by
  have g:s.data.toList.length=s.size:=by rw[aa7];rfl
  unfold W9 at h;rw[ag5] at h;by_cases a:pos<s.size
  ·rw[if_neg (by rw[<-j8,j0];omega)] at h;split at h
   ·cases h
   ·cases b:W9 f (ai5 (ab0 s pos).2 (ai5 pos s.data.toList)) with
    | none=>rw[b] at h;cases h
    | some q=>
     rw[b] at h;simp only[x6,j1] at h;subst h;have i:=Lib.decode_width_pos s pos a;have c:pos+(ab0 s pos).2<=s.size:=by
      have:=ah8 (s.data.toList.drop pos) (by rw[ne_eq,<-j8,j0];omega);rw[ag5,j0] at this;omega
     rw[ah9] at b;unfold aj8;rw[if_pos a,SY f s _ q c b (by omega)];grind
  ·rw[if_pos (by rw[<-j8,j0];omega)] at h;simp only[j1] at h;subst h;rw[Lib.runeCountFrom_end s _ _ a];rfl
def NL{l:By}{p:List Nat}(h:Df l=some p):am0 l=p.length:=by
 unfold am0 Lib.runeCount;have a:(ByteArray.mk l.toArray).size=l.length:=by simp[ByteArray.size]
 refine SY _ _ 0 p (ab8 _) ?_ (by omega);rw[a,v7];simpa[Df] using h
open Lib in theorem D98(n b a d e:Nat)(g:194<=b/\b<224)(f:a<256):decodeN n b a d e=if 2<=n/\128<=a/\a<=191 then ((b-192)*64+a-128,2) else (65533,1):=by
 unfold decodeN;rw[G0];by_cases c:2<=n/\128<=a/\a<=191
 ·rw[if_pos c,R2,R2];exact Prod.ext (by show b % 32*64+a % 64=(b-192)*64+a-128;omega) rfl
 ·rw[if_neg c,G0,G0,G0]
open Lib in theorem D99(n c a b f:Nat)(i:224<=c/\c<240)(g:a<256)(h:b<256):decodeN n c a b f=if 3<=n/\(128<=a/\a<=191)/\(128<=b/\b<=191) then
  (if 2048<=((c-224)*64+a-128)*64+b-128/\W8 (((c-224)*64+a-128)*64+b-128)=true then (((c-224)*64+a-128)*64+b-128,3) else (65533,1)) else (65533,1):=by
 unfold decodeN;rw[G0,G0];by_cases d:3<=n/\(128<=a/\a<=191)/\(128<=b/\b<=191)
 ·rw[if_pos d,R2];have e:c % 16*4096+a % 64*64+b % 64=((c-224)*64+a-128)*64+b-128:=by omega
  rw[e];generalize ((c-224)*64+a-128)*64+b-128=v
  congr 1
  simp only[W8,k9,ac4,w9,Nat.blt_eq];apply propext;omega
 ·rw[if_neg d,G0,G0]
open Lib in theorem Ea0(n d a b c:Nat)(j:240<=d/\d<245)(g:a<256)(h:b<256)(i:c<256):decodeN n d a b c=if 4<=n/\(128<=a/\a<=191)/\(128<=b/\b<=191)/\(128<=c/\c<=191) then
  (if 65536<=(((d-240)*64+a-128)*64+b-128)*64+c-128/\W8 ((((d-240)*64+a-128)*64+b-128)*64+c-128)=true then ((((d-240)*64+a-128)*64+b-128)*64+c-128,4) else (65533,1)) else (65533,1):=by
 unfold decodeN;rw[G0,G0,G0];by_cases f:4<=n/\(128<=a/\a<=191)/\(128<=b/\b<=191)/\(128<=c/\c<=191)
 ·rw[if_pos f,R2];have e:d % 8*262144+a % 64*4096+b % 64*64+c % 64=(((d-240)*64+a-128)*64+b-128)*64+c-128:=by omega
  rw[e];generalize (((d-240)*64+a-128)*64+b-128)*64+c-128=v
  congr 1
  simp only[W8,k9,ac4,w9,Nat.blt_eq];apply propext;omega
 ·rw[if_neg f,G0]
end
section
open Go Go.Proofs
def Wz(l:List Nat):Y2 (l.map λn:Nat=>(n:Int))=Du l:=by
 have b:(l.map λn:Nat=>(n:Int)).all ptI=l.all W8:=by
  rw[ag8]
  congr 1
 have c:(l.map λn:Nat=>(n:Int)).map y5=l:=by
  rw[af1];exact(ac1 λa _=>by simp).trans (al6 l)
 unfold Y2;rw[p9,b,c];by_cases h:256<l.length
 ·rw[if_pos h];unfold Du;rw[if_pos h]
 ·rw[if_neg h];cases d:l.all W8 with
  | true=>rw[if_pos rfl]
  | false=>
   rw[if_neg (by simp)];unfold Du;grind
def Wx(l:List Nat):(B7 l).map elI=l.map λn:Nat=>(n:Int):=by unfold B7;rw[af1];exact ac1 λa _=>rfl
def Eo(l:List Nat):(B7 l).all Ou=true:=by unfold B7;rw[ag8,ab1];intro x _;rfl
def Ba0{R:Type}{a:Unit->Option R}{d:By->Bool->LL->Bool->Option R}(s:By)(z:Bool)(p:List Nat)(t:p.length<=1000000000):∀(r i n:Nat) (b:Bool),i+r=p.length->r<n->
  Z5 LF n s z (B7 p) b (p.length:Int) (i:Int) a d=if (p.drop i).any (λp=>p7 65 p&&p7 p 90) then a () else d s z (B7 p) (b&&!((p.drop i).any λp=>p7 128 p)):=by
 intro r
 induction r with
 | zero=>
  intro i n b h j;obtain⟨n,rfl⟩:∃m,n=m+1:=⟨n-1,by omega⟩
  rw[Z5];rw[A6,o8 (by omega)];simp
 | succ r k=>
  intro i n b h j;obtain⟨n,rfl⟩:∃m,n=m+1:=⟨n-1,by omega⟩
  rw[Z5];have f:A1 ((i:Int)+1)=((i+1:Nat):Int):=by rw[A7];rfl
  have g:p.drop i=p.getD i 0::p.drop (i+1):=by
   rw[w6,ac0 (by omega),Option.getD_some,List.getElem_cons_drop]
  rw[A8,D4,F1,j2,Sa (by omega),CA _ _ (by omega),g,aj0,aj0,f];simp only[cond_true,vl];generalize p.getD i 0=q;have go:∀c:Bool,Z5 LF n s z (B7 p) c (p.length:Int) ((i+1:Nat):Int) a d=_:=λc=>k (i+1) n c (by omega) (by omega)
  by_cases l:q<65
  ·rw[A8,show p7 65 q=false by rw[w8,ne_eq,w9];omega];have e:p7 128 q=false:=by rw[w8,ne_eq,w9];omega
   rw[show ltI (q:Int) (128:Int)=true from A8,e];simp only[o6,cond_false,al7,ag3];cases b<;>simp only[cond_true,cond_false]<;>rw[go]
  ·rw[A6,show p7 65 q=true by rw[w9];omega];simp only[o9,cond_true,ad4];by_cases e:90<q
   ·rw[A8,show p7 q 90=false by rw[w8,ne_eq,w9];omega];simp only[o6,cond_false,ag3];by_cases o:q<128
    ·rw[show ltI (q:Int) (128:Int)=true from A8,show p7 128 q=false by rw[w8,ne_eq,w9];omega];cases b<;>simp only[cond_true,cond_false,ag3]<;>rw[go]
    ·rw[show ltI (q:Int) (128:Int)=false from A6,show p7 128 q=true by rw[w9];omega];cases b<;>simp only[cond_true,cond_false,Bool.true_or,o6,Bool.and_false]<;>rw[go]<;>simp
   ·rw[A6,show p7 q 90=true by rw[w9];omega];simp
def A54:∀(m:Nat) (s:By) (a:List Nat) (n i b:Nat) (f:Bool),s.length<=m->a.length<=256->(I1 s a n i b f).1.length<=256:=by
 intro m
 induction m with
 | zero=>
  intro s a n i b f e d;obtain rfl:=j8.1 (Nat.le_zero.1 e);rw[Dr];exact d
 | succ m j=>
  intro s a n i b f e d;by_cases h:s=[]
  ·grind
  ·by_cases c:(E0 b s i 1 0).2.2=0
   ·rw[Ew h _ _ _ _ _ c];have g:=Rs b s i 1 0 c;split
    ·split
     ·grind
     ·rename_i k;exact j _ _ _ _ _ _ (by omega) (by rw[Bx];omega)
    grind
   ·rw[Hv h _ _ _ _ _ c];grind
def Ai5(s:By):(O5 s).1.length<=256:=by
 unfold O5;split
 ·grind
 ·split
  ·grind
  ·split
   ·grind
   ·rename_i h;exact A54 _ _ _ _ _ _ _ (y8 _) (by rw[p9,j6];omega)
def Ba1{R:Type}{a:Bool->Option R}(s:By)(b:A3 s.length=true):Bx5 LF s a=a (Er s):=by
 have c:=C5;unfold Bx5 Er;rw[b,cond_true];by_cases h:(O5 s).2=0
 ·have e:(((O5 s).2:Int)!=(0:Int))=false:=by rw[h];rfl
  rw[e,cond_false,Ed,D4,h];have i:=Ai5 s;refine j5 (Ba0 s _ (O5 s).1 (by omega) (O5 s).1.length 0 LF true (by omega) (by omega)) ?_;rw[v7];cases d:(O5 s).1.any (λp=>p7 65 p&&p7 p 90) with
  | true=>simp
  | false=>
   rw[if_neg (by simp),Eo,Wx,Wz];simp only[cond_true,vl,ad4,o9];cases f:(O5 s).1.any (λp=>p7 128 p) with
   | false=>simp
   | true=>
    simp only[o6,o9,cond_true,ad3,beq_self_eq_true,ad4];by_cases g:(Du (O5 s).1).2=0;all_goals grind
 grind
def B82{R:Type}{d:Unit->Option R}{e:By->Option R}(s:By)(w:s.length<=1000000000):∀(r i n:Nat),i+r=s.length->r<n->
  T6 LF n s (s.length:Int) (i:Int) d e=if (s.drop i).all L5 then e s else d ():=by
 intro r
 induction r with
 | zero=>
  intro i n l c;obtain⟨n,rfl⟩:∃m,n=m+1:=⟨n-1,by omega⟩
  rw[T6];rw[A6,o8 (by omega)];rfl
 | succ r o=>
  intro i n l c;obtain⟨n,rfl⟩:∃m,n=m+1:=⟨n-1,by omega⟩
  rw[T6];have k:A1 ((i:Int)+1)=((i+1:Nat):Int):=by rw[A7];rfl
  rw[A8,F1,D3,D6 s i (by omega),k,ab9];simp only[cond_true];rw[o (i+1) n (by omega) (by omega)];generalize s.getD i 0=b;have j:=Cb b;have u:((b.toNat:Int)!=45) = !(b==45):=congrArg _ (S6 b 45 (by omega));have v:((b.toNat:Int)!=95) = !(b==95):=congrArg _ (S6 b 95 (by omega));rw[u,v];have t:∀{x:Bool},L5 b=x->(if (L5 b&&(s.drop (i+1)).all L5)=true then e s else d ())=if (x&&(s.drop (i+1)).all L5)=true then e s else d ():=λh=>by rw[h]
  cases a:L5 b with
  | true=>
   rw[j] at a;simp only[ad4];by_cases f:b=45
   ·subst f;simp (disch:=decide) [ltI]
   ·by_cases g:b=95
    ·subst g;simp (disch:=decide) [ltI]
    ·rcases a with a|a|a|a
     ·rw[show ltI (b.toNat:Int) 97=false from A6,show ltI (122:Int) b.toNat=false from A6];rfl
     ·rw[show ltI (b.toNat:Int) 97=true from A8,show ltI (b.toNat:Int) 48=false from A6,show ltI (57:Int) b.toNat=false from A6];rfl
     ·exact absurd a f
     ·exact absurd a g
  | false=>
   have c:¬((97<=b.toNat/\b.toNat<=122)\/(48<=b.toNat/\b.toNat<=57)\/b=45\/b=95):=λh=>by rw[j.2 h] at a;cases a
   have p:(b==45)=false:=by simpa using λh=>c (.inr (.inr (.inl h)))
   have q:(b==95)=false:=by simpa using λh=>c (.inr (.inr (.inr h)))
   rw[p,q];simp only[o9,cond_true,al7,o7,if_false];by_cases f:b.toNat<48
   ·rw[show ltI (b.toNat:Int) 97=true from A8,show ltI (b.toNat:Int) 48=true from A8];rfl
   ·by_cases g:b.toNat<97
    ·rw[show ltI (b.toNat:Int) 97=true from A8,show ltI (b.toNat:Int) 48=false from A6,show ltI (57:Int) b.toNat=true from A8];rfl
    ·rw[show ltI (b.toNat:Int) 97=false from A6,show ltI (122:Int) b.toNat=true from A8,show ltI (b.toNat:Int) 48=false from A6,show ltI (57:Int) b.toNat=true from A8];rfl
def B83{R:Type}{a:Bool->Option R}(s:By)(b:A3 s.length=true):Dh1 LF s a=a (K6 s):=by
 have k:=L7 b;have h:=C5;unfold Dh1 K6;by_cases c:s=[]
 ·simp_all
 ·have o:0<s.length:=aa0.2 c;have j:s.isEmpty=false:=by simpa using c
  rw[A6,cond_false,j];by_cases m:63<s.length
  ·rw[A8,show p7 s.length 63=false by rw[w8,ne_eq,w9];omega];rfl
  ·rw[A6,cond_false,show p7 s.length 63=true by rw[w9];omega,F1];have l:(bAt s 0==(45:Int))=(s.getD 0 0==45):=by rw[Ba];exact S6 _ 45 (by omega)
   have d:A1 ((s.length:Int)-1)=((s.length-1:Nat):Int):=by rw[A7];omega
   rw[l,d];simp only[cond_true,vl];rw[F1,D3,show((((s.getD (s.length-1) 0).toNat:Nat):Int)==45)=(s.getD (s.length-1) 0==45) from S6 _ 45 (by omega)];cases e:(s.getD 0 0==45) with
   | true=>
    grind
   | false=>
    rw[show(s.getD 0 0 !=45)=true by unfold bne;rw[e];rfl];simp only[cond_true,cond_false];cases f:(s.getD (s.length-1) 0==45) with
    | true=>
     grind
    | false=>
     rw[show(s.getD (s.length-1) 0 !=45)=true by unfold bne;rw[f];rfl];simp only[cond_false];refine j5 (B82 s k s.length 0 LF (by omega) (by omega)) ?_;rw[v7];cases n:s.all L5 with
     | false=>simp
     | true=>
      rw[if_pos rfl,b,cond_true];simp only[o9,ad4,ad3];show cond (!(xnB.isPrefixOf s)) _ _=_;cases g:xnB.isPrefixOf s with
      | false=>rfl
      | true=>
       have i:Hu s xnB=s.drop 4:=by unfold Hu;rw[g];rfl
       show cond (A3 (Hu s xnB).length) (a (Er (Hu s xnB))) none=_;rw[i,D9 (by rw[j0];omega)];rfl
def A63(a:List Nat)(b:Nat)(F:a.length<=256)(A:b<=256)(d:∀p∈a,p<=1114111):∀(f n:Nat) (s:TO),s.done=a.countP (λp=>decide (p<n))->s.delta<=300->s.bias<=500->s.out.length+20*(a.length-s.done)<=80000->n<=1114112->
  (T0 a b f n s).out.length<=80000:=by
 intro f;have z:=C5
 induction f with
 | zero=>intro n s C w q x y;unfold T0;omega
 | succ f G=>
  intro n s C w q x y;have B:a.countP (λp=>decide (p<n))<=a.length:=aa3;by_cases h:s.done<a.length
  ·obtain⟨u,i,j⟩:=A50 (n:=n) (l:=a) (by omega);obtain⟨L,M,o⟩:=Fb n a 1114112;have N:=o u i j;have O:=d u i;have c:I2 n a 1114112∈a/\n<=I2 n a 1114112:=by grind
   have D:T0 a b (f+1) n s=T0 a b f (I2 n a 1114112+1) { I5 (I2 n a 1114112) b a { s with delta:=s.delta+(I2 n a 1114112-n)*(s.done+1) } with delta:=(I5 (I2 n a 1114112) b a { s with delta:=s.delta+(I2 n a 1114112-n)*(s.done+1) }).delta+1 }:=by
    rw[T0,if_pos h]
   rw[D];generalize I2 n a 1114112=m at *;have t:(m-n)*(s.done+1)<=1114112*256:=ai3 (by omega) (by omega);have g:=By7 false false a b m (by omega) F a.length 0 LF { s with delta:=s.delta+(m-n)*(s.done+1) } (by omega) (by omega) (by simp only;omega) q (by simp only;omega) (by simp only;omega) A;rw[v7] at g;obtain⟨_,H,I,J,K⟩:=g;have e:0<a.countP (· == m):=ai7.2 ⟨m,c.1,by simp⟩;rw[if_pos e] at K;have k:=Wp c.2 a o;generalize I5 m b a { s with delta:=s.delta+(m-n)*(s.done+1) } = v at *;simp only at I J;have r:a.countP (λp=>decide (p<m+1))<=a.length:=aa3;exact G (m+1) { v with delta:=v.delta+1 } (by simp only;omega) (by simp only;omega) H (by simp only;omega) (by omega)
  ·rw[T0,if_neg h];omega
def Aj5(p:List Nat):(Du p).1.length<=80000:=by
 unfold Du;split
 ·grind
 ·rename_i h;split
  ·grind
  ·rename_i a;have d:∀q∈p,q<=1114111:=λq e=>by
    have a:p.all W8=true:=by simpa using a
    have:=ab1.1 a q e;simp only[W8,k9,w9] at this;omega
   have b:=Uh p;have c:p.countP (λq=>decide (q<128))<=p.length:=aa3;refine A63 p _ (by omega) (by omega) d 256 128 _ b (by simp) (by simp) ?_ (by omega);grind
def YY{b:UInt8}(h:128<=b.toNat):Y3 b=b:=by
 rcases K9 b with⟨_,e⟩|⟨_,e⟩|⟨_,a,_⟩
 all_goals omega
def YZ{b:UInt8}(h:b.toNat<128):(Y3 b).toNat<128:=by
 rcases K9 b with⟨_,e⟩|⟨_,e⟩|⟨_,a,e⟩
 all_goals grind
def B36(n:Nat)(a c d e:UInt8)(h:128<=a.toNat):al4 n a.toNat (Y3 c).toNat (Y3 d).toNat (Y3 e).toNat=al4 n a.toNat c.toNat d.toNat e.toNat:=by
 have i:∀b:UInt8,b.toNat / 64=2->Y3 b=b:=λb f=>YY (by omega)
 have j:∀b:UInt8,¬b.toNat / 64=2->¬(Y3 b).toNat / 64=2:=λb f h=>by
  by_cases g:128<=b.toNat
  ·rw[YY g] at h;exact f h
  ·have:=YZ (b:=b) (by omega);omega
 unfold al4;grind
def Dc0(l:By)(c:l≠[]):(p6 (B6 l)).2=(p6 l).2/\(¬((p6 l).1=65533/\(p6 l).2=1)->¬((p6 (B6 l)).1=65533/\(p6 (B6 l)).2=1)):=by
 cases l with
 | nil=>exact absurd rfl c
 | cons b t=>
  by_cases a:b.toNat<128
  ·have d:=af9 b t a;have f:p6 (B6 (b::t))=((Y3 b).toNat,1):=af9 (Y3 b) (B6 t) (YZ a);rw[d,f];refine⟨rfl,λ_ h=>?_⟩;have:=YZ a;omega
  ·have e:p6 (B6 (b::t))=p6 (b::t):=by
    rw[ai9,ai9,Ag,Ea,Ea,Ea,Ea];have e0:Y3 ((b::t).getD 0 0)=b:=YY (b:=b) (show 128<=b.toNat by omega);rw[e0];exact B36 (b::t).length b ((b::t).getD 1 0) ((b::t).getD 2 0) ((b::t).getD 3 0) (show 128<=b.toNat by omega)
   grind
def SE:∀(f:Nat) (l:By),(W9 f l).isSome=true->(W9 f (B6 l)).isSome=true
 | 0,_,_=>rfl
 | f+1,l,h=>by
  unfold W9 at h ⊢;by_cases a:l=[]
  ·subst a;rfl
  ·rw[if_neg a] at h;rw[if_neg (by rw[RT];exact a)];obtain⟨b,c⟩:=Dc0 l a;split at h
   ·cases h
   ·rename_i d;rw[if_neg (c d),ag1,b,ME];rw[ag1] at h;exact SE f _ h
def Ao8{l:By}(h:(Df l).isSome=true):(Df (B6 l)).isSome=true:=by unfold Df at h ⊢;rw[Ag];exact SE _ _ h
def B70(t:By)(C:t.length<=1000000000):∀(f pos:Nat) (P q:List Nat) (n:Nat),pos<=t.length->t.length-pos<=f->f<n->P.length<=pos->W9 f (t.drop pos)=some q->
  ∃m,∀(R:Type) (h:LL->By->Nat->Option R),Gc LF n (B7 P) t pos h=h (B7 (P++q)) t m:=by
 intro f
 induction f with
 | zero=>
  intro pos P q n u v w x a;obtain⟨n,rfl⟩:∃m,n=m+1:=⟨n-1,by omega⟩
  simp only[W9,j1] at a;subst a;refine⟨pos,λR h=>?_⟩;rw[Gc];rw[decide_eq_false (by omega),cond_false,ab5]
 | succ f z=>
  intro pos P q n u v w x a;obtain⟨n,rfl⟩:∃m,n=m+1:=⟨n-1,by omega⟩
  by_cases l:pos<t.length
  ·have b:t.drop pos≠[]:=by rw[ne_eq,<-j8,j0];omega
   have y:=ag5 ⟨t.toArray⟩ pos;have i:ab0 ⟨ab7 t⟩ pos=p6 (t.drop pos):=by rw[<-y]
   unfold W9 at a;rw[if_neg b] at a;split at a
   ·cases a
   ·have D:=ae1 (t.drop pos);have j:=ah8 (t.drop pos) b;have B:=ak5 (t.drop pos);rw[j0] at j;rw[ah9] at a;generalize p6 (t.drop pos)=p at *;obtain⟨c,o⟩:=p;simp only at *;cases k:W9 f (t.drop (pos+o)) with
    | none=>rw[k] at a;cases a
    | some A=>
     rw[k] at a;simp only[x6,j1] at a;subst a;obtain⟨m,e⟩:=z (pos+o) (P++[c]) A n (by omega) (by omega) (by omega) (by simp;omega) k;refine⟨m,λR h=>?_⟩;rw[Gc];rw[decide_eq_true l,cond_true,i,D4,F8 (by omega)];simp only[vl,cond_true];have r:A1 (c:Int)=(c:Int):=A7;have g:B7 P++[[SV.int .i64 (A1 (c:Int))]]=B7 (P++[c]):=by rw[r,Ll];rfl
     rw[g,e,y9];rfl
  ·have d:t.drop pos=[]:=by rw[<-j8,j0];omega
   unfold W9 at a;rw[d,if_pos rfl] at a;simp only[j1] at a;subst a;refine⟨pos,λR h=>?_⟩;rw[Gc];rw[decide_eq_false l,cond_false,ab5]
def A88(s:By)(i:A3 s.length=true):(∀(R:Type) (b:By->Int->Option R) (c:By->Int->LL->By->Nat->Option R),Am1 LF s b c=b (I7 s).1 ((I7 s).2:Nat))\/
  (∃l t m,∀(R:Type) (b:By->Int->Option R) (c:By->Int->LL->By->Nat->Option R),Am1 LF s b c=c (I7 s).1 ((I7 s).2:Nat) l t m):=by
 have x:=L7 i;have u:=C5;unfold I7;cases h:Df s with
 | none=>
  refine .inl λR b c=>?_
  unfold Am1;rw[i,h];rfl
 | some p=>
  have k:=NL h;have top:∀(R:Type) (b:By->Int->Option R) (c:By->Int->LL->By->Nat->Option R),Am1 LF s b c=cond (ltI 256 (p.length:Int)) (b [] 3) (cond (ltI (p.length:Int) (s.length:Int)) (Gc LF LF [] (B6 s) 0 (λa g f=>cond (an9 a Ou)
      (cond (((Y2 (ae5 elI a)).2:Int)!=(0:Int))
       (c ([]:List UInt8) 14 a g f)
       (cond (E6 4 (b9 ((Y2 (ae5 elI a))).1))
        (cond (A3 (b9 (xnB++((Y2 (ae5 elI a))).1)))
         (cond (not (K6 (xnB++((Y2 (ae5 elI a))).1)))
         (c ([]:List UInt8) 14 a g f)
         (c (xnB++((Y2 (ae5 elI a))).1) 0 a g f))
         (none))
        (none)))
      (none)))
     (cond (A3 (b9 (B6 s)))
      (cond (not (K6 (B6 s)))
      (b ([]:List UInt8) 14)
      (b (B6 s) 0))
      (none))):=by
   intro R b c;unfold Am1;rw[i,h,k];rfl
  simp only;by_cases n:256<p.length
  ·rw[if_pos n];refine .inl λR b c=>?_
   rw[top,A8];rfl
  ·rw[if_neg n];by_cases o:p.length<s.length
   ·rw[if_pos o];have d:=Ao8 (l:=s) (by rw[h];rfl);cases r:Df (B6 s) with
    | none=>rw[r] at d;cases d
    | some q=>
     have w:=Ag s;obtain⟨m,e⟩:=B70 (B6 s) (by omega) (B6 s).length 0 [] q LF (by omega) (by omega) (by omega) (by simp) (by rw[v7];exact r);refine .inr ⟨B7 q,B6 s,m,λR b c=>?_⟩;rw[top,A6,cond_false,A8,cond_true];refine j5 (e R _) ?_;have v:=Aj5 q;rw[aa2,Eo,Wx,Wz,cond_true,G3 (by omega),cond_true,D9 (by rw[j9];simp only[xnB,j4,x8];omega),cond_true];simp only;by_cases j:(Du q).2=0
     ·rw[j,if_pos rfl];cases y:K6 (xnB++(Du q).1) with
      | true=>rfl
      | false=>rfl
     ·rw[if_neg j];have:(((Du q).2:Int)!=(0:Int))=true:=by simpa using j
      rw[this];rfl
   ·rw[if_neg o];refine .inl λR b c=>?_
    rw[top,A6,cond_false,A6,cond_false,D9 (by rw[Ag];exact x),cond_true];cases K6 (B6 s)<;>rfl
def Dg0(s:By)(c:A3 s.length=true):∃r H,Am1 LF s (λa b=>rv (.tup [.s (.str a),.s (.int .i64 b)]) []) (λa b d f e=>rv (.tup [.s (.str a),.s (.int .i64 b)]) [.arr true 3 1 d,.iter f e])=rv r H/\
  r.stab [0,0] H = .tup [.s (.str (I7 s).1),.s (.int .i64 ((I7 s).2:Nat))]:=by
 rcases A88 s c with h|⟨l,t,m,h⟩
 ·exact⟨_,_,h _ _ _,rfl⟩
 ·exact⟨_,_,h _ _ _,rfl⟩
def B54{R:Type}{g:Int->Option R}(b:Int)(h:inR b 256=true):Cr8 LF b g=g (Fz (u8n b)):=by
 simp only[inR,k9,decide_eq_true_eq] at h;have j:b=((u8n b).toNat:Int):=by
  unfold u8n;simp;omega
 generalize u8n b=c at *;subst j;have i:=c.toNat_lt;unfold Cr8;simp only[Xk,Xj,vl,Fz];rcases Dt c with⟨d,f,e⟩|⟨d,f,e⟩|⟨d,f,e⟩|⟨d,f,o,e⟩
 ·have a:A1 (wu8 ((c.toNat:Int)-48))=((dig c:Nat):Int):=by
   rw[N2,A7];omega
  rw[R2];simp (disch:=omega) only[B9,E7,o6,o9,cond_false,cond_true,a]
 ·have a:A1 (A1 (wu8 ((c.toNat:Int)-97))+10)=((dig c:Nat):Int):=by
   rw[N2,D1 (n:=(c.toNat:Int)-97) (by omega) (by omega),A7];omega
  rw[R2];simp (disch:=omega) only[B9,E7,o6,o9,cond_false,cond_true,a]
 ·have a:A1 (A1 (wu8 ((c.toNat:Int)-65))+10)=((dig c:Nat):Int):=by
   rw[N2,D1 (n:=(c.toNat:Int)-65) (by omega) (by omega),A7];omega
  rw[R2];simp (disch:=omega) only[B9,E7,o6,o9,cond_false,cond_true,a]
 ·rw[e,if_neg (by decide)];by_cases k:c.toNat<48
  ·simp (disch:=omega) only[B9,E7,o6,o9,cond_false,cond_true]
  ·by_cases l:c.toNat<65
   ·simp (disch:=omega) only[B9,E7,o6,o9,cond_false,cond_true]
   ·by_cases m:c.toNat<97
    ·simp (disch:=omega) only[B9,E7,o6,o9,cond_false,cond_true]
    ·simp (disch:=omega) only[B9,E7,o6,o9,cond_false,cond_true]
def ZQ{b:UInt8}(r:By)(h:b≠37):R8 (b::r)=(R8 r).map (b::·):=by
 conv=>lhs;unfold R8
 grind
def MU(x y:UInt8)(r:By):R8 (37::x::y::r)=if dig x<16/\dig y<16 then (R8 r).map (p4 (16*dig x+dig y)::·) else none:=by
 conv=>lhs;unfold R8
 grind
def Ai8(x:UInt8):ltI (Fz x) 0 = !(decide (dig x<16)):=by
 unfold Fz;by_cases h:dig x<16
 ·simp_all
 ·rw[if_neg h,A8,decide_eq_false h];rfl
def GV:∀(s t:By),R8 s=some t->t.length<=s.length
 | [],t,h=>by simp only[R8,j1] at h;subst h;exact y8 _
 | b::r,t,h=>by
  by_cases c:b=37
  ·subst c
   match r,h with
   | [],h=>cases h
   | [x],h=>cases h
   | x::y::d,h=>
    rw[MU] at h;split at h
    ·cases a:R8 d with
     | none=>rw[a] at h;cases h
     | some q=>
      rw[a] at h;simp only[x6,j1] at h;subst h;have:=GV d q a;simp only[j4];omega
    ·cases h
  ·rw[ZQ _ c] at h;cases a:R8 r with
   | none=>rw[a] at h;cases h
   | some q=>
    rw[a] at h;simp only[x6,j1] at h;subst h;have:=GV r q a;grind
def B53(s:By)(P:s.length<=1000000000):∀(m i n:Nat) (a:By),i<=s.length->s.length-i<=m->m<n->a.length<=i->
  (∀t,R8 (s.drop i)=some t->∀(R:Type) (c:LL->Option R) (d:LL->Option R),U2 LF n s (i:Int) (a.map E4) c d=d ((a++t).map E4))/\
  (R8 (s.drop i)=none->∃l,∀(R:Type) (c:LL->Option R) (d:LL->Option R),U2 LF n s (i:Int) (a.map E4) c d=c l):=by
 intro m
 induction m with
 | zero=>
  intro i n a J K L I;obtain⟨n,rfl⟩:∃m,n=m+1:=⟨n-1,by omega⟩
  rw[o8 (by omega)];refine⟨λt f R c d=>?_,λh=>(by cases h)⟩;simp only[R8,j1] at f;subst f;rw[U2];rw[A6,ab5];rfl
 | succ m G=>
  intro i n a J K L I;obtain⟨n,rfl⟩:∃m,n=m+1:=⟨n-1,by omega⟩
  by_cases z:i<s.length
  ·have D:A1 ((i:Int)+1)=((i+1:Nat):Int):=by rw[A7];rfl
   have F:A1 ((i:Int)+2)=((i+2:Nat):Int):=by rw[A7];rfl
   have H:A1 (((i+2:Nat):Int)+1)=((i+3:Nat):Int):=by rw[A7];omega
   have p:(a.map E4).length=a.length:=p9 _;have v:∀b:UInt8,a.map E4++[[SV.int .u8 (b.toNat:Int)]]=(a++[b]).map E4:=λb=>by rw[ae6];rfl
   have C:(((s.getD i 0).toNat:Int)!=37) = !(s.getD i 0==37):=congrArg _ (S6 _ 37 (by omega));rw[D6 s i z];by_cases g:s.getD i 0=37
   ·by_cases O:i+2<s.length
    ·rw[D6 s (i+1) (by omega),D6 s (i+1+1) (by omega),g,MU];obtain⟨A,B⟩:=G (i+3) n (a++[p4 (16*dig (s.getD (i+1) 0)+dig (s.getD (i+2) 0))]) (by omega) (by omega) (by omega) (by simp;omega);have top:∀(R:Type) (c:LL->Option R) (d:LL->Option R),U2 LF (n+1) s (i:Int) (a.map E4) c d=cond (decide (dig (s.getD (i+1) 0)<16)&&decide (dig (s.getD (i+2) 0)<16)) (U2 LF n s ((i+3:Nat):Int) ((a++[p4 (16*dig (s.getD (i+1) 0)+dig (s.getD (i+2) 0))]).map E4) c d) (c (a.map E4)):=by
      intro R c d;rw[U2];rw[A8,F1,D3,C,g,p,F,A8,D,F1,F1,D3,D3];simp only[cond_true,vl,o6,cond_false,beq_self_eq_true,Ad0,Ka,Ai8,F8 (show a.length+1<=68719476736 by omega),H];generalize s.getD (i+1) 0=x at *;generalize s.getD (i+2) 0=y at *;by_cases M:dig x<16
      ·by_cases N:dig y<16
       ·have w1:Fz x=(dig x:Int):=by unfold Fz;rw[if_pos M]
        have S:Fz y=(dig y:Int):=by unfold Fz;rw[if_pos N]
        have T:A1 ((16:Int)*(dig x:Int))=((16*dig x:Nat):Int):=by rw[A7];omega
        have U:A1 (((16*dig x:Nat):Int)+(dig y:Int))=((16*dig x+dig y:Nat):Int):=by rw[A7];omega
        have V:wu8 ((16*dig x+dig y:Nat):Int)=((p4 (16*dig x+dig y)).toNat:Int):=by
         rw[N2];simp;omega
        grind
       grind
      grind
     by_cases o:dig (s.getD (i+1) 0)<16/\dig (s.getD (i+2) 0)<16
     ·rw[if_pos o];have w:(decide (dig (s.getD (i+1) 0)<16)&&decide (dig (s.getD (i+2) 0)<16))=true:=by rw[decide_eq_true o.1,decide_eq_true o.2];rfl
      refine⟨λt f R c d=>?_,λh=>?_⟩
      ·cases j:R8 (s.drop (i+3)) with
       | none=>rw[show i+1+1+1=i+3 from rfl,j] at f;cases f
       | some q=>
        rw[show i+1+1+1=i+3 from rfl,j] at f;simp only[x6,j1] at f;subst f;rw[top,w,cond_true,A q j,y9];rfl
      ·cases j:R8 (s.drop (i+3)) with
       | some q=>rw[show i+1+1+1=i+3 from rfl,j] at h;cases h
       | none=>
        obtain⟨l,e⟩:=B j;exact⟨l,λR c d=>by rw[top,w,cond_true,e]⟩
     ·rw[if_neg o];have w:(decide (dig (s.getD (i+1) 0)<16)&&decide (dig (s.getD (i+2) 0)<16))=false:=by grind
      exact⟨λt h=>(by cases h),λ_=>⟨_,λR c d=>by rw[top,w,cond_false]⟩⟩
    ·have k:R8 (s.getD i 0::s.drop (i+1))=none:=by
      rw[g];cases o:s.drop (i+1) with
      | nil=>rfl
      | cons x r=>
       cases r with
       | nil=>rfl
       | cons y Q=>
        exfalso;have:=congrArg b9 o;rw[j0,j4,j4] at this;omega
     rw[k];refine⟨λt h=>(by cases h),λ_=>⟨a.map E4,λR c d=>?_⟩⟩;rw[U2];rw[A8,F1,D3,C,g,F,A6];rfl
   ·rw[ZQ _ g];obtain⟨A,B⟩:=G (i+1) n (a++[s.getD i 0]) (by omega) (by omega) (by omega) (by simp;omega);have u:(s.getD i 0==37)=false:=by simpa using g
    have top:∀(R:Type) (c:LL->Option R) (d:LL->Option R),U2 LF (n+1) s (i:Int) (a.map E4) c d=U2 LF n s ((i+1:Nat):Int) ((a++[s.getD i 0]).map E4) c d:=by
     intro R c d;rw[U2];rw[A8,F1,D3,C,u,p,F8 (by omega),D,v];rfl
    refine⟨λt f R c d=>?_,λh=>?_⟩
    ·cases j:R8 (s.drop (i+1)) with
     | none=>rw[j] at f;cases f
     | some q=>
      rw[j] at f;simp only[x6,j1] at f;subst f;rw[top,A q j,y9];rfl
    ·cases j:R8 (s.drop (i+1)) with
     | some q=>rw[j] at h;cases h
     | none=>
      obtain⟨l,e⟩:=B j;exact⟨l,λR c d=>by rw[top,e]⟩
  ·rw[o8 (by omega)];refine⟨λt f R c d=>?_,λh=>(by cases h)⟩;simp only[R8,j1] at f;subst f;rw[U2];rw[A6,ab5];rfl
def De2(s:By)(f:A3 s.length=true):∃r H,Cr7 LF s (λj k i=>rv (.tup [.s (.str j),.s (.bool k)]) [.arr false 5 1 i])=rv r H/\
  r.stab [0,0] H = .tup [.s (.str (Gg s)),.s (.bool (R8 s).isSome)]:=by
 have h:=L7 f;have g:=C5;have a:((decide ((0:Int)<=(s.length:Int)))&&(G2 (y5 (s.length:Int))))=true:=by
  rw[j2,F8 (by omega),decide_eq_true (by omega)];rfl
 obtain⟨c,d⟩:=B53 s h s.length 0 LF [] (by omega) (by omega) (by omega) (by simp);rw[v7] at c d;unfold Gg;cases b:R8 s with
 | none=>
  obtain⟨l,e⟩:=d b;refine⟨.tup [.s (.str []),.s (.bool false)],[.arr false 5 1 l],?_,rfl⟩;unfold Cr7;rw[a,cond_true];exact e _ _ _
 | some t=>
  refine⟨.tup [.s (.str t),.s (.bool true)],[.arr false 5 1 (t.map E4)],?_,rfl⟩;unfold Cr7;rw[a,cond_true];refine j5 (c t b _ _ _) ?_;rw[aa2,Y7,Z6];rfl
abbrev Sp(i:Int)(j:By)(v4 a b c d e f g h:Int):List PV:=[.s (.int .i64 i),.s (.str j),.s (.int .u32 v4),.s (.int .u16 a),.s (.int .u16 b),.s (.int .u16 c),.s (.int .u16 d),.s (.int .u16 e),.s (.int .u16 f),.s (.int .u16 g),.s (.int .u16 h)]
def EJ(h:B5):PV:=.agg [.s (.int .i64 (h.kind:Nat)),.s (.str h.name),.s (.int .u32 (h.v4:Nat)),.s (.int .u16 (h.v6.getD 0 0:Nat)),.s (.int .u16 (h.v6.getD 1 0:Nat)),.s (.int .u16 (h.v6.getD 2 0:Nat)),.s (.int .u16 (h.v6.getD 3 0:Nat)),.s (.int .u16 (h.v6.getD 4 0:Nat)),.s (.int .u16 (h.v6.getD 5 0:Nat)),.s (.int .u16 (h.v6.getD 6 0:Nat)),.s (.int .u16 (h.v6.getD 7 0:Nat))]
abbrev Ea1:Int->Int->Int->Int->Int->Int->Int->Int->Int->Int->Int->LL->Option (PV × List Blk × Unit):=λj c d e f g h i r8 k b a=>rv (.tup [.agg (Sp j [] 0 c d e f g h i r8),.s (.int .i64 k)]) [.box (Sp b [] 0 c d e f g h i r8),.arr false 26 1 a]
abbrev D71:Unit->Option (PV × List Blk × Unit):=λ_=>rv (.tup [.agg (Sp 0 [] 0 0 0 0 0 0 0 0 0),.s (.int .i64 14)]) [.box (Sp 0 [] 0 0 0 0 0 0 0 0 0)]
def GO(s:By)(c:UInt8)(h:s≠[]):(s.getLast? = some c)↔s.getD (s.length-1) 0=c:=by have:0<s.length:=aa0.2 h;grind
def Cr6(s:By)(g:A3 s.length=true)(e:Cs6 s=true):∃r H,Bw2 LF s Ea1 D71=rv r H/\r.stab [0,0] H = .tup [EJ (R1 s).1,.s (.int .i64 ((R1 s).2:Nat))]:=by
 have m:=L7 g;have c:s≠[]:=by rintro rfl;cases e
 have l:0<s.length:=aa0.2 c;have i:s.getD 0 0=91:=by
  cases s with
  | nil=>exact absurd rfl c
  | cons b t=>
   simp only[Cs6,aa1,ad3,beq_iff_eq] at e;grind
 have f:A1 ((s.length:Int)-1)=((s.length-1:Nat):Int):=by rw[A7];omega
 have k:(((s.getD (s.length-1) 0).toNat:Int)==93)=(s.getD (s.length-1) 0==93):=S6 _ 93 (by omega);have bad:∃r H,D71 ()=rv r H/\r.stab [0,0] H = .tup [EJ L8,.s (.int .i64 14)]:=⟨_,_,rfl,rfl⟩
 unfold Bw2 R1;simp only[vl,f];rw[F1,D3,k,cond_true];by_cases d:s.getD (s.length-1) 0=93
 ·have h:2<=s.length:=by grind
  rw[if_pos ⟨(GO s 93 c).2 d,h⟩,d,beq_self_eq_true,cond_true,show(1:Int)=((1:Nat):Int) from rfl,I3,cond_true,Fy];have j:((s.take (s.length-1)).drop 1).length<=s.length:=by rw[j0,j6];omega
  rw[K3,cond_true];unfold v6c;cases n:v6B ((s.take (s.length-1)).drop 1) with
  | none=>exact⟨_,_,rfl,rfl⟩
  | some a=>exact⟨_,_,rfl,rfl⟩
 grind
def C27(l:List By)(i:Nat)(y:By)(h:i<l.length):List.set (D5 l) i (G5 ((D5 l).getD i []) 0 [SV.str y])=D5 (l.set i y):=by
 have e:(D5 l).getD i []=[SV.str (l.getD i [])]:=by
  unfold D5;grind
 rw[e];unfold D5;rw[List.map_set];rfl
def Al1(N:Nat)(hN:N<=1000000001):∀(a:List By) (done:List By) (n:Nat),done.length+a.length=N->a.length<n->(∀x∈a,x.length<=1000000000)->
  ((F6 a).2=0->∀(R:Type) (b:Int->LL->Option R) (c:Nat->LL->Option R),U8 LF n N (N:Int) (done.length:Int) (D5 (done++a)) b c=c N (D5 (done++(F6 a).1)))/\
  ((F6 a).2≠0->∃l,∀(R:Type) (b:Int->LL->Option R) (c:Nat->LL->Option R),U8 LF n N (N:Int) (done.length:Int) (D5 (done++a)) b c=b ((F6 a).2:Nat) l):=by
 intro a
 induction a with
 | nil=>
  intro done n i o p;obtain⟨n,rfl⟩:∃m,n=m+1:=⟨n-1,by simp at o;omega⟩
  simp only[x8] at i;refine⟨λ_ R b c=>?_,λh=>absurd rfl h⟩;rw[U8];rw[A6];rfl
 | cons x r z=>
  intro done n i o p;simp only[j4] at i o;obtain⟨n,rfl⟩:∃m,n=m+1:=⟨n-1,by omega⟩
  have v:A1 ((done.length:Int)+1)=((done.length+1:Nat):Int):=by rw[A7];rfl
  have q:(done++x::r).length=N:=by rw[j9,j4];omega
  have k:(done++x::r).getD done.length []=x:=by grind
  have f:∀y,(done++x::r).set done.length y=(done++[y])++r:=λy=>by grind
  have top:∀(R:Type) (b:Int->LL->Option R) (c:Nat->LL->Option R),U8 LF (n+1) N (N:Int) (done.length:Int) (D5 (done++x::r)) b c=cond (((I7 x).2:Int)!=0) (b ((I7 x).2:Nat) (D5 (done++x::r))) (U8 LF n N (N:Int) ((done.length+1:Nat):Int) (D5 ((done++[(I7 x).1])++r)) b c):=by
   intro R b c;rw[U8];rw[A8,F1,j2,ak3,R7 (by omega),V6,k];simp only[vl,cond_true];rw[D9 (p x (by simp)),F2,decide_eq_true (show done.length<(done++x::r).length by omega),C27 _ _ _ (by omega),f,v];rfl
  unfold F6;obtain⟨t,u⟩:=z (done++[(I7 x).1]) n (by simp;omega) (by omega) (λy w=>p y (by simp[w]));have j:(done++[(I7 x).1]).length=done.length+1:=by simp
  rw[j] at t u;by_cases h:(I7 x).2=0
  ·rw[if_pos h];have g:(((I7 x).2:Int)!=0)=false:=by rw[h];rfl
   refine⟨λd R b c=>?_,λd=>?_⟩
   ·rw[top,g,cond_false,t d,y9];rfl
   ·obtain⟨l,e⟩:=u d;exact⟨l,λR b c=>by rw[top,g,cond_false,e]⟩
  ·rw[if_neg h];have g:(((I7 x).2:Int)!=0)=true:=by simpa using h
   exact⟨λd=>absurd d h,λ_=>⟨_,λR b c=>by rw[top,g,cond_true]⟩⟩
def YT(p:By)(m:Nat):∀l:List By,(∀x∈l,x.length<=m)->(aa6 l p).length<=(m+p.length)*l.length
 | [],_=>by simp[aa6]
 | [x],h=>by
  have:=h x (by simp);rw[show aa6 [x] p=x by simp[aa6,Lib.joinTail]];grind
 | x::y::r,h=>by
  have b:=h x (by simp);have c:=YT p m (y::r) (λz a=>h z (by simp[a]));rw[V7,j9,j9,j4,Nat.mul_add,aa9];omega
def WR(l:List By):(D5 l).all isS=true:=by unfold D5;rw[ag8,ab1];intro x _;rfl
def C37(s:By):Ac7 s [46]=G9 s:=by
 unfold Ac7 G9;by_cases h:s.getLast? = some 46
 ·obtain⟨t,rfl⟩:=List.getLast?_eq_some_iff.1 h;grind
 ·rw[if_neg h,if_neg];rw[af4];rintro⟨t,a⟩;grind
abbrev D73:Int->By->Int->Int->Int->Int->Int->Int->Int->Int->Int->Int->Int->By->Int->Int->Int->Int->Int->Int->Int->Int->Int->Option (PV × List Blk × Unit):=λn o p q r t u v r8 w k l a m b c d e f g h i j=>rv (.tup [.agg (Sp n o p q r t u v r8 w k),.s (.int .i64 l)]) [.box (Sp a m b c d e f g h i j)]
abbrev D74:Int->By->Int->Int->By->LL->Option (PV × List Blk × Unit):=λc d e b f a=>rv (.tup [.agg (Sp c d 0 0 0 0 0 0 0 0 0),.s (.int .i64 e)]) [.box (Sp b f 0 0 0 0 0 0 0 0 0),.arr false 9 1 a]
def B58(s:By)(n:A3 s.length=true):∃r H,CE LF s D73 D74=rv r H/\r.stab [0,0] H = .tup [EJ (C3 s).1,.s (.int .i64 ((C3 s).2:Nat))]:=by
 have Q:=L7 n;have A:=C5;have bad:∀e:Nat,∃r H,D73 0 [] 0 0 0 0 0 0 0 0 0 (e:Int) 0 [] 0 0 0 0 0 0 0 0 0=rv r H/\r.stab [0,0] H = .tup [EJ L8,.s (.int .i64 (e:Nat))]:=λe=>⟨_,_,rfl,rfl⟩
 have a:∀(e:Nat) (l:LL),∃r H,D74 0 [] (e:Int) 0 [] l=rv r H/\r.stab [0,0] H = .tup [EJ L8,.s (.int .i64 (e:Nat))]:=λe l=>⟨_,_,rfl,rfl⟩
 by_cases i:1024<s.length
 ·have e:C3 s=(L8,3):=by unfold C3;rw[if_pos i]
  rw[e];unfold CE;rw[A8,cond_true];exact bad 3
 ·have f:([91]:By).isPrefixOf s=decide (s.head? = some 91):=by
   cases s with
   | nil=>rfl
   | cons b t=>
    grind
  by_cases d:s.head? = some 91
  ·have j:([91]:By).isPrefixOf s=true:=by rw[f,decide_eq_true d]
   have e:C3 s=R1 s:=by unfold C3 R1;rw[if_neg i,if_pos d]<;>rfl
   rw[e];unfold CE;rw[A6,cond_false,n,cond_true,j,cond_true,cond_true,show Cs6 s=true from j,cond_true];exact⟨_,_,rfl,rfl⟩
  ·have j:([91]:By).isPrefixOf s=false:=by rw[f,decide_eq_false d]
   unfold CE;rw[A6,cond_false,n,cond_true,j,cond_false,cond_true];cases k:R8 s with
   | none=>
    have e:C3 s=(L8,14):=by unfold C3;rw[if_neg i,if_neg d,k]
    rw[e];exact bad 14
   | some t=>
    have L:t.length<=s.length:=GV s t k;have M:Gg s=t:=by unfold Gg;rw[k];rfl
    rw[M,K3];simp only[Option.isSome_some,o6,cond_false,cond_true,vl];rw[C37];have K:(G9 t).length<=t.length:=by unfold G9;split<;>simp
    have B:C3 s=if E9 (G9 t) then (match pnB (G9 t) with
      | some v=>(⟨2,[],v,z8⟩,0)
      | none=>(L8,14))
     else if (F6 (pcs 46 (G9 t))).2=0 then (
      let name:=aa6 (F6 (pcs 46 (G9 t))).1 [46]
      if 253<name.length then (L8,3) else if E9 name then (L8,14) else (⟨1,name,0,z8⟩,0))
     else (L8,(F6 (pcs 46 (G9 t))).2):=by
     unfold C3;rw[if_neg i,if_neg d,k];rfl
    rw[B];generalize G9 t=u at *;rw[K3,cond_true];cases O:E9 u with
    | true=>
     rw[if_pos rfl,cond_true,cond_true];cases P:pnB u with
     | none=>exact bad 14
     | some v=>exact⟨_,_,rfl,rfl⟩
    | false=>
     rw[if_neg (by simp),cond_false,cond_true,show((1:Nat)==1)=true from rfl,cond_true];have C:([46]:By).getD 0 0=46:=rfl;rw[C];have J:=Jo 46 u;have D:=Ht 46 u;obtain⟨w,y⟩:=Al1 (pcs 46 u).length (by omega) (pcs 46 u) [] LF (by simp) (by omega) (λx p=>by have:=(Cv p).2;omega);rw[aa2,x8] at w y;by_cases g:(F6 (pcs 46 u)).2=0
     ·rw[if_pos g];obtain⟨z,N⟩:=Kx _ g;have G:=YT [46] 63 (F6 (pcs 46 u)).1 (λx p=>(Cj (z x p)).le);have F:∀{R:Type} (m:Int->LL->Option R) (h:Nat->LL->Option R),U8 LF LF (pcs 46 u).length ((pcs 46 u).length:Int) 0 (D5 (pcs 46 u)) m h=h (pcs 46 u).length (D5 (F6 (pcs 46 u)).1):=λm h=>w g _ m h
      rw[F];have hA:(F6 (pcs 46 u)).1.length<=1025:=by omega
      have o:List.take (pcs 46 u).length (ai5 0 (D5 (F6 (pcs 46 u)).1))=D5 (F6 (pcs 46 u)).1:=by
       rw[v7,ae4 (by rw[F2];omega)]
      have q:(63+([46]:By).length)*(F6 (pcs 46 u)).1.length<=64*1025:=ai3 (by simp) hA;rw[o,WR,Aj4,F2,K3,K3];simp only[cond_true];generalize aa6 (F6 (pcs 46 u)).1 [46]=name at *;by_cases c:253<name.length
      ·rw[if_pos c,A8,cond_true];exact a 3 _
      ·rw[if_neg c,A6,cond_false];cases I:E9 name with
       | true=>exact a 14 _
       | false=>exact⟨_,_,rfl,rfl⟩
     ·rw[if_neg g];obtain⟨l,e⟩:=y g;simp_all
def Al4{R:Type}{k0 k1:Unit->Option R}:∀l:List By,(∀x∈l,x.length<=1000000000)->LQ LF l k0 k1=if l.all K6 then k0 () else k1 ()
 | [],_=>rfl
 | x::r,h=>by
  rw[Al3];unfold GN;rw[D9 (h x (by simp)),cond_true,ab9];have b:=Al4 (k0:=k0) (k1:=k1) r (λy a=>h y (by simp[a]));grind
def Dy3(s:By)(a:A3 s.length=true):∃r H,hvn LF s (λ_=>rv (.s (.bool false)) [.box [.s (.bool false)]]) (λd b=>rv (.s (.bool d)) [.box [.s (.bool b)],.box [.bad],.box [.bad],.box [.bad]])=rv r H/\r.stab [] H = .s (.bool (V0 s)):=by
 have h:=L7 a;unfold hvn YL V0;by_cases e:253<s.length
 ·rw[A8,show p7 s.length 253=false by rw[w8,ne_eq,w9];omega];exact⟨_,_,rfl,rfl⟩
 ·rw[A6,cond_false,a,cond_true,show p7 s.length 253=true by rw[w9];omega];cases f:E9 s with
  | true=>exact⟨_,_,rfl,rfl⟩
  | false=>
   rw[cond_false,show((1:Nat)==1&&(0:Int)==(0:Int))=true from rfl,show([46]:By).getD 0 0=46 from rfl,ad3,cond_true,Al4 _ (λx c=>by have:=(Cv c).2;omega)];cases g:(pcs 46 s).all K6 with
   | true=>exact⟨_,_,rfl,rfl⟩
   | false=>exact⟨_,_,rfl,rfl⟩
def D76(a c d f g h i j:Nat):(n8 (a:Int) c d f g h i j==z8)=(((a:Int)==0)&&(((c:Int)==0)&&(((d:Int)==0)&&(((f:Int)==0)&&(((g:Int)==0)&&(((h:Int)==0)&&(((i:Int)==0)&&(((j:Int)==0)&&true)))))))):=by
 have e:n8 (a:Int) c d f g h i j=[a,c,d,f,g,h,i,j]:=rfl;have q:∀b:Nat,((b:Int)==0)=(b==0):=λb=>by grind
 rw[e];simp only[q,z8];rfl
def Bw5(a:Int)(b:By)(v4 l m n o p q t u:Int)(D:A3 b.length=true)(F:ltN v4 4294967296=true)(G:ok8 l m n o p q t u=true) :
  ∃r H,Pa LF a b v4 l m n o p q t u (λV M W N O P Q R n8 S y z x=>rv (.s (.bool V)) [.box (Sp M W N O P Q R n8 S y z),.arr false 26 1 x])=rv r H/\
   r.stab [] H = .s (.bool (K4 (mkH a b v4 (n8 l m n o p q t u)))):=by
 obtain⟨c,d,e,f,g,i,j,k,rfl,rfl,rfl,rfl,rfl,rfl,rfl,rfl,X⟩:=Rz G;obtain⟨v0,v1⟩:=E3.1 F;obtain⟨v,rfl⟩:=x4 v0;have U:((v:Int)==0)=(v==0):=by
  rw[ad6,beq_iff_eq,beq_iff_eq];omega
 have T:(b==([]:By))=b.isEmpty:=by cases b<;>rfl
 have J:(mkH a b (v:Int) (n8 (c:Int) d e f g i j k)).kind=if ltN a 4 then a.toNat else 0:=rfl
 have K:(mkH a b (v:Int) (n8 (c:Int) d e f g i j k)).name=b:=rfl;have L:(mkH a b (v:Int) (n8 (c:Int) d e f g i j k)).v4=v:=j2 v;have I:(mkH a b (v:Int) (n8 (c:Int) d e f g i j k)).v6=n8 (c:Int) d e f g i j k:=rfl;unfold Pa K4;rw[J,K,L,I,D76,U,T];by_cases A:a=1
 ·subst A;rw[show((1:Int)==1)=true from rfl,cond_true,D,cond_true,if_pos (by decide)];cases V0 b with
  | false=>exact⟨_,_,rfl,rfl⟩
  | true=>
   cases (v==0) with
   | false=>exact⟨_,_,rfl,rfl⟩
   | true=>exact⟨_,_,rfl,rfl⟩
 ·rw[show(a==(1:Int))=false by simpa using A,cond_false];by_cases B:a=2
  ·subst B;rw[show((2:Int)==2)=true from rfl,cond_true,if_neg (by decide),if_pos (by decide)];cases b.isEmpty with
   | false=>exact⟨_,_,rfl,rfl⟩
   | true=>exact⟨_,_,rfl,rfl⟩
  ·rw[show(a==(2:Int))=false by simpa using B,cond_false];by_cases C:a=3
   ·subst C;rw[show((3:Int)==3)=true from rfl,cond_true,if_neg (by decide),if_neg (by decide),if_pos (by decide)];cases b.isEmpty with
    | false=>exact⟨_,_,rfl,rfl⟩
    | true=>exact⟨_,_,rfl,rfl⟩
   ·rw[show(a==(3:Int))=false by simpa using C,cond_false];have w:(if ltN a 4 then a.toNat else 0)=0:=by
     split
     ·rename_i h;have:=E3.1 h;omega
     ·rfl
    rw[w];exact⟨_,_,rfl,rfl⟩
def Dv6{a b c d e f g i:Int}(h:ok8 a b c d e f g i=true):(n8 a b c d e f g i).length=8/\∀x∈n8 a b c d e f g i,x<65536:=by obtain⟨k,l,m,n,o,p,q,r,rfl,rfl,rfl,rfl,rfl,rfl,rfl,rfl,t⟩:=Rz h;refine⟨rfl,λx j=>?_⟩;simp only[n8,j2,p5,ag7,or_false] at j;omega
def Bw4(a:Int)(j:By)(v4 b c d e f g h i:Int)(q:A3 j.length=true)(t:ltN v4 4294967296=true)(n:ok8 b c d e f g h i=true) :
  ∃r H,De7 LF a j v4 b c d e f g h i (λI k J y z A B C n8 D l m=>rv (.s (.str I)) [.box (Sp k J y z A B C n8 D l m)])=rv r H/\
   r.stab [] H = .s (.str (S8 (mkH a j v4 (n8 b c d e f g h i)))):=by
 obtain⟨F,G⟩:=Dv6 n;have v:=Bq3 _ F G;unfold De7 S8;rw[q,t,n];simp only[cond_true,vl];have u:(mkH a j v4 (n8 b c d e f g h i)).kind=if ltN a 4 then a.toNat else 0:=rfl
 cases w:K4 (mkH a j v4 (n8 b c d e f g h i)) with
 | false=>exact⟨_,_,rfl,rfl⟩
 | true=>
  rw[if_pos rfl,o6,cond_false,u];by_cases o:a=1
  ·subst o;rw[if_pos (by decide)];exact⟨_,_,rfl,rfl⟩
  ·rw[show(a==(1:Int))=false by simpa using o,cond_false];have k:¬(if ltN a 4 then a.toNat else 0)=1:=by grind
   rw[if_neg k];by_cases p:a=2
   ·subst p;rw[if_pos (by decide)];exact⟨_,_,rfl,rfl⟩
   ·rw[show(a==(2:Int))=false by simpa using p,cond_false];have x:¬(if ltN a 4 then a.toNat else 0)=2:=by grind
    rw[if_neg x,G3 (by omega),cond_true,G3 (by rw[j9,j7];omega),cond_true];exact⟨_,_,rfl,rfl⟩
def B52{R:Type}{b:Bool->Option R}(p s:By)(a:A3 p.length=true)(c:A3 s.length=true):Dd9 LF p s b=b (Cq p s):=by have d:=L7 a;unfold Dd9 Cq;rw[a,c,G3 (by omega)];grind
def Ba2{R:Type}{a:By->By->Int->Option R}(t p:By)(n:Int):Ct7 LF t p n a=a t p n:=rfl
def Cg1{R:Type}{a:By->By->Option R}(t p:By):D06 LF t p a=a t p:=rfl
def Bn8{Z R:Type}(g:Yh Z)(c:UInt8):∀(m:Nat) (t:By) (n:Nat) (s i:Z),t.length<=m->t.length<=1000000000->m<n->Ej g ((pcs c t).map λx=>([.s (.str x)]:List PV)) s=some i->
  ∃o , (∃v:Z,∃b:Bool,g [.s (.str o)] v=some (b,i)/\∀(a d:By->By->Int->Z->Option R),U9 g LF n [c] t 0 s a d=a [c] o 0 v)\/(∀(a d:By->By->Int->Z->Option R),U9 g LF n [c] t 0 s a d=d [c] o 0 i):=by
 intro m
 induction m with
 | zero=>
  intro t n s i y l D h;obtain rfl:=j8.1 (Nat.le_zero.1 y);obtain⟨n,rfl⟩:∃m,n=m+1:=⟨n-1,by omega⟩
  rw[Lp (by simp)] at h;simp only[aa8,aj9,Ej] at h;refine⟨[],.inl ⟨s,?_⟩⟩;have e:∀(a d:By->By->Int->Z->Option R),U9 g LF (n+1) [c] [] 0 s a d=a [c] [] 0 s:=λa d=>by
   rw[U9];rw[Uy (by simp)];rfl
  cases k:g [.s (.str [])] s with
  | none=>rw[k] at h;cases h
  | some q=>
   obtain⟨b,j⟩:=q;rw[k] at h;have:j=i:=by cases b<;>simpa using h
   subst this;exact⟨b,rfl,e⟩
 | succ m F=>
  intro t n s i y l D h;obtain⟨n,rfl⟩:∃m,n=m+1:=⟨n-1,by omega⟩
  rcases P0 c t with u|⟨p,r,rfl,u⟩
  ·rw[Lp u] at h;simp only[aa8,aj9,Ej] at h;refine⟨t,.inl ⟨s,?_⟩⟩;have e:∀(a d:By->By->Int->Z->Option R),U9 g LF (n+1) [c] t 0 s a d=a [c] t 0 s:=λa d=>by
    rw[U9];rw[Uy u,D9 l];rfl
   cases k:g [.s (.str t)] s with
   | none=>rw[k] at h;cases h
   | some q=>
    obtain⟨b,j⟩:=q;rw[k] at h;have:j=i:=by cases b<;>simpa using h
    subst this;exact⟨b,rfl,e⟩
  ·rw[GU u] at h;simp only[aa8,Ej] at h;have w:(p++c::r).length=p.length+r.length+1:=by rw[j9,j4];omega
   have z:A1 ((p.length:Int)+0)=((p.length:Nat):Int):=by rw[A7];omega
   have A:A1 ((p.length:Int)+(([c]:By).length:Int))=((p.length+1:Nat):Int):=by
    rw[D1 (by simp;omega) (by simp;omega)];simp
   have B:cut (p++c::r) 0 (p.length:Int)=p:=by rw[L1,j2,ad0]
   have C:cut (p++c::r) ((p.length+1:Nat):Int) ((p++c::r).length:Int)=r:=by
    rw[Q5,j2,show p++c::r=(p++[c])++r by simp,ah1 (by simp)]
   have top:∀(a d:By->By->Int->Z->Option R),U9 g LF (n+1) [c] (p++c::r) 0 s a d=ydK (g [.s (.str p)] s) λb j=>cond (not b) (d [c] (p++c::r) 0 j) (U9 g LF n [c] r 0 j a d):=λa d=>by
    rw[U9];rw[CI u,D9 l,cond_true,A6,cond_false];simp only[vl,z,A,B,C];rw[I3,cond_true,I3];rfl
   cases k:g [.s (.str p)] s with
   | none=>rw[k] at h;cases h
   | some q=>
    obtain⟨b,j⟩:=q;rw[k] at h top;cases b with
    | false=>
     have:j=i:=by simpa using h
     subst this;exact⟨p++c::r,.inr λa d=>by rw[top];rfl⟩
    | true=>
     simp only at h;obtain⟨o,⟨v,b,e,f⟩|f⟩:=F r n j i (by omega) (by omega) (by omega) h
     ·exact⟨o,.inl ⟨v,b,e,λa d=>by rw[top];exact f a d⟩⟩
     ·exact⟨o,.inr λa d=>by rw[top];exact f a d⟩
def Bn9{Z R:Type}(i:Yh Z)(p t:By)(n:Int)(s g:Z)(h:(A3 t.length&&(p.length==1&&n==0))=true)(m:Ej i ((pcs (p.getD 0 0) t).map λx=>([.s (.str x)]:List PV)) s=some g) :
  ∃d,∀(a:By->By->Int->Z->Option R),Av7 i LF p t n s a=a p d n g:=by
 have l:=C5;simp only[k9,beq_iff_eq] at h;obtain⟨j,k,rfl⟩:=h;obtain⟨c,rfl⟩:=List.length_eq_one_iff.1 k;have o:=L7 j;obtain⟨d,⟨q,b,e,f⟩|f⟩:=Bn8 (R:=R) i c t.length t LF s g (y8 _) o (by omega) m
 ·refine⟨d,λa=>?_⟩;unfold Av7;rw[show(((([c]:By).length:Nat):Int)==0)=false from rfl,cond_false];refine j5 (f _ _) ?_;rw[e];rfl
 ·refine⟨d,λa=>?_⟩;unfold Av7;rw[show(((([c]:By).length:Nat):Int)==0)=false from rfl,cond_false];exact f _ _
end
section
open Go Go.ChangeAt Go.ChangeShapes Go.Proofs Go.RowKit Go.WideShapes
set_option maxRecDepth 100000
def own:ownKnob a8.godebug=none:=by kernel_rfl
def Df8:laidOutB a8=true:=by kernel_rfl
noncomputable def gTy(g:Nat):Nat:=match a8.globals[g]? with|some x=>x.type|none=>0
noncomputable def dbT:Nat:=gTy 5
noncomputable def Dj3:Nat:=gTy 3
noncomputable def WO:Nat:=gTy 2
noncomputable def Dc9:Nat:=gTy 1
noncomputable def WN:Nat:=match a8.underlying WO with|some (.array _ e)=>e|_=>0
noncomputable def AX:Array Field:=match a8.underlying WN with|some (.struct a)=>a|_=>#[]
noncomputable def PZ:Field:=match AX.toList with|a::_=>a|_=>default
noncomputable def QA:Field:=match AX.toList with|_::a::_=>a|_=>default
def Dw4:AX[0]? = some PZ:=by unfold PZ AX WN WO gTy;kernel_rfl
def Dw5:AX[1]? = some QA:=by unfold QA AX WN WO gTy;kernel_rfl
def Ft:List (String × DataW Unit):=[("math/bits.deBruijn32tab", Rows.laid_math_bits_deBruijn32tab), ("math/bits.deBruijn64tab", Rows.laid_math_bits_deBruijn64tab), ("internal/strconv.uint64pow10", Rows.laid_internal_strconv_uint64pow10), ("unicode/utf8.acceptRanges", Rows.laid_unicode_utf8_acceptRanges), ("unicode/utf8.first", Rows.laid_unicode_utf8_first)]
def TJ{W:World}{n:String}{g:Nat}{a:Array Value}(b:a8.globalNamed n=some g)(h:W.var? a8 n=some a):∃e x,W.heap[g]? = some (.cells a e x):=by
 unfold World.var? at h;rw[b,ak8] at h;split at h
 ·rename_i c e x d;simp only[j1] at h;subst h;exact⟨e,x,d⟩
 ·cases h
def DK{W:World}{n:String}{g t e m:Nat}{k:IntKind}{f:List Int}(l:a8.globalNamed n=some g)(d:(a8.globals[g]?).map (·.type)=some t)(w:a8.underlying t=some (.array m e))(v:a8.underlying e=some (.int k))(a:a8.cellsOf e=1)(c:a8.cellsOf t=m)
  (h:ae0 a8 W n (ad8 k f)):∃e x,W.heap[g]? = some (.cells (f.map λz=>o0 k z).toArray e x):=by
 obtain⟨y,A,o,i,p,q,r,j,u⟩:=h;obtain rfl:=o5 (l.symm.trans q);obtain rfl:=o5 (d.symm.trans r);have b:=Lib.cells_of_tab w v a c u;have:o=(f.map λz=>o0 k z).toArray:=by rw[<-b]
 rw[this] at j;exact TJ l j
def OB{H:Type}{enc:TypeId × Value->H}{P:Program}{w:World}{base:Nat}{sp:Nat->Bool}{held:Bool}{a:Nat}{t e:TypeId}{n:Nat}{b:List Value}{d:DataW H}{p:List MemPlace}(f:P.underlying t=some (.array n e))
  (h:al8 enc P w base sp held a t b=some (d,p)):b.length=P.cellsOf t:=by
 cases a with
 | zero=>simp[al8] at h
 | succ a=>
  simp only[al8,f] at h;split at h
  ·rename_i c;simpa using c
  ·cases h
def B27{W:World}(C : a8.globalNamed "unicode/utf8.acceptRanges" = some 2)(h:ae0 a8 W "unicode/utf8.acceptRanges" ah7) :
  ∃e x,W.heap[2]? = some (.cells (Hk.map λz=>o0 .u8 z).toArray e x):=by
 obtain⟨M,t,v,w,p,H,a,y,A⟩:=h;obtain rfl:=o5 (C.symm.trans H);have n:(a8.globals[2]?).map (·.type)=some WO:=by unfold WO;kernel_rfl
 obtain rfl:=o5 (n.symm.trans a);have F:a8.underlying WO=some (.array 16 WN):=by unfold WO WN;kernel_rfl
 have N:=OB F A;have I:a8.cellsOf WO=32:=by unfold WO;kernel_rfl
 have b:a8.cellsOf WN=2:=by unfold WN;kernel_rfl
 have K:∃j,a8.underlying WN=some (.struct j)/\j.size=2/\∀(i:Nat) (f:Field),j[i]? = some f->a8.underlying f.type=some (.int .u8)/\f.offset=i/\a8.cellsOf f.type=1:=by
  refine⟨AX,by unfold WN AX;kernel_rfl,by unfold AX;kernel_rfl,λi f m=>?_⟩;have:i<2:=by
   have:=(af3.1 m).1;rwa [show AX.size=2 by unfold AX;kernel_rfl] at this
  match i,this with
  | 0,_=>
   obtain rfl:=o5 (m.symm.trans (show AX[0]? = some PZ from Dw4));exact⟨by unfold PZ;kernel_rfl,by unfold PZ;kernel_rfl,by unfold PZ;kernel_rfl⟩
  | 1,_=>
   obtain rfl:=o5 (m.symm.trans (show AX[1]? = some QA from Dw5));exact⟨by unfold QA;kernel_rfl,by unfold QA;kernel_rfl,by unfold QA;kernel_rfl⟩
 obtain⟨j,o,r,u⟩:=K;have l:v.toList=Hk.map λz=>o0 .u8 z:=by
  have D:(Hk.map λz=>o0 .u8 z).length=32:=by rw[p9];rfl
  apply List.ext_getElem?;intro q;by_cases J:q<32
  ·obtain⟨k,d,O,c,B⟩:=Lib.array_elem F A (q / 2) (by omega);simp only[ag0,ai8 (show q / 2<16 by omega),x6,j1] at c;subst c;rw[b] at B;have L:=Lib.ints_of_struct o u (by rw[b,r]) B;have e0:=congrArg (·[q % 2]?) L;simp only[ac3,aj1] at e0;rw[R2,show q / 2*2+q % 2=q by omega] at e0;rw[e0];unfold Hk;have G:∀g:Nat->Value,(ae5 g (List.range 32))[q]? = some (g q):=λg=>by
    rw[ag0,ai8 J];rfl
   rw[af1,G];rcases Nat.mod_two_eq_zero_or_one q with a|a
   ·simp[a]
   ·simp[a]
  ·rw[ah3 (by omega),ah3 (by omega)]
 have:v=(Hk.map λz=>o0 .u8 z).toArray:=by rw[<-l]
 rw[this] at y;exact TJ C y
def A78{C:Cfg}(r:C.G=GX){W:World}(b:laidMet a8 Ft W)(p:W.ShapedOpen a8):GOK C (· < W.heap.size) W:=by
 have lt:∀{g:Nat} {o:Obj},W.heap[g]? = some o->g<W.heap.size:=λh=>(af3.1 h).1
 have I:ae0 a8 W "math/bits.deBruijn64tab" (ad8 .u8 (aj7.map λn:Nat=>(n:Int))):=ae3 b (by rw [show (ad8 .u8 (aj7.map λn:Nat=>(n:Int)):DataW Unit)=Rows.laid_math_bits_deBruijn64tab by kernel_rfl];simp [Ft])
 have J:ae0 a8 W "internal/strconv.uint64pow10" (ad8 .u64 an3):=ae3 b (by rw [show (ad8 .u64 an3:DataW Unit)=Rows.laid_internal_strconv_uint64pow10 by kernel_rfl];simp [Ft])
 have K:ae0 a8 W "unicode/utf8.acceptRanges" ah7:=ae3 b (by rw [show ah7=Rows.laid_unicode_utf8_acceptRanges by kernel_rfl];simp [Ft])
 have L:ae0 a8 W "unicode/utf8.first" (ad8 .u8 an1):=ae3 b (by rw [show (ad8 .u8 an1:DataW Unit)=Rows.laid_unicode_utf8_first by kernel_rfl];simp [Ft])
 have y:=DK (g:=5) (t:=dbT) (e:=5) (m:=64) (by kernel_rfl) (by unfold dbT;kernel_rfl) (by unfold dbT;kernel_rfl) (by kernel_rfl) (by kernel_rfl) (by unfold dbT;kernel_rfl) I;have A:=DK (g:=3) (t:=Dj3) (e:=167) (m:=20) (by kernel_rfl) (by unfold Dj3;kernel_rfl) (by unfold Dj3;kernel_rfl) (by kernel_rfl) (by kernel_rfl) (by unfold Dj3;kernel_rfl) J;have B:=B27 (by kernel_rfl) K;have D:=DK (g:=1) (t:=Dc9) (e:=5) (m:=256) (by kernel_rfl) (by unfold Dc9;kernel_rfl) (by unfold Dc9;kernel_rfl) (by kernel_rfl) (by kernel_rfl) (by unfold Dc9;kernel_rfl) L;have F:=cell_of_shapedOpen_int (k:=.i64) (g:=0) (t:=3) (zero:=#[.int .i64 0]) p (of_decide_eq_true (by kernel_rfl)) (by kernel_rfl) rfl (by kernel_rfl) (by kernel_rfl) (by kernel_rfl);refine⟨λg k w h=>?_,λg h=>?_⟩
 ·rw[r] at h;simp only[GX] at h;have key:∀{q:Nat} {v:IntKind} {a:List Int},(∃e x,W.heap[q]? = some (.cells (a.map λz=>o0 v z).toArray e x))->g=q->(v,a)=(k,w)->g<W.heap.size/\∃e x,W.heap[g]? = some (.cells (w.map λz=>o0 k z).toArray e x):=λc G H=>by
   subst G;cases H;obtain⟨e,x,c⟩:=c;exact⟨lt c,e,x,c⟩
  cases d:an7 g 1 with
  | true=>rw[d,cond_true] at h;exact key D (ab3 d) (o5 h)
  | false=>
   rw[d,cond_false] at h;cases f:an7 g 2 with
   | true=>rw[f,cond_true] at h;exact key B (ab3 f) (o5 h)
   | false=>
    rw[f,cond_false] at h;cases i:an7 g 3 with
    | true=>rw[i,cond_true] at h;exact key A (ab3 i) (o5 h)
    | false=>
     rw[i,cond_false] at h;cases j:an7 g 5 with
     | true=>rw[j,cond_true] at h;exact key y (ab3 j) (o5 h)
     | false=>rw[j,cond_false] at h;cases h
 ·rw[r] at h;have e:=ab3 h;subst e;obtain⟨m,u⟩:=F;refine⟨?_,m,u⟩;apply ad1;intro l;simp[ag2,Array.getElem?_eq_none (Nat.le_of_not_lt l)] at u
def CO(os:Os)(args:Array Value):((ad5 a8 os Ft).forCall (λ_ _=>0) ⟨#[],args,[]⟩).Shaped a8:=
 World.shaped_of_ZipB (by kernel_rfl) (by kernel_rfl)
def OR(os:Os)(args:Array Value):laidMetH a8 Ft ((ad5 a8 os Ft).forCall (λ_ _=>0) ⟨#[],args,[]⟩).memory:=by rw[af8 _ _ _ (by kernel_rfl)];exact laidMet_laidAll _ (by kernel_rfl) (by kernel_rfl)
def A91{H:Type}{enc:TypeId × Value->H}{os:Os}(j:os.Started){C:Cfg}(u:C.P=a8)(r:C.G=GX)(Z:XOK C)(W:Pe C){f tb:Nat}{fn:Func}{c:Code}{s:ChangeSpec}{g:List PathCond}{apart fresh handsOn again:Bool}(l:a8.inits.idxOf? f=none)(x:a8.funcs[f]? = some fn)(hb:fn.body=some c)(n:(fn.name == "runtime.NumGoroutine")=false)
  (F:∀t∈fn.params.toList,(a8.readableRec t=true/\t<a8.types.size)/\(Fk a8 20 t).isSome=true) (z:fn.resultTypes = #[tb]) (m:a8.underlying tb=some .bool) (q:s.vars=[])
  (p:∀ds:List (DataW H),ds.length=fn.params.toList.length->s.fn H ds = { results:=[.lit (.bool true)],args:=ds })
  (a:Array Value) (h:Nat) (o:Input.okWideB a8 ((ad5 a8 os Ft).forCall (λ_ _=>0) ⟨#[],a,[]⟩) f ⟨#[],a,[]⟩=true)
  (Qg:s.preB enc a8 fn g apart ((ad5 a8 os Ft).forCall (λ_ _=>0) ⟨#[],a,[]⟩).memory a h=true)
  (J:s.sizedB enc a8 fn apart ((ad5 a8 os Ft).forCall (λ_ _=>0) ⟨#[],a,[]⟩).memory a h=true)
  (D:∀args,Md a8 fn.params.toList args->∃d T,evC C d Unit noY f args [] ()=some (.s (.bool true),T,())) :
  ReturnsInHanded {} ak4 os f .any (λw args=>(s.pre enc a8 fn g apart w args/\laidMetH a8 Ft w)/\sizedMet enc a8 fn (OpenSpec.ofChange s) apart w args) (s.post enc a8 fn apart fresh handsOn again):=by
 obtain⟨P,G,X,R,a0,lf,Q,M,xp,L,N,Y,S,nt,a1⟩:=C;simp only at u r;subst u;refine returnsInHanded_of_calls (C:=ak4) own j l
  (ChangeSpec.witness_shaped (enc:=enc) (C:=ak4) (os:=os) (X:=λw _=>laidMetH a8 Ft w) false (ad5 a8 os Ft) a h (World.laidAll_os _ _ _) (CO os a) o Qg J (OR os a)) ?_
 intro w b i _ I _ o Qg A;obtain⟨_,_,_,B,y,_,_,_,_,Pa⟩:=o;have e:B=fn:=o5 (y.symm.trans x);subst e;obtain⟨⟨⟨ds,U,k,hw,hc⟩,O⟩,hz⟩:=Qg;have K:=DataW.Whole.of_heap (w':=w.forCall b i) (by rfl) hw;have V:laidMet a8 Ft (w.forCall b i):=by
  rw[af8 _ _ _ (by kernel_rfl)] at O;exact laidMet.of_heap (w':=w.forCall b i) (by rfl) O
 refine(Cp4 (apart:=apart) (fresh:=fresh) (handsOn:=handsOn) (again:=again) Z W follows Df8 x hb n F z m q p D (w.forCall b i) (A78 r V I) w.heap.size i.args ds U k Pa K).mono λe W' ⟨v,he,F⟩=>?_
 subst he;exact ChangeSpec.post_blind F
end
section
open Go Go.Proofs
set_option maxRecDepth 100000
section
def TK:B4 a8 GX 234 Kt:=λargs ret a h=>by
 have:M9 (Kt args)=none:=by unfold Kt HP;split<;>rfl
 rw[this] at h;cases h
def Br1:B4 a8 GX 163 UM:=xf [] (A36 LF) UN rfl trivial rfl (by kernel_rfl) follows λargs=>by
 unfold UN;split
 ·rename_i s p;exact λa=>⟨rfl,rfl,rfl,_,_,(Dg8 LF noY () 0 s p).trans (B80 s p a),rfl⟩
 ·trivial
def Ae0:B4 a8 GX 120 HV:=xf [] (A33 LF) UD rfl ⟨Br1,trivial⟩ rfl (by kernel_rfl) follows λargs=>by
 unfold UD;split
 ·rename_i s p;exact λa=>⟨rfl,rfl,rfl,_,_,(De9 LF noY () 0 s p).trans (B59 s p a),rfl⟩
 ·trivial
def C71:B4 a8 GX 232 Az5:=xf [] (A37 LF) UQ rfl trivial rfl (by kernel_rfl) follows λargs=>by
 unfold UQ;split
 ·rename_i s p;exact λa=>⟨rfl,rfl,rfl,_,_,(Dh0 LF noY () 0 s p).trans (B81 s p a),rfl⟩
 ·trivial
def D33:B4 a8 GX 207 Ck8:=xf [] (A34 LF) UE rfl ⟨C71,trivial⟩ rfl (by kernel_rfl) follows λargs=>by
 unfold UE;split
 ·rename_i s p;exact λa=>⟨rfl,rfl,rfl,_,_,(Df1 LF noY () 0 s p).trans (B60 s p a),rfl⟩
 ·trivial
def Dr3:B4 a8 GX 221 Bs4:=xf [] (XJ LF) IF rfl ⟨C71,trivial⟩ rfl (by kernel_rfl) follows λargs=>by
 unfold IF;split
 ·rename_i s p;exact λa=>⟨rfl,rfl,rfl,_,_,(Cu0 LF noY () 0 s p).trans (Ba4 s p a),rfl⟩
 ·trivial
def Dt4:B4 a8 GX 199 Bu2:=xf [] (XW LF) JN rfl ⟨Dr3,trivial⟩ rfl (by kernel_rfl) follows λargs=>by
 unfold JN;split
 ·rename_i s p;exact λa=>⟨rfl,rfl,rfl,_,_,(C38 LF noY () 0 s p).trans (Bo6 s p a),rfl⟩
 ·trivial
def Dq8:B4 a8 GX 158 Bs1:=xf [0,0] (XF LF) IA rfl ⟨Br1,trivial⟩ rfl (by kernel_rfl) follows λargs=>by
 unfold IA;split
 ·rename_i s p;exact λa=>⟨rfl,rfl,rfl,_,_,(Ct2 LF noY () 0 s p).trans (A93 s p a),rfl⟩
 ·trivial
def C62:B4 a8 GX 118 Ay8:=xf [0,0] (A27 LF) TQ rfl ⟨Dq8,trivial⟩ rfl (by kernel_rfl) follows λargs=>by
 unfold TQ;split
 ·rename_i s p;exact λa=>⟨rfl,rfl,rfl,_,_,(Db4 LF noY () 0 s p).trans (B32 s p a),rfl⟩
 ·trivial
def C63:B4 a8 GX 210 Af2:=xf [1] (Ev LF) Zz rfl ⟨TK,C83,Br2,trivial⟩ rfl (by kernel_rfl) follows λargs=>by
 unfold Zz;split
 ·rename_i s p v n;exact λa=>λb=>λc=>λd=>(let⟨r,H,e,q⟩:=Ak8 s p v n a b c d;⟨rfl,rfl,rfl,r,H,(RG LF noY () 0 s p v n).trans e,q⟩)
 ·trivial
def OL:B4 a8 GX 176 Wi:=xf [1] (KL LF) AS rfl ⟨C63,trivial⟩ rfl (by kernel_rfl) follows λargs=>by
 unfold AS;split
 ·rename_i s p;exact λa=>λb=>⟨rfl,rfl,rfl,_,_,(Cg2 LF noY () 0 s p).trans (Aw1 s p a b),rfl⟩
 ·trivial
def C70:B4 a8 GX 116 Az4:=xf [] (Uj LF) UL rfl trivial rfl (by kernel_rfl) follows λargs=>by
 unfold UL;split
 ·rename_i s;exact λa=>⟨rfl,rfl,rfl,_,_,(Dg6 LF noY () 0 s).trans (B78 s a),rfl⟩
 ·trivial
def C64:B4 a8 GX 137 Az0:=xf [] (A31 LF) UB rfl ⟨Ae0,trivial⟩ rfl (by kernel_rfl) follows λargs=>by
 unfold UB;split
 ·rename_i s;exact λa=>⟨rfl,rfl,rfl,_,_,(De6 LF noY () 0 s).trans (B56 s a),rfl⟩
 ·trivial
def Bq8:B4 a8 GX 139 TS:=xf [0,0] (Y1 LF) TT rfl trivial rfl (by kernel_rfl) follows λargs=>by
 unfold TT;split
 ·rename_i s base;exact λa=>λb=>⟨rfl,rfl,rfl,_,_,(Dc5 LF noY () 0 s base).trans (B38 s base a b),rfl⟩
 ·trivial
def Dw0:B4 a8 GX 138 Cl1:=xf [0,0] (Cp0 LF) Az6 rfl ⟨C64,Bq8,trivial⟩ rfl (by kernel_rfl) follows λargs=>by
 unfold Az6;split
 ·rename_i s;exact λa=>⟨rfl,rfl,rfl,_,_,(Dz3 LF noY () 0 s).trans (Cv4 s a),rfl⟩
 ·trivial
def B18:B4 a8 GX 136 UV:=xf [1] (XL LF) IJ rfl ⟨OL,trivial⟩ rfl (by kernel_rfl) follows λargs=>by
 unfold IJ;split
 ·rename_i s;exact λa=>⟨rfl,rfl,rfl,_,_,(Cw3 LF noY () 0 s).trans (Bb9 s a),rfl⟩
 ·trivial
def TM:B4 a8 GX 102 Ri:=xf [] (BG LF) Tk rfl ⟨B18,C64,Dw0,Bq8,trivial⟩ rfl (by kernel_rfl) follows λargs=>by
 unfold Tk;split
 ·rename_i s;exact λa=>⟨rfl,rfl,rfl,_,_,(Bb1 LF noY () 0 s).trans (ZG s a),rfl⟩
 ·trivial
def D37:B4 a8 GX 200 Cl3:=xf [0,0] (Ul LF) UZ rfl ⟨B18,Dw0,trivial⟩ rfl (by kernel_rfl) follows λargs=>by
 unfold UZ;split
 ·rename_i s;exact λa=>⟨rfl,rfl,rfl,_,_,(Dj1 LF noY () 0 s).trans (Ca4 s a),rfl⟩
 ·trivial
def D92:B4 a8 GX 255 Du1:=xf [0,0] (KN LF) A11 rfl ⟨OL,Bq8,C68,trivial⟩ rfl (by kernel_rfl) follows λargs=>by
 unfold A11;split
 ·rename_i s;exact λa=>⟨rfl,rfl,rfl,_,_,(D14 LF noY () 0 s).trans (C54 s a),rfl⟩
 ·trivial
def D91:B4 a8 GX 167 Du0:=xf [] (KM LF) A10 rfl ⟨C68,trivial⟩ rfl (by kernel_rfl) follows λargs=>by
 unfold A10;split
 ·rename_i v;exact λa=>⟨rfl,rfl,rfl,_,_,(D13 LF noY () 0 v).trans (C52 v a),rfl⟩
 ·trivial
def Cj1:B4 a8 GX 111 PT:=xf [] (Dp LF) Tl rfl trivial rfl (by kernel_rfl) follows λargs=>by
 unfold Tl;split
 ·rename_i s;exact λa=>⟨rfl,rfl,rfl,_,_,(Be5 LF noY () 0 s).trans (ZW s a),rfl⟩
 ·trivial
def C79:B4 a8 GX 127 A03:=xf [] (Uo LF) VI rfl trivial rfl (by kernel_rfl) follows λargs=>by
 unfold VI;split
 ·rename_i s;exact λa=>⟨rfl,rfl,rfl,_,_,(Dl1 LF noY () 0 s).trans (Cc6 s a),rfl⟩
 ·trivial
def Rf:B4 a8 GX 76 Ku:=xf [1] (Ho LF) AN rfl trivial rfl (by kernel_rfl) follows λargs=>by
 unfold AN;split
 ·rename_i s c;exact λa=>λb=>(let⟨r,H,e,q⟩:=Ar5 s c a b;⟨rfl,rfl,rfl,r,H,(Cd8 LF noY () 0 s c).trans e,q⟩)
 ·trivial
def D40:B4 a8 GX 153 Cl5:=xf [] (Ke LF) VD rfl trivial rfl (by kernel_rfl) follows λargs=>by
 unfold VD;split
 ·rename_i b;exact λa=>⟨rfl,rfl,rfl,_,_,(Dk1 LF noY () 0 b).trans (Cb5 b a),rfl⟩
 ·trivial
def C80:B4 a8 GX 112 A04:=xf [0,0] (Q4 LF) VK rfl ⟨D40,trivial⟩ rfl (by kernel_rfl) follows λargs=>by
 unfold VK;split
 ·rename_i s;exact λa=>⟨rfl,rfl,rfl,_,_,(Dl3 LF noY () 0 s).trans (Cc7 s a),rfl⟩
 ·trivial
def Ay2:B4 a8 GX 110 IV:=xf [1] (KH LF) AL rfl ⟨Rf,trivial⟩ rfl (by kernel_rfl) follows λargs=>by
 unfold AL;split
 ·rename_i s;exact λa=>⟨rfl,rfl,rfl,_,_,(Cd2 LF noY () 0 s).trans (Aq5 s a),rfl⟩
 ·trivial
def OI:B4 a8 GX 75 Tp:=xf [] (Up LF) Pk rfl ⟨Ay2,Cj1,C80,trivial⟩ rfl (by kernel_rfl) follows λargs=>by
 unfold Pk;split
 ·rename_i s;exact λa=>⟨rfl,rfl,rfl,_,_,(Aq4 LF noY () 0 s).trans (PI s a),rfl⟩
 ·trivial
def Ds4:B4 a8 GX 130 Bt5:=xf [0,0] (Mr LF) IX rfl ⟨Ay2,C80,trivial⟩ rfl (by kernel_rfl) follows λargs=>by
 unfold IX;split
 ·rename_i s;exact λa=>⟨rfl,rfl,rfl,_,_,(Cz9 LF noY () 0 s).trans (Bj8 s a),rfl⟩
 ·trivial
def D39:B4 a8 GX 233 Cl4:=xf [0,0] (Um LF) VC rfl ⟨TL,trivial⟩ rfl (by kernel_rfl) follows λargs=>by
 unfold VC;split
 ·rename_i s;exact λa=>⟨rfl,rfl,rfl,_,_,(Dj9 LF noY () 0 s).trans (Cb4 s a),rfl⟩
 ·trivial
def D44:B4 a8 GX 208 Cl9:=xf [0,0] (Ur LF) VV rfl ⟨Rf,D39,trivial⟩ rfl (by kernel_rfl) follows λargs=>by
 unfold VV;split
 ·rename_i s;exact λa=>⟨rfl,rfl,rfl,_,_,(Dm4 LF noY () 0 s).trans (Ce7 s a),rfl⟩
 ·trivial
def D43:B4 a8 GX 96 Cl8:=xf [] (A42 LF) VU rfl ⟨TL,trivial⟩ rfl (by kernel_rfl) follows λargs=>by
 unfold VU;split
 ·rename_i v;exact λa=>⟨rfl,rfl,rfl,_,_,(Dm2 LF noY () 0 v).trans (Ce5 v a),rfl⟩
 ·trivial
def Cj0:B4 a8 GX 210 AA:=by
 refine B4.fix (pf:=Tj) _ (Dc (C₀:=Ev LF) (N3.ok (l:=[(234,Kt),(235,A06),(179,JH)]) rfl ⟨TK,C83,Br2,trivial⟩) (J2 rfl (by kernel_rfl)) follows ?_);intro args ret f h;unfold Tj at h;split at h
 ·rename_i s p v n;obtain⟨a,h⟩:=C4 h;obtain⟨b,h⟩:=C4 h;obtain⟨c,h⟩:=C4 h;obtain⟨d,h⟩:=C4 h;obtain⟨rfl,rfl⟩:=J6 h;have e:=(RG LF noY () 0 s p v n).trans (LM s p v n a b c d);exact⟨rfl,1,_,[],e,rfl,rfl⟩
 ·cases h
def Cj7:B4 a8 GX 176 PY:=by
 refine B4.fix (pf:=Tv) _ (Dc (C₀:=BL LF) (N3.ok (l:=[(210,AA)]) rfl ⟨Cj0,trivial⟩) (J2 rfl (by kernel_rfl)) follows ?_);intro args ret c h;unfold Tv at h;split at h
 ·rename_i s p;obtain⟨a,h⟩:=C4 h;obtain⟨b,h⟩:=C4 h;obtain⟨rfl,rfl⟩:=J6 h;have e:=(Bo3 LF noY () 0 s p).trans (Ac2 s p a b);exact⟨rfl,1,_,[],e,rfl,rfl⟩
 ·cases h
end
section
def D29:B4 a8 GX 254 Ck4:=xf [0,0] (Aq LF) TX rfl trivial rfl (by kernel_rfl) follows λargs=>by
 unfold TX;split
 ·rename_i s;exact λa=>⟨rfl,rfl,rfl,_,_,(Dd8 LF noY () 0 s).trans (B50 s a),rfl⟩
 ·trivial
def Dq3:B4 a8 GX 240 Br8:=xf [1,0] (Mm LF) HT rfl ⟨OL,D29,D92,trivial⟩ rfl (by kernel_rfl) follows λargs=>by
 unfold HT;split
 ·rename_i s last;exact λa=>(let⟨r,H,e,q⟩:=A77 s last a;⟨rfl,rfl,rfl,r,H,(Cr4 LF noY () 0 s last).trans e,q⟩)
 ·trivial
def D95:B4 a8 GX 219 Du4:=xf [0,0] (DZ LF) A14 rfl ⟨C84,Dq3,trivial⟩ rfl (by kernel_rfl) follows λargs=>by
 unfold A14;split
 ·rename_i s;exact λa=>(let⟨r,H,e,q⟩:=D22 s a;⟨rfl,rfl,rfl,r,H,(D21 LF noY () 0 s).trans e,q⟩)
 ·trivial
def Dt5:B4 a8 GX 204 Bu3:=xf [0,0] (Ad LF) JS rfl trivial rfl (by kernel_rfl) follows λargs=>by
 unfold JS;split
 ·rename_i a b c d e f g h;exact λi=>⟨rfl,rfl,rfl,_,_,(C95 LF noY () 0 a b c d e f g h).trans (Br6 a b c d e f g h i),rfl⟩
 ·trivial
def D94:B4 a8 GX 205 Du3:=xf [] (KO LF) A13 rfl ⟨D28,B22,trivial⟩ rfl (by kernel_rfl) follows λargs=>by
 unfold A13;split
 ·rename_i b a l;exact λc=>λd=>(let⟨r,H,e,q⟩:=D19 b a l c d;⟨rfl,rfl,rfl,r,H,(D18 LF noY () 0 b a l).trans e,q⟩)
 ·trivial
def D93:B4 a8 GX 168 Du2:=xf [] (Cp1 LF) A12 rfl ⟨Dt5,D94,trivial⟩ rfl (by kernel_rfl) follows λargs=>by
 unfold A12;split
 ·rename_i a b c d f g h i;exact λj=>(let⟨r,H,e,q⟩:=D17 a b c d f g h i j;⟨rfl,rfl,rfl,r,H,(D16 LF noY () 0 a b c d f g h i).trans e,q⟩)
 ·trivial
def D41:B4 a8 GX 209 Cl6:=xf [0,0] (Au LF) VF rfl trivial rfl (by kernel_rfl) follows λargs=>by
 unfold VF;split
 ·rename_i s;exact λa=>⟨rfl,rfl,rfl,_,_,(Dk7 LF noY () 0 s).trans (Cb9 s a),rfl⟩
 ·trivial
def Dr7:B4 a8 GX 173 Bs8:=xf [1,0] (T3 LF) IN rfl ⟨Rf,D44,D41,trivial⟩ rfl (by kernel_rfl) follows λargs=>by
 unfold IN;split
 ·rename_i s last;exact λa=>(let⟨r,H,e,q⟩:=Bg6 s last a;⟨rfl,rfl,rfl,r,H,(Cy1 LF noY () 0 s last).trans e,q⟩)
 ·trivial
def Cj2:B4 a8 GX 172 PU:=xf [] (Dq LF) Tm rfl trivial rfl (by kernel_rfl) follows λargs=>by
 unfold Tm;split
 ·rename_i s;exact λa=>⟨rfl,rfl,rfl,_,_,(Be6 LF noY () 0 s).trans (ZY s a),rfl⟩
 ·trivial
def D46:B4 a8 GX 128 Cm1:=xf [0,0] (Av LF) VX rfl ⟨Cj2,Dr7,trivial⟩ rfl (by kernel_rfl) follows λargs=>by
 unfold VX;split
 ·rename_i s;exact λa=>(let⟨r,H,e,q⟩:=Dm9 s a;⟨rfl,rfl,rfl,r,H,(Dm8 LF noY () 0 s).trans e,q⟩)
 ·trivial
def Ds0:B4 a8 GX 132 Bt1:=xf [] (Mp LF) IQ rfl trivial rfl (by kernel_rfl) follows λargs=>by
 unfold IQ;split
 ·rename_i v;exact λa=>⟨rfl,rfl,rfl,_,_,(Cy5 LF noY () 0 v).trans (Bh0 v a),rfl⟩
 ·trivial
def D45:B4 a8 GX 97 Cm0:=xf [] (Z1 LF) VW rfl ⟨Ds0,trivial⟩ rfl (by kernel_rfl) follows λargs=>by
 unfold VW;split
 ·rename_i a b c d e f g h;exact λi=>⟨rfl,rfl,rfl,_,_,(Dm6 LF noY () 0 a b c d e f g h).trans (Ce8 a b c d e f g h i),rfl⟩
 ·trivial
def Ay0:B4 a8 GX 213 Pj:=xf [] (KF LF) AG rfl trivial rfl (by kernel_rfl) follows λargs=>by
 unfold AG;split
 ·rename_i n;exact⟨rfl,rfl,rfl,_,_,(Ca6 LF noY () 0 n).trans (Ao7 n ),rfl⟩
 ·trivial
def Ax9:B4 a8 GX 215 Pi:=xf [] (Y9 LF) AF rfl trivial rfl (by kernel_rfl) follows λargs=>by
 unfold AF;split
 ·rename_i d c f;exact λa=>λb=>λe=>⟨rfl,rfl,rfl,_,_,(B90 LF noY () 0 d c f).trans (An9 d c f a b e),rfl⟩
 ·trivial
def D36:B4 a8 GX 239 Az7:=xf [] (A39 LF) UX rfl trivial rfl (by kernel_rfl) follows λargs=>by
 unfold UX;split
 ·rename_i d;exact λa=>⟨rfl,rfl,rfl,_,_,(Di6 LF noY () 0 d).trans (Ca1 d a),rfl⟩
 ·trivial
def D38:B4 a8 GX 250 Az9:=xf [] (Kd LF) VB rfl trivial rfl (by kernel_rfl) follows λargs=>by
 unfold VB;split
 ·rename_i b;exact λa=>⟨rfl,rfl,rfl,_,_,(Dj7 LF noY () 0 b).trans (Ca9 b a),rfl⟩
 ·trivial
end
section
def C76:B4 a8 GX 238 IK:=by
 refine B4.fix (pf:=VA) _ (Dc (C₀:=A40 LF) (N3.ok (l:=[]) rfl trivial) (J2 rfl (by kernel_rfl)) follows ?_);intro args ret a h;unfold VA at h;split at h
 ·rename_i b;obtain⟨rfl,rfl⟩:=J6 h;have e:=(Dj4 LF noY () 0 b).trans (Ca7 b );exact⟨rfl,1,_,[],e,rfl,rfl⟩
 ·cases h
def B24:DW a8 GX 253 Rj:=by
 refine Gs (C₀:=XM LF) (N3.ok (l:=[]) rfl trivial) (J2 rfl (by kernel_rfl)) follows ?_;intro args H ret f h;unfold Rj at h;split at h
 ·rename_i k b;obtain⟨a,h⟩:=C4 h;obtain⟨c,h⟩:=C4 h;obtain⟨rfl,rfl⟩:=J6 h;refine⟨rfl,rfl,λZ d s=>?_⟩;have e:=(Cw8 LF d s 0 k b).trans (Bd1 k b a c);exact⟨1,_,e,rfl⟩
 ·cases h
def D57:DW a8 GX 214 UU:=by
 refine Gs (C₀:=BH LF) (Wd (lx:=[(238,IK),(239,Az7)]) (ly:=[(253,Rj)]) (ls:=[]) rfl rfl rfl ⟨C76,D36,trivial⟩ ⟨B24,trivial⟩ trivial) (J2 rfl (by kernel_rfl)) follows ?_;intro args H ret f h;unfold UU at h;split at h
 ·rename_i q b z l;obtain⟨a,h⟩:=C4 h;obtain⟨c,h⟩:=C4 h;obtain⟨d,h⟩:=C4 h;obtain⟨rfl,rfl⟩:=J6 h;obtain⟨g,i,e0⟩:=B92 q b z l a c d;exact⟨rfl,rfl,λZ e s=>⟨1,_,(Di2 LF e s 0 q b z l).trans (e0 _ _),rfl⟩⟩
 ·cases h
def C75:B4 a8 GX 181 Az8:=by
 refine B4.fix (pf:=UY) _ (J4 [0,0] (C₀:=R6 LF) (Wd (lx:=[(213,Pj),(215,Pi)]) (ly:=[(214,UU)]) (ls:=[]) rfl rfl rfl ⟨Ay0,Ax9,trivial⟩ ⟨D57,trivial⟩ trivial) (J2 rfl (by kernel_rfl)) follows ?_);intro args ret f h;unfold UY at h;split at h
 ·rename_i b a p;obtain⟨c,h⟩:=C4 h;obtain⟨rfl,rfl⟩:=J6 h;obtain⟨r,H,e,d⟩:=Di8 b a p c;exact⟨rfl,rfl,rfl,1,r,H,(Di7 LF noY () 0 b a p).trans e,d⟩
 ·cases h
end
section
def D56:DW a8 GX 236 TU:=by
 refine Gs (C₀:=BE LF) (Wd (lx:=[(238,IK),(250,Az9)]) (ly:=[(253,Rj)]) (ls:=[]) rfl rfl rfl ⟨C76,D38,trivial⟩ ⟨B24,trivial⟩ trivial) (J2 rfl (by kernel_rfl)) follows ?_;intro args H ret j h;unfold TU at h;split at h
 ·rename_i a n i b c z l;obtain⟨d,h⟩:=C4 h;obtain⟨e,h⟩:=C4 h;obtain⟨f,h⟩:=C4 h;obtain⟨rfl,rfl⟩:=J6 h;obtain⟨k,e0⟩:=B40 a n i b c z l d e f;exact⟨rfl,rfl,λZ g s=>⟨1,_,(Dc6 LF g s 0 a n i b c z l).trans (e0 _ _),rfl⟩⟩
 ·cases h
def C67:B4 a8 GX 133 Af4:=xf [] (Hm LF) AC rfl trivial rfl (by kernel_rfl) follows λargs=>by
 unfold AC;split
 ·rename_i s c;exact λa=>λb=>⟨rfl,rfl,rfl,_,_,(B65 LF noY () 0 s c).trans (Al6 s c a b),rfl⟩
 ·trivial
def B17:B4 a8 GX 98 GC:=xf [] (XE LF) HZ rfl ⟨C67,trivial⟩ rfl (by kernel_rfl) follows λargs=>by
 unfold HZ;split
 ·rename_i s c;exact λa=>λb=>⟨rfl,rfl,rfl,_,_,(Ct1 LF noY () 0 s c).trans (A90 s c a b),rfl⟩
 ·trivial
end
end
section
open Go Go.Proofs Go.Sort
set_option maxRecDepth 100000
def NV{C:Cfg}{Z:Type}{I:Z->(Nat->Prop)->(Nat->Prop)->World->Prop}(J:HI I){f:Ctx}{u:Nat->Prop}{w w':World}{z v1:Bool}{E o r:Nat}{l l' m:LL}{s:Z}(g cap:Nat)(H:List Value)(i:Array Value)
  (P:Qc C E=false) (j:HR f [.arr z E 1 l,.arr v1 o r m] w) (K:I s f.St u w) (M:∀b g,f.nm b=some g->¬u g)
  (d:f.nm 0=some g\/g=w.heap.size) (O:g<w'.heap.size) (e:∀k,k<w.heap.size->f.nm 0≠some k->w'.heap[k]? = w.heap[k]?) (p:w.heap.size<=w'.heap.size) (R:w'.os=w.os) (S:w'.tape=w.tape) (T:w'.output=w.output)
  (n:w'.heap[g]? = some (.cells i E (0,0))) (X:Els f.St w' 1 l' H) (D:l'≠[]) (t:∀q,q<H.length->i[q]? = H[q]?) (Y:H.length<=i.size) (B:l'.length<=cap) (hm:cap<=maxLen) (L:i.size=cap) :
  Eu C I f [.arr z E 1 l,.arr v1 o r m] w u (.fl 0) [.arr z E 1 l',.arr v1 o r m] s (.slice (some ⟨g,0,none⟩) l'.length cap) w':=by
 have x:0<[Blk.arr z E 1 l,.arr v1 o r m].length:=by simp
 have G:(f.re 0 (some g)).nm 0=some g:=by simp[Ctx.re]
 have F:¬Mv C (A5 [Blk.arr z E 1 l,.arr v1 o r m] 0):=by simp[A5,Blk.shp,Mv,P]
 have a:([Blk.arr z E 1 l,.arr v1 o r m].map (Blk.kill 0)).set 0 (.arr z E 1 l')=[.arr z E 1 l',.arr v1 o r m]:=rfl;have N:¬f.St g:=by
  rcases d with h|h
  ·exact(j.lt 0 g h).2.2
  ·intro hs;have:=j.stlt g hs;omega
 obtain⟨U,V,q3⟩:=Aa1 (C:=C) (y:=.arr z E 1 l') (ng:=some g) (w':=w') j x F (λk a=>by
   simp only[j1] at a;subst a;refine⟨O,N,λc t A=>?_⟩;rcases d with h|h
   ·exact t (j.inj c 0 _ A h)
   ·have:=(j.lt c _ A).2.1;omega)
  (λk a=>by
   simp only[j1] at a;subst a;rcases d with h|h
   ·exact .inl h
   ·exact .inr (by omega)) e p R S T
  (BR.els G n X (by rintro⟨_,h⟩;exact D h) t Y) rfl
 rw[a] at U V;refine⟨_,u,U.lift u,V,?_,λc t=>?_,?_,λb W v=>?_⟩
 ·refine .fl 0 g z E 1 l'.length cap rfl (λ_ h=>D (j8.1 h)) G B hm ?_;simp only[ah0,n,L,aa9]
 ·simp only[PV.nms,x9] at t;subst t;simp
 ·refine J.mono s f.St u w f.St w' K (λ_ h=>h) (λk a Q=>(J.foot _ _ _ _ K k Q).2 a) (λk a=>aj2 (j.stlt k a) p) (λk a=>?_) p R S T;rcases a with a|a
  ·exact e k (j.stlt k a) (λh=>(j.lt 0 k h).2.2 a)
  ·exact e k (J.foot _ _ _ _ K k a).1 (λh=>M 0 k h a)
 ·simp only[Ctx.re] at v;split at v
  ·simp only[j1] at v;subst v;rcases d with h|h
   ·exact M 0 _ h
   ·intro Q;have:=(J.foot _ _ _ _ K _ Q).1;omega
  ·exact M b W v
def Da{w:World}{g o e:Nat}{vs:List Value}{a:Array Value}(c:w.heap[g]? = some (.cells a e (0,0)))(f:o+vs.length<=a.size)(l:∀v∈vs,v.oneCell'=true) :
  (w.setCells g o vs).heap[g]? = some (.cells (G5 a.toList o vs).toArray e (0,0))/\(∀k,k≠g->(w.setCells g o vs).heap[k]? = w.heap[k]?)/\(w.setCells g o vs).heap.size=w.heap.size/\(w.setCells g o vs).os=w.os/\(w.setCells g o vs).tape=w.tape/\(w.setCells g o vs).output=w.output:=by
 obtain⟨w',i,m,n,p,q,t,u,_⟩:=O0 (P:=a8) (o:=o) c f l;have b:∀j,j<vs.length->∃v,w.cell? ⟨g,o+0+j,none⟩=some v:=λj d=>by
  refine⟨a[o+j]'(by omega),?_⟩;simp[ag2,c,af5 (show o+j<a.size by omega)]
 have r:=run_storeCells_cells (P:=a8) g o vs 0 w (λj d=>by obtain⟨v,h⟩:=b j d;rw[h];rfl) (λj d=>by simp[ag4,c]) l;rw[r] at i;simp only[an6,Result.ok.injEq,true_and] at i;rw[i];exact⟨m,n,p,q,t,u⟩
def LT{St:Nat->Prop}{w:World}{l:LL}{d:List Value}{i:Nat}{n:Int}(h:Els St w 1 l d)(q:i<=l.length):Els St w 1 (Na l i n) (d.take i++o0 .i64 n::d.drop i):=by
 have c:=h.1;rw[aa9] at c;have m:Els St w 1 (l.take i) (d.take i):=by
  refine⟨by rw[j6,j6,c,aa9],λj f=>?_⟩;rw[j6] at f;rw[List.getElem_take];obtain⟨a,b⟩:=h.2 j (by omega);refine⟨a,λk g=>?_⟩;obtain⟨U,e,v⟩:=b k g;exact⟨U,by rw[aa5 (by omega)];exact e,v⟩
 have o:Els St w 1 [[SV.int .i64 n]] [o0 .i64 n]:=by
  refine⟨rfl,λj f=>?_⟩;have:j=0:=by simpa using f
  subst this;refine⟨rfl,λk g=>?_⟩;have:k=0:=by simpa using g
  subst this;exact⟨_,rfl,.int _ _⟩
 have p:Els St w 1 (l.drop i) (d.drop i):=by
  refine⟨by rw[j0,j0,c,aa9],λj f=>?_⟩;rw[j0] at f;rw[List.getElem_drop];obtain⟨a,b⟩:=h.2 (i+j) (by omega);refine⟨a,λk g=>?_⟩;obtain⟨U,e,v⟩:=b k g;exact⟨U,by rw[aj1];rw[show i+(j*1+k)=(i+j)*1+k by omega];exact e,v⟩
 have:=(m.append o).append p;unfold Na;simpa using this
def LU(l:LL)(i:Nat)(n:Int)(h:i<=l.length):(Na l i n).length=l.length+1:=by unfold Na;rw[j9,j4,j6,j0];omega
def YS(l:LL)(i:Nat)(n:Int):Na l i n≠[]:=by unfold Na;simp
def D58:DW a8 GX 237 WD:=by
 intro C hP hG Z I yh yv hI hy args H s ret Hc G Γ Φ w Vs g0 hH hg hi hd hc hn;unfold WD at G;split at G
 ·rename_i i z l d;obtain⟨h0,G⟩:=C4 G;obtain⟨h1,G⟩:=C4 G;obtain⟨rfl,rfl⟩:=J6 G;obtain⟨i0,i1⟩:=E3.1 h0;obtain⟨i,rfl⟩:=x4 i0;have hl:=ab4 h1;have X:i<=l.length:=by
   have:(i:Int)<((l.length+1:Nat):Int):=i1;omega
  obtain⟨S,X0,V,rfl,hs,hx,hv⟩:=hc.arr3;obtain rfl:=hx.inv_int;have c0:Qc C 3=false:=by
   unfold Qc Cfg.sh;rw[hP];kernel_rfl
  obtain⟨g1,c9,n1,n2,n3,n4,n5⟩:=hH.arr' (b:=1) rfl (by simp);have f4:∃cap,V = .slice (some ⟨g1,0,none⟩) 1 cap:=by
   cases hv with
   | flv _ e sz h=>simp[A5,Blk.shp] at h
   | fl _ g v e sz n cap h e7 y R hm e5=>
    rw[n1] at y;simp only[j1] at y;subst y;simp only[A5,ad9,ac2,x6,Blk.shp,j1,Shp.arr.injEq] at h;obtain⟨_,_,_,h4⟩:=h;subst h4;exact⟨cap,rfl⟩
  obtain⟨A,rfl⟩:=f4;obtain⟨V1,p1,p2⟩:=n5 0 (by simp) 0 (by simp);have p3:V1 = .int .i64 d:=by cases p2;rfl
  subst p3;have t:∀j v,[o0 .i64 d][j]? = some v->w.cell? ⟨g1,0+j,none⟩=some v:=by
   intro j v x;have:j=0:=by
    have:=(af6.1 x).1;simpa using this
   subst this;simp only[ac2,j1] at x;subst x;simpa[ag2,n2] using p1
  have M:∀v∈[o0 .i64 d],v.oneCell'=true:=by simp[Value.oneCell']
  rw[j2];refine Tf (fn:=Tryz.f237) (by kernel_rfl) (by kernel_rfl) (by kernel_rfl) ?_;have B:∀(base:Option Addr) (c:Nat) (f:List Value),l.length<=c->c<l.length+1->f.length=l.length->(base=none->l.length=0)->(∀a,base=some a->∀j v,f[j]? = some v->w.cell? (a.add j)=some v)->Els Γ.St w 1 l f->
    Calls a8 237 #[.slice base l.length c,.int .i64 (l.length:Int),.slice (some ⟨g1,0,none⟩) 1 A] w λe w'=>∃V,e = .returned V/\Eu C I Γ [.arr z 3 1 l,.arr false 3 1 [[SV.int .i64 d]]] w Φ (.fl 0) [.arr z 3 1 (Na l l.length d),.arr false 3 1 [[SV.int .i64 d]]] s V w':=by
   intro base c f a1 a2 a3 a4 a5 a6;refine(Any2.slices_Insert_int_end_grow Tryz.lays2_21 base l.length c g1 0 1 A f [.int .i64 d] w (by omega) a1 a2 (by omega) a3 rfl a4 a5 t M).mono ?_;rintro e w' ⟨rfl,rfl⟩;refine⟨_,rfl,?_⟩;obtain⟨T,b7⟩:=Jl (w:=w) (need:=l.length+1) (cap:=c) (e:=3) (by omega);have hE:=LT (n:=d) a6 (y8 l.length);have d7:f.take l.length++o0 .i64 d::f.drop l.length=f++[o0 .i64 d]:=by
    rw[ae4 (by omega),o8 (by omega)]
   rw[d7] at hE;have r:=LU l l.length d (y8 _);obtain⟨r1,r2⟩:=CB (olds:=f) (Vs:=[o0 .i64 d]) (z:=(o0 .i64 0).cells) (k:=grownCap w (l.length+1) c 3) (n:=l.length) (m:=1) (size:=1) rfl (by omega) rfl T;have c7:(f.toArray++[o0 .i64 d].toArray)=(f++[o0 .i64 d]).toArray:=by simp
   rw[c7] at r1 r2;have key:∀(row:Array Value) (O:Nat),row.size=O->(∀q,q<(f++[o0 .i64 d]).length->row[q]? = (f++[o0 .i64 d])[q]?)->l.length+1<=O->O<=maxLen->
     Eu C I Γ [.arr z 3 1 l,.arr false 3 1 [[SV.int .i64 d]]] w Φ (.fl 0) [.arr z 3 1 (Na l l.length d),.arr false 3 1 [[SV.int .i64 d]]] s (.slice (some ⟨w.heap.size,0,none⟩) (l.length+1) O) (w.drew.alloc (.cells row 3)):=by
    intro row O b1 b2 b3 b4;have D:(w.drew.alloc (.cells row 3)).heap=w.heap.push (.cells row 3):=rfl;have:=NV (C:=C) (w':=w.drew.alloc (.cells row 3)) (l':=Na l l.length d) hI w.heap.size O (f++[o0 .i64 d]) row c0 hH hi hd (.inr rfl) (by rw[D];simp) (λk N _=>I9 D N) (by rw[D];simp) rfl rfl rfl (I8 D) (hE.mono (λg hg=>I9 D (hH.stlt g hg)) (λ_ h=>h)) (YS _ _ _) b2 (by rw[b1,j9,j7];omega) (by rw[r];exact b3) b4 b1;rw[r] at this;exact this
   exact key _ _ (r1.trans (aa9 _)) r2 T b7
  have f8:∀(row:Array Value) (f:List Value),f.length=l.length->i<l.length->l.length+1<=row.size->(∀q,q<i->row[q]? = f[q]?)->
    ∀q,q<(f.take i++o0 .i64 d::f.drop i).length->(G5 (G5 row.toList i [o0 .i64 d]) (i+1) (f.drop i)).toArray[q]? = (f.take i++o0 .i64 d::f.drop i)[q]?:=by
   intro row f a1 a2 a3 a4 q hq;have f2:q<l.length+1:=by
    rw[j9,j4,j6,j0] at hq;omega
   have ht:(f.take i).length=i:=by rw[j6];omega
   have Y:row.toList.length=row.size:=aa7;simp only[ac7];rw[N9 _ _ _ (by rw[D8,j0,Y];omega),N9 _ _ _ (by rw[j7,Y];omega)];by_cases h1:q<i
   ·rw[G0,G0,ad2 (by omega),aa5 h1];simpa using a4 q h1
   ·by_cases h2:q=i
    ·subst h2;rw[G0,if_pos (by rw[j7];omega),z7 (by omega),ht,ak2];rfl
    ·rw[if_pos (by rw[j0];omega),z7 (by omega),ht,show q-i=(q-(i+1))+1 by omega,ad9]
  have P:∀(g c:Nat) (f:List Value),i<l.length->l.length<=c->c<l.length+1->f.length=l.length->(∀j v,f[j]? = some v->w.cell? ⟨g,0+j,none⟩=some v)->(∀v∈f,v.oneCell'=true)->Els Γ.St w 1 l f->
    Calls a8 237 #[.slice (some ⟨g,0,none⟩) l.length c,.int .i64 (i:Int),.slice (some ⟨g1,0,none⟩) 1 A] w λe w'=>∃V,e = .returned V/\Eu C I Γ [.arr z 3 1 l,.arr false 3 1 [[SV.int .i64 d]]] w Φ (.fl 0) [.arr z 3 1 (Na l i d),.arr false 3 1 [[SV.int .i64 d]]] s V w':=by
   intro g c f W a1 a2 a3 a4 a5 a6;refine(Any2.slices_Insert_int_grow Tryz.lays2_21 g 0 l.length c i g1 0 1 A f [.int .i64 d] w W (by omega) a1 a2 (by omega) a3 rfl a4 t a5 M).mono ?_;rintro e w' ⟨rfl,rfl⟩;refine⟨_,rfl,?_⟩;obtain⟨T,b7⟩:=Jl (w:=w) (need:=l.length+1) (cap:=c) (e:=3) (by omega);have hE:=LT (n:=d) a6 X;have r:=LU l i d X;have key:∀(row:Array Value) (O:Nat),row.size=O->(∀q,q<i->row[q]? = f[q]?)->l.length+1<=O->O<=maxLen->
     Eu C I Γ [.arr z 3 1 l,.arr false 3 1 [[SV.int .i64 d]]] w Φ (.fl 0) [.arr z 3 1 (Na l i d),.arr false 3 1 [[SV.int .i64 d]]] s (.slice (some ⟨w.heap.size,0,none⟩) (l.length+1) O) (((w.alloc (.cells row 3)).drew.setCells w.heap.size i [o0 .i64 d]).drew.setCells w.heap.size (i+1) (f.drop i)):=by
    intro row O b1 b2 b3 b4;have D:(w.alloc (.cells row 3)).drew.heap=w.heap.push (.cells row 3):=rfl;obtain⟨c1,c2,c3,c4,c5,c6⟩:=Da (w:=(w.alloc (.cells row 3)).drew) (o:=i) (vs:=[o0 .i64 d]) (I8 D) (by rw[j7];omega) M;generalize f5:(w.alloc (.cells row 3)).drew.setCells w.heap.size i [o0 .i64 d]=w1 at *;have Q:(G5 row.toList i [o0 .i64 d]).toArray.size=O:=by rw[x3,D8];simpa using b1
    obtain⟨d1,d2,d3,d4,d5,d6⟩:=Da (w:=w1.drew) (o:=i+1) (vs:=f.drop i) c1 (by rw[Q,j0];omega) (λv hv=>a5 v (y7 hv));have b0:∀k,k<w.heap.size->(w1.drew.setCells w.heap.size (i+1) (f.drop i)).heap[k]? = w.heap[k]?:=λk N=>by
     rw[d2 k (by omega)];exact(c2 k (by omega)).trans (I9 D N)
    have e6:(w1.drew.setCells w.heap.size (i+1) (f.drop i)).heap.size=w.heap.size+1:=by
     rw[d3];show w1.heap.size=_;rw[c3,D];simp
    have:=NV (C:=C) (w':=w1.drew.setCells w.heap.size (i+1) (f.drop i)) (l':=Na l i d) hI w.heap.size O (f.take i++o0 .i64 d::f.drop i) _ c0 hH hi hd (.inr rfl) (by rw[e6];omega) (λk N _=>b0 k N) (by rw[e6];omega) (d4.trans c4) (d5.trans c5) (d6.trans c6) d1 (hE.mono (λg hg=>b0 g (hH.stlt g hg)) (λ_ h=>h)) (YS _ _ _) (f8 row f a3 W (by omega) b2) (by rw[x3,D8,j9,j4,j6,j0];simp only[x3,D8] at Q ⊢;omega) (by rw[r];exact b3) b4 (by rw[x3,D8];simpa using Q);rw[r] at this;exact this
   have f6:(o0 .i64 0).cells.size=1:=rfl;have ht:(f.take i).length=i:=by rw[j6];omega
   refine key _ _ ?_ (λq hq=>?_) T b7
   ·simp only[aj3,x3,size_zeroCells,f6,aa9,ht];have:l.length+1<=grownCap w (l.length+1) c 3:=T;show i+(l.length+1-i)+(grownCap w (l.length+1) c 3-(l.length+1))=grownCap w (l.length+1) c 3;omega
   ·rw[af2 (by simp only[aj3,x3,ht];omega),af2 (by simp only[x3,ht];omega),ac7,aa5 hq]
  have e8:∀(row:Array Value) (f:List Value),f.length=l.length->i<l.length->l.length+1<=row.size->(∀q,q<i->row[q]? = f[q]?)->
    ∀q,q<(f.take i++o0 .i64 d::f.drop i).length->(G5 (G5 row.toList (i+1) (f.drop i)) i [o0 .i64 d]).toArray[q]? = (f.take i++o0 .i64 d::f.drop i)[q]?:=by
   intro row f a1 a2 a3 a4 q hq;have f2:q<l.length+1:=by
    rw[j9,j4,j6,j0] at hq;omega
   have ht:(f.take i).length=i:=by rw[j6];omega
   have Y:row.toList.length=row.size:=aa7;simp only[ac7];rw[N9 _ _ _ (by rw[D8,j7,Y];omega),N9 _ _ _ (by rw[j0,Y];omega)];by_cases h1:q<i
   ·rw[G0,G0,ad2 (by omega),aa5 h1];simpa using a4 q h1
   ·by_cases h2:q=i
    ·subst h2;rw[if_pos (by rw[j7];omega),z7 (by omega),ht,ak2];rfl
    ·rw[if_neg (by rw[j7];omega),if_pos (by rw[j0];omega),z7 (by omega),ht,show q-i=(q-(i+1))+1 by omega,ad9]
  cases hs with
  | flv _ e2 f7 h'=>
   simp only[A5,ac2,x6,Blk.shp,j1,Shp.arr.injEq] at h';obtain⟨q1,q2,q3,h4⟩:=h';obtain rfl:=j8.1 h4;obtain rfl:i=0:=by simpa using X
   exact B none 0 [] (by simp) (by simp) rfl (λ_=>rfl) (λa h=>by cases h) ⟨rfl,λj x=>by simp at x⟩
  | fl _ g z' e2 f7 n' cap h' e7 y R hm e5=>
   simp only[A5,ac2,x6,Blk.shp,j1,Shp.arr.injEq] at h';obtain⟨rfl,rfl,rfl,rfl⟩:=h';have f1:¬(z=true/\l=[]):=by rintro⟨q1,q2⟩;exact e7 q1 (by rw[q2];rfl)
   obtain⟨g',p,d9,hh,c8,K,d8⟩:=hH.arr' (b:=0) rfl f1;obtain rfl:g=g':=by
    rw[y] at d9;exact o5 d9
   have d0:p.size=cap:=by
    have:=e5;simp only[ah0,hh,j1,am4,true_and,aa9] at this;exact this
   rw[aa9] at c8;have hO:Els Γ.St w 1 l (p.toList.take l.length):=by
    refine⟨by rw[j6,aa7 (xs:=p)];omega,λj x=>⟨K j x,λk N=>?_⟩⟩;obtain⟨U,e1,u⟩:=d8 j x k N;refine⟨U,?_,u⟩;have f9:k<1:=by rw[<-K j x];exact N
    rw[ac3,R2];simpa using e1
   have F:(p.toList.take l.length).length=l.length:=by rw[j6,aa7 (xs:=p)];omega
   have J:∀j v,(p.toList.take l.length)[j]? = some v->w.cell? ⟨g,0+j,none⟩=some v:=by
    intro j v x;have a7:j<l.length:=by
     have:=(af6.1 x).1;omega
    rw[ac3,if_pos a7] at x;simpa[ag2,hh] using x
   have b5:∀v∈p.toList.take l.length,v.oneCell'=true:=by
    intro v hv;obtain⟨j,x,rfl⟩:=List.getElem_of_mem hv;have a7:j<l.length:=by omega
    obtain⟨_,u⟩:=hO.2 j a7;obtain⟨U,e1,u2⟩:=u 0 (by rw[K j a7];exact Nat.one_pos);rw[aa9,an6,ac0 x] at e1;cases e1;exact u2.oneCell
   have r:=LU l i d X;have hE:=LT (n:=d) hO X;have a0:∀j,j<cap->(w.cell? ⟨g,j,none⟩).isSome=true:=by
    intro j x;simp only[ag2,hh];rw[af5 (by omega)];rfl
   have a9:∀j,w.frozen? ⟨g,j,none⟩=false:=λj=>by simp[ag4,hh]
   have e4:g1≠g:=λe=>by
    have:=hH.inj 1 0 g (by rw[<-e];exact n1) y;omega
   have e3:cap<=9223372036854775807:=by
    simp only[maxLen] at hm;omega
   by_cases L:l.length+1<=cap
   ·have key:∀(w':World) (row:List Value),w'.heap[g]? = some (.cells row.toArray 3 (0,0))->(∀k,k≠g->w'.heap[k]? = w.heap[k]?)->w'.heap.size=w.heap.size->w'.os=w.os->w'.tape=w.tape->w'.output=w.output->row.length=cap->
      (∀q,q<((p.toList.take l.length).take i++o0 .i64 d::(p.toList.take l.length).drop i).length->row.toArray[q]? = ((p.toList.take l.length).take i++o0 .i64 d::(p.toList.take l.length).drop i)[q]?)->
      Eu C I Γ [.arr z 3 1 l,.arr false 3 1 [[SV.int .i64 d]]] w Φ (.fl 0) [.arr z 3 1 (Na l i d),.arr false 3 1 [[SV.int .i64 d]]] s (.slice (some ⟨g,0,none⟩) (l.length+1) cap) w':=by
     intro w' row k1 k2 k3 k4 k5 k6 k7 k8;have e9:¬ Γ.St g:=(hH.lt 0 g y).2.2;have:=NV (C:=C) (w':=w') (l':=Na l i d) hI g cap ((p.toList.take l.length).take i++o0 .i64 d::(p.toList.take l.length).drop i) row.toArray c0 hH hi hd (.inl y) (by rw[k3];exact(hH.lt 0 g y).2.1) (λk N f0=>k2 k (λe=>f0 (e▸y))) (by omega) k4 k5 k6 k1
      (hE.mono (λk N=>k2 k (λe=>e9 (e▸N))) (λ_ h=>h)) (YS _ _ _) k8
      (by rw[x3,k7,j9,j4,j6,j0,F];omega) (by rw[r];exact L) hm (by rw[x3,k7])
     rw[r] at this;exact this
    by_cases b6:i=l.length
    ·subst b6;refine(Any2.slices_Insert_int_end_room Tryz.lays2_21 g 0 l.length cap g1 0 1 A [.int .i64 d] w (by omega) L e3 rfl (λj x=>a0 _ (by omega)) (λj x=>a9 _) t M).mono ?_;rintro e w' ⟨rfl,rfl⟩;refine⟨_,rfl,?_⟩;obtain⟨c1,c2,c3,c4,c5,c6⟩:=Da (w:=w) (o:=0+l.length) (vs:=[o0 .i64 d]) hh (by rw[j7];omega) M;refine key _ _ c1 c2 c3 c4 c5 c6 (by rw[D8];simpa using d0) (λq hq=>?_);rw[ae4 (by omega),o8 (by omega)] at hq ⊢;rw[j9,F,j7] at hq;simp only[ac7];rw[N9 _ _ _ (by rw[j7,aa7 (xs:=p)];omega)];by_cases f3:q<l.length
     ·rw[G0,ad2 (by omega),ac3,if_pos f3]
     ·obtain rfl:q=l.length:=by omega
      rw[if_pos (by rw[j7];omega),z7 (by omega),F];simp
    ·have W:i<l.length:=by omega
     refine(Any2.slices_Insert_int_shift Tryz.lays2_21 g 0 l.length cap i g1 0 1 A (p.toList.take l.length) [.int .i64 d] w W (by omega) L e3 e4 F rfl J (λj x=>a0 _ (by omega)) (λj x=>a9 _) t b5 M 3 3 c9.size p.size (by simp[ah0,n2]) (by simp[ah0,hh]) (by omega) (by simp[ag4,n2]) (by simp[ag4,n2])).mono ?_;rintro e w' ⟨rfl,rfl⟩;refine⟨_,rfl,?_⟩;obtain⟨c1,c2,c3,c4,c5,c6⟩:=Da (w:=w.drew) (o:=0+(i+1)) (vs:=(p.toList.take l.length).drop i) hh (by rw[j0,F];omega) (λv hv=>b5 v (y7 hv));generalize f5:w.drew.setCells g (0+(i+1)) ((p.toList.take l.length).drop i)=w1 at *;have Q:(G5 p.toList (0+(i+1)) ((p.toList.take l.length).drop i)).toArray.size=cap:=by rw[x3,D8];simpa using d0
     obtain⟨d1,d2,d3,d4,d5,d6⟩:=Da (w:=w1) (o:=0+i) (vs:=[o0 .i64 d]) c1 (by rw[Q,j7];omega) M;refine key _ _ d1 (λk N=>(d2 k N).trans (c2 k N)) (d3.trans c3) (d4.trans c4) (d5.trans c5) (d6.trans c6) (by rw[D8];simpa using Q) ?_;rw[ak3,ak3];exact e8 p _ F W (by omega) (λq hq=>by rw[ac3,R2];simp)
   ·by_cases b6:i=l.length
    ·subst b6;exact B (some ⟨g,0,none⟩) cap (p.toList.take l.length) R (by omega) F (λh=>by cases h) (λa h j v x=>by
      obtain rfl:=o5 h;rw[N5];exact J j v x) hO
    ·exact P g cap _ (by omega) R (by omega) F J b5 hO
 ·cases G
end
section
open Go Go.Proofs
set_option maxRecDepth 100000
section
def Dt6:DW a8 GX 212 GB:=by
 refine Gs (C₀:=XA LF) (Wd (lx:=[(215,Pi),(213,Pj)]) (ly:=[(236,TU),(237,WD)]) (ls:=[]) rfl rfl rfl ⟨Ax9,Ay0,trivial⟩ ⟨D56,D58,trivial⟩ trivial) (J2 rfl (by kernel_rfl)) follows ?_;intro args H ret o h;unfold GB at h;split at h
 ·rename_i a n i b c z l;obtain⟨d,h⟩:=C4 h;obtain⟨f,h⟩:=C4 h;obtain⟨g,h⟩:=C4 h;obtain⟨j,h⟩:=C4 h;obtain⟨k,h⟩:=C4 h;obtain⟨rfl,rfl⟩:=J6 h;refine⟨rfl,rfl,λZ m s=>?_⟩;have e:=(Cq0 LF m s 0 a n i b c z l).trans (A61 a n i b c z l d f g j k);exact⟨1,_,e,rfl⟩
 ·cases h
def D35:B4 a8 GX 180 Cl2:=by
 refine B4.fix (pf:=UW) _ (J4 [1,0] (C₀:=Ar LF) (Wd (lx:=[(98,GC)]) (ly:=[(212,GB)]) (ls:=[]) rfl rfl rfl ⟨B17,trivial⟩ ⟨Dt6,trivial⟩ trivial) (J2 rfl (by kernel_rfl)) follows ?_);intro args ret c h;unfold UW at h;split at h
 ·rename_i s;obtain⟨a,h⟩:=C4 h;obtain⟨rfl,rfl⟩:=J6 h;obtain⟨r,H,e,b⟩:=Di4 s a;exact⟨rfl,rfl,rfl,1,r,H,(Di3 LF noY () 0 s).trans e,b⟩
 ·cases h
end
end
section
open Go Go.Proofs Go.Sort
set_option maxRecDepth 100000
def C92:B4 a8 GX 222 Ag3:=by
 refine B4.fix (pf:=AV) _ (J3 (fn:=Tryz.f222) (by kernel_rfl) (by kernel_rfl) (by kernel_rfl) ?_);intro args ret l h;unfold AV at h;split at h
 ·rename_i s;obtain⟨b,h⟩:=C4 h;obtain⟨rfl,rfl⟩:=J6 h;refine⟨rfl,rfl,λC n a o w m c g f=>?_⟩;obtain⟨U,rfl,j⟩:=f.arr1;obtain⟨k,rfl,rfl⟩:=j.inv_str;have i:=L7 b;refine(Any.utf8_ValidString Tryz.lays196 k w (by simp at i;omega) (Dd5 c a)).mono ?_;rintro e w' ⟨rfl,d⟩;rw[<-Bq4];exact⟨_,rfl,d,VP.mk_bool _⟩
 ·cases h
def C89:B4 a8 GX 223 Ag1:=by
 refine B4.fix (pf:=AT) _ (J3 (fn:=Tryz.f223) (by kernel_rfl) (by kernel_rfl) (by kernel_rfl) ?_);intro args ret j h;unfold AT at h;split at h
 ·rename_i s;obtain⟨a,h⟩:=C4 h;obtain⟨rfl,rfl⟩:=J6 h;refine⟨rfl,rfl,λC m b n w k l d c=>?_⟩;obtain⟨U,rfl,g⟩:=c.arr1;obtain⟨i,rfl,rfl⟩:=g.inv_str;have f:=L7 a;refine(Any.utf8_RuneCountInString Tryz.lays195 i w (by simp at f;omega)).mono ?_;rintro e w' ⟨rfl,pos,rfl⟩;rw[Lib.runeCountL_eq];exact⟨_,rfl,A21 _ _ _,VP.mk_int _ _⟩
 ·cases h
def Dq1:B4 a8 GX 178 Wf:=λargs ret a h=>by
 have:M9 (Wf args)=none:=by unfold Wf Af0;split<;>rfl
 rw[this] at h;cases h
def Dt7:Br7 a8 GX 177 GD:=by
 refine Au6 (C₀:=Bg LF) ((N3.ok (l:=[(178,Wf),(179,JH)]) rfl ⟨Dq1,Br2,trivial⟩)) (J2 rfl (by kernel_rfl)) follows ?_;intro args H L h Z a s d c;unfold GD at h;split at h
 ·rename_i p t n;simp only[j1,am4] at h;obtain⟨b,rfl⟩:=h;obtain⟨e,f⟩:=Bn9 (R:=PV × List Blk × Z) a p t n s d b c;exact⟨1,_,(C23 LF a 0 p t n s).trans (f _)⟩
 ·cases h
end
section
open Go Go.Proofs
set_option maxRecDepth 100000
section
def Dq9:B4 a8 GX 141 Bs2:=xf [] (Mn LF) IB rfl ⟨D35,C75,trivial⟩ rfl (by kernel_rfl) follows λargs=>by
 unfold IB;split
 ·rename_i s;exact λa=>⟨rfl,rfl,rfl,_,_,(Ct4 LF noY () 0 s).trans (Ba1 s a),rfl⟩
 ·trivial
def C72:B4 a8 GX 104 UR:=xf [] (Uk LF) US rfl ⟨C62,Dq9,trivial⟩ rfl (by kernel_rfl) follows λargs=>by
 unfold US;split
 ·rename_i s;exact λa=>⟨rfl,rfl,rfl,_,_,(Dh2 LF noY () 0 s).trans (B83 s a),rfl⟩
 ·trivial
def D34:B4 a8 GX 201 Cl0:=xf [0,0] (Px LF) UK rfl ⟨C92,C89,C70,C75,C72,trivial⟩ rfl (by kernel_rfl) follows λargs=>by
 unfold UK;split
 ·rename_i s;exact λa=>(let⟨r,H,e,q⟩:=Dg0 s a;⟨rfl,rfl,rfl,r,H,(Df9 LF noY () 0 s).trans e,q⟩)
 ·trivial
def D32:B4 a8 GX 220 Ck7:=xf [] (Kc LF) UA rfl trivial rfl (by kernel_rfl) follows λargs=>by
 unfold UA;split
 ·rename_i b;exact λa=>⟨rfl,rfl,rfl,_,_,(De4 LF noY () 0 b).trans (B54 b a),rfl⟩
 ·trivial
def D31:B4 a8 GX 198 Ck6:=xf [0,0] (Ui LF) TZ rfl ⟨D32,trivial⟩ rfl (by kernel_rfl) follows λargs=>by
 unfold TZ;split
 ·rename_i s;exact λa=>(let⟨r,H,e,q⟩:=De2 s a;⟨rfl,rfl,rfl,r,H,(De1 LF noY () 0 s).trans e,q⟩)
 ·trivial
def Dq4:B4 a8 GX 197 Br9:=xf [0,0] (XB LF) HU rfl ⟨D95,trivial⟩ rfl (by kernel_rfl) follows λargs=>by
 unfold HU;split
 ·rename_i s;exact λa=>λb=>(let⟨r,H,e,q⟩:=Cr6 s a b;⟨rfl,rfl,rfl,r,H,(Cr5 LF noY () 0 s).trans e,q⟩)
 ·trivial
def C66:B4 a8 GX 164 Af3:=xf [0,0] (Hl LF) AB rfl ⟨Ae0,Dq4,D31,Dt4,TM,D37,Cj7,D34,B22,trivial⟩ rfl (by kernel_rfl) follows λargs=>by
 unfold AB;split
 ·rename_i s;exact λa=>(let⟨r,H,e,q⟩:=B58 s a;⟨rfl,rfl,rfl,r,H,(B57 LF noY () 0 s).trans e,q⟩)
 ·trivial
def Dr1:B4 a8 GX 140 UP:=by
 refine B4.fix (pf:=ID) _ (Dc (C₀:=XH LF) (N3.ok (l:=[]) rfl trivial) (J2 rfl (by kernel_rfl)) follows ?_);intro args ret a h;unfold ID at h;split at h
 ·rename_i t p n;obtain⟨rfl,rfl⟩:=J6 h;have e:=(Ct8 LF noY () 0 t p n).trans (Ba2 t p n );exact⟨rfl,1,_,[],e,rfl,rfl⟩
 ·cases h
def D48:B4 a8 GX 103 A08:=by
 refine B4.fix (pf:=WF) _ (Dc (C₀:=A43 LF) (N3.ok (l:=[(140,UP)]) rfl ⟨Dr1,trivial⟩) (J2 rfl (by kernel_rfl)) follows ?_);intro args ret a h;unfold WF at h;split at h
 ·rename_i t p;obtain⟨rfl,rfl⟩:=J6 h;have e:=(Dn4 LF noY () 0 t p).trans (Cg1 t p );exact⟨rfl,1,_,[],e,rfl,rfl⟩
 ·cases h
def Dv9:B4 a8 GX 65 Ck9:=by
 refine B4.fix (pf:=Az2) _ (J4 [] (C₀:=Pw LF) (Wd (lx:=[(102,Ri),(103,A08),(104,UR)]) (ly:=[]) (ls:=[(177,GD)]) rfl rfl rfl ⟨TM,D48,C72,trivial⟩ trivial ⟨Dt7,trivial⟩) (J2 rfl (by kernel_rfl)) follows ?_);intro args ret c h;unfold Az2 at h;split at h
 ·rename_i s;obtain⟨a,h⟩:=C4 h;obtain⟨rfl,rfl⟩:=J6 h;obtain⟨r,H,e,b⟩:=Dy3 s a;exact⟨rfl,rfl,rfl,1,r,H,(Dy2 LF noY () 0 s).trans e,b⟩
 ·cases h
def Br0:B4 a8 GX 39 UF:=xf [] (A35 LF) UG rfl ⟨Dv9,trivial⟩ rfl (by kernel_rfl) follows λargs=>by
 unfold UG;split
 ·rename_i j k v4 a b c d f g h i;exact λl=>λm=>λn=>(let⟨r,H,e,q⟩:=Bw5 j k v4 a b c d f g h i l m n;⟨rfl,rfl,rfl,r,H,(Df2 LF noY () 0 j k v4 a b c d f g h i).trans e,q⟩)
 ·trivial
def C65:B4 a8 GX 122 Az1:=xf [] (A32 LF) UC rfl ⟨Br0,D91,D93,trivial⟩ rfl (by kernel_rfl) follows λargs=>by
 unfold UC;split
 ·rename_i j k v4 a b c d f g h i;exact λl=>λm=>λn=>(let⟨r,H,e,q⟩:=Bw4 j k v4 a b c d f g h i l m n;⟨rfl,rfl,rfl,r,H,(De8 LF noY () 0 j k v4 a b c d f g h i).trans e,q⟩)
 ·trivial
def D30:B4 a8 GX 170 Ck5:=xf [] (A30 LF) TY rfl ⟨Dv9,D33,trivial⟩ rfl (by kernel_rfl) follows λargs=>by
 unfold TY;split
 ·rename_i p s;exact λa=>λb=>⟨rfl,rfl,rfl,_,_,(De0 LF noY () 0 p s).trans (B52 p s a b),rfl⟩
 ·trivial
end
end
section
open Go
structure P7 where
 sch:By
 user:By
 host:B5
 port:Int
 rest:By
def Y6:P7:=⟨[],[],L8,0,[]⟩
def W5:By:=[104,116,116,112]
def U6:By:=[104,116,116,112,115]
def bWs:By:=[119,115]
def Kz:By:=[119,115,115]
def P4(s:By):Int:=if s==W5||s==bWs then 80 else if s==U6||s==Kz then 443 else -1
def F3(s:By):Bool:=s==W5||s==bWs||(s==U6||s==Kz)
def N0(s:By):Bool:=s==W5||s==bWs
def ctl(b:UInt8):Bool:=p7 b.toNat 32||b==127
def Q8(b:UInt8):Bool:=(p7 97 b.toNat&&p7 b.toNat 122)||(p7 65 b.toNat&&p7 b.toNat 90)
def L6(b:UInt8):Bool:=Q8 b||(p7 48 b.toNat&&p7 b.toNat 57)||b==43||b==45||b==46
def T8:By->Bool
 | []=>false
 | b::r=>Q8 b&&r.all L6
def M6(b:UInt8):Bool:=b==47||b==63||b==35
def I6(s:By):Nat:=(s.takeWhile λb=>!M6 b).length
def Hz(c:UInt8):By->Option Nat
 | []=>none
 | b::r=>if b=c then some 0 else (Hz c r).map (· + 1)
def Ic:Int->By->Option Int
 | n,[]=>if n<65536 then some n else none
 | n,b::r=>if 48<=b.toNat/\b.toNat<=57 then Ic (min (10*max n 0+((b.toNat-48:Nat):Int)) 65536) r else none
def Fc(a:By):Option (By × By):=
 if a.head? = some 91 then (match Hz 93 a with
  | some k=>some (a.take (k+1),a.drop (k+1))
  | none=>none)
 else match Hz 58 a with
  | some k=>some (a.take k,a.drop k)
  | none=>some (a,[])
def N6(c user b:By)(a:By):P7 × Nat:=
 match Fc a with
 | none=>(Y6,4)
 | some (name,tail)=>
  if tail≠[]/\tail.head?≠some 58 then (Y6,4)
  else if (C3 name).2≠0 then (Y6,(C3 name).2)
  else match Ic (-1) (tail.drop 1) with
   | none=>(Y6,16)
   | some p=>(⟨c,user,(C3 name).1,if p=P4 c then -1 else p,b⟩,0)
def G6(c b a:By):P7 × Nat:=
 if 0<=L2 64 a then N6 c (a.take (L2 64 a).toNat) b (a.drop ((L2 64 a).toNat+1)) else N6 c [] b a
def R0(r:By):By:=if r.head? = some 47 then r else 47::r
def C0(s:By):P7 × Nat:=
 if s.any ctl then (Y6,4)
 else if !(x7 s [58]).2.2||!T8 (x7 s [58]).1 then (Y6,15)
 else if !F3 (B6 (x7 s [58]).1) then (⟨B6 (x7 s [58]).1,[],L8,-1,(x7 s [58]).2.1⟩,0)
 else if !([47,47]:By).isPrefixOf (x7 s [58]).2.1 then (Y6,4)
 else G6 (B6 (x7 s [58]).1) (R0 (((x7 s [58]).2.1.drop 2).drop (I6 ((x7 s [58]).2.1.drop 2)))) (((x7 s [58]).2.1.drop 2).take (I6 ((x7 s [58]).2.1.drop 2)))
def B3(s:By):P7 × Nat:=if 2048<s.length then (Y6,3) else C0 s
def V3(p:Int):By:=if p<0 then 45::v8 (-p).toNat else v8 p.toNat
def Ky(u:P7):By:=(if u.user=[] then [] else u.user++[64])++(S8 u.host++(if u.port=-1 then [] else 58::V3 u.port))
def U0(u:P7):By:=if F3 u.sch then u.sch++58::47::47::(Ky u++u.rest) else u.sch++58::u.rest
def Fw(u:P7):By:=if u.port < -1 then (if F3 u.sch then u.sch++58::47::47::(((if u.user=[] then [] else u.user++[64])++(S8 u.host++[58,120]))++u.rest) else u.sch++58::u.rest) else U0 u
def upU(u:P7):P7:=if N0 u.sch then { u with sch:=if u.sch==W5 then U6 else Kz,port:=if u.port=443 then -1 else u.port } else u
def Cu4(b:Int)(c:By)(v4:Int)(a:List Nat):B5:=⟨if ltN b 4 then b.toNat else 4,c,v4.toNat,a⟩
def mkU(f g:By)(b:Int)(c:By)(v4:Int)(a:List Nat)(d:Int)(e:By):P7:=⟨f,g,Cu4 b c v4 a,d,e⟩
def smU(c d a b:By):Bool:=p7 c.length 100000000&&p7 d.length 100000000&&p7 a.length 100000000&&p7 b.length 100000000
def eqH(a b:B5):Bool:=a.kind==b.kind&&a.name==b.name&&a.v4==b.v4&&a.v6==b.v6
def eqU(a b:P7):Bool:=a.sch==b.sch&&a.user==b.user&&eqH a.host b.host&&a.port==b.port&&a.rest==b.rest
def P2(u:P7):Bool:=(C0 (U0 u)).2==0&&eqU (C0 (U0 u)).1 u
def Fq(u:P7):By:=if P2 u then U0 u else []
def prt(b:By)(a:Int):Int:=if a==-1 then P4 b else a
def upS(a:By):By:=if a==W5 then U6 else if a==bWs then Kz else a
def upP(b:By)(a:Int):Int:=if N0 b&&a==443 then -1 else a
def FY:By->Int
 | s=>let rec go:Int->By->Int
   | n,[]=>n
   | n,b::r=>if 48<=b.toNat/\b.toNat<=57 then go (min (10*max n 0+((b.toNat-48:Nat):Int)) 65536) r else 0
  go (-1) s
def S7(s t:By):Nat:=(s.takeWhile λb=>!t.contains b).length
def Ei(s:By):By × By × Bool:=if (x7 s [58]).2.2&&T8 (x7 s [58]).1 then (B6 (x7 s [58]).1,(x7 s [58]).2.1,true) else ([],[],false)
def isl:By:=[47,63,35]
def CJ(p:By):Bool:=p==isl
def OF(r:Int):Bool:=ltN r 55296||(ltI 57343 r&&ltN r 1114112)
def irn(r:Int):Int:=if r=47 then 0 else if r=63 then 1 else if r=35 then 2 else -1
def Q1(n:Int):Bool:=ltN (n+9223372036854775808) 18446744073709551616
abbrev uS(p:P7 × Nat):By:=p.1.sch
abbrev uU(p:P7 × Nat):By:=p.1.user
abbrev uK(p:P7 × Nat):Int:=p.1.host.kind
abbrev uN(p:P7 × Nat):By:=p.1.host.name
abbrev uV(p:P7 × Nat):Int:=p.1.host.v4
abbrev uA(p:P7 × Nat)(i:Nat):Int:=(p.1.host.v6.getD i 0:Nat)
abbrev uP(p:P7 × Nat):Int:=p.1.port
abbrev uR(p:P7 × Nat):By:=p.1.rest
abbrev uE(p:P7 × Nat):Int:=p.2
def OP(s:By):decide (0<P4 s)=F3 s:=by
 unfold P4 F3;cases (s==W5||s==bWs) with
 | true=>rfl
 | false=>cases (s==U6||s==Kz)<;>rfl
def PN{s:By}(h:F3 s=true):s=W5\/s=bWs\/s=U6\/s=Kz:=by simp only[F3,ac4,beq_iff_eq] at h;rcases h with(h|h)|(h|h)<;>simp[h]
def RL{c:UInt8}:∀{s:By},c∉s->Hz c s=none
 | [],_=>rfl
 | b::r,h=>by
  simp only[p5,not_or] at h;rw[Hz,if_neg (ag9 h.1),RL h.2];rfl
def Xp{c:UInt8}:∀{p:By} (r:By),c∉p->Hz c (p++c::r)=some p.length
 | [],r,_=>by rw[aa2,Hz,if_pos rfl];rfl
 | b::p,r,h=>by
  simp only[p5,not_or] at h;rw[ab2,Hz,if_neg (ag9 h.1),Xp r h.2];rfl
def Rw{c:UInt8}:∀{s:By} {k:Nat},Hz c s=some k->∃p r,s=p++c::r/\c∉p/\p.length=k
 | [],k,h=>by cases h
 | b::s,k,h=>by
  rw[Hz] at h;split at h
  ·rename_i a;obtain rfl:=o5 h;exact⟨[],s,by rw[a];rfl,by simp,rfl⟩
  ·rename_i a;cases d:Hz c s with
   | none=>rw[d] at h;cases h
   | some j=>
    rw[d] at h;obtain rfl:=o5 h;obtain⟨p,r,rfl,e,rfl⟩:=Rw d;exact⟨b::p,r,rfl,by simp only[p5,not_or];exact⟨ag9 a,e⟩,rfl⟩
def Nd{c:UInt8}:∀{s:By},c∉s->L2 c s=-1
 | [],_=>rfl
 | b::r,h=>by
  simp only[p5,not_or] at h;rw[L2,Nd h.2,if_pos (by decide),if_neg (ag9 h.1)]
def Rx{c:UInt8}:∀(p:By) {r:By},c∉r->L2 c (p++c::r)=(p.length:Int)
 | [],r,h=>by rw[aa2,L2,Nd h,if_pos (by decide),if_pos rfl];rfl
 | b::p,r,h=>by
  rw[ab2,L2,Rx p h,G0,j4];omega
def CQ{c:UInt8}:∀{s:By},c∈s->∃p r,s=p++c::r/\c∉r
 | [],h=>by cases h
 | b::s,h=>by
  by_cases a:c∈s
  ·obtain⟨p,r,rfl,d⟩:=CQ a;exact⟨b::p,r,rfl,d⟩
  ·simp only[p5,a,or_false] at h;subst h;exact⟨[],s,rfl,a⟩
def LY{c:UInt8}{s:By}(h:0<=L2 c s):∃p r,s=p++c::r/\c∉r/\L2 c s=(p.length:Int):=by
 by_cases b:c∈s
 ·obtain⟨p,r,rfl,a⟩:=CQ b;exact⟨p,r,rfl,a,Rx p a⟩
 ·rw[Nd b] at h;omega
def Cf9{p:By}{r:By}(h:∀b∈p,M6 b=false)(d:∀b,r.head? = some b->M6 b=true):I6 (p++r)=p.length:=by
 unfold I6;have a:r.takeWhile (λb=>!M6 b)=[]:=by
  cases r with
  | nil=>rfl
  | cons b t=>rw[ae9,d b rfl];rfl
 rw[List.takeWhile_append_of_pos (λb c=>by rw[h b c];rfl),a,ab5]
def Bn4(s:By):∀b∈s.take (I6 s),M6 b=false:=by
 intro b a;have h:s.take (I6 s)=s.takeWhile λb=>!M6 b:=by
  unfold I6;exact(List.prefix_iff_eq_take.1 (List.takeWhile_prefix _)).symm
 rw[h] at a;have:∀l:By,b∈l.takeWhile (λb=>!M6 b)->M6 b=false:=by
  intro l
  induction l with
  | nil=>intro h;cases h
  | cons x l d=>
   intro h;rw[ae9] at h;split at h
   ·rename_i c;rcases p5.1 h with rfl|h
    ·simpa using c
    ·exact d h
   ·cases h
 exact this s a
def V8{b:UInt8}:Q8 b=true↔(97<=b.toNat/\b.toNat<=122)\/(65<=b.toNat/\b.toNat<=90):=by simp[Q8,w9]
def Wq{b:UInt8}:ctl b=true↔b.toNat<=32\/b.toNat=127:=by
 unfold ctl;rw[ac4,w9,beq_iff_eq];have:b=127↔b.toNat=127:=⟨λh=>by rw[h];rfl,λh=>ae7.1 h⟩
 rw[this]
def Fh{b:UInt8}:L6 b=true↔(97<=b.toNat/\b.toNat<=122)\/(65<=b.toNat/\b.toNat<=90)\/(48<=b.toNat/\b.toNat<=57)\/b=43\/b=45\/b=46:=by simp only[L6,ac4,V8,k9,w9,beq_iff_eq,or_assoc]
abbrev clU(a b:By)(k:Int)(n:By)(v c d e f g h i j p:Int)(r:By):List PV:=[.s (.str a),.s (.str b),.s (.int .i64 k),.s (.str n),.s (.int .u32 v),.s (.int .u16 c),.s (.int .u16 d),.s (.int .u16 e),.s (.int .u16 f),.s (.int .u16 g),.s (.int .u16 h),.s (.int .u16 i),.s (.int .u16 j),.s (.int .i64 p),.s (.str r)]
abbrev clH(k:Int)(n:By)(v c d e f g h i j:Int):List PV:=[.s (.int .i64 k),.s (.str n),.s (.int .u32 v),.s (.int .u16 c),.s (.int .u16 d),.s (.int .u16 e),.s (.int .u16 f),.s (.int .u16 g),.s (.int .u16 h),.s (.int .u16 i),.s (.int .u16 j)]
abbrev bU(a b:By)(k:Int)(n:By)(v c d e f g h i j p:Int)(r:By):Blk:=.box (clU a b k n v c d e f g h i j p r)
abbrev gU(a b:By)(k:Int)(n:By)(v c d e f g h i j p:Int)(r:By):PV:=.agg (clU a b k n v c d e f g h i j p r)
abbrev bH(k:Int)(n:By)(v c d e f g h i j:Int):Blk:=.box (clH k n v c d e f g h i j)
abbrev gH(k:Int)(n:By)(v c d e f g h i j:Int):PV:=.agg (clH k n v c d e f g h i j)
abbrev bCx(a b c d z t:Bool)(l:LL):Blk:=.box [.s (.bool a),.s (.bool b),.s (.bool c),.s (.bool d),.s (.sl z t 1 l)]
abbrev gCx(a b c d z t:Bool)(l:LL):PV:=.agg [.s (.bool a),.s (.bool b),.s (.bool c),.s (.bool d),.s (.sl z t 1 l)]
abbrev bCv(a:Int)(s:By)(b:Bool):Blk:=.box [.s (.int .i64 a),.s (.str s),.s (.bool b)]
abbrev gCv(a:Int)(s:By)(b:Bool):PV:=.agg [.s (.int .i64 a),.s (.str s),.s (.bool b)]
abbrev bDx(a r:Int)(u:By):Blk:=.box [.s (.int .i64 a),.s (.int .i64 r),.s (.str u)]
abbrev bU0:Blk:=bU [] [] 0 [] 0 0 0 0 0 0 0 0 0 0 []
abbrev bQ(p:P7 × Nat):Blk:=bU (uS p) (uU p) (uK p) (uN p) (uV p) (uA p 0) (uA p 1) (uA p 2) (uA p 3) (uA p 4) (uA p 5) (uA p 6) (uA p 7) (uP p) (uR p)
abbrev okQ(p:P7 × Nat):Bool:=ok8 (uA p 0) (uA p 1) (uA p 2) (uA p 3) (uA p 4) (uA p 5) (uA p 6) (uA p 7)
abbrev mkQ(b:By)(p:P7 × Nat)(a:Int):P7:=mkU b (uU p) (uK p) (uN p) (uV p) (n8 (uA p 0) (uA p 1) (uA p 2) (uA p 3) (uA p 4) (uA p 5) (uA p 6) (uA p 7)) a (uR p)
abbrev Dx8(p q:P7 × Nat)(r:Bool):Bool:=((uK p)==(uK q))&&(((uN p)==(uN q))&&(((uV p)==(uV q))&&(((uA p 0)==(uA q 0))&&(((uA p 1)==(uA q 1))&&(((uA p 2)==(uA q 2))&&(((uA p 3)==(uA q 3))&&(((uA p 4)==(uA q 4))&&(((uA p 5)==(uA q 5))&&(((uA p 6)==(uA q 6))&&(((uA p 7)==(uA q 7))&&r))))))))))
end
section
open Go Go.Proofs
set_option maxRecDepth 100000
section
def JO:List PV->Tr
 | [.s (.str s)]=>.ret (.s (.int .i64 (P4 s))) []
 | _=>.fail
def Wj(args:List PV):Tr:=JO (C2 [[0]] args)
def JP:List PV->Tr
 | [.s (.str s)]=>.ret (.s (.bool (F3 s))) []
 | _=>.fail
def GE(args:List PV):Tr:=JP (C2 [[0]] args)
def WI:List PV->Tr
 | [.agg [.s (.str a),.s (.str n),.s (.int .i64 j),.s (.str k),.s (.int .u32 v4),.s (.int .u16 b),.s (.int .u16 c),.s (.int .u16 d),.s (.int .u16 e),.s (.int .u16 f),.s (.int .u16 g),.s (.int .u16 h),.s (.int .u16 i),.s (.int .i64 l),.s (.str m)]]=>.ret (.s (.bool (N0 a))) []
 | _=>.fail
def A09(args:List PV):Tr:=WI (C2 [[0,0,0,0,0,0,0,0,0,0,0,0,0,0,0]] args)
def WL:List PV->Tr
 | [.s (.str s)]=>.need (A3 (b9 s)) (.ret (.s (.bool (T8 s))) [])
 | _=>.fail
def Cm8(args:List PV):Tr:=WL (C2 [[0]] args)
def WJ:List PV->Tr
 | [.s (.str s)]=>.need (A3 (b9 s)) (.ret (.tup [.s (.int .i64 (FY s)),.s (.bool (am3 (Ic ((-1):Int) s)))]) [])
 | _=>.fail
def Cm6(args:List PV):Tr:=WJ (C2 [[0]] args)
def AU:List PV->Tr
 | [.agg [.s (.str c),.s (.str e),.s (.int .i64 n),.s (.str o),.s (.int .u32 v4),.s (.int .u16 f),.s (.int .u16 g),.s (.int .u16 h),.s (.int .u16 i),.s (.int .u16 j),.s (.int .u16 k),.s (.int .u16 l),.s (.int .u16 m),.s (.int .i64 d),.s (.str b)],.s (.str a)]=>.need (A3 (b9 c)) (.need (A3 (b9 b)) (.need (A3 (b9 a)) (.need (List.isEmpty e) (.need (d==((-1):Int)) (.ret (.tup [.agg [.s (.str (uS (G6 c b a))),.s (.str (uU (G6 c b a))),.s (.int .i64 (uK (G6 c b a))),.s (.str (uN (G6 c b a))),.s (.int .u32 (uV (G6 c b a))),.s (.int .u16 (uA (G6 c b a) 0)),.s (.int .u16 (uA (G6 c b a) 1)),.s (.int .u16 (uA (G6 c b a) 2)),.s (.int .u16 (uA (G6 c b a) 3)),.s (.int .u16 (uA (G6 c b a) 4)),.s (.int .u16 (uA (G6 c b a) 5)),.s (.int .u16 (uA (G6 c b a) 6)),.s (.int .u16 (uA (G6 c b a) 7)),.s (.int .i64 (uP (G6 c b a))),.s (.str (uR (G6 c b a)))],.s (.int .i64 (uE (G6 c b a)))]) [])))))
 | _=>.fail
def Ag2(args:List PV):Tr:=AU (C2 [[0,0,0,0,0,0,0,0,0,0,0,0,0,0,0],[0]] args)
def WK:List PV->Tr
 | [.s (.str s)]=>.need (A3 (b9 s)) (.ret (.tup [.agg [.s (.str (uS (C0 s))),.s (.str (uU (C0 s))),.s (.int .i64 (uK (C0 s))),.s (.str (uN (C0 s))),.s (.int .u32 (uV (C0 s))),.s (.int .u16 (uA (C0 s) 0)),.s (.int .u16 (uA (C0 s) 1)),.s (.int .u16 (uA (C0 s) 2)),.s (.int .u16 (uA (C0 s) 3)),.s (.int .u16 (uA (C0 s) 4)),.s (.int .u16 (uA (C0 s) 5)),.s (.int .u16 (uA (C0 s) 6)),.s (.int .u16 (uA (C0 s) 7)),.s (.int .i64 (uP (C0 s))),.s (.str (uR (C0 s)))],.s (.int .i64 (uE (C0 s)))]) [])
 | _=>.fail
def Cm7(args:List PV):Tr:=WK (C2 [[0]] args)
def JQ:List PV->Tr
 | [.agg [.s (.str l),.s (.str m),.s (.int .i64 n),.s (.str i),.s (.int .u32 v4),.s (.int .u16 a),.s (.int .u16 b),.s (.int .u16 c),.s (.int .u16 d),.s (.int .u16 e),.s (.int .u16 f),.s (.int .u16 g),.s (.int .u16 h),.s (.int .i64 j),.s (.str k)]]=>.need (smU l m i k) (.need (ltN v4 4294967296) (.need (ok8 a b c d e f g h) (.need (Q1 j) (.ret (.s (.str (U0 (mkU l m n i v4 (n8 a b c d e f g h) j k)))) []))))
 | _=>.fail
def WM(args:List PV):Tr:=JQ (C2 [[0,0,0,0,0,0,0,0,0,0,0,0,0,0,0]] args)
def Tw:List PV->Tr
 | [.agg [.s (.str l),.s (.str m),.s (.int .i64 n),.s (.str i),.s (.int .u32 v4),.s (.int .u16 a),.s (.int .u16 b),.s (.int .u16 c),.s (.int .u16 d),.s (.int .u16 e),.s (.int .u16 f),.s (.int .u16 g),.s (.int .u16 h),.s (.int .i64 j),.s (.str k)]]=>.need (smU l m i k) (.need (ltN v4 4294967296) (.need (ok8 a b c d e f g h) (.need (Q1 j) (.ret (.s (.bool (P2 (mkU l m n i v4 (n8 a b c d e f g h) j k)))) []))))
 | _=>.fail
def Rm(args:List PV):Tr:=Tw (C2 [[0,0,0,0,0,0,0,0,0,0,0,0,0,0,0]] args)
def WH:List PV->Tr
 | [.agg [.s (.str l),.s (.str m),.s (.int .i64 n),.s (.str i),.s (.int .u32 v4),.s (.int .u16 a),.s (.int .u16 b),.s (.int .u16 c),.s (.int .u16 d),.s (.int .u16 e),.s (.int .u16 f),.s (.int .u16 g),.s (.int .u16 h),.s (.int .i64 j),.s (.str k)]]=>.need (smU l m i k) (.need (ltN v4 4294967296) (.need (ok8 a b c d e f g h) (.need (Q1 j) (.ret (.s (.str (Fq (mkU l m n i v4 (n8 a b c d e f g h) j k)))) []))))
 | _=>.fail
def Cm5(args:List PV):Tr:=WH (C2 [[0,0,0,0,0,0,0,0,0,0,0,0,0,0,0]] args)
def Cn0:List PV->Tr
 | [.agg [.s (.str a),.s (.str n),.s (.int .i64 j),.s (.str k),.s (.int .u32 v4),.s (.int .u16 b),.s (.int .u16 c),.s (.int .u16 d),.s (.int .u16 e),.s (.int .u16 f),.s (.int .u16 g),.s (.int .u16 h),.s (.int .u16 i),.s (.int .i64 l),.s (.str m)]]=>.ret (.agg [.s (.str (upS a)),.s (.str n),.s (.int .i64 j),.s (.str k),.s (.int .u32 v4),.s (.int .u16 b),.s (.int .u16 c),.s (.int .u16 d),.s (.int .u16 e),.s (.int .u16 f),.s (.int .u16 g),.s (.int .u16 h),.s (.int .u16 i),.s (.int .i64 (upP a l)),.s (.str m)]) []
 | _=>.fail
def Cm9(args:List PV):Tr:=Cn0 (C2 [[0,0,0,0,0,0,0,0,0,0,0,0,0,0,0]] args)
def AO:List PV->Tr
 | [.s (.str s)]=>.ret (.s (.bool (F3 s))) []
 | _=>.fail
def JE(args:List PV):Tr:=AO (C2 [[0]] args)
def JF:List PV->Tr
 | [.s (.str s)]=>.ret (.s (.int .i64 (P4 s))) []
 | _=>.fail
def Bt9(args:List PV):Tr:=JF (C2 [[0]] args)
def JA:List PV->Tr
 | [.s (.str s),.s (.str t)]=>.need (A3 (b9 s)) (.need (A3 (b9 t)) (.ret (.s (.int .i64 (↑(S7 s t):Int))) []))
 | _=>.fail
def Bt7(args:List PV):Tr:=JA (C2 [[0],[0]] args)
def JD:List PV->Tr
 | [.s (.str s)]=>.need (A3 (b9 s)) (.ret (.tup [.s (.str ((Ei s)).1),.s (.str (((Ei s)).2).1),.s (.bool (((Ei s)).2).2)]) [])
 | _=>.fail
def Bt8(args:List PV):Tr:=JD (C2 [[0]] args)
def JC:List PV->Tr
 | [.s (.str s)]=>.need (A3 (b9 s)) (.ret (.tup [.agg [.s (.str (uS (C0 s))),.s (.str (uU (C0 s))),.s (.int .i64 (uK (C0 s))),.s (.str (uN (C0 s))),.s (.int .u32 (uV (C0 s))),.s (.int .u16 (uA (C0 s) 0)),.s (.int .u16 (uA (C0 s) 1)),.s (.int .u16 (uA (C0 s) 2)),.s (.int .u16 (uA (C0 s) 3)),.s (.int .u16 (uA (C0 s) 4)),.s (.int .u16 (uA (C0 s) 5)),.s (.int .u16 (uA (C0 s) 6)),.s (.int .u16 (uA (C0 s) 7)),.s (.int .i64 (uP (C0 s))),.s (.str (uR (C0 s)))],.s (.int .i64 (uE (C0 s)))]) [])
 | _=>.fail
def VT(args:List PV):Tr:=JC (C2 [[0]] args)
def Ts:List PV->Tr
 | [.s (.str s)]=>.need (A3 (b9 s)) (.ret (.tup [.agg [.s (.str (uS (B3 s))),.s (.str (uU (B3 s))),.s (.int .i64 (uK (B3 s))),.s (.str (uN (B3 s))),.s (.int .u32 (uV (B3 s))),.s (.int .u16 (uA (B3 s) 0)),.s (.int .u16 (uA (B3 s) 1)),.s (.int .u16 (uA (B3 s) 2)),.s (.int .u16 (uA (B3 s) 3)),.s (.int .u16 (uA (B3 s) 4)),.s (.int .u16 (uA (B3 s) 5)),.s (.int .u16 (uA (B3 s) 6)),.s (.int .u16 (uA (B3 s) 7)),.s (.int .i64 (uP (B3 s))),.s (.str (uR (B3 s)))],.s (.int .i64 (uE (B3 s)))]) [])
 | _=>.fail
def Kv(args:List PV):Tr:=Ts (C2 [[0]] args)
def AP:List PV->Tr
 | [.agg [.s (.str l),.s (.str m),.s (.int .i64 n),.s (.str i),.s (.int .u32 v4),.s (.int .u16 a),.s (.int .u16 b),.s (.int .u16 c),.s (.int .u16 d),.s (.int .u16 e),.s (.int .u16 f),.s (.int .u16 g),.s (.int .u16 h),.s (.int .i64 j),.s (.str k)]]=>.need (smU l m i k) (.need (ltN v4 4294967296) (.need (ok8 a b c d e f g h) (.need (Q1 j) (.ret (.s (.str (Fw (mkU l m n i v4 (n8 a b c d e f g h) j k)))) []))))
 | _=>.fail
def JG(args:List PV):Tr:=AP (C2 [[0,0,0,0,0,0,0,0,0,0,0,0,0,0,0]] args)
def Pl:List PV->Tr
 | [.agg [.s (.str l),.s (.str m),.s (.int .i64 n),.s (.str i),.s (.int .u32 v4),.s (.int .u16 a),.s (.int .u16 b),.s (.int .u16 c),.s (.int .u16 d),.s (.int .u16 e),.s (.int .u16 f),.s (.int .u16 g),.s (.int .u16 h),.s (.int .i64 j),.s (.str k)]]=>.need (smU l m i k) (.need (ltN v4 4294967296) (.need (ok8 a b c d e f g h) (.need (Q1 j) (.ret (.s (.bool (P2 (mkU l m n i v4 (n8 a b c d e f g h) j k)))) []))))
 | _=>.fail
def Tt(args:List PV):Tr:=Pl (C2 [[0,0,0,0,0,0,0,0,0,0,0,0,0,0,0]] args)
def IZ:List PV->Tr
 | [.agg [.s (.str l),.s (.str m),.s (.int .i64 n),.s (.str i),.s (.int .u32 v4),.s (.int .u16 a),.s (.int .u16 b),.s (.int .u16 c),.s (.int .u16 d),.s (.int .u16 e),.s (.int .u16 f),.s (.int .u16 g),.s (.int .u16 h),.s (.int .i64 j),.s (.str k)]]=>.need (smU l m i k) (.need (ltN v4 4294967296) (.need (ok8 a b c d e f g h) (.need (Q1 j) (.ret (.s (.str (Fq (mkU l m n i v4 (n8 a b c d e f g h) j k)))) []))))
 | _=>.fail
def VQ(args:List PV):Tr:=IZ (C2 [[0,0,0,0,0,0,0,0,0,0,0,0,0,0,0]] args)
def JB:List PV->Tr
 | [.agg [.s (.str a),.s (.str n),.s (.int .i64 j),.s (.str k),.s (.int .u32 v4),.s (.int .u16 b),.s (.int .u16 c),.s (.int .u16 d),.s (.int .u16 e),.s (.int .u16 f),.s (.int .u16 g),.s (.int .u16 h),.s (.int .u16 i),.s (.int .i64 l),.s (.str m)]]=>.ret (.s (.bool (N0 a))) []
 | _=>.fail
def VR(args:List PV):Tr:=JB (C2 [[0,0,0,0,0,0,0,0,0,0,0,0,0,0,0]] args)
def Af1:List PV->Tr
 | [.s (.int .i64 n)]=>.need (ltN n 9223372036854775808) (.ret (.s (.str (v8 (y5 n)))) [])
 | _=>.fail
def HS(args:List PV):Tr:=Af1 (C2 [[0]] args)
def HY:List PV->Tr
 | [.s (.int .i64 n)]=>.need (Q1 n) (.ret (.s (.str (V3 n))) [])
 | _=>.fail
def Bs0(args:List PV):Tr:=HY (C2 [[0]] args)
def JI:List PV->Tr
 | [.s (.str s),.s (.int .u8 c)]=>.need (A3 (b9 s)) (.need (inR c 256) (.ret (.s (.int .i64 (aa4 s (u8n c)))) []))
 | _=>.fail
def Wh(args:List PV):Tr:=JI (C2 [[0],[0]] args)
def IE:List PV->Tr
 | [.s (.str s),.s (.str p)]=>.need (A3 (b9 s)) (.ret (.s (.str (Hu s p))) [])
 | _=>.fail
def Bs3(args:List PV):Tr:=IE (C2 [[0],[0]] args)
def WG:List PV->Tr
 | [.s (.str s),.s (.str p)]=>.need (A3 (b9 s)) (.ret (.s (.str (Hu s p))) [])
 | _=>.fail
def Cm3(args:List PV):Tr:=WG (C2 [[0],[0]] args)
def Af8:List PV->Tr
 | [.s (.str s),.s (.str p)]=>.need (A3 (b9 s)) (.need (CJ p) (.ret (.s (.int .i64 (ae2 s p))) []))
 | _=>.fail
def WC(args:List PV):Tr:=Af8 (C2 [[0],[0]] args)
def GF:List PV->Tr
 | [.agg [.s (.str a),.s (.str n),.s (.int .i64 j),.s (.str k),.s (.int .u32 v4),.s (.int .u16 b),.s (.int .u16 c),.s (.int .u16 d),.s (.int .u16 e),.s (.int .u16 f),.s (.int .u16 g),.s (.int .u16 h),.s (.int .u16 i),.s (.int .i64 l),.s (.str m)]]=>.need (N0 a) (.ret (.agg [.s (.str (upS a)),.s (.str n),.s (.int .i64 j),.s (.str k),.s (.int .u32 v4),.s (.int .u16 b),.s (.int .u16 c),.s (.int .u16 d),.s (.int .u16 e),.s (.int .u16 f),.s (.int .u16 g),.s (.int .u16 h),.s (.int .u16 i),.s (.int .i64 (upP a l)),.s (.str m)]) [])
 | _=>.fail
def Cn1(args:List PV):Tr:=GF (C2 [[0,0,0,0,0,0,0,0,0,0,0,0,0,0,0]] args)
def GG:List PV->Tr
 | [.agg [.s (.str a),.s (.str n),.s (.int .i64 j),.s (.str k),.s (.int .u32 v4),.s (.int .u16 b),.s (.int .u16 c),.s (.int .u16 d),.s (.int .u16 e),.s (.int .u16 f),.s (.int .u16 g),.s (.int .u16 h),.s (.int .u16 i),.s (.int .i64 l),.s (.str m)]]=>.need (not (N0 a)) (.ret (.agg [.s (.str a),.s (.str n),.s (.int .i64 j),.s (.str k),.s (.int .u32 v4),.s (.int .u16 b),.s (.int .u16 c),.s (.int .u16 d),.s (.int .u16 e),.s (.int .u16 f),.s (.int .u16 g),.s (.int .u16 h),.s (.int .u16 i),.s (.int .i64 l),.s (.str m)]) [])
 | _=>.fail
def Cn2(args:List PV):Tr:=GG (C2 [[0,0,0,0,0,0,0,0,0,0,0,0,0,0,0]] args)
def Rk:List PV->Tr
 | [.s (.str s),.s (.str p)]=>.need (A3 (b9 s)) (.need (CJ p) (.need (p7 9 (b9 s)) (.ret (.s (.int .i64 (ae2 s p))) [])))
 | _=>.fail
def Af9(args:List PV):Tr:=Rk (C2 [[0],[0]] args)
def Rl:List PV->Tr
 | [.s (.str s),.s (.str p)]=>.need (CJ p) (.need (p7 (b9 s) 8) (.ret (.s (.int .i64 (ae2 s p))) []))
 | _=>.fail
def Ag0(args:List PV):Tr:=Rl (C2 [[0],[0]] args)
def Tu:List PV->Tr
 | [.s (.int .i64 n)]=>.ret (.s (.bool (ltI (8:Int) n))) []
 | _=>.fail
def AR(args:List PV):Tr:=Tu (C2 [[0]] args)
def AQ:List PV->Tr
 | [.s (.str p),.s (.int .i32 r)]=>.need (CJ p) (.need (ltN r 1114112) (.ret (.s (.int .i64 (irn r))) []))
 | _=>.fail
def JJ(args:List PV):Tr:=AQ (C2 [[0],[0]] args)
def PX:List PV->Tr
 | [.s (.str s)]=>.fail
 | _=>.fail
def Pm(args:List PV):Tr:=PX (C2 [[0]] args)
def AW:List PV->Tr
 | [.s (.int .i32 r)]=>.ret (.s (.bool (OF r))) []
 | _=>.fail
def JR(args:List PV):Tr:=AW (C2 [[0]] args)
end
section
variable {Z R : Type} (L : Nat) (Q : G4) (Y : Yh Z) (s : Z) (k : Out -> St Z -> Option R)
noncomputable def XI(L:Nat):Cfg:=B8 L [203] (A2 []) [(163,UM)] (A2 [(3,[4]),(2,[4]),(1,[0,0,5]),(0,[0,0])]) [163] (A2 []) (some [4]) [] [] []
def Bx7{R:Type}(L:Nat)(b a:By)(d:By->Option R):Option R:=cond (A3 b.length) (cond (aa1 a b) (cond (J0 (a.length:Int) (b.length:Int) b.length) (vl (cut b (a.length:Int) (b.length:Int)) λc=>d c) none) (d b)) none
def Ct9(d:Nat)(s0 prefix1):evC (XI L) (d+1) Z Y 203 [pS s0,pS prefix1] [] s=Bx7 L s0 prefix1 (λa=>some (pS a,[],s)):=by refine(evE (fn:=Tryz.f203) (by kernel_rfl)).trans ?_;generalize evC (XI L) d=Q;unfold Bx7;kernel_rfl
noncomputable def A44(L:Nat):Cfg:=B8 L [166] (A2 []) [(203,Bs3)] (A2 [(1,[4]),(0,[0,0])]) [203] (A2 []) (some [4]) [] [] []
def Dn8{R:Type}(L:Nat)(b a:By)(c:By->Option R):Option R:=cond (A3 b.length) (c (Hu b a)) none
def Dn9(d:Nat)(s0 prefix1):evC (A44 L) (d+1) Z Y 166 [pS s0,pS prefix1] [] s=Dn8 L s0 prefix1 (λa=>some (pS a,[],s)):=by refine(evE (fn:=Tryz.f166) (by kernel_rfl)).trans ?_;generalize evC (A44 L) d=Q;unfold Dn8;kernel_rfl
noncomputable def XX(L:Nat):Cfg:=B8 L [124] (A2 []) [] (A2 [(8,[2]),(4,[2]),(7,[2]),(6,[7]),(5,[3,3]),(3,[3,0]),(2,[3,0]),(1,[3]),(0,[0])]) [] (A2 [(0,[])]) (some [2]) [] [] []
def B11{R:Type}(L:Nat)(a:By)(b:Int->Option R):Option R:=cond (a==[104,116,116,112]) (cond (a==[104,116,116,112]) (b 80) (cond (a==[104,116,116,112,115]) (cond (a==[104,116,116,112,115]) (b 443) (b (-1))) (cond (a==[119,115,115]) (b 443) (b (-1))))) (cond (a==[119,115]) (b 80) (cond (a==[104,116,116,112,115]) (cond (a==[104,116,116,112,115]) (b 443) (b (-1))) (cond (a==[119,115,115]) (b 443) (b (-1)))))
def C45(d:Nat)(scheme0):evC (XX L) (d+1) Z Y 124 [pS scheme0] [] s=B11 L scheme0 (λa=>some (pI a,[],s)):=by refine(evE (fn:=Tryz.f124) (by kernel_rfl)).trans ?_;generalize evC (XX L) d=Q;unfold B11;kernel_rfl
noncomputable def XY(L:Nat):Cfg:=B8 L [117] (A2 []) [(124,Wj)] (A2 [(1,[2]),(0,[0])]) [124] (A2 []) (some [2]) [] [] []
def B12{R:Type}(L:Nat)(a:By)(b:Bool->Option R):Option R:=b (ltI 0 (P4 a))
def C48(d:Nat)(scheme0):evC (XY L) (d+1) Z Y 117 [pS scheme0] [] s=B12 L scheme0 (λa=>some (pB a,[],s)):=by refine(evE (fn:=Tryz.f117) (by kernel_rfl)).trans ?_;generalize evC (XY L) d=Q;unfold B12;kernel_rfl
noncomputable def A46(L:Nat):Cfg:=B8 L [84] (A2 []) [(124,Wj)] (A2 [(1,[2]),(0,[1])]) [124] (A2 []) (some [2]) [] [] []
def D09{R:Type}(L:Nat)(f h:By)(i:Int)(j:By)(l m n o u8 p a b c d:Int)(e:By)(g:Bool->(List Blk)->Option R):Option R:=g ((P4 f)==80) [(bU f h i j l m n o u8 p a b c d e)]
def Do4(d:Nat)(u0 u1 u2 u3 u4 u5 u6 u7 u8 u9 u10 u11 u12 u13 u14):evC (A46 L) (d+1) Z Y 84 [(gU u0 u1 u2 u3 u4 u5 u6 u7 u8 u9 u10 u11 u12 u13 u14)] [] s=D09 L u0 u1 u2 u3 u4 u5 u6 u7 u8 u9 u10 u11 u12 u13 u14 (λb a=>some (pB b,a,s)):=by refine(evE (fn:=Tryz.f84) (by kernel_rfl)).trans ?_;generalize evC (A46 L) d=Q;unfold D09;kernel_rfl
noncomputable abbrev Pt:Code:=C7 ak9
noncomputable def Aw(L:Nat):Cfg:=B8 L [115] (A2 [(2,[0,1,4,0])]) [(157,Wh)] (A2 [(9,[2]),(8,[0,6,0]),(7,[2]),(6,[0,6,0,29]),(5,[0,2,0,0,1,0]),(4,[0,2,0,2,0]),(3,[0,2,3,0]),(2,[0,6,0,0]),(1,[0,6,0]),(0,[0])]) [157] (A2 [(0,[0]),(1,[0,6,0])]) (some [2]) [] [] []
def HJ{R:Type}(d:By)(a c:Int)(b:By->Int->Int->Option R):Option R:=b d c a
abbrev DO(b:Code):Prop:=∀(k:Out->St Z->Option R) a i1 b2 n3,A9 (Aw L) Q Y b ⟨gp [(0,pS a),(2,pI i1),(0,p8 b2),(0,pB true),(1,pI n3),(0,pI i1)] 33,[],s⟩ k=HJ a i1 n3 (λa c d=>k .normal ⟨gp [(0,pS a),(6,pI c),(0,pI d),(29,pB false)] 3,[],s⟩)
def Bp5:DO (R:=R) L Q Y s (cd [1,0,1,0,0,1,1,0,0,1,1,1] Pt):=by intro k d b a c;unfold HJ;kernel_rfl
def Gq{R:Type}(h:By)(c d:Int)(a:Bool)(g:Int)(e:Unit->Option R)(f:By->Int->Int->Bool->Option R):Option R:=cond (not a) (cond (c==0) (e ()) (cond (inR d 256) (vl (aa4 ([48,49,50,51,52,53,54,55,56,57,43,45,46]:List UInt8) (u8n d)) λb=>cond (ltI b 0) (e ()) (f h g c (ltI b 0))) none)) (f h g c false)
abbrev DP(b:Code):Prop:=∀(k:Out->St Z->Option R) a i1 b2 letter3 n4,A9 (Aw L) Q Y b ⟨gp [(0,pS a),(2,pI i1),(0,p8 b2),(0,pB letter3),(1,pI n4),(0,pI i1)] 33,[],s⟩ k=Gq a i1 b2 letter3 n4 (λ_=>k .ret ⟨gp [(2,pB false)] 39,[],s⟩) (λa d e c=>k .normal ⟨gp [(0,pS a),(6,pI d),(0,pI e),(29,pB c)] 3,[],s⟩)
def Bp6:DP (R:=R) L Q Y s (cd [1,0,1,0,0,1,1,0,0,1,1,1] Pt):=by intro k e c b a d;unfold Gq;kernel_rfl
def O6{R:Type}(L n:Nat)(b:By)(e a:Int)(c:Unit->Option R)(d:By->Option R):Option R:=match n with|0=>none|n+1=>cond (ltI a e) (cond (inR a b.length) (cond (not (ltI (bAt b a) (97:Int))) (cond (not (ltI 122 (bAt b a))) (HJ b a e (λx r t=>O6 L n x r (A1 (t+1)) c d)) (cond (not (ltI (bAt b a) (65:Int))) (Gq b a (bAt b a) (not (ltI 90 (bAt b a))) e (λ_=>c ()) (λy u v D=>O6 L n y u (A1 (v+1)) c d)) (Gq b a (bAt b a) false e (λ_=>c ()) (λz w f A=>vl (A1 (f+1)) λg=>O6 L n z w g c d)))) (cond (not (ltI (bAt b a) (65:Int))) (Gq b a (bAt b a) (not (ltI 90 (bAt b a))) e (λ_=>c ()) (λp h i B=>vl (A1 (i+1)) λj=>O6 L n p h j c d)) (Gq b a (bAt b a) false e (λ_=>c ()) (λq l m C=>vl (A1 (m+1)) λo=>O6 L n q l o c d)))) none) (d b)
def Bp7(a:Code)(d:DO (R:=R) L Q Y s a)(b:DP (R:=R) L Q Y s a)(n:Nat)(c:By)(f e:Int):D0 0 ((Aw L).keep 2) (bd (Aw L) Q Y (cd [1,0,1,0,0] (G7 [1,0,1,0,0,1,1,0,0,1,1,1] a Pt))) n ⟨gp [(0,pS c),(6,pI f),(0,pI e)] 33,[],s⟩ k =
 O6 L n c f e (λ_=>k .ret ⟨gp [(2,pB false)] 39,[],s⟩) (λc=>k (.exit 0) ⟨gp [(0,pS c)] 41,[],s⟩):=by
 induction n generalizing c f e with
 | zero=>rfl
 | succ n h=>rw[O6];exact let g:=(E2 1 (E1 (Aw L) Q Y (cd [1,0,1,0,0,1,1,1] Pt) (lpK 0 ((Aw L).keep 2) (bd (Aw L) Q Y (cd [1,0,1,0,0] (G7 [1,0,1,0,0,1,1,0,0,1,1,1] a Pt))) n k)));(j5 (by kernel_rfl) (A0 (A0 (A0 (A0 ((d g c e (bAt c e) f).trans (congr rfl (fx3 λx r t=>(j5 (by kernel_rfl) (h x r (A1 (t+1))))))) (A0 ((b g c e (bAt c e) (not (ltI 90 (bAt c e))) f).trans (congr (congr rfl (by kernel_rfl)) (fx4 λy u v H=>(j5 (by kernel_rfl) (h y u (A1 (v+1))))))) ((b g c e (bAt c e) false f).trans (congr (congr rfl (by kernel_rfl)) (fx4 λz w D A=>(j5 (by kernel_rfl) (A4 λi=>(h z w i)))))))) (A0 ((b g c e (bAt c e) (not (ltI 90 (bAt c e))) f).trans (congr (congr rfl (by kernel_rfl)) (fx4 λp j F B=>(j5 (by kernel_rfl) (A4 λl=>(h p j l)))))) ((b g c e (bAt c e) false f).trans (congr (congr rfl (by kernel_rfl)) (fx4 λq m G C=>(j5 (by kernel_rfl) (A4 λo=>(h q m o)))))))) rfl) rfl))
def C47{R:Type}(L:Nat)(c:By)(b:Bool->Option R):Option R:=O6 L L c (c.length:Int) 0 (λ_=>b false) (λa=>b (not (a==[])))
def Dp0(a:Code)(b:DO (R:=PV × List Blk × Z) L Q Y s a)(c:DP (R:=PV × List Blk × Z) L Q Y s a)(d:By):A9 (Aw L) Q Y (cd [] (G7 [1,0,1,0,0,1,1,0,0,1,1,1] a Pt)) ⟨[pS d]++tps 41,[],s⟩ (F4 (Aw L) ak9)=C47 L d (λe=>some (pB e,[],s)):=by unfold C47;exact(j5 (by kernel_rfl) ((Bp7 L Q Y s (E2 0 (E1 (Aw L) Q Y (cd [1,1] Pt) (F4 (Aw L) ak9))) a b c L d (d.length:Int) 0).trans (by kernel_rfl)))
def Dp1(d:Nat)(s0):evC (Aw L) (d+1) Z Y 115 [pS s0] [] s=C47 L s0 (λa=>some (pB a,[],s)):=
 (evE (fn:=ak9) (by kernel_rfl)).trans (j5 (by kernel_rfl) (Dp0 L (evC (Aw L) d) Y s (cd [1,0,1,0,0,1,1,0,0,1,1,1] Pt) (Bp5 L (evC (Aw L) d) Y s) (Bp6 L (evC (Aw L) d) Y s) s0))
noncomputable abbrev Co4:Code:=C7 am7
noncomputable def Ut(L:Nat):Cfg:=B8 L [165] (A2 [(3,[0,1,0,0,2,0])]) [] (A2 [(9,[2,0]),(8,[0,3,2,0]),(7,[0,3,2,0]),(6,[2,0]),(5,[0,3,0,1,0,11]),(4,[0,3,0,1,0]),(3,[0,3,2,0,0]),(2,[0,3,2,0]),(1,[0,3]),(0,[0])]) [] (A2 [(0,[4]),(1,[0,3,2,0])]) (some [2,0]) [] [] []
def Og{R:Type}(L n:Nat)(b:By)(h j a:Int)(d:Unit->Option R)(i:Int->Option R):Option R:=match n with|0=>none|n+1=>cond (ltI a j) (cond (inR a b.length) (cond (ltI (bAt b a) (48:Int)) (d ()) (cond (inR a b.length) (cond (ltI 57 (bAt b a)) (d ()) (vl (A1 ((10:Int)*(if ((0:Int) > h) then (0:Int) else h))) λe=>cond (inR a b.length) (vl (wu8 ((bAt b a)-48)) λf=>vl (A1 (e+(A1 f))) λc=>vl (if ((65536:Int)<c) then (65536:Int) else c) λg=>Og L n b g j (A1 (a+1)) d i) none)) none)) none) (i h)
def Bp0(n s0 n1 n2 n3):D0 0 ((Ut L).keep 3) (bd (Ut L) Q Y (cd [1,1,0,1,0,0] Co4)) n ⟨gp [(0,pS s0),(3,pI n1),(2,pI n2),(0,pI n3)] 26,[],s⟩ k =
 Og L n s0 n1 n2 n3 (λ_=>k .ret ⟨gp [(2,pI (0:Int)),(0,pB false)] 31,[],s⟩) (λn0=>k (.exit 0) ⟨gp [(4,pI n0)] 30,[],s⟩):=by
 induction n generalizing s0 n1 n2 n3 with
 | zero=>rfl
 | succ n a=>rw[Og];simp only[<-a];kernel_rfl
def Do6{R:Type}(L:Nat)(c:By)(b:Int->Bool->Option R):Option R:=Og L L c (-1) (c.length:Int) 0 (λ_=>b 0 false) (λa=>b a (ltI a 65536))
def Do7(d:Nat)(s0):evC (Ut L) (d+1) Z Y 165 [pS s0] [] s=Do6 L s0 (λa b=>some (.tup [pI a,pB b],[],s)):=by refine(evE (fn:=am7) (by kernel_rfl)).trans ?_;generalize evC (Ut L) d=Q;unfold Do6;exact(j5 (by kernel_rfl) ((Bp0 L Q Y s (E2 0 (E1 (Ut L) Q Y (cd [1,1,1] Co4) (F4 (Ut L) am7))) L s0 (-1) (s0.length:Int) 0).trans (by kernel_rfl)))
noncomputable abbrev Cn:Code:=C7 al0
noncomputable def Z2(L:Nat):Cfg:=B8 L [121] (A2 []) [(98,GC),(120,HV),(157,Wh),(164,Af3),(166,Cm3),(165,Cm6),(124,Wj)] (A2 [(24,[4,0]),(23,[2,1]),(22,[2,1,8,71]),(21,[2,1,8]),(20,[4,0]),(19,[2,1,6,1,63]),(18,[2,1,6,1,0]),(17,[4,0]),(16,[2,1,3,2,0,54]),(15,[2,1,3,2,0]),(14,[4,0]),(13,[2,1,2,0,50]),(9,[2,1,2,0]),(8,[4,0]),(7,[1,0,1,4,23]),(6,[1,0,1,4]),(12,[2,1,2,0]),(11,[1,0,1,2,0,1,35]),(10,[1,0,1,2,0,1]),(5,[1,0,1,2,0,20]),(4,[1,0,1,2,0]),(3,[1,0,1]),(2,[1,0,1,1,11]),(1,[1,0,1,1]),(0,[1,0,1])]) [98,120,157,166,165,124] (A2 []) (some [4,0]) [] [] []
def X9{R:Type}(d e g h:By)(r:Int)(v:By)(t p u i j l m n o f:Int)(c:By)(q:Int->Blk->By->By->Int->By->Int->Int->Int->Int->Int->Int->Int->Int->Int->Int->By->(List Blk)->Option R):Option R:=cond (A3 d.length) (vl (C3 d) λa=>cond ((↑(a).2:Int)!=0) (q (↑(a).2:Int) (bU g h r v t p u i j l m n o f c) ([]:List UInt8) ([]:List UInt8) 0 ([]:List UInt8) 0 0 0 0 0 0 0 0 0 0 ([]:List UInt8) [(bH (↑(B5.kind (a).1):Int) (B5.name (a).1) (↑(B5.v4 (a).1):Int) (↑(b8 (B5.v6 (a).1) 0 0):Int) (↑(b8 (B5.v6 (a).1) 1 0):Int) (↑(b8 (B5.v6 (a).1) 2 0):Int) (↑(b8 (B5.v6 (a).1) 3 0):Int) (↑(b8 (B5.v6 (a).1) 4 0):Int) (↑(b8 (B5.v6 (a).1) 5 0):Int) (↑(b8 (B5.v6 (a).1) 6 0):Int) (↑(b8 (B5.v6 (a).1) 7 0):Int))]) (cond (A3 e.length) (vl (Hu e ([58]:List UInt8)) λb=>cond (A3 b.length) (cond (not (am3 (Ic ((-1):Int) b))) (q 16 (bU g h r v t p u i j l m n o f c) ([]:List UInt8) ([]:List UInt8) 0 ([]:List UInt8) 0 0 0 0 0 0 0 0 0 0 ([]:List UInt8) [(bH (↑(B5.kind (a).1):Int) (B5.name (a).1) (↑(B5.v4 (a).1):Int) (↑(b8 (B5.v6 (a).1) 0 0):Int) (↑(b8 (B5.v6 (a).1) 1 0):Int) (↑(b8 (B5.v6 (a).1) 2 0):Int) (↑(b8 (B5.v6 (a).1) 3 0):Int) (↑(b8 (B5.v6 (a).1) 4 0):Int) (↑(b8 (B5.v6 (a).1) 5 0):Int) (↑(b8 (B5.v6 (a).1) 6 0):Int) (↑(b8 (B5.v6 (a).1) 7 0):Int))]) (cond ((FY b)!=(P4 g)) (q 0 (bU g h (↑(B5.kind (a).1):Int) (B5.name (a).1) (↑(B5.v4 (a).1):Int) (↑(b8 (B5.v6 (a).1) 0 0):Int) (↑(b8 (B5.v6 (a).1) 1 0):Int) (↑(b8 (B5.v6 (a).1) 2 0):Int) (↑(b8 (B5.v6 (a).1) 3 0):Int) (↑(b8 (B5.v6 (a).1) 4 0):Int) (↑(b8 (B5.v6 (a).1) 5 0):Int) (↑(b8 (B5.v6 (a).1) 6 0):Int) (↑(b8 (B5.v6 (a).1) 7 0):Int) (FY b) c) g h (↑(B5.kind (a).1):Int) (B5.name (a).1) (↑(B5.v4 (a).1):Int) (↑(b8 (B5.v6 (a).1) 0 0):Int) (↑(b8 (B5.v6 (a).1) 1 0):Int) (↑(b8 (B5.v6 (a).1) 2 0):Int) (↑(b8 (B5.v6 (a).1) 3 0):Int) (↑(b8 (B5.v6 (a).1) 4 0):Int) (↑(b8 (B5.v6 (a).1) 5 0):Int) (↑(b8 (B5.v6 (a).1) 6 0):Int) (↑(b8 (B5.v6 (a).1) 7 0):Int) (FY b) c [(bH (↑(B5.kind (a).1):Int) (B5.name (a).1) (↑(B5.v4 (a).1):Int) (↑(b8 (B5.v6 (a).1) 0 0):Int) (↑(b8 (B5.v6 (a).1) 1 0):Int) (↑(b8 (B5.v6 (a).1) 2 0):Int) (↑(b8 (B5.v6 (a).1) 3 0):Int) (↑(b8 (B5.v6 (a).1) 4 0):Int) (↑(b8 (B5.v6 (a).1) 5 0):Int) (↑(b8 (B5.v6 (a).1) 6 0):Int) (↑(b8 (B5.v6 (a).1) 7 0):Int))]) (q 0 (bU g h (↑(B5.kind (a).1):Int) (B5.name (a).1) (↑(B5.v4 (a).1):Int) (↑(b8 (B5.v6 (a).1) 0 0):Int) (↑(b8 (B5.v6 (a).1) 1 0):Int) (↑(b8 (B5.v6 (a).1) 2 0):Int) (↑(b8 (B5.v6 (a).1) 3 0):Int) (↑(b8 (B5.v6 (a).1) 4 0):Int) (↑(b8 (B5.v6 (a).1) 5 0):Int) (↑(b8 (B5.v6 (a).1) 6 0):Int) (↑(b8 (B5.v6 (a).1) 7 0):Int) f c) g h (↑(B5.kind (a).1):Int) (B5.name (a).1) (↑(B5.v4 (a).1):Int) (↑(b8 (B5.v6 (a).1) 0 0):Int) (↑(b8 (B5.v6 (a).1) 1 0):Int) (↑(b8 (B5.v6 (a).1) 2 0):Int) (↑(b8 (B5.v6 (a).1) 3 0):Int) (↑(b8 (B5.v6 (a).1) 4 0):Int) (↑(b8 (B5.v6 (a).1) 5 0):Int) (↑(b8 (B5.v6 (a).1) 6 0):Int) (↑(b8 (B5.v6 (a).1) 7 0):Int) f c [(bH (↑(B5.kind (a).1):Int) (B5.name (a).1) (↑(B5.v4 (a).1):Int) (↑(b8 (B5.v6 (a).1) 0 0):Int) (↑(b8 (B5.v6 (a).1) 1 0):Int) (↑(b8 (B5.v6 (a).1) 2 0):Int) (↑(b8 (B5.v6 (a).1) 3 0):Int) (↑(b8 (B5.v6 (a).1) 4 0):Int) (↑(b8 (B5.v6 (a).1) 5 0):Int) (↑(b8 (B5.v6 (a).1) 6 0):Int) (↑(b8 (B5.v6 (a).1) 7 0):Int))]))) none) none)) none
abbrev Ra(b:Code):Prop:=∀(k:Out->St Z->Option R) name0 tail1 b2 l s4 n5 s6 i h j a c d e f g n16 s17,A9 (Z2 L) Q Y b ⟨gp [(2,.ptr 0 0 0),(1,.ptr 1 0 0),(2,pS name0),(0,pS tail1),(50,pB b2)] 29,[(bU l s4 n5 s6 i h j a c d e f g n16 s17),bU0],s⟩ k=X9 name0 tail1 l s4 n5 s6 i h j a c d e f g n16 s17 (λn0 o r l p t q i h j a c d e f g n m=>k .ret ⟨gp [(4,.ptr 1 0 0),(0,pI n0)] 83,(o::(bU r l p t q i h j a c d e f g n)::m),s⟩)
def Zq:Ra (R:=R) L Q Y s (cd [1,1,1,1,1] Cn):=by intro k a b m q r n t o j p c d e f g h i l;unfold X9;kernel_rfl
def R4{R:Type}(b a s2 s3:By)(n4:Int)(s5:By)(n6 n7 i n9 c d e f g h:Int)(j:By)(k0:Int->Blk->By->By->Int->By->Int->Int->Int->Int->Int->Int->Int->Int->Int->Int->By->(List Blk)->Option R):Option R:=cond (not (a==[])) (cond (inR 0 a.length) (cond ((bAt a (0:Int))!=58) (k0 4 (bU s2 s3 n4 s5 n6 n7 i n9 c d e f g h j) ([]:List UInt8) ([]:List UInt8) 0 ([]:List UInt8) 0 0 0 0 0 0 0 0 0 0 ([]:List UInt8) []) (X9 b a s2 s3 n4 s5 n6 n7 i n9 c d e f g h j (λp l S T q U r t u v w x y z A B V n=>k0 p l S T q U r t u v w x y z A B V n))) none) (X9 b a s2 s3 n4 s5 n6 n7 i n9 c d e f g h j (λC m W X D a0 F G H I J K M N O P a1 o=>k0 C m W X D a0 F G H I J K M N O P a1 o))
abbrev Rb(b:Code):Prop:=∀(k:Out->St Z->Option R) name0 tail1 o p j q l m h n a c d e f g i,A9 (Z2 L) Q Y b ⟨gp [(2,.ptr 0 0 0),(1,.ptr 1 0 0),(2,pS name0),(0,pS tail1)] 80,[(bU o p j q l m h n a c d e f g i),bU0],s⟩ k=R4 name0 tail1 o p j q l m h n a c d e f g i (λn0 t o p j q l m h n a c d e f g i r=>k .ret ⟨gp [(4,.ptr 1 0 0),(0,pI n0)] 83,(t::(bU o p j q l m h n a c d e f g i)::r),s⟩)
def Ad2(b:Code)(a:Ra (R:=R) L Q Y s b):Rb (R:=R) L Q Y s (cd [1,1,1,1] (G7 [1,1,1,1,1] b Cn)):=by intro k d c r t n u o p l q e f g h i j m;unfold R4;exact(j5 (by kernel_rfl) (A0 (A0 (A0 rfl ((a k d c ((bAt c (0:Int))!=58) r t n u o p l q e f g h i j m).trans (by kernel_rfl))) rfl) ((a k d c false r t n u o p l q e f g h i j m).trans (by kernel_rfl))))
def Ad3:Rb (R:=R) L Q Y s (cd [1,1,1,1] Cn):=by intro k a b p q l r m n i o c d e f g h j;exact j5 (by kernel_rfl) (Ad2 L Q Y s (cd [1,1,1,1,1] Cn) (Zq L Q Y s) k a b p q l r m n i o c d e f g h j)
def So{R:Type}(a J K:By)(G:Int)(M:By)(H C I v w x y z A B:Int)(D:By)(F:Int->Blk->By->By->Int->By->Int->Int->Int->Int->Int->Int->Int->Int->Int->Int->By->(List Blk)->Option R):Option R:=X9 a ([]:List UInt8) J K G M H C I v w x y z A B D (λd b q r e t f g h i j l m n o p u c=>F d b q r e t f g h i j l m n o p u c)
abbrev Rc(b:Code):Prop:=∀(k:Out->St Z->Option R) authority0 kk1 b2 l s4 n5 s6 i h j a c d e f g n16 s17,A9 (Z2 L) Q Y b ⟨gp [(1,pS authority0),(0,.ptr 0 0 0),(1,.ptr 1 0 0),(2,pS authority0),(0,pS ([]:List UInt8)),(1,pI kk1),(35,pB b2)] 42,[(bU l s4 n5 s6 i h j a c d e f g n16 s17),bU0],s⟩ k=So authority0 l s4 n5 s6 i h j a c d e f g n16 s17 (λn0 o r l p t q i h j a c d e f g n m=>k .ret ⟨gp [(4,.ptr 1 0 0),(0,pI n0)] 83,(o::(bU r l p t q i h j a c d e f g n)::m),s⟩)
def Ad4(c:Code)(a:Ra (R:=R) L Q Y s c):Rc (R:=R) L Q Y s (cd [1,1,1,1] (G7 [1,1,1,1,1] c Cn)):=by intro k b n v r t o u p l q d e f g h i j m;unfold So;exact(j5 (by kernel_rfl) ((a k b ([]:List UInt8) false r t o u p l q d e f g h i j m).trans (by kernel_rfl)))
def Ad5:Rc (R:=R) L Q Y s (cd [1,1,1,1] Cn):=by intro k a b m q r n t o j p c d e f g h i l;exact j5 (by kernel_rfl) (Ad4 L Q Y s (cd [1,1,1,1,1] Cn) (Zq L Q Y s) k a b m q r n t o j p c d e f g h i l)
def Vz{R:Type}(L:Nat)(u0 u1:By)(u2:Int)(u3:By)(u4 u5 u6 u7 u8 u9 e f g h:Int)(i a:By)(k0:By->By->Int->By->Int->Int->Int->Int->Int->Int->Int->Int->Int->Int->By->Int->(List Blk)->Option R):Option R:=cond (A3 a.length) (vl (L2 (u8n (64:Int)) a) λc5=>cond (not (ltI c5 0)) (cond (J0 0 c5 a.length) (vl (cut a 0 c5) λe7=>cond (J0 (A1 (c5+1)) (a.length:Int) a.length) (vl (cut a (A1 (c5+1)) (a.length:Int)) λb=>cond (A3 b.length) (cond (aa1 ([91]:List UInt8) b) (cond (A3 b.length) (vl (aa4 b (u8n (93:Int))) λJ=>cond (ltI J 0) (k0 ([]:List UInt8) ([]:List UInt8) 0 ([]:List UInt8) 0 0 0 0 0 0 0 0 0 0 ([]:List UInt8) 4 [(bU u0 e7 u2 u3 u4 u5 u6 u7 u8 u9 e f g h i),bU0]) (vl (A1 (J+1)) λe8=>cond (J0 0 e8 b.length) (vl (A1 (J+1)) λe9=>cond (J0 e9 (b.length:Int) b.length) (vl (cut b e9 (b.length:Int)) λi5=>R4 (cut b 0 e8) i5 u0 e7 u2 u3 u4 u5 u6 u7 u8 u9 e f g h i (λi4 i3 g3 g4 f2 g5 f3 f4 f5 f6 f7 f8 f9 g0 g1 g2 g6 h2=>k0 g3 g4 f2 g5 f3 f4 f5 f6 f7 f8 f9 g0 g1 g2 g6 i4 (i3::((bU g3 g4 f2 g5 f3 f4 f5 f6 f7 f8 f9 g0 g1 g2 g6)::h2)))) none) none)) none) (cond (A3 b.length) (vl (aa4 b (u8n (58:Int))) λc=>cond (not (ltI c 0)) (cond (J0 0 c b.length) (cond (J0 c (b.length:Int) b.length) (vl (cut b c (b.length:Int)) λi6=>R4 (cut b 0 c) i6 u0 e7 u2 u3 u4 u5 u6 u7 u8 u9 e f g h i (λh8 g7 c6 c7 j c8 l m n o p q r t u v c9 h3=>k0 c6 c7 j c8 l m n o p q r t u v c9 h8 (g7::((bU c6 c7 j c8 l m n o p q r t u v c9)::h3)))) none) none) (So b u0 e7 u2 u3 u4 u5 u6 u7 u8 u9 e f g h i (λh9 g8 d0 d1 w d2 x y z A B C D F G H d3 h4=>k0 d0 d1 w d2 x y z A B C D F G H d3 h9 (g8::((bU d0 d1 w d2 x y z A B C D F G H d3)::h4))))) none)) none) none) none) (cond (A3 a.length) (cond (aa1 ([91]:List UInt8) a) (cond (A3 a.length) (vl (aa4 a (u8n (93:Int))) λc4=>cond (ltI c4 0) (k0 ([]:List UInt8) ([]:List UInt8) 0 ([]:List UInt8) 0 0 0 0 0 0 0 0 0 0 ([]:List UInt8) 4 [(bU u0 u1 u2 u3 u4 u5 u6 u7 u8 u9 e f g h i),bU0]) (vl (A1 (c4+1)) λf0=>cond (J0 0 f0 a.length) (vl (cut a 0 f0) λi7=>vl (A1 (c4+1)) λf1=>cond (J0 f1 (a.length:Int) a.length) (vl (cut a f1 (a.length:Int)) λi9=>R4 i7 i9 u0 u1 u2 u3 u4 u5 u6 u7 u8 u9 e f g h i (λi0 g9 d4 d5 I d6 K M N O P S T U V W d7 h5=>k0 d4 d5 I d6 K M N O P S T U V W d7 i0 (g9::((bU d4 d5 I d6 K M N O P S T U V W d7)::h5)))) none) none)) none) (cond (A3 a.length) (vl (aa4 a (u8n (58:Int))) λd=>cond (not (ltI d 0)) (cond (J0 0 d a.length) (vl (cut a 0 d) λj3=>cond (J0 d (a.length:Int) a.length) (vl (cut a d (a.length:Int)) λk1=>R4 j3 k1 u0 u1 u2 u3 u4 u5 u6 u7 u8 u9 e f g h i (λi1 h0 d8 d9 X e1 a0 a1 a2 a3 a4 a5 a6 a7 a9 b0 e2 h6=>k0 d8 d9 X e1 a0 a1 a2 a3 a4 a5 a6 a7 a9 b0 e2 i1 (h0::((bU d8 d9 X e1 a0 a1 a2 a3 a4 a5 a6 a7 a9 b0 e2)::h6)))) none) none) (So a u0 u1 u2 u3 u4 u5 u6 u7 u8 u9 e f g h i (λi2 h1 e3 e4 b1 e5 b2 b3 b4 b5 b6 b7 c0 c1 c2 c3 e6 h7=>k0 e3 e4 b1 e5 b2 b3 b4 b5 b6 b7 c0 c1 c2 c3 e6 i2 (h1::((bU e3 e4 b1 e5 b2 b3 b4 b5 b6 b7 c0 c1 c2 c3 e6)::h7))))) none)) none)) none
def Ch4(d:Code)(a:Rb (R:=PV × List Blk × Z) L Q Y s d)(c:Rc (R:=PV × List Blk × Z) L Q Y s d)(m G:By)(n:Int)(o:By)(p q r t u8 u e f g h:Int)(i b:By):A9 (Z2 L) Q Y (cd [] (G7 [1,1,1,1] d Cn)) ⟨[(gU m G n o p q r t u8 u e f g h i),pS b]++tps 87,[],s⟩ (F4 (Z2 L) al0)=Vz L m G n o p q r t u8 u e f g h i b (λX r1 r2 r3 r4 r5 r6 r7 r8 r9 I J K M N O H=>some (.tup [(gU X r1 r2 r3 r4 r5 r6 r7 r8 r9 I J K M N),pI O],H,s)):=by unfold Vz;exact let x:=(F4 (Z2 L) al0);(j5 (by kernel_rfl) (A0 (A4 λW=>(A0 (A0 (A4 λv=>(A0 (A4 λw=>(A0 (A0 (A0 (A4 λP=>(A0 rfl (A4 λy=>(A0 (A4 λS=>(A0 (A4 λz=>((a x (cut w 0 y) z m v n o p q r t u8 u e f g h i).trans (by kernel_rfl))) rfl)) rfl)))) rfl) (A0 (A4 λj=>(A0 (A0 (A0 (A4 λA=>((a x (cut w 0 j) A m v n o p q r t u8 u e f g h i).trans (by kernel_rfl))) rfl) rfl) ((c x w j (not (ltI j 0)) m v n o p q r t u8 u e f g h i).trans (by kernel_rfl)))) rfl)) rfl)) rfl)) rfl) (A0 (A0 (A0 (A4 λT=>(A0 rfl (A4 λU=>(A0 (A4 λB=>(A4 λV=>(A0 (A4 λC=>((a x B C m G n o p q r t u8 u e f g h i).trans (by kernel_rfl))) rfl))) rfl)))) rfl) (A0 (A4 λl=>(A0 (A0 (A4 λD=>(A0 (A4 λF=>((a x D F m G n o p q r t u8 u e f g h i).trans (by kernel_rfl))) rfl)) rfl) ((c x b l (not (ltI l 0)) m G n o p q r t u8 u e f g h i).trans (by kernel_rfl)))) rfl)) rfl))) rfl))
def Ch5(d:Nat)(u0 u1 u2 u3 u4 u5 u6 u7 u8 u9 u10 u11 u12 u13 u14 authority15):evC (Z2 L) (d+1) Z Y 121 [(gU u0 u1 u2 u3 u4 u5 u6 u7 u8 u9 u10 u11 u12 u13 u14),pS authority15] [] s=Vz L u0 u1 u2 u3 u4 u5 u6 u7 u8 u9 u10 u11 u12 u13 u14 authority15 (λi j l m n o p q r8 r b c e f g h a=>some (.tup [(gU i j l m n o p q r8 r b c e f g),pI h],a,s)):=
 (evE (fn:=al0) (by kernel_rfl)).trans (j5 (by kernel_rfl) (Ch4 L (evC (Z2 L) d) Y s (cd [1,1,1,1] Cn) (Ad3 L (evC (Z2 L) d) Y s) (Ad5 L (evC (Z2 L) d) Y s) u0 u1 u2 u3 u4 u5 u6 u7 u8 u9 u10 u11 u12 u13 u14 authority15))
noncomputable abbrev Co5:Code:=C7 ao1
noncomputable def Uu(L:Nat):Cfg:=B8 L [82] (A2 [(2,[0,1,0,8,0])]) [(73,A07),(115,Cm8),(116,Az4),(117,GE),(118,Ay8),(119,WC),(120,HV),(121,Ag2)] (A2 [(23,[2,0]),(22,[2,5,0]),(21,[2,5,0,65]),(20,[2,5,0]),(19,[2,3,1,0]),(18,[2,3,1,0,0,52]),(17,[2,3,1,0,0]),(16,[2,3,1,0]),(15,[2,0]),(14,[2,3,1,48]),(13,[2,3,0,0]),(12,[2,0]),(11,[2,3,1,40]),(10,[2,3,1]),(9,[2,0]),(8,[2,2,0,33]),(7,[2,2,0,0]),(6,[0,1,9,0]),(5,[2,0]),(4,[0,1,9,0,11]),(3,[0,1,1,7,0]),(2,[0,1,9,0,0]),(1,[0,1,9,0]),(0,[0,1])]) [73,115,116,117,118,119,120] (A2 [(0,[0,1]),(1,[0,1,9,0])]) (some [2,0]) [] [] []
def Kb{R:Type}(L n:Nat)(b:By)(e a:Int)(c:(List Blk)->Option R)(d:By->Option R):Option R:=match n with|0=>none|n+1=>cond (ltI a e) (cond (inR a b.length) (cond (not (ltI 32 (bAt b a))) (c []) (cond (inR a b.length) (cond ((bAt b a)==127) (c []) (Kb L n b e (A1 (a+1)) c d)) none)) none) (d b)
def Bp4(n a n1 n2):D0 1 ((Uu L).keep 2) (bd (Uu L) Q Y (cd [1,0,1,0,0] Co5)) n ⟨gp [(0,pS a),(1,.ptr 0 0 0),(9,pI n1),(0,pI n2)] 71,[bU0],s⟩ k =
 Kb L n a n1 n2 (λb=>k .ret ⟨gp [(2,.ptr 0 0 0),(0,pI (4:Int))] 81,(bU0::b),s⟩) (λa=>k (.exit 0) ⟨gp [(0,pS a),(1,.ptr 0 0 0)] 82,[bU0],s⟩):=by
 induction n generalizing a n1 n2 with
 | zero=>rfl
 | succ n c=>rw[Kb];simp only[<-c];kernel_rfl
def PQ{R:Type}(L:Nat)(q:By)(n:By->By->Int->By->Int->Int->Int->Int->Int->Int->Int->Int->Int->Int->By->Int->(List Blk)->Option R):Option R:=Kb L L q (q.length:Int) 0 (λp=>n ([]:List UInt8) ([]:List UInt8) 0 ([]:List UInt8) 0 0 0 0 0 0 0 0 0 0 ([]:List UInt8) 4 (bU0::p)) (λo=>cond (A3 o.length) (vl ((x7 o ([58]:List UInt8))).1 λf=>vl (((x7 o ([58]:List UInt8))).2).1 λj=>cond (not (((x7 o ([58]:List UInt8))).2).2) (n ([]:List UInt8) ([]:List UInt8) 0 ([]:List UInt8) 0 0 0 0 0 0 0 0 0 0 ([]:List UInt8) 15 [bU0]) (cond (A3 f.length) (cond (not (T8 f)) (n ([]:List UInt8) ([]:List UInt8) 0 ([]:List UInt8) 0 0 0 0 0 0 0 0 0 0 ([]:List UInt8) 15 [bU0]) (cond (A3 f.length) (cond (not (F3 (B6 f))) (n (B6 f) ([]:List UInt8) 0 ([]:List UInt8) 0 0 0 0 0 0 0 0 0 (-1) j 0 [(bU (B6 f) ([]:List UInt8) (0:Int) ([]:List UInt8) (0:Int) (0:Int) (0:Int) (0:Int) (0:Int) (0:Int) (0:Int) (0:Int) (0:Int) ((-1):Int) j),(bU (B6 f) ([]:List UInt8) (0:Int) ([]:List UInt8) (0:Int) (0:Int) (0:Int) (0:Int) (0:Int) (0:Int) (0:Int) (0:Int) (0:Int) ((-1):Int) j)]) (cond (A3 j.length) (vl (Hu j ([47,47]:List UInt8)) λe=>cond (not (aa1 ([47,47]:List UInt8) j)) (n ([]:List UInt8) ([]:List UInt8) 0 ([]:List UInt8) 0 0 0 0 0 0 0 0 0 0 ([]:List UInt8) 4 [bU0,(bU (B6 f) ([]:List UInt8) (0:Int) ([]:List UInt8) (0:Int) (0:Int) (0:Int) (0:Int) (0:Int) (0:Int) (0:Int) (0:Int) (0:Int) ((-1):Int) j)]) (cond (A3 e.length) (cond (CJ ([47,63,35]:List UInt8)) (vl (ae2 e ([47,63,35]:List UInt8)) λi=>cond (not (ltI i 0)) (cond (J0 0 i e.length) (cond (J0 (↑(b9 (cut e 0 i)):Int) (e.length:Int) e.length) (vl (cut e (↑(b9 (cut e 0 i)):Int) (e.length:Int)) λg=>cond (A3 g.length) (cond (not (aa1 ([47]:List UInt8) g)) (cond (E6 1 g.length) (vl (([47]:List UInt8)++g) λl=>cond (A3 (b9 (B6 f))) (cond (A3 l.length) (cond (A3 (b9 (cut e 0 i))) (cond (((-1):Int)==((-1):Int)) (vl (G6 (B6 f) l (cut e 0 i)) λa=>n (uS a) (uU a) (uK a) (uN a) (uV a) (uA a 0) (uA a 1) (uA a 2) (uA a 3) (uA a 4) (uA a 5) (uA a 6) (uA a 7) (uP a) (uR a) (uE a) [(bQ a),(bU (B6 f) ([]:List UInt8) (0:Int) ([]:List UInt8) (0:Int) (0:Int) (0:Int) (0:Int) (0:Int) (0:Int) (0:Int) (0:Int) (0:Int) ((-1):Int) l)]) none) none) none) none) none) (cond (A3 (b9 (B6 f))) (cond (A3 g.length) (cond (A3 (b9 (cut e 0 i))) (cond (((-1):Int)==((-1):Int)) (vl (G6 (B6 f) g (cut e 0 i)) λb=>n (uS b) (uU b) (uK b) (uN b) (uV b) (uA b 0) (uA b 1) (uA b 2) (uA b 3) (uA b 4) (uA b 5) (uA b 6) (uA b 7) (uP b) (uR b) (uE b) [(bQ b),(bU (B6 f) ([]:List UInt8) (0:Int) ([]:List UInt8) (0:Int) (0:Int) (0:Int) (0:Int) (0:Int) (0:Int) (0:Int) (0:Int) (0:Int) ((-1):Int) g)]) none) none) none) none)) none) none) none) (cond (J0 (e.length:Int) (e.length:Int) e.length) (vl (cut e (e.length:Int) (e.length:Int)) λh=>cond (A3 h.length) (cond (not (aa1 ([47]:List UInt8) h)) (cond (E6 1 h.length) (vl (([47]:List UInt8)++h) λm=>cond (A3 (b9 (B6 f))) (cond (A3 m.length) (cond (A3 e.length) (cond (((-1):Int)==((-1):Int)) (vl (G6 (B6 f) m e) λc=>n (uS c) (uU c) (uK c) (uN c) (uV c) (uA c 0) (uA c 1) (uA c 2) (uA c 3) (uA c 4) (uA c 5) (uA c 6) (uA c 7) (uP c) (uR c) (uE c) [(bQ c),(bU (B6 f) ([]:List UInt8) (0:Int) ([]:List UInt8) (0:Int) (0:Int) (0:Int) (0:Int) (0:Int) (0:Int) (0:Int) (0:Int) (0:Int) ((-1):Int) m)]) none) none) none) none) none) (cond (A3 (b9 (B6 f))) (cond (A3 h.length) (cond (A3 e.length) (cond (((-1):Int)==((-1):Int)) (vl (G6 (B6 f) h e) λd=>n (uS d) (uU d) (uK d) (uN d) (uV d) (uA d 0) (uA d 1) (uA d 2) (uA d 3) (uA d 4) (uA d 5) (uA d 6) (uA d 7) (uP d) (uR d) (uE d) [(bQ d),(bU (B6 f) ([]:List UInt8) (0:Int) ([]:List UInt8) (0:Int) (0:Int) (0:Int) (0:Int) (0:Int) (0:Int) (0:Int) (0:Int) (0:Int) ((-1):Int) h)]) none) none) none) none)) none) none)) none) none)) none)) none)) none)) none)
def Do8(d:Nat)(s0):evC (Uu L) (d+1) Z Y 82 [pS s0] [] s=PQ L s0 (λi j l m n o p q r8 r b c e f g h a=>some (.tup [(gU i j l m n o p q r8 r b c e f g),pI h],a,s)):=by refine(evE (fn:=ao1) (by kernel_rfl)).trans ?_;generalize evC (Uu L) d=Q;unfold PQ;exact(j5 (by kernel_rfl) ((Bp4 L Q Y s (E2 0 (E1 (Uu L) Q Y (cd [1,1] Co5) (F4 (Uu L) ao1))) L s0 (s0.length:Int) 0).trans (by kernel_rfl)))
noncomputable def XZ(L:Nat):Cfg:=B8 L [83] (A2 []) [(117,GE),(122,Az1),(123,Bs0)] (A2 [(9,[2]),(8,[1,1]),(7,[1,1,28]),(6,[1,1]),(5,[1,1]),(4,[1,1,15]),(3,[1,1]),(2,[2]),(1,[1,5]),(0,[1])]) [117,122,123] (A2 []) (some [2]) [] [] []
def Tg{R:Type}(L:Nat)(l t:By)(u:Int)(m:By)(n o p q u8 r e f g b:Int)(a:By)(v:By->(List Blk)->Option R):Option R:=cond (not (F3 l)) (cond (E6 l.length 1) (vl (l++[58]) λw=>cond (E6 w.length a.length) (v (w++a) [(bU l t u m n o p q u8 r e f g b a)]) none) none) (cond (E6 l.length 3) (vl (l++[58,47,47]) λc=>cond (not (t==[])) (cond (E6 t.length 1) (vl (t++[64]) λh=>cond (E6 c.length h.length) (cond (A3 m.length) (cond (ltN n 4294967296) (cond (ok8 o p q u8 r e f g) (vl (S8 (mkH u m n (n8 o p q u8 r e f g))) λj=>cond (E6 (b9 (c++h)) j.length) (cond (b !=((-1):Int)) (cond (Q1 b) (cond (E6 1 (b9 (V3 b))) (vl (([58]:List UInt8)++(V3 b)) λz=>cond (E6 (b9 ((c++h)++j)) z.length) (vl (((c++h)++j)++z) λA=>cond (E6 A.length a.length) (v (A++a) [(bU l t u m n o p q u8 r e f g b a)]) none) none) none) none) (cond (E6 (b9 ((c++h)++j)) a.length) (vl (((c++h)++j)++a) λx=>v x [(bU l t u m n o p q u8 r e f g b a)]) none)) none) none) none) none) none) none) (cond (A3 m.length) (cond (ltN n 4294967296) (cond (ok8 o p q u8 r e f g) (vl (S8 (mkH u m n (n8 o p q u8 r e f g))) λd=>cond (E6 c.length d.length) (cond (b !=((-1):Int)) (cond (Q1 b) (cond (E6 1 (b9 (V3 b))) (vl (([58]:List UInt8)++(V3 b)) λi=>cond (E6 (b9 (c++d)) i.length) (cond (E6 (b9 ((c++d)++i)) a.length) (vl (((c++d)++i)++a) λy=>v y [(bU l t u m n o p q u8 r e f g b a)]) none) none) none) none) (cond (E6 (b9 (c++d)) a.length) (v ((c++d)++a) [(bU l t u m n o p q u8 r e f g b a)]) none)) none) none) none) none)) none)
def C49(d:Nat)(u0 u1 u2 u3 u4 u5 u6 u7 u8 u9 u10 u11 u12 u13 u14):evC (XZ L) (d+1) Z Y 83 [(gU u0 u1 u2 u3 u4 u5 u6 u7 u8 u9 u10 u11 u12 u13 u14)] [] s=Tg L u0 u1 u2 u3 u4 u5 u6 u7 u8 u9 u10 u11 u12 u13 u14 (λb a=>some (pS b,a,s)):=by refine(evE (fn:=Tryz.f83) (by kernel_rfl)).trans ?_;generalize evC (XZ L) d=Q;unfold Tg;kernel_rfl
noncomputable def BM(L:Nat):Cfg:=B8 L [51] (A2 []) [(83,WM),(82,Cm7)] (A2 [(2,[2]),(1,[1,1,0]),(0,[1])]) [83] (A2 []) (some [2]) [] [] []
def HK{R:Type}(L:Nat)(h i:By)(q:Int)(j:By)(l m n o u8 p b c d e:Int)(f:By)(r:Bool->(List Blk)->Option R):Option R:=cond (smU h i j f) (cond (ltN l 4294967296) (cond (ok8 m n o u8 p b c d) (cond (Q1 e) (vl (U0 (mkU h i q j l (n8 m n o u8 p b c d) e f)) λg=>cond (A3 g.length) (vl (C0 g) λa=>cond ((uE a)==0) (r ((h==(uS a))&&((i==(uU a))&&((q==(uK a))&&((j==(uN a))&&((l==(uV a))&&((m==(uA a 0))&&((n==(uA a 1))&&((o==(uA a 2))&&((u8==(uA a 3))&&((p==(uA a 4))&&((b==(uA a 5))&&((c==(uA a 6))&&((d==(uA a 7))&&((e==(uP a))&&((f==(uR a))&&true))))))))))))))) [(bU h i q j l m n o u8 p b c d e f),(bQ a)]) (r false [(bU h i q j l m n o u8 p b c d e f),(bQ a)])) none) none) none) none) none
def Bp9(d:Nat)(u0 u1 u2 u3 u4 u5 u6 u7 u8 u9 u10 u11 u12 u13 u14):evC (BM L) (d+1) Z Y 51 [(gU u0 u1 u2 u3 u4 u5 u6 u7 u8 u9 u10 u11 u12 u13 u14)] [] s=HK L u0 u1 u2 u3 u4 u5 u6 u7 u8 u9 u10 u11 u12 u13 u14 (λb a=>some (pB b,a,s)):=by refine(evE (fn:=Tryz.f51) (by kernel_rfl)).trans ?_;generalize evC (BM L) d=Q;unfold HK;kernel_rfl
noncomputable def A45(L:Nat):Cfg:=B8 L [85] (A2 []) [(51,Rm),(83,WM)] (A2 [(3,[2]),(2,[2]),(1,[1,3]),(0,[1])]) [51,83] (A2 []) (some [2]) [] [] []
def Do1{R:Type}(L:Nat)(f g:By)(o:Int)(h:By)(i j l m u8 n a b c d:Int)(e:By)(q:By->(List Blk)->Option R):Option R:=cond (smU f g h e) (cond (ltN i 4294967296) (cond (ok8 j l m u8 n a b c) (cond (Q1 d) (cond (not (P2 (mkU f g o h i (n8 j l m u8 n a b c) d e))) (q ([]:List UInt8) [(bU f g o h i j l m u8 n a b c d e)]) (cond (smU f g h e) (cond (ltN i 4294967296) (cond (ok8 j l m u8 n a b c) (cond (Q1 d) (vl (U0 (mkU f g o h i (n8 j l m u8 n a b c) d e)) λp=>q p [(bU f g o h i j l m u8 n a b c d e)]) none) none) none) none)) none) none) none) none
def Do2(d:Nat)(u0 u1 u2 u3 u4 u5 u6 u7 u8 u9 u10 u11 u12 u13 u14):evC (A45 L) (d+1) Z Y 85 [(gU u0 u1 u2 u3 u4 u5 u6 u7 u8 u9 u10 u11 u12 u13 u14)] [] s=Do1 L u0 u1 u2 u3 u4 u5 u6 u7 u8 u9 u10 u11 u12 u13 u14 (λb a=>some (pS b,a,s)):=by refine(evE (fn:=Tryz.f85) (by kernel_rfl)).trans ?_;generalize evC (A45 L) d=Q;unfold Do1;kernel_rfl
end
section
variable {Z R : Type} (L : Nat) (Q : G4) (Y : Yh Z) (s : Z) (k : Out -> St Z -> Option R)
noncomputable def BK(L:Nat):Cfg:=B8 L [160] (A2 []) [] (A2 [(1,[2]),(0,[0])]) [] (A2 []) (some [2]) [] [] []
def Ab9{R:Type}(L:Nat)(a:Int)(b:Bool->Option R):Option R:=b (ltI (8:Int) a)
def Bo0(d:Nat)(a:Int):evC (BK L) (d+1) Z Y 160 [.s (.int .i64 a)] [] s=Ab9 L a (λb=>some (.s (.bool b),[],s)):=by refine(evE (fn:=Tryz.f160) (by kernel_rfl)).trans ?_;generalize evC (BK L) d=Q;unfold Ab9;kernel_rfl
noncomputable abbrev Wn:Code:=C7 al3
noncomputable def Cp(L:Nat):Cfg:=B8 L [196] (A2 []) [] (A2 [(5,[2]),(2,[2]),(4,[2]),(3,[10]),(1,[0,2]),(0,[0])]) [] (A2 [(0,[])]) (some [2]) [] [] []
def Mc{R:Type}(a:Int)(d:Bool)(b:Unit->Option R)(c:Bool->Option R):Option R:=cond d (b ()) (cond (ltI (57343:Int) a) (cond (not (ltI (1114111:Int) a)) (b ()) (c (not (ltI (1114111:Int) a)))) (c false))
abbrev FR(b:Code):Prop:=∀(k:Out->St Z->Option R) (c:Int) (a:Bool),A9 (Cp L) Q Y b ⟨gp [(0,.s (.int .i32 c)),(2,.s (.bool a))] 13,[],s⟩ k=Mc c a (λ_=>k .ret ⟨gp [(2,.s (.bool true))] 14,[],s⟩) (λd=>k .normal ⟨gp [(10,.s (.bool d))] 6,[],s⟩)
def Ad6:FR (R:=R) L Q Y s (cd [1,0,0,1] Wn):=by intro k b a;unfold Mc;kernel_rfl
def OE{R:Type}(L:Nat)(b:Int)(a:Bool->Option R):Option R:=cond (not (ltI b (0:Int))) (Mc b (ltI b (55296:Int)) (λ_=>a true) (λc=>a false)) (Mc b false (λ_=>a true) (λd=>a false))
def Ci0(b:Code)(a:FR (R:=PV × List Blk × Z) L Q Y s b)(c:Int):A9 (Cp L) Q Y (cd [] (G7 [1,0,0,1] b Wn)) ⟨[.s (.int .i32 c)]++tps 16,[],s⟩ (F4 (Cp L) al3)=OE L c (λc=>some (.s (.bool c),[],s)):=by unfold OE;exact let d:=(E2 0 (E1 (Cp L) Q Y (cd [1,1] Wn) (F4 (Cp L) al3)));(j5 (by kernel_rfl) (A0 ((a d c (ltI c (55296:Int))).trans (by kernel_rfl)) ((a d c false).trans (by kernel_rfl))))
def Ci1(d:Nat)(a:Int):evC (Cp L) (d+1) Z Y 196 [.s (.int .i32 a)] [] s=OE L a (λa=>some (.s (.bool a),[],s)):=
 (evE (fn:=al3) (by kernel_rfl)).trans (j5 (by kernel_rfl) (Ci0 L (evC (Cp L) d) Y s (cd [1,0,0,1] Wn) (Ad6 L (evC (Cp L) d) Y s) a))
noncomputable abbrev Bb:Code:=C7 al1
noncomputable def M4(L:Nat):Cfg:=B8 L [159] (A2 [(38,[4,170]),(29,[0,3,2,0,0,4,0,0]),(25,[0,3,2,0,0,4,0]),(12,[0,3,2,0,0,2]),(5,[0,3,2,0,0])]) [(157,Wh),(196,JR)] (A2 [(35,[4]),(42,[4]),(41,[4]),(40,[5,169,5]),(39,[5,0,168]),(38,[175,0,0]),(37,[175]),(44,[4]),(33,[4]),(22,[4]),(21,[8,0,3,94]),(20,[8,0,3]),(26,[0,6,0,0,4,0]),(32,[4]),(30,[0,6,0,0,4,0,0]),(31,[0,6,0,0,4,0,0,139]),(29,[0,6,0,0,4,0,0,126]),(28,[0,6,0,0,4,0,0]),(27,[0,6,0,0,4,0,123]),(25,[0,6,0,0,4,0,108]),(24,[0,6,0,0,4,0]),(23,[0,6,0,0,4]),(19,[4]),(18,[0,6,0,0,88]),(17,[0,6,0,0,0]),(16,[0,6,0,0,0]),(15,[4]),(13,[0,6,0,0,2]),(14,[0,6,0,0,2,51]),(12,[0,6,0,0,2,38]),(11,[0,6,0,0,2]),(10,[0,6,0,0]),(9,[4]),(8,[0,6,0,0,1,31]),(7,[0,6,0,0,1]),(6,[0,6,0,0,23]),(5,[0,6,0,0,16]),(4,[0,6,0,0]),(3,[0,6,0,0]),(2,[0,6,0]),(1,[0,6]),(43,[0,0,181]),(36,[0,0,169]),(34,[0,0,158]),(0,[0,0])]) [157,196] (A2 [(0,[4]),(9,[]),(10,[175]),(5,[]),(6,[0,6,0,0,4,0]),(7,[8,0]),(8,[0,6,0,0,4,0,0]),(1,[]),(2,[0,6,0,0]),(3,[8,0]),(4,[0,6,0,0,2])]) (some [4]) [] [] []
def Ek{R:Type}(L n:Nat)(self:Nat->Option R)(a:Nat)(c:Int->Nat->Option R)(d:Nat->Option R):Option R:=cond (decide (a<3)) (vl ((ab0 ⟨ab7 (([47,63,35]:List UInt8))⟩ a)).1 λb=>cond (b==(65533:Int)) (c (↑a:Int) (a+((ab0 ⟨ab7 (([47,63,35]:List UInt8))⟩ a)).2)) (self (a+((ab0 ⟨ab7 (([47,63,35]:List UInt8))⟩ a)).2))) (d a)
def Am{R:Type}(L n:Nat)(a:Nat)(b:Int->Nat->Option R)(c:Nat->Option R):Option R:=Cx5 (α:=Nat->Option R) (λ_=>none) (λn self a=>Ek L n self a b c) n a
def Fi{R:Type}(L n:Nat)(a:Nat)(b:Int->Nat->Option R)(c:Nat->Option R):Am L (n+1) a b c=Ek L n (λa=>Am L n a b c) a b c:=rfl
def Ab6(n:Nat)(a:Nat):D0 1 ((M4 L).keep 38) (bd (M4 L) Q Y (cd [1,0,1,1,1,0,0,1,0,0] Bb)) n ⟨gp [(175,.it 0)] 11,[.iter (([47,63,35]:List UInt8)) a],s⟩ k =
 Am L n a (λn0 c=>k .ret ⟨gp [(4,.s (.int .i64 n0))] 182,[.iter (([47,63,35]:List UInt8)) c],s⟩) (λa=>k (.exit 9) ⟨gp [] 187,[.iter (([47,63,35]:List UInt8)) a],s⟩):=by
 induction n generalizing a with
 | zero=>rfl
 | succ n b=>rw[Fi];unfold Ek;exact(j5 (by kernel_rfl) (A0 (A4 λd=>(A0 rfl (b (a+((ab0 ⟨ab7 (([47,63,35]:List UInt8))⟩ a)).2)))) rfl))
def Vy{R:Type}(L n:Nat)(self:By->Int->Int->Int->Option R)(b:By)(a f c:Int)(g:Int->Int->Option R):Option R:=cond (ltI c (↑(b9 b):Int)) (cond (inR (A1 (f-c)) 3) (vl (bAt (([47,63,35]:List UInt8)) (A1 (f-c))) λd=>cond (inR (A1 (a-c)) (b9 b)) (vl (bAt b (A1 (a-c))) λe=>cond (d !=e) (none) (self b a f (A1 (c+(1:Int))))) (none)) (none)) (g a f)
def Lz{R:Type}(L n:Nat)(b:By)(a c d:Int)(e:Int->Int->Option R):Option R:=Cx5 (α:=By->Int->Int->Int->Option R) (λ_ _ _ _=>none) (λn self b a c d=>Vy L n self b a c d e) n b a c d
def Av0{R:Type}(L n:Nat)(b:By)(a c d:Int)(e:Int->Int->Option R):Lz L (n+1) b a c d e=Vy L n (λb a c d=>Lz L n b a c d e) b a c d e:=rfl
def Zf(n:Nat)(b:By)(a d e:Int):D0 0 ((M4 L).keep 12) (bd (M4 L) Q Y (cd [1,0,1,1,1,1,1,1,0,1,1,1,1,0,0,0,1,0,0,1,0,1,0,0] Bb)) n ⟨gp [(0,.s (.str (([47,63,35]:List UInt8)))),(6,.s (.str b)),(0,.s (.int .i64 a)),(0,.s (.int .i64 d)),(2,.s (.int .i64 e))] 174,[],s⟩ k =
 Lz L n b a d e (λc h=>k (.exit 3) ⟨gp [(8,.s (.int .i64 c)),(0,.s (.int .i64 h))] 177,[],s⟩):=by
 induction n generalizing b a d e with
 | zero=>rfl
 | succ n i=>rw[Av0];unfold Vy;exact(j5 (by kernel_rfl) (A0 (A0 (A4 λf=>(A0 (A4 λg=>(A0 rfl (i b a d (A1 (e+(1:Int)))))) rfl)) rfl) rfl))
def Od{R:Type}(L n:Nat)(self:By->Int->Option R)(b:By)(a:Int)(m:Int->Option R)(o:Unit->Option R):Option R:=cond (ltI a (3:Int)) (cond (inR a 3) (vl (bAt (([47,63,35]:List UInt8)) a) λj=>cond (inR a (b9 b)) (cond (j !=(bAt b a)) (vl (A1 (a+(1:Int))) λe=>cond (J0 e (3:Int) 3) (vl (cut (([47,63,35]:List UInt8)) e (3:Int)) λg=>cond (inR a (b9 b)) (cond (A3 (b9 g)) (cond (inR (bAt b a) 256) (vl (aa4 g (u8n (bAt b a))) λf=>cond (ltI f (0:Int)) (m (-1)) (vl (A1 (f+(1:Int))) λl=>Lz L L b a (A1 (a+l)) 1 (λc h=>m (A1 (h-c))))) (none)) (none)) (none)) (none)) (Lz L L b a a 1 (λd i=>m (A1 (i-d))))) (none)) (none)) (o ())
def Hi{R:Type}(L n:Nat)(b:By)(a:Int)(c:Int->Option R)(d:Unit->Option R):Option R:=Cx5 (α:=By->Int->Option R) (λ_ _=>none) (λn self b a=>Od L n self b a c d) n b a
def FM{R:Type}(L n:Nat)(b:By)(a:Int)(c:Int->Option R)(d:Unit->Option R):Hi L (n+1) b a c d=Od L n (λb a=>Hi L n b a c d) b a c d:=rfl
def Ab7(n:Nat)(b:By)(a:Int):D0 0 ((M4 L).keep 5) (bd (M4 L) Q Y (cd [1,0,1,1,1,1,1,1,0,1,1,1,1,0,0,0] Bb)) n ⟨gp [(0,.s (.str (([47,63,35]:List UInt8)))),(6,.s (.str b)),(0,.s (.int .i64 a)),(0,.s (.int .i64 a))] 177,[],s⟩ k =
 Hi L n b a (λn0=>k .ret ⟨gp [(4,.s (.int .i64 n0))] 182,[],s⟩) (λ_=>k (.exit 1) ⟨gp [] 187,[],s⟩):=by
 induction n generalizing b a with
 | zero=>rfl
 | succ n i=>rw[FM];unfold Od;exact let d:=(E2 3 (E1 (M4 L) Q Y (cd [1,0,1,1,1,1,1,1,0,1,1,1,1,0,0,0,1,0,0,1,1] Bb) (E2 2 (lpK 0 ((M4 L).keep 5) (bd (M4 L) Q Y (cd [1,0,1,1,1,1,1,1,0,1,1,1,1,0,0,0] Bb)) n k))));(j5 (by kernel_rfl) (A0 (A0 (A4 λe=>(A0 (A0 (A4 λf=>(A0 (A4 λh=>(A0 (A0 (A0 (A4 λg=>(A0 rfl (A4 λc=>((Zf L Q Y s d L b a (A1 (a+c)) 1).trans (by kernel_rfl))))) rfl) rfl) rfl)) rfl)) ((Zf L Q Y s d L b a a 1).trans (by kernel_rfl))) rfl)) rfl) rfl))
def Ly{R:Type}(L:Nat)(b:Int)(l:Bool)(d:Int->Option R)(j:Int->Nat->Option R):Option R:=cond l (cond (inR (wu8 b) 256) (vl (aa4 (([47,63,35]:List UInt8)) (u8n (wu8 b))) λg=>d g) (none)) (cond (b==(65533:Int)) (Am L L 0 (λi e=>j i e) (λf=>j (-1) f)) (cond (not (OF b)) (d (-1)) (vl (Utf8.encode b).data.toList λc=>vl (A1 ((↑(b9 c):Int)-(1:Int))) λh=>Hi L L c h (λa=>d a) (λ_=>d (-1)))))
abbrev FL(b:Code):Prop:=∀(k:Out->St Z->Option R) (c:Int) (a:Bool),A9 (M4 L) Q Y b ⟨gp [(0,.s (.str (([47,63,35]:List UInt8)))),(0,.s (.int .i32 c)),(158,.s (.bool a))] 26,[],s⟩ k=Ly L c a (λn0=>k .ret ⟨gp [(4,.s (.int .i64 n0))] 182,[],s⟩) (λn0 d=>k .ret ⟨gp [(4,.s (.int .i64 n0))] 182,[.iter (([47,63,35]:List UInt8)) d],s⟩)
def Ab5:FL (R:=R) L Q Y s (cd [1,0,1] Bb):=by intro k e d;unfold Ly;exact(j5 (by kernel_rfl) (A0 (A0 (A4 λc=>rfl) rfl) (A0 ((Ab6 L Q Y s (E2 9 (E1 (M4 L) Q Y (cd [1,0,1,1,1,0,1] Bb) k)) L 0).trans (by kernel_rfl)) (A0 rfl (A4 λb=>(A4 λa=>((Ab7 L Q Y s (E2 1 (E1 (M4 L) Q Y (cd [1,0,1,1,1,1,1,1,0,1,1,1,1,1] Bb) k)) L b a).trans (by kernel_rfl))))))))
def NW{R:Type}(L:Nat)(r:Int)(g:Int->Option R)(h:Int->Nat->Option R):Option R:=cond (not (ltI r (0:Int))) (Ly L r (ltI r (128:Int)) (λc=>g c) (λd a=>h d a)) (Ly L r false (λe=>g e) (λf b=>h f b))
def Cf5(b:Code)(a:FL (R:=PV × List Blk × Z) L Q Y s b)(r:Int):A9 (M4 L) Q Y (cd [] (G7 [1,0,1] b Bb)) ⟨[.s (.str (([47,63,35]:List UInt8))),.s (.int .i32 r)]++tps 185,[],s⟩ (F4 (M4 L) al1)=NW L r (λc=>some (.s (.int .i64 c),[],s)) (λc e=>some (.s (.int .i64 c),[.iter (([47,63,35]:List UInt8)) e],s)):=by unfold NW;exact let d:=(E2 0 (F4 (M4 L) al1));(j5 (by kernel_rfl) (A0 ((a d r (ltI r (128:Int))).trans (by kernel_rfl)) ((a d r false).trans (by kernel_rfl))))
def Cf6(d:Nat)(r:Int):evC (M4 L) (d+1) Z Y 159 [.s (.str (([47,63,35]:List UInt8))),.s (.int .i32 r)] [] s=NW L r (λa=>some (.s (.int .i64 a),[],s)) (λa b=>some (.s (.int .i64 a),[.iter (([47,63,35]:List UInt8)) b],s)):=
 (evE (fn:=al1) (by kernel_rfl)).trans (j5 (by kernel_rfl) (Cf5 L (evC (M4 L) d) Y s (cd [1,0,1] Bb) (Ab5 L (evC (M4 L) d) Y s) r))
noncomputable abbrev Ah2:Code:=C7 am5
noncomputable def Hp(L:Nat):Cfg:=B8 L [119] (A2 [(18,[1,2,40]),(12,[0,3,1,1])]) [(159,JJ),(160,AR),(161,Pm)] (A2 [(22,[4]),(21,[4]),(20,[1,7,35,7]),(19,[1,7,0,34]),(18,[1,43,0,0]),(17,[1,43]),(16,[4]),(13,[0,5,1]),(15,[4]),(14,[0,5,1,33]),(12,[0,5,1,27]),(11,[0,5,1]),(10,[0,0,4,25]),(9,[0,0,4,0]),(8,[0,0,24]),(7,[4]),(6,[0,4]),(5,[0,4,14]),(4,[0,4]),(3,[0,0,13]),(2,[4]),(1,[0,0,10]),(0,[0,0])]) [159,160] (A2 [(2,[]),(3,[1,43]),(0,[]),(1,[0,5,1])]) (some [4]) [] [] []
def Aa{R:Type}(L n:Nat)(self:By->Nat->Option R)(b:By)(a:Nat)(d:Int->(List Blk)->Option R)(e:By->Nat->Option R):Option R:=cond (decide (a<(b9 b))) (vl ((ab0 ⟨ab7 b⟩ a)).1 λc=>cond (CJ (([47,63,35]:List UInt8))) (cond (ltN c 1114112) (cond (not (ltI (irn c) (0:Int))) (d (↑a:Int) [(Blk.iter b (a+((ab0 ⟨ab7 b⟩ a)).2))]) (self b (a+((ab0 ⟨ab7 b⟩ a)).2))) (none)) (none)) (e b a)
def Lx{R:Type}(L n:Nat)(b:By)(a:Nat)(c:Int->(List Blk)->Option R)(d:By->Nat->Option R):Option R:=Cx5 (α:=By->Nat->Option R) (λ_ _=>none) (λn self b a=>Aa L n self b a c d) n b a
def Cg{R:Type}(L n:Nat)(b:By)(a:Nat)(c:Int->(List Blk)->Option R)(d:By->Nat->Option R):Lx L (n+1) b a c d=Aa L n (λb a=>Lx L n b a c d) b a c d:=rfl
def Ab4(n:Nat)(b:By)(a:Nat):D0 1 ((Hp L).keep 18) (bd (Hp L) Q Y (cd [1,1,1,1,0,1,0,0] Ah2)) n ⟨gp [(1,.s (.str (([47,63,35]:List UInt8)))),(43,.it 0)] 9,[.iter b a],s⟩ k =
 Lx L n b a (λn0 c=>k .ret ⟨gp [(4,.s (.int .i64 n0))] 50,c,s⟩) (λb a=>k (.exit 2) ⟨gp [] 55,[.iter b a],s⟩):=by
 induction n generalizing b a with
 | zero=>rfl
 | succ n d=>rw[Cg];unfold Aa;exact(j5 (by kernel_rfl) (A0 (A4 λe=>(A0 (A0 (A0 rfl (d b (a+((ab0 ⟨ab7 b⟩ a)).2))) rfl) rfl)) rfl))
def Ab3{R:Type}(L:Nat)(t:By)(e:Int->(List Blk)->Option R):Option R:=cond (ltI (8:Int) (↑(b9 t):Int)) (none) (Lx L L t 0 (λc a=>e c a) (λd b=>e (-1) [(Blk.iter d b)]))
def Cf3(d:Nat)(t:By):evC (Hp L) (d+1) Z Y 119 [.s (.str t),.s (.str (([47,63,35]:List UInt8)))] [] s=Ab3 L t (λb a=>some (.s (.int .i64 b),a,s)):=by refine(evE (fn:=am5) (by kernel_rfl)).trans ?_;generalize evC (Hp L) d=Q;unfold Ab3;exact(j5 (by kernel_rfl) (A0 rfl ((Ab4 L Q Y s (E2 2 (E1 (Hp L) Q Y (cd [1,1,1,1,1] Ah2) (F4 (Hp L) am5))) L t 0).trans (by kernel_rfl))))
end
end
section
open Go
def Gv{c:UInt8}{s:By}(h:c∉s):x7 s [c]=(s,[],false):=by unfold x7;rw[Uy h,if_neg (by decide)]
def T4{c:UInt8}{p r:By}(h:c∉p):x7 (p++c::r) [c]=(p,r,true):=by unfold x7;rw[CI h,R2,j2,ad0,j7];rw[show p++c::r=(p++[c])++r by simp,ah1 (by simp)]
def Cd:Int->By->Option Int
 | n,[]=>some n
 | n,b::r=>if 48<=b.toNat/\b.toNat<=57 then Cd (min (10*max n 0+((b.toNat-48:Nat):Int)) 65536) r else none
def GP:∀(s:By) (n:Int),Ic n s=(Cd n s).bind λm=>if m<65536 then some m else none
 | [],n=>rfl
 | b::r,n=>by
  rw[Ic,Cd];split
  ·exact GP r _
  ·rfl
def RX:∀(a b:By) (n:Int),Cd n (a++b)=(Cd n a).bind λm=>Cd m b
 | [],b,n=>rfl
 | x::a,b,n=>by
  rw[ab2,Cd,Cd];split
  ·exact RX a b _
  ·rfl
def B84:∀u:Nat,Cd (-1) (v8 u)=some (min (u:Int) 65536):=by
 intro u
 induction u using ac5 with
 | _ u a=>
  by_cases h:u<10
  ·rw[ac9 h];have:(p4 (48+u)).toNat=48+u:=by simp;omega
   rw[Cd,this,R2,Cd]
   congr 1
   omega
  ·rw[X5 u h,RX,a (u / 10) (by omega)];have:(p4 (48+u % 10)).toNat=48+u % 10:=by simp;omega
   show Cd _ _=_;rw[Cd,this,R2,Cd]
   congr 1
   omega
def Cv2(p:Int)(a:0<=p)(b:p<=65535):Ic (-1) (V3 p)=some p:=by
 obtain⟨u,rfl⟩:=x4 a;unfold V3;rw[G0,j2,GP,B84];show(if _ then _ else _)=_;rw[R2]
 congr 1
 omega
def ML:∀(s:By) (n p:Int),-1<=n->Ic n s=some p->-1<=p/\p<65536
 | [],n,p,a,h=>by
  rw[Ic] at h;split at h
  ·rename_i c;obtain rfl:=o5 h;exact⟨a,c⟩
  ·cases h
 | b::r,n,p,a,h=>by
  rw[Ic] at h;split at h
  ·exact ML r _ p (by omega) h
  ·cases h
def Al0{n:Nat}(h:n<16):L5 (Lh n)=true:=by
 rw[Cb];unfold Lh;split
 ·have:(p4 (48+n)).toNat=48+n:=by simp;omega
  omega
 ·have:(p4 (87+n)).toNat=87+n:=by simp;omega
  omega
def Cs0:∀x:Nat,∀b∈P9 x,L5 b=true:=by
 intro x
 induction x using ac5 with
 | _ x c=>
  intro b a;by_cases h:x<16
  ·rw[Z3 h] at a;simp only[x9] at a;subst a;exact Al0 h
  ·rw[X6 h] at a;rcases x5.1 a with a|a
   ·exact c _ (by omega) b a
   ·simp only[x9] at a;subst a;exact Al0 (by omega)
def Qh{l:List Nat}{b:UInt8}(h:b∈K7 l):b=58\/L5 b=true:=by
 rcases Xw _ h with h|⟨x,c,a⟩
 ·exact .inl h
 ·obtain⟨n,_,rfl⟩:=an5.1 c;exact .inr (Cs0 n b a)
def C55{a:List Nat}{b:UInt8}(h:b∈Ao a):b=58\/L5 b=true:=by
 unfold Ao at h;split at h
 ·exact Qh h
 ·simp only[x5,p5] at h;rcases h with h|h|h|h
  ·exact Qh h
  ·exact .inl h
  ·exact .inl h
  ·exact Qh h
def A92{b:UInt8}(h:48<=b.toNat/\b.toNat<=57):L5 b=true:=(Cb b).2 (.inr (.inl h))
def QZ{h:B5}(ok:Dj h)(a:K4 h=true):(∃m,S8 h=91::(m++[93])/\∀b∈m,b=58\/L5 b=true)\/(S8 h≠[]/\∀b∈S8 h,b=46\/L5 b=true):=by
 obtain⟨i,k,v4,v6⟩:=h;unfold S8;rw[if_pos a];unfold K4 at a;simp only at a ⊢;by_cases d:i=1
 ·subst d;simp only[if_true,k9,beq_iff_eq] at a ⊢;have:=Jc.1 a.1.1;exact .inr ⟨this.ne,this.byt⟩
 rw[if_neg d] at a ⊢;by_cases f:i=2
 ·subst f;simp only[if_true] at a ⊢;refine .inr ⟨λe=>?_,λb c=>?_⟩
  ·have g:=Ao2 v4 ok.v4;rw[e] at g;have j:(C3 []).1.kind=2:=by rw[g]
   exact absurd j (by decide)
  ·rcases Ax1 c with h|h
   ·exact .inl h
   ·exact .inr (A92 h)
 rw[if_neg f] at a ⊢;exact .inl ⟨_,rfl,λb c=>C55 c⟩
def B47{h:B5}(ok:Dj h)(i:K4 h=true){b:UInt8}(a:b∈S8 h):ctl b=false/\M6 b=false/\b≠64:=by
 have q:∀b:UInt8,(b=46\/b=58\/b=91\/b=93\/L5 b=true)->ctl b=false/\M6 b=false/\b≠64:=by
  intro b h;rcases h with rfl|rfl|rfl|rfl|h
  ·decide
  ·decide
  ·decide
  ·decide
  ·rw[Cb] at h;rcases h with h|h|rfl|rfl
   ·refine⟨?_,?_,λe=>?_⟩
    ·rw[w8,ne_eq,Wq];omega
    ·have d:b≠47:=λe=>by rw[e] at h;simp at h
     have f:b≠63:=λe=>by rw[e] at h;simp at h
     have g:b≠35:=λe=>by rw[e] at h;simp at h
     simp[M6,d,f,g]
    ·rw[e] at h;simp at h
   ·refine⟨?_,?_,λe=>?_⟩
    ·rw[w8,ne_eq,Wq];omega
    ·have d:b≠47:=λe=>by rw[e] at h;simp at h
     have f:b≠63:=λe=>by rw[e] at h;simp at h
     have g:b≠35:=λe=>by rw[e] at h;simp at h
     simp[M6,d,f,g]
    ·rw[e] at h;simp at h
   ·decide
   ·decide
 apply q;rcases QZ ok i with⟨m,e,c⟩|⟨_,c⟩
 ·rw[e] at a;simp only[p5,x5,ag7,or_false] at a;rcases a with h|h|h
  ·simp[h]
  ·rcases c b h with h|h<;>simp[h]
  ·simp[h]
 ·rcases c b a with h|h<;>simp[h]
def Ln(s:By):Prop:=∀b∈s,ctl b=false
def D79(s:By):Prop:=∀b∈s,M6 b=false
structure CU (u:P7):Prop where
 ns:F3 u.sch=false->T8 u.sch=true/\B6 u.sch=u.sch/\u.user=[]/\u.host=L8/\u.port=-1/\Ln u.rest
 sp:F3 u.sch=true->Ln u.user/\D79 u.user/\Dj u.host/\K4 u.host=true/\(u.port=-1\/(0<=u.port/\u.port<=65535/\u.port≠P4 u.sch))/\(∃r,u.rest=47::r)/\Ln u.rest
def Mi{s:By}:s.any ctl=false↔Ln s:=by unfold Ln;rw[List.any_eq_false];exact⟨λh b a=>by simpa using h b a,λh b a=>by simp[h b a]⟩
def Qf{e user c a:By}(h:(N6 e user c a).2=0):∃f b,(N6 e user c a).1=⟨e,user,f,b,c⟩/\Dj f/\K4 f=true/\(b=-1\/(0<=b/\b<=65535/\b≠P4 e)):=by
 unfold N6 at h ⊢;cases i:Fc a with
 | none=>rw[i] at h;simp at h
 | some q=>
  obtain⟨name,tail⟩:=q;rw[i] at h;simp only at h ⊢;by_cases g:tail≠[]/\tail.head?≠some 58
  ·rw[if_pos g] at h;simp at h
  ·rw[if_neg g] at h ⊢;by_cases d:(C3 name).2≠0
   ·rw[if_pos d] at h;exact absurd h d
   ·rw[if_neg d] at h ⊢;cases j:Ic (-1) (tail.drop 1) with
    | none=>rw[j] at h;simp at h
    | some p=>
     have o:=ML _ _ _ (by omega) j;obtain⟨m,n⟩:=B93 name;refine⟨_,_,rfl,m,n (by simpa using d),?_⟩;split
     ·exact .inl rfl
     ·rename_i l;by_cases k:p=-1
      ·exact .inl k
      ·exact .inr ⟨by omega,by omega,l⟩
def My{c user b a:By}(h:(N6 c user b a).2≠0):(N6 c user b a).1=Y6:=by
 unfold N6 at h ⊢;split
 ·rfl
 ·rename_i name tail f;rw[f] at h;simp only at h ⊢;split
  ·rfl
  ·rename_i d;rw[if_neg d] at h;split
   ·rfl
   ·rename_i e;rw[if_neg e] at h;split
    ·rfl
    ·rename_i p g;rw[g] at h;exact absurd rfl h
def A99(s:By):B6 (B6 s)=B6 s:=by
 unfold B6;rw[af1];apply ac1;intro b _;show Y3 (Y3 b)=Y3 b;rcases K9 b with⟨_,e⟩|⟨_,e⟩|⟨c,d,e⟩
 ·rw[e,e]
 ·rw[e,e]
 ·rcases K9 (Y3 b) with⟨_,a⟩|⟨_,a⟩|⟨f,g,_⟩
  ·exact a
  ·exact a
  ·omega
def A96(b:UInt8):Q8 (Y3 b)=Q8 b:=by
 rw[ad6,V8,V8];rcases K9 b with⟨_,e⟩|⟨_,e⟩|⟨a,c,e⟩
 ·rw[e]
 ·rw[e]
 ·omega
def YX{b c:UInt8}(f:c.toNat<65):Y3 b=c↔b=c:=by
 rcases K9 b with⟨_,e⟩|⟨_,e⟩|⟨a,d,e⟩
 ·rw[e]
 ·rw[e]
 ·constructor
  ·intro h;rw[h] at e;omega
  ·intro h;subst h;omega
def Au1(b:UInt8):L6 (Y3 b)=L6 b:=by
 rw[ad6,Fh,Fh,YX (by decide),YX (by decide),YX (by decide)];rcases K9 b with⟨_,e⟩|⟨_,e⟩|⟨a,c,e⟩
 ·rw[e]
 ·rw[e]
 ·constructor
  ·rintro(h|h|h|h)<;>first|omega|exact .inr (.inr (.inr h))
  ·rintro(h|h|h|h)<;>first|omega|exact .inr (.inr (.inr h))
def Au4(s:By):T8 (B6 s)=T8 s:=by
 cases s with
 | nil=>rfl
 | cons b r=>
  show(Q8 (Y3 b)&&(r.map Y3).all L6)=(Q8 b&&r.all L6)
  rw[A96,ag8]
  congr 1
  apply List.all_congr rfl;intro b;exact Au1 b
def Ab8(r:By):∃t,R0 r=47::t:=by
 unfold R0;split
 ·rename_i h;cases r with
  | nil=>cases h
  | cons b t=>
   obtain rfl:=o5 h;exact⟨t,rfl⟩
 ·exact⟨r,rfl⟩
def Av1{r:By}(h:Ln r):Ln (R0 r):=by
 unfold R0;split
 ·exact h
 ·intro b a;rcases p5.1 a with rfl|a
  ·decide
  ·exact h b a
def Ca2{j c a:By}(p:F3 j=true)(q:Ln a)(i:D79 a)(o:Ln c)(f:∃r,c=47::r)(h:(G6 j c a).2=0):CU (G6 j c a).1:=by
 unfold G6 at h ⊢;by_cases n:0<=L2 64 a
 ·rw[if_pos n] at h ⊢;obtain⟨t,g,e,k,l,m⟩:=Qf h;rw[e];exact⟨λh=>(by rw[p] at h;cases h),λ_=>⟨λb d=>q b (ab6 d),λb d=>i b (ab6 d),k,l,m,f,o⟩⟩
 ·rw[if_neg n] at h ⊢;obtain⟨t,g,e,k,l,m⟩:=Qf h;rw[e];exact⟨λh=>(by rw[p] at h;cases h),λ_=>⟨λb d=>(by cases d),λb d=>(by cases d),k,l,m,f,o⟩⟩
def Ao1{s:By}(h:(C0 s).2=0):CU (C0 s).1:=by
 unfold C0 at h ⊢;cases f:s.any ctl with
 | true=>rw[f] at h;simp at h
 | false=>
  rw[f] at h;have j:=Mi.1 f;simp only[o7,if_false] at h ⊢;rcases P0 58 s with c|⟨p,r,rfl,c⟩
  ·rw[Gv c] at h;simp at h
  ·rw[T4 c] at h ⊢;have k:Ln p:=λb d=>j b (by simp[d])
   have g:Ln r:=λb d=>j b (by simp[d])
   cases a:T8 p with
   | false=>rw[a] at h;simp at h
   | true=>
    rw[a] at h;simp only[o6,an0,o7,if_false] at h ⊢;cases e:F3 (B6 p) with
    | false=>
     simp only[o9,if_true];exact⟨λ_=>⟨by rw[Au4];exact a,A99 p,rfl,rfl,rfl,g⟩,λh=>(by simp only at h;rw[e] at h;cases h)⟩
    | true=>
     rw[e] at h;simp only[o6,o7,if_false] at h ⊢;cases i:([47,47]:By).isPrefixOf r with
     | false=>rw[i] at h;simp at h
     | true=>
      rw[i] at h;simp only[o6,o7,if_false] at h ⊢;exact Ca2 e (λb d=>g b (y7 (ab6 d))) (Bn4 _) (Av1 λb d=>g b (y7 (y7 d))) (Ab8 _) h
def Bd0{d b a:By}(h:(G6 d b a).2≠0):(G6 d b a).1=Y6:=by
 unfold G6 at h ⊢;split
 ·rename_i c;rw[if_pos c] at h;exact My h
 ·rename_i c;rw[if_neg c] at h;exact My h
def SC{s:By}(h:(C0 s).2≠0):(C0 s).1=Y6:=by
 unfold C0 at h ⊢;split
 ·rfl
 ·rename_i b;rw[if_neg b] at h;split
  ·rfl
  ·rename_i c;rw[if_neg c] at h;split
   ·rename_i a;rw[if_pos a] at h;exact absurd rfl h
   ·rename_i a;rw[if_neg a] at h;split
    ·rfl
    ·rename_i d;rw[if_neg d] at h;exact Bd0 h
def Au3{s:By}(h:F3 s=true):T8 s=true/\B6 s=s/\(58:UInt8)∉s/\Ln s:=by
 rcases PN h with rfl|rfl|rfl|rfl
 ·exact⟨by decide,by decide,by decide,Mi.1 (by decide)⟩
 ·exact⟨by decide,by decide,by decide,Mi.1 (by decide)⟩
 ·exact⟨by decide,by decide,by decide,Mi.1 (by decide)⟩
 ·exact⟨by decide,by decide,by decide,Mi.1 (by decide)⟩
def NR{b:UInt8}(h:L6 b=true):b≠58/\ctl b=false:=by
 rw[Fh] at h;refine⟨λe=>?_,?_⟩
 ·subst e
  revert h
  decide
 ·rw[w8,ne_eq,Wq];rcases h with h|h|h|rfl|rfl|rfl
  ·omega
  ·omega
  ·omega
  ·decide
  ·decide
  ·decide
def Cf2{s:By}(h:T8 s=true):(58:UInt8)∉s/\Ln s/\s≠[]:=by
 cases s with
 | nil=>cases h
 | cons b r=>
  simp only[T8,k9,ab1] at h;have c:L6 b=true:=by unfold L6;rw[h.1];rfl
  have q:∀x∈b::r,L6 x=true:=λx a=>by
   rcases p5.1 a with rfl|a
   ·exact c
   ·exact h.2 x a
  exact⟨λd=>(NR (q 58 d)).1 rfl,λx a=>(NR (q x a)).2,by simp⟩
def Sy{p user c:By}{h:B5}{a:Int}(ok:Dj h)(o:K4 h=true)(w:a=-1\/(0<=a/\a<=65535/\a≠P4 p)) :
  N6 p user c (S8 h++(if a=-1 then [] else 58::V3 a))=(⟨p,user,h,a,c⟩,0):=by
 have key:∀tail:By,(tail=[]\/tail.head? = some 58)->Fc (S8 h++tail)=some (S8 h,tail):=by
  intro tail i;unfold Fc;rcases QZ ok o with⟨m,e,g⟩|⟨n,g⟩
  ·have k:(93:UInt8)∉91::m:=by
    intro d;rcases p5.1 d with d|d
    ·exact absurd d (by decide)
    ·rcases g 93 d with h|h
     ·exact absurd h (by decide)
     ·exact absurd h (by decide)
   have q:S8 h++tail=(91::m)++93::tail:=by rw[e];simp
   rw[if_pos (by rw[e];rfl),q,Xp tail k];simp only;have u:(91::m)++93::tail=S8 h++tail:=q.symm;have v:(91::m).length+1=(S8 h).length:=by rw[e];simp
   rw[u,v,ad0,ai0]
  ·have f:(58:UInt8)∉S8 h:=by
    intro d;rcases g 58 d with h|h
    ·exact absurd h (by decide)
    ·exact absurd h (by decide)
   have l:(S8 h++tail).head?≠some 91:=by
    cases r:S8 h with
    | nil=>exact absurd r n
    | cons b t=>
     rw[r] at g;intro e;obtain rfl:=o5 e;rcases g 91 (by simp) with h|h
     ·exact absurd h (by decide)
     ·exact absurd h (by decide)
   rw[if_neg l];rcases i with rfl|i
   ·rw[ab5,RL f]
   ·cases tail with
    | nil=>cases i
    | cons b t=>
     obtain rfl:=o5 i;rw[Xp t f];simp only;rw[ad0,ai0]
 unfold N6;by_cases j:a=-1
 ·subst j;rw[if_pos rfl,key [] (.inl rfl)];simp only;rw[if_neg (by simp),LP ok o];simp only[ne_eq,not_true_eq_false,if_false];have:Ic (-1) (ai5 1 ([]:By))=some (-1):=by rfl
  rw[this];simp
 ·rw[if_neg j,key (58::V3 a) (.inr rfl)];obtain⟨x,y,z⟩:=w.resolve_left j;simp only;rw[if_neg (by simp),LP ok o];simp only[ne_eq,not_true_eq_false,if_false,ae8,v7];rw[Cv2 a x y];simp only;rw[if_neg z]
def A85{p:Int}(a:0<=p){b:UInt8}(h:b∈V3 p):48<=b.toNat/\b.toNat<=57:=by unfold V3 at h;rw[G0] at h;exact BO _ b h
def Dx5{b:UInt8}(h:48<=b.toNat/\b.toNat<=57):ctl b=false/\M6 b=false/\b≠64:=by
 refine⟨?_,?_,λe=>?_⟩
 ·rw[w8,ne_eq,Wq];omega
 ·have a:b≠47:=λe=>by rw[e] at h;simp at h
  have c:b≠63:=λe=>by rw[e] at h;simp at h
  have d:b≠35:=λe=>by rw[e] at h;simp at h
  simp[M6,a,c,d]
 ·rw[e] at h;simp at h
def Cs1{h:B5}{a:Int}{g:By}(ok:Dj h)(f:K4 h=true)(e:a=-1\/(0<=a/\a<=65535/\a≠P4 g)){b:UInt8}(c:b∈S8 h++(if a=-1 then [] else 58::V3 a)):ctl b=false/\M6 b=false/\b≠64:=by
 rcases x5.1 c with c|c
 ·exact B47 ok f c
 ·by_cases d:a=-1
  ·rw[if_pos d] at c;cases c
  ·rw[if_neg d] at c;rcases p5.1 c with rfl|c
   ·decide
   ·exact Dx5 (A85 (e.resolve_left d).1 c)
def Ae7{u:P7}(h:CU u):C0 (U0 u)=(u,0):=by
 obtain⟨e,user,d,a,n⟩:=u;obtain⟨j,l⟩:=h;simp only at j l;unfold U0;simp only;cases k:F3 e with
 | false=>
  obtain⟨o,p,rfl,rfl,rfl,F⟩:=j k;obtain⟨w,x,D⟩:=Cf2 o;have z:(e++58::n).any ctl=false:=Mi.2 λb c=>by
   simp only[x5,p5] at c;rcases c with c|rfl|c
   ·exact x b c
   ·decide
   ·exact F b c
  simp only[o7,if_false];unfold C0;rw[z,T4 w];simp only[o7,if_false];rw[o,p,k];simp
 | true=>
  obtain⟨o,p,q,t,v,⟨r,rfl⟩,G⟩:=l k;obtain⟨w,x,D,H⟩:=Au3 k;have y:=λb (c:b∈S8 d++(if a=-1 then [] else 58::V3 a))=>Cs1 q t v c
  simp only[if_true];have g:∀b∈Ky ⟨e,user,d,a,47::r⟩,ctl b=false/\M6 b=false:=by
   intro b c;unfold Ky at c;simp only at c;rcases x5.1 c with c|c
   ·by_cases m:user=[]
    ·rw[if_pos m] at c;cases c
    ·rw[if_neg m] at c;rcases x5.1 c with c|c
     ·exact⟨o b c,p b c⟩
     ·simp only[x9] at c;subst c
      decide
   ·exact⟨(y b c).1,(y b c).2.1⟩
  have A:G6 e (47::r) (Ky ⟨e,user,d,a,47::r⟩)=(⟨e,user,d,a,47::r⟩,0):=by
   have i:(64:UInt8)∉S8 d++(if a=-1 then [] else 58::V3 a):=λI=>(y 64 I).2.2 rfl
   unfold G6 Ky;simp only;by_cases m:user=[]
   ·subst m;rw[if_pos rfl,aa2,Nd i,if_neg (by decide)];exact Sy q t v
   ·rw[if_neg m,y9,ah4,Rx user i,R2,j2,ad0];have:ai5 (user.length+1) (user++64::(S8 d++(if a=-1 then [] else 58::V3 a)))=S8 d++(if a=-1 then [] else 58::V3 a):=by
     rw[show user++64::(S8 d++(if a=-1 then [] else 58::V3 a))=(user++[64])++(S8 d++(if a=-1 then [] else 58::V3 a)) by simp,ah1 (by simp)]
    rw[this];exact Sy q t v
  generalize Ky ⟨e,user,d,a,47::r⟩=f at *;have z:(e++58::47::47::(f++47::r)).any ctl=false:=Mi.2 λb c=>by
   simp only[x5,p5] at c;rcases c with c|rfl|rfl|rfl|c|c
   ·exact H b c
   ·decide
   ·decide
   ·decide
   ·exact(g b c).1
   ·exact G b (by simpa using c)
  have C:I6 (f++47::r)=f.length:=Cf9 (λb c=>(g b c).2) (λb c=>by obtain rfl:=o5 c;decide);unfold C0;rw[z,T4 D];simp only[o7,if_false];rw[w,x,k];have Qg:([47,47]:By).isPrefixOf (47::47::(f++47::r))=true:=by simp[aa1]
  rw[Qg];simp only[o6,an0,o7,if_false,ae8,v7];rw[C,ad0,ai0];have B:R0 (47::r)=47::r:=if_pos rfl;rw[B];exact A
def D88{u:P7}(h:CU u):CU (upU u):=by
 unfold upU;by_cases a:N0 u.sch=true
 ·rw[if_pos a];have o:F3 u.sch=true:=by unfold F3;unfold N0 at a;rw[a];rfl
  obtain⟨e,f,g,i,j,k,l⟩:=h.sp o;have n:P4 (if u.sch==W5 then U6 else Kz)=443:=by split<;>decide
  have d:F3 (if u.sch==W5 then U6 else Kz)=true:=by split<;>decide
  refine⟨λh=>?_,λ_=>⟨e,f,g,i,?_,k,l⟩⟩
  ·simp only at h;rw[d] at h;cases h
  ·simp only;rw[n];by_cases b:u.port=443
   ·rw[if_pos b];exact .inl rfl
   ·rw[if_neg b];rcases j with c|⟨c,m,p⟩
    ·exact .inl c
    ·exact .inr ⟨c,m,b⟩
 ·rw[if_neg a];exact h
def Xn(c user b a:By):(N6 c user b a).1.sch.length<=c.length/\(N6 c user b a).1.user.length<=user.length/\(N6 c user b a).1.rest.length<=b.length:=by
 by_cases h:(N6 c user b a).2=0
 ·obtain⟨f,d,e,_⟩:=Qf h;rw[e];exact⟨y8 _,y8 _,y8 _⟩
 ·rw[My h];exact⟨ab8 _,ab8 _,ab8 _⟩
def MY(c b a:By):(G6 c b a).1.sch.length<=c.length/\(G6 c b a).1.user.length<=a.length/\(G6 c b a).1.rest.length<=b.length:=by
 unfold G6;split
 ·obtain⟨d,e,f⟩:=Xn c (a.take (L2 64 a).toNat) b (a.drop ((L2 64 a).toNat+1));rw[j6] at e;exact⟨d,by omega,f⟩
 ·obtain⟨d,e,f⟩:=Xn c [] b a;simp only[x8] at e;exact⟨d,by omega,f⟩
def FN(r:By):(R0 r).length<=r.length+1:=by
 unfold R0;split
 ·omega
 ·simp
def B96(s:By):(C0 s).1.sch.length<=s.length/\(C0 s).1.user.length<=s.length/\(C0 s).1.rest.length<=s.length+1:=by
 have z:Y6.sch.length<=s.length/\Y6.user.length<=s.length/\Y6.rest.length<=s.length+1:=⟨ab8 _,ab8 _,ab8 _⟩
 unfold C0;split
 ·exact z
 ·rcases P0 58 s with a|⟨p,r,rfl,a⟩
  ·rw[Gv a];exact z
  ·rw[T4 a];have b:(p++58::r).length=p.length+r.length+1:=by rw[j9,j4];omega
   simp only;split
   ·exact z
   ·split
    ·simp only[Ag,x8];omega
    ·split
     ·exact z
     ·obtain⟨c,d,e⟩:=MY (B6 p) (R0 ((r.drop 2).drop (I6 (r.drop 2)))) ((r.drop 2).take (I6 (r.drop 2)));have f:=FN ((r.drop 2).drop (I6 (r.drop 2)));simp only[j6,j0,Ag] at c d e f;omega
structure Ae9 (u:P7):Prop where
 host:Dj u.host
 port:-1<=u.port/\u.port<65536
def CT:Dj L8:=⟨by decide,B25,by decide⟩
def CU.ok{u:P7}(h:CU u):Ae9 u:=by
 cases hs:F3 u.sch with
 | false=>
  obtain⟨_,_,_,a4,a5,_⟩:=h.ns hs;exact⟨by rw[a4];exact CT,by omega⟩
 | true=>
  obtain⟨_,_,a3,_,a5,_⟩:=h.sp hs;exact⟨a3,by omega⟩
def Qr(s:By):Ae9 (C0 s).1:=by
 by_cases h:(C0 s).2=0
 ·exact(Ao1 h).ok
 ·rw[SC h];exact⟨CT,by decide,by decide⟩
def Cq3(h:B5):eqH h h=true:=by simp[eqH]
def Cq4(u:P7):eqU u u=true:=by simp[eqU,Cq3]
def HN{u:P7}(h:CU u):P2 u=true:=by unfold P2;rw[Ae7 h,Cq4];rfl
def Dw1{u:P7}(h:CU u):Fq u=U0 u:=by unfold Fq;rw[HN h,if_pos rfl]
def Cu5{m n j l:By}{h v4:Nat}{a b c d e f g i:Nat}{k:Int}(o:h<4):mkU m n (h:Int) j (v4:Int) (n8 a b c d e f g i) k l=⟨m,n,⟨h,j,v4,[a,b,c,d,e,f,g,i]⟩,k,l⟩:=by unfold mkU Cu4 n8;rw[if_pos (E3.2 ⟨by omega,by omega⟩)];simp only[j2]
def B94{s:By}(h:s.length<=2048):B3 s=C0 s:=G0
def B95(s:By):Ae9 (B3 s).1:=by
 unfold B3;split
 ·exact⟨CT,by decide,by decide⟩
 ·exact Qr s
def Bb6{s:By}(h:(B3 s).2≠0):(B3 s).1=Y6:=by
 unfold B3 at h ⊢;split
 ·rfl
 ·rename_i c;rw[if_neg c] at h;exact SC h
def RZ{s:By}(h:(B3 s).2=0):CU (B3 s).1:=by
 unfold B3 at h ⊢;split
 ·rename_i c;rw[if_pos c] at h;cases h
 ·rename_i c;rw[if_neg c] at h;exact Ao1 h
def MT(s:By):(B3 s).1.sch.length<=s.length/\(B3 s).1.user.length<=s.length/\(B3 s).1.rest.length<=s.length+1:=by
 unfold B3;split
 ·exact⟨ab8 _,ab8 _,ab8 _⟩
 ·exact B96 s
def Fa{s:By}(h:N0 s=true):s=W5\/s=bWs:=by simpa[N0] using h
def B09(s:By):N0 (upS s)=false:=by
 unfold upS;by_cases c:s=W5
 ·subst c;decide
 ·by_cases d:s=bWs
  ·subst d;decide
  ·have a:(s==W5)=false:=by simpa using c
   have b:(s==bWs)=false:=by simpa using d
   rw[a,b];simp[N0,a,b]
def Ad1{s:By}(h:N0 s=false)(a:Int):upS s=s/\upP s a=a:=by
 have e:(s==W5)=false/\(s==bWs)=false:=by simpa[N0] using h
 unfold upS upP;rw[e.1,e.2,h];simp
def D12(u:P7):upU u=⟨upS u.sch,u.user,u.host,upP u.sch u.port,u.rest⟩:=by
 obtain⟨b,user,f,a,g⟩:=u;cases h:N0 b with
 | false=>
  obtain⟨i,c⟩:=Ad1 h a;unfold upU;rw[if_neg (by simp[h])];simp only;rw[i,c]
 | true=>
  unfold upU;rw[if_pos h];have e:(if b==W5 then U6 else Kz)=upS b:=by
   rcases Fa h with rfl|rfl<;>decide
  have c:(if a=443 then (-1:Int) else a)=upP b a:=by
   unfold upP;rw[h];by_cases d:a=443
   ·subst d;rfl
   ·have:(a==443)=false:=by simpa using d
    rw[if_neg d,this];rfl
  simp only[e,c]
def Xo{n:Int}:Q1 n=true↔-9223372036854775808<=n/\n<9223372036854775808:=by unfold Q1;rw[E3];constructor<;>rintro⟨a,b⟩<;>constructor<;>omega
def Kj(c:UInt8):∀s:By,aa4 s c=match Hz c s with|some k=>(k:Int)|none=>-1
 | []=>rfl
 | b::r=>by
  have a:=Kj c r;unfold aa4 Hz;by_cases h:b=c
  ·rw[if_pos h,if_pos (by simpa using h)];rfl
  ·rw[if_neg h,if_neg (by simpa using h),a];cases Hz c r with
   | none=>rfl
   | some k=>
    have e:((k:Int)==-1)=false:=by rw[beq_eq_false_iff_ne];omega
    simp only[x6,e,o7,if_false];rfl
def Cf8(b:UInt8):isl.contains b=M6 b:=by rw[ad6];simp[isl,M6,or_assoc]
def Ix(b:UInt8)(r:By):I6 (b::r)=if M6 b then 0 else I6 r+1:=by unfold I6;rw[ae9];cases h:M6 b<;>simp
def Zi:∀s:By,I6 s<=s.length
 | []=>y8 _
 | b::r=>by
  have:=Zi r;rw[Ix,j4];split<;>omega
def Ki:∀s:By,ae2 s isl=if I6 s<s.length then (I6 s:Int) else -1
 | []=>rfl
 | b::r=>by
  have c:=Ki r;have d:=Zi r;rw[ae2,Cf8,Ix,j4,c];cases M6 b with
  | true=>simp
  | false=>
   simp only[o7,if_false];by_cases h:I6 r<r.length
   ·have e:((I6 r:Int)==-1)=false:=by rw[beq_eq_false_iff_ne];omega
    have a:I6 r+1<r.length+1:=by omega
    simp only[if_pos h,if_pos a,e,o7,if_false];rfl
   ·have a:¬I6 r+1<r.length+1:=by omega
    simp only[if_neg h,if_neg a];rfl
def Dx2(b:UInt8)(t:By)(g:128<=b.toNat):128<=(p6 (b::t)).1/\(p6 (b::t)).1<1114112/\1<=(p6 (b::t)).2/\(p6 (b::t)).2<=t.length+1/\∀i,i<(p6 (b::t)).2->128<=((b::t).getD i 0).toNat:=by
 have d:=ah8 (b::t) (by simp);have l:=ae1 (b::t);have n:=ak5 (b::t);rw[j4] at d;refine⟨?_,by omega,l,d,?_⟩;all_goals
  clear d l n;rw[ai9];rcases Lib.decodeN_shape (b::t).length ((b::t).getD 0 0).toNat ((b::t).getD 1 0).toNat ((b::t).getD 2 0).toNat ((b::t).getD 3 0).toNat with⟨c,e⟩|⟨h,j,k,f,e⟩|⟨h,j,k,m,f,p,e⟩|⟨h,j,k,m,o,f,q,e⟩|e
  all_goals rw[e]
 ·exact absurd g (by simp at c;omega)
 ·exact f
 ·simp only;omega
 ·simp only;omega
 ·simp only;omega
 ·exact absurd g (by simp at c;omega)
 ·intro i a;have:i=0\/i=1:=by simp only at a;omega
  rcases this with rfl|rfl<;>omega
 ·intro i a;have:i=0\/i=1\/i=2:=by simp only at a;omega
  rcases this with rfl|rfl|rfl<;>omega
 ·intro i a;have:i=0\/i=1\/i=2\/i=3:=by simp only at a;omega
  rcases this with rfl|rfl|rfl|rfl<;>omega
 ·intro i a;have:i=0:=by simp only at a;omega
  subst this;exact g
def C20{b:UInt8}(h:128<=b.toNat):M6 b=false:=by
 unfold M6;have n:∀c:UInt8,c.toNat<128->(b==c)=false:=λc a=>by
  rw[beq_eq_false_iff_ne];rintro rfl;omega
 rw[n 47 (by decide),n 63 (by decide),n 35 (by decide)];rfl
def Cs5{r:Int}(h:128<=r):irn r=-1:=by unfold irn;rw[G0,G0,G0]
def Dy6(b:UInt8):ltI (irn (b.toNat:Int)) 0 = !M6 b:=by
 have e:∀c:UInt8,((b.toNat:Int)=(c.toNat:Int))=(b=c):=λc=>propext ⟨λh=>ae7.1 (by omega),λh=>by rw[h]⟩
 have g:((b.toNat:Int)=47)=(b=47):=e 47;have i:((b.toNat:Int)=63)=(b=63):=e 63;have j:((b.toNat:Int)=35)=(b=35):=e 35;unfold irn M6;simp only[g,i,j];by_cases a:b=47
 ·subst a;rfl
 ·by_cases d:b=63
  ·subst d;rfl
  ·by_cases f:b=35
   ·subst f;rfl
   ·have n:∀c,b≠c->(b==c)=false:=λc h=>by rwa [beq_eq_false_iff_ne]
    rw[if_neg a,if_neg d,if_neg f,n _ a,n _ d,n _ f];rfl
end
end Go.Proofs.YtfkhfkjcidamaaaGreatDoor.E
