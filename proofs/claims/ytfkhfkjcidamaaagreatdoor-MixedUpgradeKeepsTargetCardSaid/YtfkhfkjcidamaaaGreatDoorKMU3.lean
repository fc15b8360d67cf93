/-
  Parts of the proof, merged by a program of the prover's own; no condition.
-/
import Derived.Test.YtfkhfkjcidamaaaGreatDoorKMU2
import Derived.Lib.JoinLaws
import Derived.Lib.LastIndexLaws
import Derived.Shelf.LaysM
import Derived.Shelf.Small.Strs
import Derived.Shelf.Spec.SlicesInsert
import Derived.Shelf.Spec.SlicesInsertGrow
import Derived.Shelf.Spec.TrailingZeros
import Derived.Shelf.Strconv.Itoa3
import Derived.Shelf.Strings.Count
import Derived.Shelf.Strings.Cut
import Derived.Shelf.Strings.IndexAnyAll
import Derived.Shelf.Strings.OnBuilder
import Derived.Shelf.Strings.Search3
import Derived.Shelf.Unicode.ValidAny
import Derived.Shelf.Utf8.RuneCount
import Derived.Test.YtfkhfkjcidamaaaGreatDoorProg
open List renaming replicate->a8,flatten->b9,getD->j0,getD_eq_getElem?_getD->j6,drop_of_length_le->j7,length->j8,getElem?_eq_getElem->j9,take_of_length_le->o9,drop_zero->p4,isEmpty->p7,take->v8,isPrefixOf->w8,getElem_cons_drop->x7,map->x8,nil_append->x9,length_take->y8,append_nil->aa3,getD_cons_zero->aa5,drop->ab2,all->ab4,append_assoc->ab5,length_cons->ab9,length_drop->ac0,set->ac1,take_zero->ac2,drop_append_of_le_length->ac4,length_singleton->ad0,isPrefixOf_iff_prefix->ad2,mem_of_mem_drop->ad3,length_pos_iff->ad6,length_append->ad8,all_eq_true->ae3,mem_of_mem_take->ae6,length_map->ae7,length_nil->ae8,map_congr_left->af1,replicate_succ->af2,count_eq_zero->af7,prefix_iff_eq_take->ag7,suffix_iff_eq_drop->ag8,isSuffixOf->ah4,map_append->ah5,dropLast_eq_take->ah7,getElem?_eq_none->ah8,set_append_right->ah9,getD_cons_succ->ai7,set_cons_zero->aj0,map_map->aj8,take_add_one->aj9,cons_append->ak7,getElem_mem->ak8,drop_left'->am4,all_cons->an4,map_drop->an5,map_take->an6,mem_cons->an7,map_nil->aq6,mem_map->aq7,toArray->aq8,map_id->ar9
open Int renaming toNat->b8,toNat_natCast->j2,eq_ofNat_of_zero_le->o5,tdiv->ab1,tmod->ab3,natCast_mul->am3
open Eq renaming trans->j1
open Bool renaming not_false->j4,not_true->j5,false_eq_true->p6,and_eq_true->ab0,and_true->ag5,eq_iff_iff->ah3,eq_false_iff->aj5,true_and->an2
open Go.Lib renaming decDigits->k9,index->v7,cut->w6,decDigits_one->ag1,join->ag6,deBruijn64tab->aj6,firstTab->aj7,occAt->ak6,index_spec->am5,runeCountL->am6,join_cons->an3,index_ge->aq4,pow10Tab->aq5
open Option renaming isSome->o0,getD_some->o6,isSome_some->o7,map_some->ad7,isSome_none->ad9,bind_some->al0
open Option.some renaming injEq->o8
open Go.Proofs.Tryz renaming prog->p5,underlying3->p9,zeroValue3->w9,underlying4->x3,zeroValue4->x4,underlying5->x5,underlying9->x6,zeroValue5->y5,zeroValue9->y7,underlying0->y9,underlying103->z7,sizeOf3->aa1,zeroValue103->aa2,zeroValue0->aa4,sizeOf4->aa7,isAgg3->aa8,isAgg4->ab6,sizeOf5->ab7,sizeOf9->ab8,sizeOf103->ac3,isAgg5->ac5,isAgg9->ac6,sizeOf0->ac8,isAgg103->ac9,underlying24->ad1,isAgg0->ad4,zeroValue24->ad5,sizeOf24->ae5,func187->af4,func217->af5,isAgg24->af6,underlying167->af8,underlying216->af9,zeroValue167->ag3,zeroValue216->ag4,func188->ah1,func189->ah2,sizeOf167->ai3,sizeOf216->ai4,f128->ai6,isAgg167->ai8,isAgg216->ai9,underlying154->aj1,underlying249->aj2,underlying250->aj3,func152->ak0,func190->ak1,func218->ak2,underlying20->ak3,zeroValue154->ak4,zeroValue249->ak5,f112->al1,f139->al2,f153->al3,f173->al4,f209->al5,f215->al6,f219->al7,f220->al8,f250->al9,f254->am0,zeroValue20->am1,f97->am8,sizeOf154->am9,sizeOf249->an0,sizeOf250->an1,isAgg154->an9,isAgg249->ao0,isAgg250->ao1,sizeOf20->ao2,f104->ao3,f111->ao4,f116->ao5,f127->ao6,f130->ao7,f132->ao8,f141->ao9,f164->ap0,f167->ap1,f172->ap2,f198->ap3,f200->ap4,f201->ap5,f204->ap6,f205->ap7,f208->ap8,f210->ap9,f231->aq0,f233->aq1,f240->aq2,f255->aq3,func157->ar1,func179->ar2,func223->ar3,func248->ar4,func258->ar5,func259->ar6,isAgg20->ar7,f76->as1
open Go.Shelf renaming Ren->aa0
open Nat renaming pow_succ->aa6,le_trans->ae0,and_two_pow_sub_one_eq_mod->ae4,min_eq_left->ae9,strongRecOn->af0,zero_add->af3,or_lt_two_pow->ag2,le_mul_of_pos_right->ag9,add_zero->ah0,div_le_self->ah6,ble_eq_true_of_le->ai0,one_mul->ai2,ble->ai5,mod_eq_of_lt->ak9,pow_pos->am2,mul_le_mul->am7,add_assoc->an8,sub_self->aq9
open UInt8 renaming ofNat->aa9,le_iff_toNat_le->ae2
open Go.IntKind renaming bits->ac7,u16->ai1
open Go.RowKit.Below renaming refl->ae1
open Classical renaming byContradiction->ag0
open BEq renaming comm->aj4
open Go.RowKit renaming Below->ar0
open Go.Proofs.LaysM renaming n171->ar8
open Go.Utf8 renaming decode->as2
open Go.Proofs.Lays renaming n137->as3,n138->as4,n143->as5,n145->as6,n153->as7,n156->as8,n195->as9,n196->at3
open Go.Proofs.Lays2 renaming n21->at4
open Go.Proofs.Lays7 renaming n27->at5
namespace Go.Proofs.YtfkhfkjcidamaaaGreatDoor.E
set_option linter.all false
section
open Go Go.Proofs
set_option maxRecDepth 100000
section
variable {Z R : Type} (L : Nat) (Q : G4) (Y : Yh Z) (s : Z) (k : Out -> St Z -> Option R)
noncomputable abbrev Dk:Code:=C7 am0
noncomputable def Aq(L:Nat):Cfg:=B8 L [254] (A2 [(5,[0,1,0,0,10,0])]) [] (A2 [(16,[2,0]),(15,[0,3,10,0]),(10,[0,3,10,0]),(12,[0,3,10,0]),(14,[0,3,10,0]),(8,[2,0]),(13,[0,3,1,8,0,32]),(11,[0,3,1,8,0,18]),(9,[0,3,1,8,0,5]),(7,[0,3,1,8,0]),(6,[0,3,0,9,0]),(5,[0,3,10,0,0]),(4,[0,3,10,0]),(3,[0,3]),(2,[2,0]),(1,[0,12]),(0,[0])]) [] (A2 [(0,[4]),(1,[0,3,10,0]),(2,[0,3,10,0])]) (some [2,0]) [] [] []
def Xf{R:Type}(i:By)(v1 c g h:Int)(d:Bool)(e:By->Int->Int->Int->Option R)(f:Unit->Option R):Option R:=cond d (vl (wu8 ((wu8 (c-65))+10)) λa=>vl (bOr .u16 (Ss .u16 v1 (4:Int)) (Em a)) λb=>e i b g h) (f ())
abbrev RF(b:Code):Prop:=∀(k:Out->St Z->Option R) c v1 b2 a n4 b5,A9 (Aq L) Q Y b ⟨gp [(0,pS c),(3,p16 v1),(1,p8 b2),(8,pI a),(0,pI n4),(32,pB b5)] 15,[],s⟩ k=Xf c v1 b2 a n4 b5 (λc v1 d a=>k .normal ⟨gp [(0,pS c),(3,p16 v1),(10,pI d),(0,pI a)] 48,[],s⟩) (λ_=>k .ret ⟨gp [(2,p16 (0:Int)),(0,pB false)] 61,[],s⟩)
def A70:RF (R:=R) L Q Y s (cd [1,1,1,0,1,0,0,1,1,0,0,1,1,0,1,1,1,1,1] Dk):=by intro k e v1 a c d b;unfold Xf;kernel_rfl
def Xg{R:Type}(o:By)(v1 a l m:Int)(r:Bool)(f:By->Int->Int->Int->Option R)(q:Unit->Option R):Option R:=cond r (vl (wu8 ((wu8 (a-97))+10)) λg=>vl (bOr .u16 (Ss .u16 v1 (4:Int)) (Em g)) λh=>f o h l m) (cond (not (ltI a 65)) (Xf o v1 a l m (not (ltI 70 a)) (λn p i j=>f n p i j) (λ_=>q ())) (Xf o v1 a l m false (λd e b c=>f d e b c) (λ_=>q ())))
abbrev CC(b:Code):Prop:=∀(k:Out->St Z->Option R) c v1 b2 a n4 b5,A9 (Aq L) Q Y b ⟨gp [(0,pS c),(3,p16 v1),(1,p8 b2),(8,pI a),(0,pI n4),(18,pB b5)] 29,[],s⟩ k=Xg c v1 b2 a n4 b5 (λc v1 d a=>k .normal ⟨gp [(0,pS c),(3,p16 v1),(10,pI d),(0,pI a)] 48,[],s⟩) (λ_=>k .ret ⟨gp [(2,p16 (0:Int)),(0,pB false)] 61,[],s⟩)
def A71(a:Code)(b:RF (R:=R) L Q Y s a):CC (R:=R) L Q Y s (cd [1,1,1,0,1,0,0,1,1,0,0,1,1,0,1,1,1] (G7 [1,1,1,0,1,0,0,1,1,0,0,1,1,0,1,1,1,1,1] a Dk)):=by intro k g v1 c e f d;unfold Xg;simp only[<-b k];kernel_rfl
def A72:CC (R:=R) L Q Y s (cd [1,1,1,0,1,0,0,1,1,0,0,1,1,0,1,1,1] Dk):=by intro k e v1 a c d b;exact j1 (by kernel_rfl) (A71 L Q Y s (cd [1,1,1,0,1,0,0,1,1,0,0,1,1,0,1,1,1,1,1] Dk) (A70 L Q Y s) k e v1 a c d b)
def Xh{R:Type}(p:By)(v1 a n o:Int)(r:Bool)(j:By->Int->Int->Int->Option R)(q:Unit->Option R):Option R:=cond r (vl (Em (wu8 (a-48))) λl=>vl (bOr .u16 (Ss .u16 v1 (4:Int)) l) λm=>j p m n o) (cond (not (ltI a 97)) (Xg p v1 a n o (not (ltI 102 a)) (λf h b c=>j f h b c) (λ_=>q ())) (Xg p v1 a n o false (λg i d e=>j g i d e) (λ_=>q ())))
abbrev Rv(b:Code):Prop:=∀(k:Out->St Z->Option R) c v1 b2 a n4 b5,A9 (Aq L) Q Y b ⟨gp [(0,pS c),(3,p16 v1),(1,p8 b2),(8,pI a),(0,pI n4),(5,pB b5)] 42,[],s⟩ k=Xh c v1 b2 a n4 b5 (λc v1 d a=>k .normal ⟨gp [(0,pS c),(3,p16 v1),(10,pI d),(0,pI a)] 48,[],s⟩) (λ_=>k .ret ⟨gp [(2,p16 (0:Int)),(0,pB false)] 61,[],s⟩)
def A73(a:Code)(b:CC (R:=R) L Q Y s a):Rv (R:=R) L Q Y s (cd [1,1,1,0,1,0,0,1,1,0,0,1,1,0,1] (G7 [1,1,1,0,1,0,0,1,1,0,0,1,1,0,1,1,1] a Dk)):=by intro k g v1 c e f d;unfold Xh;simp only[<-b k];kernel_rfl
def A74:Rv (R:=R) L Q Y s (cd [1,1,1,0,1,0,0,1,1,0,0,1,1,0,1] Dk):=by intro k e v1 a c d b;exact j1 (by kernel_rfl) (A73 L Q Y s (cd [1,1,1,0,1,0,0,1,1,0,0,1,1,0,1,1,1] Dk) (A72 L Q Y s) k e v1 a c d b)
def Gb{R:Type}(L n:Nat)(b:By)(v1 q a:Int)(o:Unit->Option R)(p:Int->Option R):Option R:=match n with|0=>none|n+1=>cond (ltI a q) (cond (inR a b.length) (cond (not (ltI (bAt b a) (48:Int))) (Xh b v1 (bAt b a) q a (not (ltI 57 (bAt b a))) (λi l c d=>vl (A1 (d+1)) λe=>Gb L n i l c e o p) (λ_=>o ())) (Xh b v1 (bAt b a) q a false (λj m f g=>vl (A1 (g+1)) λh=>Gb L n j m f h o p) (λ_=>o ()))) none) (p v1)
def A75(a:Code)(b:Rv (R:=R) L Q Y s a)(n:Nat)(d:By)(v1 i c:Int):D0 0 ((Aq L).keep 5) (bd (Aq L) Q Y (cd [1,1,1,0,1,0,0] (G7 [1,1,1,0,1,0,0,1,1,0,0,1,1,0,1] a Dk))) n ⟨gp [(0,pS d),(3,p16 v1),(10,pI i),(0,pI c)] 48,[],s⟩ k =
 Gb L n d v1 i c (λ_=>k .ret ⟨gp [(2,p16 (0:Int)),(0,pB false)] 61,[],s⟩) (λv0=>k (.exit 0) ⟨gp [(4,p16 v0)] 60,[],s⟩):=by
 induction n generalizing d v1 i c with
 | zero=>rfl
 | succ n q=>rw[Gb];exact let p:=(E2 2 (E2 1 (E1 (Aq L) Q Y (cd [1,1,1,0,1,0,0,1,1,1] Dk) (lpK 0 ((Aq L).keep 5) (bd (Aq L) Q Y (cd [1,1,1,0,1,0,0] (G7 [1,1,1,0,1,0,0,1,1,0,0,1,1,0,1] a Dk))) n k))));(j1 (by kernel_rfl) (A0 (A0 (A0 ((b p d v1 (bAt d c) i c (not (ltI 57 (bAt d c)))).trans (congr (congr rfl (fx4 λj m e r=>(j1 (by kernel_rfl) (A4 λf=>(q j m e f))))) (by kernel_rfl))) ((b p d v1 (bAt d c) i c false).trans (congr (congr rfl (fx4 λl o g t=>(j1 (by kernel_rfl) (A4 λh=>(q l o g h))))) (by kernel_rfl)))) rfl) rfl))
def Cr3{R:Type}(L:Nat)(c:By)(b:Int->Bool->Option R):Option R:=cond (c==[]) (b 0 false) (cond (ltI 4 (c.length:Int)) (b 0 false) (Gb L L c 0 (c.length:Int) 0 (λ_=>b 0 false) (λa=>b a true)))
def Dd7(a:Code)(b:Rv (R:=PV × List Blk × Z) L Q Y s a)(c:By):A9 (Aq L) Q Y (cd [] (G7 [1,1,1,0,1,0,0,1,1,0,0,1,1,0,1] a Dk)) ⟨[pS c]++tps 64,[],s⟩ (F4 (Aq L) am0)=Cr3 L c (λd e=>some (.tup [p16 d,pB e],[],s)):=by unfold Cr3;exact(j1 (by kernel_rfl) (A0 rfl (A0 rfl ((A75 L Q Y s (E2 0 (E1 (Aq L) Q Y (cd [1,1,1,1] Dk) (F4 (Aq L) am0))) a b L c 0 (c.length:Int) 0).trans (by kernel_rfl)))))
def Dd8(d:Nat)(s0):evC (Aq L) (d+1) Z Y 254 [pS s0] [] s=Cr3 L s0 (λa b=>some (.tup [p16 a,pB b],[],s)):=
 (evE (fn:=am0) (by kernel_rfl)).trans (j1 (by kernel_rfl) (Dd7 L (evC (Aq L) d) Y s (cd [1,1,1,0,1,0,0,1,1,0,0,1,1,0,1] Dk) (A74 L (evC (Aq L) d) Y s) s0))
noncomputable abbrev Bu6:Code:=C7 aq2
noncomputable def Mm(L:Nat):Cfg:=B8 L [240] (A2 [(6,[1,2,0,0,0,10,0,0])]) [(176,Wi),(254,Ck4),(255,Du1)] (A2 [(16,[4,0]),(15,[1,4,0,10,0,0]),(14,[6]),(13,[4,0]),(12,[6,5,39]),(11,[1,4,0,0,3,0]),(10,[1,4,0,10,0,0]),(9,[1,4,0,0,0,0,7,0,0,9]),(8,[1,4,0,0,0,0,0,6,0,0]),(7,[1,4,0,0,0,8,0,0]),(6,[1,4,0,10,0,0,0]),(5,[1,4,0,10,0,0]),(4,[1,4,0]),(3,[0,0,4]),(2,[4,0]),(1,[0,0,13]),(0,[0,0])]) [254,255] (A2 [(0,[6]),(1,[1,4,0,10,0,0])]) (some [4,0]) [] [] []
def Ez{R:Type}(L n:Nat)(a:Bool)(c:LL)(l b:Int)(d:LL)(f:LL->Option R)(g:LL->Option R):Option R:=match n with|0=>none|n+1=>cond (ltI b l) (cond (inR b c.length) (cond (okE Pd c (b8 b) 0) (cond (A3 (j8 (gX c (b8 b) 0))) (vl (↑(N8 (grp (gX c (b8 b) 0))):Int) λh=>cond (o0 (grp (gX c (b8 b) 0))) (cond (G2 (d.length+1)) (Ez L n a c l (A1 (b+1)) (d++[[(SV.int .u16 h)]]) f g) none) (cond (A3 (j8 (gX c (b8 b) 0))) (vl (↑(N8 (v4B (gX c (b8 b) 0))):Int) λe=>cond (not (o0 (v4B (gX c (b8 b) 0)))) (f d) (cond (not a) (f d) (vl (A1 ((c.length:Int)-1)) λi=>cond (ltI b i) (f d) (vl (Pc .u32 e (16:Int)) λj=>cond (G2 (d.length+2)) (g (d++[[(SV.int .u16 (Em j))],[(SV.int .u16 (Em e))]])) none)))) none)) none) none) none) (g d)
def Ak6(n last0 l1 n2 n3 l4):D0 1 ((Mm L).keep 6) (bd (Mm L) Q Y (cd [1,0,1,1,1,1,0,1,0,0] Bu6)) n ⟨gp [(1,pB last0),(4,.fl 0),(0,.s (.sl false false 1 l1)),(10,.s (.sl false false 1 l1)),(0,pI n2),(0,pI n3)] 42,[.arr true 25 1 l4],s⟩ k =
 Ez L n last0 l1 n2 n3 l4 (λa=>k .ret ⟨gp [(4,.fl 1),(0,pB false)] 57,[.arr true 25 1 a,.arr true 25 1 []],s⟩) (λa=>k (.exit 0) ⟨gp [(6,.fl 0)] 56,[.arr true 25 1 a],s⟩):=by
 induction n generalizing last0 l1 n2 n3 l4 with
 | zero=>rfl
 | succ n b=>rw[Ez];simp only[<-b];kernel_rfl
def Bw1{R:Type}(L:Nat)(e:By)(a:Bool)(f:LL->Option R)(g:LL->Option R):Option R:=cond (e==[]) (f []) (cond (A3 e.length) (cond (1==1) (vl (D5 (pcs (j0 ([58]:List UInt8) 0 0) e)) λb=>Ez L L a b (b.length:Int) 0 [] (λd=>g d) (λc=>f c)) none) none)
def Cr4(d:Nat)(s0 last1):evC (Mm L) (d+1) Z Y 240 [pS s0,pB last1] [] s=Bw1 L s0 last1 (λb=>some (.tup [.fl 0,pB true],[.arr true 25 1 b],s)) (λb=>some (.tup [.fl 1,pB false],[.arr true 25 1 b,.arr true 25 1 []],s)):=by refine(evE (fn:=aq2) (by kernel_rfl)).trans ?_;generalize evC (Mm L) d=Q;unfold Bw1;exact(j1 (by kernel_rfl) (A0 rfl (A0 (A0 (A4 λa=>((Ak6 L Q Y s (E2 0 (E1 (Mm L) Q Y (cd [1,0,1,1,1,1,1] Bu6) (F4 (Mm L) aq2))) L last1 a (a.length:Int) 0 []).trans (by kernel_rfl))) rfl) rfl)))
noncomputable abbrev Co6:Code:=C7 al7
noncomputable def DZ(L:Nat):Cfg:=B8 L [219] (A2 []) [(73,A07),(240,Br8)] (A2 [(10,[2,0]),(9,[2,1]),(8,[2,1,5]),(7,[2,0]),(6,[2,1,3,1,45]),(5,[2,1,2,0,0,0,0,0]),(4,[2,1,2,0,0,0,0]),(3,[2,1,1,0,0,0]),(2,[2,1,0,0,0]),(1,[0,1,1]),(0,[0,1])]) [73] (A2 []) (some [2,0]) [] [] []
def Rd{R:Type}(p o d:LL)(q:LL->LL->Option R):Option R:=cond (decide (d.length=8)) (cond (decide (8<=d.length)) (vl ((v8 0 d)++((v8 8 p)++(ab2 (0+(min p.length 8)) d))) λc=>vl (A1 ((8:Int)-(o.length:Int))) λb=>cond (decide (c.length=8)) (cond (J0 b (8:Int) 8) (cond (decide (((b8 b)+(8-(b8 b)))<=c.length)) (vl ((v8 (b8 b) c)++((v8 (8-(b8 b)) o)++(ab2 ((b8 b)+(min o.length (8-(b8 b)))) c))) λa=>cond ((decide (8=(a.length*1)))&&(okS ⟨true,true,[.int .u16,.int .u16,.int .u16,.int .u16,.int .u16,.int .u16,.int .u16,.int .u16]⟩ (b9 a) 0)) (vl (SV.gI (j0 (b9 a) 0 SV.nilp)) λf=>vl (SV.gI (j0 (b9 a) 1 SV.nilp)) λg=>vl (SV.gI (j0 (b9 a) 2 SV.nilp)) λh=>vl (SV.gI (j0 (b9 a) 3 SV.nilp)) λi=>vl (SV.gI (j0 (b9 a) 4 SV.nilp)) λj=>vl (SV.gI (j0 (b9 a) 5 SV.nilp)) λl=>vl (SV.gI (j0 (b9 a) 6 SV.nilp)) λm=>vl (SV.gI (j0 (b9 a) 7 SV.nilp)) λn=>cond (decide (8=(d.length*1))) (vl (U7 1 d.length [(SV.int .u16 f),(SV.int .u16 g),(SV.int .u16 h),(SV.int .u16 i),(SV.int .u16 j),(SV.int .u16 l),(SV.int .u16 m),(SV.int .u16 n)]) λe=>q e a) none) none) none) none) none) none) none
abbrev Ax2(b:Code):Prop:=∀(k:Out->St Z->Option R) x_z0 x1 y_z2 y3 b4 l5,A9 (DZ L) Q Y b ⟨gp [(2,.ptr 0 0 0),(1,.ptr 1 0 0),(3,.s (.sl x_z0 x_z0 1 x1)),(1,.s (.sl y_z2 y_z2 1 y3)),(45,pB b4)] 11,[.arr false 26 1 l5,.arr false 26 1 l5],s⟩ k=Rd x1 y3 l5 (λa c=>k .ret ⟨gp [(2,.ptr 0 0 0),(0,pB true)] 64,[.arr false 26 1 a,.arr false 26 1 c],s⟩)
def Ci5:Ax2 (R:=R) L Q Y s (cd [1,1,1,1,1,1,1] Co6):=by intro k a e b f c d;unfold Rd;kernel_rfl
def v6p{R:Type}(L:Nat)(h:By)(g:Int->Int->Int->Int->Int->Int->Int->Int->Bool->LL->LL->Option R):Option R:=cond (A3 h.length) (vl ((w6 h ([58,58]:List UInt8))).1 λj=>vl (((w6 h ([58,58]:List UInt8))).2).1 λe=>cond (A3 j.length) (vl (D2 (gvs j (not (((w6 h ([58,58]:List UInt8))).2).2))) λf=>cond (A3 e.length) (vl (A1 ((f.length:Int)+(↑(j8 (D2 (gvs e true))):Int))) λi=>cond (not (o0 (P6 j (not (((w6 h ([58,58]:List UInt8))).2).2)))) (g 0 0 0 0 0 0 0 0 false (a8 8 [(SV.int .u16 (0:Int))]) (a8 8 [(SV.int .u16 (0:Int))])) (cond (not (o0 (P6 e true))) (g 0 0 0 0 0 0 0 0 false (a8 8 [(SV.int .u16 (0:Int))]) (a8 8 [(SV.int .u16 (0:Int))])) (cond (not (((w6 h ([58,58]:List UInt8))).2).2) (cond (i !=8) (g 0 0 0 0 0 0 0 0 false (a8 8 [(SV.int .u16 (0:Int))]) (a8 8 [(SV.int .u16 (0:Int))])) (cond (((w6 h ([58,58]:List UInt8))).2).2 (cond (ltI 7 i) (g 0 0 0 0 0 0 0 0 false (a8 8 [(SV.int .u16 (0:Int))]) (a8 8 [(SV.int .u16 (0:Int))])) (Rd f (D2 (gvs e true)) (a8 8 [(SV.int .u16 (0:Int))]) (λa l=>cond ((decide (8=(a.length*1)))&&(okS ⟨true,true,[.int .u16,.int .u16,.int .u16,.int .u16,.int .u16,.int .u16,.int .u16,.int .u16]⟩ (b9 a) 0)) (g (SV.gI (j0 (b9 a) 0 SV.nilp)) (SV.gI (j0 (b9 a) 1 SV.nilp)) (SV.gI (j0 (b9 a) 2 SV.nilp)) (SV.gI (j0 (b9 a) 3 SV.nilp)) (SV.gI (j0 (b9 a) 4 SV.nilp)) (SV.gI (j0 (b9 a) 5 SV.nilp)) (SV.gI (j0 (b9 a) 6 SV.nilp)) (SV.gI (j0 (b9 a) 7 SV.nilp)) true a l) none))) (Rd f (D2 (gvs e true)) (a8 8 [(SV.int .u16 (0:Int))]) (λb m=>cond ((decide (8=(b.length*1)))&&(okS ⟨true,true,[.int .u16,.int .u16,.int .u16,.int .u16,.int .u16,.int .u16,.int .u16,.int .u16]⟩ (b9 b) 0)) (g (SV.gI (j0 (b9 b) 0 SV.nilp)) (SV.gI (j0 (b9 b) 1 SV.nilp)) (SV.gI (j0 (b9 b) 2 SV.nilp)) (SV.gI (j0 (b9 b) 3 SV.nilp)) (SV.gI (j0 (b9 b) 4 SV.nilp)) (SV.gI (j0 (b9 b) 5 SV.nilp)) (SV.gI (j0 (b9 b) 6 SV.nilp)) (SV.gI (j0 (b9 b) 7 SV.nilp)) true b m) none)))) (cond (((w6 h ([58,58]:List UInt8))).2).2 (cond (ltI 7 i) (g 0 0 0 0 0 0 0 0 false (a8 8 [(SV.int .u16 (0:Int))]) (a8 8 [(SV.int .u16 (0:Int))])) (Rd f (D2 (gvs e true)) (a8 8 [(SV.int .u16 (0:Int))]) (λc n=>cond ((decide (8=(c.length*1)))&&(okS ⟨true,true,[.int .u16,.int .u16,.int .u16,.int .u16,.int .u16,.int .u16,.int .u16,.int .u16]⟩ (b9 c) 0)) (g (SV.gI (j0 (b9 c) 0 SV.nilp)) (SV.gI (j0 (b9 c) 1 SV.nilp)) (SV.gI (j0 (b9 c) 2 SV.nilp)) (SV.gI (j0 (b9 c) 3 SV.nilp)) (SV.gI (j0 (b9 c) 4 SV.nilp)) (SV.gI (j0 (b9 c) 5 SV.nilp)) (SV.gI (j0 (b9 c) 6 SV.nilp)) (SV.gI (j0 (b9 c) 7 SV.nilp)) true c n) none))) (Rd f (D2 (gvs e true)) (a8 8 [(SV.int .u16 (0:Int))]) (λd o=>cond ((decide (8=(d.length*1)))&&(okS ⟨true,true,[.int .u16,.int .u16,.int .u16,.int .u16,.int .u16,.int .u16,.int .u16,.int .u16]⟩ (b9 d) 0)) (g (SV.gI (j0 (b9 d) 0 SV.nilp)) (SV.gI (j0 (b9 d) 1 SV.nilp)) (SV.gI (j0 (b9 d) 2 SV.nilp)) (SV.gI (j0 (b9 d) 3 SV.nilp)) (SV.gI (j0 (b9 d) 4 SV.nilp)) (SV.gI (j0 (b9 d) 5 SV.nilp)) (SV.gI (j0 (b9 d) 6 SV.nilp)) (SV.gI (j0 (b9 d) 7 SV.nilp)) true d o) none)))))) none) none) none
def D20(b:Code)(a:Ax2 (R:=PV × List Blk × Z) L Q Y s b)(f:By):A9 (DZ L) Q Y (cd [] (G7 [1,1,1,1,1,1,1] b Co6)) ⟨[pS f]++tps 67,[],s⟩ (F4 (DZ L) al7)=v6p L f (λj l m n o p q r r8 i l10=>some (.tup [.agg [p16 j,p16 l,p16 m,p16 n,p16 o,p16 p,p16 q,p16 r],pB r8],[.arr false 26 1 i,.arr false 26 1 l10],s)):=by unfold v6p;exact let h:=(F4 (DZ L) al7);(j1 (by kernel_rfl) (A0 (A4 λe=>(A4 λc=>(A0 (A4 λd=>(A0 (A4 λg=>(A0 rfl (A0 rfl (A0 (A0 rfl (A0 (A0 rfl ((a h (p7 (gvs e (not (((w6 f ([58,58]:List UInt8))).2).2))) d (p7 (gvs c true)) (D2 (gvs c true)) (ltI 7 g) (a8 8 [(SV.int .u16 (0:Int))])).trans (by kernel_rfl))) ((a h (p7 (gvs e (not (((w6 f ([58,58]:List UInt8))).2).2))) d (p7 (gvs c true)) (D2 (gvs c true)) false (a8 8 [(SV.int .u16 (0:Int))])).trans (by kernel_rfl)))) (A0 (A0 rfl ((a h (p7 (gvs e (not (((w6 f ([58,58]:List UInt8))).2).2))) d (p7 (gvs c true)) (D2 (gvs c true)) (ltI 7 g) (a8 8 [(SV.int .u16 (0:Int))])).trans (by kernel_rfl))) ((a h (p7 (gvs e (not (((w6 f ([58,58]:List UInt8))).2).2))) d (p7 (gvs c true)) (D2 (gvs c true)) false (a8 8 [(SV.int .u16 (0:Int))])).trans (by kernel_rfl))))))) rfl)) rfl))) rfl))
def D21(d:Nat)(s0):evC (DZ L) (d+1) Z Y 219 [pS s0] [] s=v6p L s0 (λb c e f g h i j r8 a l10=>some (.tup [.agg [p16 b,p16 c,p16 e,p16 f,p16 g,p16 h,p16 i,p16 j],pB r8],[.arr false 26 1 a,.arr false 26 1 l10],s)):=
 (evE (fn:=al7) (by kernel_rfl)).trans (j1 (by kernel_rfl) (D20 L (evC (DZ L) d) Y s (cd [1,1,1,1,1,1,1] Co6) (Ci5 L (evC (DZ L) d) Y s) s0))
noncomputable abbrev Ro:Code:=C7 ap6
noncomputable def Ad(L:Nat):Cfg:=B8 L [204] (A2 [(6,[1,0,0,0,0,0,0,0]),(3,[1,0,0,0,0,2])]) [] (A2 [(11,[2,0]),(10,[1,2,0,2]),(9,[1,2,0,2]),(8,[1,2,0,0,0,0,18]),(7,[1,2,0,0,0,0]),(6,[1,2,0,0,0,0,13]),(5,[1,2,0,0,0,0]),(4,[1,2,0,0,1]),(3,[1,2,0,2,0]),(2,[1,2,0,2]),(1,[1,2,0]),(0,[1])]) [] (A2 [(0,[4,0]),(1,[1,2,0,2]),(2,[1,2,0,0,0,0]),(3,[1,2,0,0,0,0])]) (some [2,0]) [] [] []
def Jd{R:Type}(L n:Nat)(b a c d:Int)(e:LL)(f:Int->Int->Int->Int->LL->Option R):Option R:=match n with|0=>none|n+1=>cond (ltI (A1 (c+d)) (8:Int)) (cond (inR (A1 (c+d)) 8) (cond (okE ⟨true,false,[.int .u16]⟩ e (b8 (A1 (c+d))) 0) (vl (gE e (b8 (A1 (c+d))) 0) λg=>cond (g==0) (Jd L n b a c (A1 (d+1)) e f) (f b a c d e)) none) none) (f b a c d e)
def Ay5(n b a c e d):D0 1 ((Ad L).keep 6) (bd (Ad L) Q Y (cd [1,1,0,1,0,0,1,1,0,0,1,1,0,0,0] Ro)) n ⟨gp [(1,.ptr 0 0 0),(2,pI b),(0,pI a),(0,pI c),(0,pI e),(0,pI c)] 24,[.arr false 26 1 d],s⟩ k =
 Jd L n b a c e d (λb a c e d=>k (.exit 2) ⟨gp [(1,.ptr 0 0 0),(2,pI b),(0,pI a),(0,pI c),(0,pI e),(0,pI c)] 24,[.arr false 26 1 d],s⟩):=by
 induction n generalizing b a c e d with
 | zero=>rfl
 | succ n f=>rw[Jd];simp only[<-f];kernel_rfl
def Fl{R:Type}(L n:Nat)(e b j:Int)(i:LL)(h:Int->Int->LL->Option R):Option R:=match n with|0=>none|n+1=>cond (ltI j 8) (Jd L L e b j 0 i (λd a c g f=>cond (ltI a g) (Fl L n c g (A1 (c+1)) f h) (Fl L n d a (A1 (c+1)) f h))) (h e b i)
def Ay6(n b a n2 l3):D0 1 ((Ad L).keep 3) (bd (Ad L) Q Y (cd [1,1,0,1,0,0] Ro)) n ⟨gp [(1,.ptr 0 0 0),(2,pI b),(0,pI a),(2,pI n2)] 24,[.arr false 26 1 l3],s⟩ k =
 Fl L n b a n2 l3 (λb a i=>k (.exit 0) ⟨gp [(4,pI b),(0,pI a)] 27,[.arr false 26 1 i],s⟩):=by
 induction n generalizing b a n2 l3 with
 | zero=>rfl
 | succ n h=>rw[Fl];exact(j1 (by kernel_rfl) (A0 ((Ay5 L Q Y s (E2 2 (E1 (Ad L) Q Y (cd [1,1,0,1,0,0,1,1,0,0,1,1,1] Ro) (E2 1 (E1 (Ad L) Q Y (cd [1,1,0,1,0,0,1,1,1] Ro) (lpK 1 ((Ad L).keep 3) (bd (Ad L) Q Y (cd [1,1,0,1,0,0] Ro)) n k))))) L b a n2 0 l3).trans (congr rfl (fx5 λe c d g f=>(j1 (by kernel_rfl) (A0 (h d g (A1 (d+1)) f) (h e c (A1 (d+1)) f)))))) rfl))
def B26{R:Type}(L:Nat)(d e f g h i j l:Int)(m:Int->Int->LL->Option R):Option R:=Fl L L 0 0 0 [[(SV.int .u16 d)],[(SV.int .u16 e)],[(SV.int .u16 f)],[(SV.int .u16 g)],[(SV.int .u16 h)],[(SV.int .u16 i)],[(SV.int .u16 j)],[(SV.int .u16 l)]] (λb a c=>m b a c)
def C95(d:Nat)(a0 a1 a2 a3 a4 a5 a6 a7):evC (Ad L) (d+1) Z Y 204 [.agg [p16 a0,p16 a1,p16 a2,p16 a3,p16 a4,p16 a5,p16 a6,p16 a7]] [] s=B26 L a0 a1 a2 a3 a4 a5 a6 a7 (λb c a=>some (.tup [pI b,pI c],[.arr false 26 1 a],s)):=by refine(evE (fn:=ap6) (by kernel_rfl)).trans ?_;generalize evC (Ad L) d=Q;unfold B26;exact(j1 (by kernel_rfl) ((Ay6 L Q Y s (E2 0 (E1 (Ad L) Q Y (cd [1,1,1] Ro) (F4 (Ad L) ap6))) L 0 0 0 [[(SV.int .u16 a0)],[(SV.int .u16 a1)],[(SV.int .u16 a2)],[(SV.int .u16 a3)],[(SV.int .u16 a4)],[(SV.int .u16 a5)],[(SV.int .u16 a6)],[(SV.int .u16 a7)]]).trans (by kernel_rfl)))
noncomputable abbrev Du8:Code:=C7 ap7
noncomputable def KO(L:Nat):Cfg:=B8 L [205] (A2 [(3,[2,0,2,0,0])]) [(227,Ck3),(202,WE)] (A2 [(7,[2]),(6,[3,2,0,0]),(5,[3,2,0,0]),(4,[3,1,0,0,0]),(3,[3,2,0,0,0]),(2,[3,2,0,0]),(1,[0,2]),(0,[0])]) [227,202] (A2 [(0,[3]),(1,[3,2,0,0])]) (some [2]) [] [] []
def Wc{R:Type}(L n:Nat)(h g:Bool)(c:LL)(f b:Int)(d:LL)(e:LL->Option R):Option R:=match n with|0=>none|n+1=>cond (ltI b f) (cond (inR b c.length) (cond (okE ⟨true,false,[.int .u16]⟩ c (b8 b) 0) (vl (D25 (gE c (b8 b) 0)) λa=>cond (ltN a 65536) (cond ((16:Int)==16) (cond (G2 (d.length+1)) (Wc L n h g c f (A1 (b+1)) (d++[[(SV.str (P9 (b8 a)))]]) e) none) none) none) none) none) (e d)
def Ci4(n z0 t1 l2 n3 n4 l5):D0 1 ((KO L).keep 3) (bd (KO L) Q Y (cd [1,1,0,1,0,0] Du8)) n ⟨gp [(3,.fl 0),(2,.s (.sl z0 t1 1 l2)),(0,pI n3),(0,pI n4)] 12,[.arr true 9 1 l5],s⟩ k =
 Wc L n z0 t1 l2 n3 n4 l5 (λb=>k (.exit 0) ⟨gp [(3,.fl 0)] 17,[.arr true 9 1 b],s⟩):=by
 induction n generalizing z0 t1 l2 n3 n4 l5 with
 | zero=>rfl
 | succ n a=>rw[Wc];simp only[<-a];kernel_rfl
def v6j{R:Type}(L:Nat)(c b:Bool)(e:LL)(f:By->LL->Option R):Option R:=Wc L L c b e (e.length:Int) 0 [] (λa=>cond (ab4 a isS) (cond (A3 (j8 (ag6 (x8 elS a) ([58]:List UInt8)))) (cond (A3 a.length) (vl (ag6 (x8 elS a) ([58]:List UInt8)) λd=>f d a) none) none) none)
def D18(d:Nat)(l_z0 l_t1 l2):evC (KO L) (d+1) Z Y 205 [.s (.sl l_z0 l_t1 1 l2)] [] s=v6j L l_z0 l_t1 l2 (λb a=>some (pS b,[.arr true 9 1 a],s)):=by refine(evE (fn:=ap7) (by kernel_rfl)).trans ?_;generalize evC (KO L) d=Q;unfold v6j;exact(j1 (by kernel_rfl) ((Ci4 L Q Y s (E2 0 (E1 (KO L) Q Y (cd [1,1,1] Du8) (F4 (KO L) ap7))) L l_z0 l_t1 l2 (l2.length:Int) 0 []).trans (by kernel_rfl)))
noncomputable def Cp1(L:Nat):Cfg:=B8 L [168] (A2 []) [(204,Bu3),(205,Du3)] (A2 [(4,[2]),(3,[2]),(2,[1,1,0,6]),(1,[1,1,0]),(0,[1])]) [204,205] (A2 []) (some [2]) [] [] []
def v6f{R:Type}(L:Nat)(c d e f g h i j:Int)(p:By->LL->Option R):Option R:=cond (ok8 c d e f g h i j) (vl (↑((zGo (n8 c d e f g h i j) 0 0 0)).1:Int) λa=>vl (↑((zGo (n8 c d e f g h i j) 0 0 0)).2:Int) λb=>cond (ltI b 2) (cond (ab4 [[(SV.int .u16 c)],[(SV.int .u16 d)],[(SV.int .u16 e)],[(SV.int .u16 f)],[(SV.int .u16 g)],[(SV.int .u16 h)],[(SV.int .u16 i)],[(SV.int .u16 j)]] Xr) (cond (ai5 8 8) (vl (K7 (x8 elN [[(SV.int .u16 c)],[(SV.int .u16 d)],[(SV.int .u16 e)],[(SV.int .u16 f)],[(SV.int .u16 g)],[(SV.int .u16 h)],[(SV.int .u16 i)],[(SV.int .u16 j)]])) λo=>p o [[(SV.int .u16 c)],[(SV.int .u16 d)],[(SV.int .u16 e)],[(SV.int .u16 f)],[(SV.int .u16 g)],[(SV.int .u16 h)],[(SV.int .u16 i)],[(SV.int .u16 j)]]) none) none) (cond (J0 0 a 8) (cond (ab4 (v8 ((b8 a)-0) [[(SV.int .u16 c)],[(SV.int .u16 d)],[(SV.int .u16 e)],[(SV.int .u16 f)],[(SV.int .u16 g)],[(SV.int .u16 h)],[(SV.int .u16 i)],[(SV.int .u16 j)]]) Xr) (cond (ai5 (j8 (v8 ((b8 a)-0) [[(SV.int .u16 c)],[(SV.int .u16 d)],[(SV.int .u16 e)],[(SV.int .u16 f)],[(SV.int .u16 g)],[(SV.int .u16 h)],[(SV.int .u16 i)],[(SV.int .u16 j)]])) 8) (vl (K7 (x8 elN (v8 ((b8 a)-0) [[(SV.int .u16 c)],[(SV.int .u16 d)],[(SV.int .u16 e)],[(SV.int .u16 f)],[(SV.int .u16 g)],[(SV.int .u16 h)],[(SV.int .u16 i)],[(SV.int .u16 j)]]))) λl=>cond (E6 l.length 2) (vl (l++[58,58]) λm=>cond (J0 (A1 (a+b)) (8:Int) 8) (cond (ab4 (v8 (8-(b8 (A1 (a+b)))) (ab2 (b8 (A1 (a+b))) [[(SV.int .u16 c)],[(SV.int .u16 d)],[(SV.int .u16 e)],[(SV.int .u16 f)],[(SV.int .u16 g)],[(SV.int .u16 h)],[(SV.int .u16 i)],[(SV.int .u16 j)]])) Xr) (cond (ai5 (j8 (v8 (8-(b8 (A1 (a+b)))) (ab2 (b8 (A1 (a+b))) [[(SV.int .u16 c)],[(SV.int .u16 d)],[(SV.int .u16 e)],[(SV.int .u16 f)],[(SV.int .u16 g)],[(SV.int .u16 h)],[(SV.int .u16 i)],[(SV.int .u16 j)]]))) 8) (vl (K7 (x8 elN (v8 (8-(b8 (A1 (a+b)))) (ab2 (b8 (A1 (a+b))) [[(SV.int .u16 c)],[(SV.int .u16 d)],[(SV.int .u16 e)],[(SV.int .u16 f)],[(SV.int .u16 g)],[(SV.int .u16 h)],[(SV.int .u16 i)],[(SV.int .u16 j)]])))) λn=>cond (E6 m.length n.length) (p (m++n) [[(SV.int .u16 c)],[(SV.int .u16 d)],[(SV.int .u16 e)],[(SV.int .u16 f)],[(SV.int .u16 g)],[(SV.int .u16 h)],[(SV.int .u16 i)],[(SV.int .u16 j)]]) none) none) none) none) none) none) none) none)) none
def D16(d:Nat)(a0 a1 a2 a3 a4 a5 a6 a7):evC (Cp1 L) (d+1) Z Y 168 [.agg [p16 a0,p16 a1,p16 a2,p16 a3,p16 a4,p16 a5,p16 a6,p16 a7]] [] s=v6f L a0 a1 a2 a3 a4 a5 a6 a7 (λb a=>some (pS b,[.arr false 26 1 a],s)):=by refine(evE (fn:=Tryz.f168) (by kernel_rfl)).trans ?_;generalize evC (Cp1 L) d=Q;unfold v6f;kernel_rfl
noncomputable abbrev Dl:Code:=C7 al5
noncomputable def Au(L:Nat):Cfg:=B8 L [209] (A2 [(5,[0,1,0,0,0])]) [] (A2 [(15,[2,0]),(6,[0,3,0]),(10,[0,3,0]),(12,[0,3,0]),(14,[0,3,0]),(8,[2,0]),(13,[0,3,0,0,44]),(11,[0,3,0,0,30]),(9,[0,3,0,0,17]),(7,[0,3,0,0]),(5,[0,3,0,12]),(4,[0,3,0]),(3,[0,3]),(2,[2,0]),(1,[0,13]),(0,[0])]) [] (A2 [(0,[4]),(1,[0,3,0]),(2,[0,3,0])]) (some [2,0]) [] [] []
def Yk{R:Type}(j:By)(i f d:Int)(e:Bool)(g:By->Int->Int->Option R)(h:Unit->Option R):Option R:=cond e (vl (A1 (wu8 (d-65))) λa=>vl (A1 ((A1 (i*16))+a)) λb=>vl (A1 (b+10)) λc=>g j c f) (h ())
abbrev SM(b:Code):Prop:=∀(k:Out->St Z->Option R) d c a b3 b4,A9 (Au L) Q Y b ⟨gp [(0,pS d),(3,pI c),(0,pI a),(0,p8 b3),(44,pB b4)] 15,[],s⟩ k=Yk d c a b3 b4 (λd c a=>k .normal ⟨gp [(0,pS d),(3,pI c),(0,pI a)] 61,[],s⟩) (λ_=>k .ret ⟨gp [(2,p16 (0:Int)),(0,pB false)] 63,[],s⟩)
def Bf9:SM (R:=R) L Q Y s (cd [1,1,1,0,1,0,0,1,0,0,1,0,1,1,1,1,1] Dl):=by intro k e d c a b;unfold Yk;kernel_rfl
def Yl{R:Type}(o:By)(m f a:Int)(q:Bool)(g:By->Int->Int->Option R)(p:Unit->Option R):Option R:=cond q (vl (A1 (wu8 (a-97))) λh=>vl (A1 ((A1 (m*16))+h)) λi=>vl (A1 (i+10)) λj=>g o j f) (cond (not (ltI a 65)) (Yk o m f a (not (ltI 70 a)) (λn l b=>g n l b) (λ_=>p ())) (Yk o m f a false (λe d c=>g e d c) (λ_=>p ())))
abbrev DB(b:Code):Prop:=∀(k:Out->St Z->Option R) d c a b3 b4,A9 (Au L) Q Y b ⟨gp [(0,pS d),(3,pI c),(0,pI a),(0,p8 b3),(30,pB b4)] 29,[],s⟩ k=Yl d c a b3 b4 (λd c a=>k .normal ⟨gp [(0,pS d),(3,pI c),(0,pI a)] 61,[],s⟩) (λ_=>k .ret ⟨gp [(2,p16 (0:Int)),(0,pB false)] 63,[],s⟩)
def Bg0(a:Code)(b:SM (R:=R) L Q Y s a):DB (R:=R) L Q Y s (cd [1,1,1,0,1,0,0,1,0,0,1,0,1,1,1] (G7 [1,1,1,0,1,0,0,1,0,0,1,0,1,1,1,1,1] a Dl)):=by intro k g f e c d;unfold Yl;simp only[<-b k];kernel_rfl
def Bg1:DB (R:=R) L Q Y s (cd [1,1,1,0,1,0,0,1,0,0,1,0,1,1,1] Dl):=by intro k e d c a b;exact j1 (by kernel_rfl) (Bg0 L Q Y s (cd [1,1,1,0,1,0,0,1,0,0,1,0,1,1,1,1,1] Dl) (Bf9 L Q Y s) k e d c a b)
def Ym{R:Type}(n:By)(m h a:Int)(p:Bool)(i:By->Int->Int->Option R)(o:Unit->Option R):Option R:=cond p (vl (A1 (wu8 (a-48))) λj=>vl (A1 ((A1 (m*16))+j)) λl=>i n l h) (cond (not (ltI a 97)) (Yl n m h a (not (ltI 102 a)) (λf d b=>i f d b) (λ_=>o ())) (Yl n m h a false (λg e c=>i g e c) (λ_=>o ())))
abbrev Se(b:Code):Prop:=∀(k:Out->St Z->Option R) d c a b3 b4,A9 (Au L) Q Y b ⟨gp [(0,pS d),(3,pI c),(0,pI a),(0,p8 b3),(17,pB b4)] 42,[],s⟩ k=Ym d c a b3 b4 (λd c a=>k .normal ⟨gp [(0,pS d),(3,pI c),(0,pI a)] 61,[],s⟩) (λ_=>k .ret ⟨gp [(2,p16 (0:Int)),(0,pB false)] 63,[],s⟩)
def Bg2(a:Code)(b:DB (R:=R) L Q Y s a):Se (R:=R) L Q Y s (cd [1,1,1,0,1,0,0,1,0,0,1,0,1] (G7 [1,1,1,0,1,0,0,1,0,0,1,0,1,1,1] a Dl)):=by intro k g f e c d;unfold Ym;simp only[<-b k];kernel_rfl
def Bg3:Se (R:=R) L Q Y s (cd [1,1,1,0,1,0,0,1,0,0,1,0,1] Dl):=by intro k e d c a b;exact j1 (by kernel_rfl) (Bg2 L Q Y s (cd [1,1,1,0,1,0,0,1,0,0,1,0,1,1,1] Dl) (Bg1 L Q Y s) k e d c a b)
def Gk{R:Type}(L n:Nat)(b:By)(o a:Int)(l:Unit->Option R)(m:Int->Option R):Option R:=match n with|0=>none|n+1=>cond (ltI a (b.length:Int)) (cond (inR a b.length) (cond (not (ltI (bAt b a) (48:Int))) (Ym b o a (bAt b a) (not (ltI 57 (bAt b a))) (λi e c=>vl (A1 (c+1)) λf=>Gk L n i e f l m) (λ_=>l ())) (Ym b o a (bAt b a) false (λj g d=>vl (A1 (d+1)) λh=>Gk L n j g h l m) (λ_=>l ()))) none) (m o)
def Bg4(a:Code)(b:Se (R:=R) L Q Y s a)(n:Nat)(d:By)(i c:Int):D0 0 ((Au L).keep 5) (bd (Au L) Q Y (cd [1,1,1,0,1,0,0] (G7 [1,1,1,0,1,0,0,1,0,0,1,0,1] a Dl))) n ⟨gp [(0,pS d),(3,pI i),(0,pI c)] 61,[],s⟩ k =
 Gk L n d i c (λ_=>k .ret ⟨gp [(2,p16 (0:Int)),(0,pB false)] 63,[],s⟩) (λn0=>k (.exit 0) ⟨gp [(4,pI n0)] 62,[],s⟩):=by
 induction n generalizing d i c with
 | zero=>rfl
 | succ n q=>rw[Gk];exact let m:=(E2 2 (E2 1 (E1 (Au L) Q Y (cd [1,1,1,0,1,0,0,1,1] Dl) (lpK 0 ((Au L).keep 5) (bd (Au L) Q Y (cd [1,1,1,0,1,0,0] (G7 [1,1,1,0,1,0,0,1,0,0,1,0,1] a Dl))) n k))));(j1 (by kernel_rfl) (A0 (A0 (A0 ((b m d i c (bAt d c) (not (ltI 57 (bAt d c)))).trans (congr (congr rfl (fx3 λj e o=>(j1 (by kernel_rfl) (A4 λf=>(q j e f))))) (by kernel_rfl))) ((b m d i c (bAt d c) false).trans (congr (congr rfl (fx3 λl g p=>(j1 (by kernel_rfl) (A4 λh=>(q l g h))))) (by kernel_rfl)))) rfl) rfl))
def Cx9{R:Type}(L:Nat)(c:By)(b:Int->Bool->Option R):Option R:=cond (ltI (c.length:Int) (1:Int)) (b 0 false) (cond (ltI 4 (c.length:Int)) (b 0 false) (Gk L L c 0 0 (λ_=>b 0 false) (λa=>b (Em a) true)))
def Dk6(a:Code)(b:Se (R:=PV × List Blk × Z) L Q Y s a)(c:By):A9 (Au L) Q Y (cd [] (G7 [1,1,1,0,1,0,0,1,0,0,1,0,1] a Dl)) ⟨[pS c]++tps 66,[],s⟩ (F4 (Au L) al5)=Cx9 L c (λd e=>some (.tup [p16 d,pB e],[],s)):=by unfold Cx9;exact(j1 (by kernel_rfl) (A0 rfl (A0 rfl ((Bg4 L Q Y s (E2 0 (E1 (Au L) Q Y (cd [1,1,1,1] Dl) (F4 (Au L) al5))) a b L c 0 0).trans (by kernel_rfl)))))
def Dk7(d:Nat)(s0):evC (Au L) (d+1) Z Y 209 [pS s0] [] s=Cx9 L s0 (λa b=>some (.tup [p16 a,pB b],[],s)):=
 (evE (fn:=al5) (by kernel_rfl)).trans (j1 (by kernel_rfl) (Dk6 L (evC (Au L) d) Y s (cd [1,1,1,0,1,0,0,1,0,0,1,0,1] Dl) (Bg3 L (evC (Au L) d) Y s) s0))
noncomputable abbrev Fx:Code:=C7 al4
noncomputable def T3(L:Nat):Cfg:=B8 L [173] (A2 [(6,[1,2,0,0,0,0])]) [(76,Ku),(208,Cl9),(209,Cl6)] (A2 [(15,[4,0]),(7,[1,4,0,0]),(14,[1,4,0,0]),(13,[4,0]),(12,[1,4,0,0,2,47]),(11,[1,4,0,0,2,0]),(10,[1,4,0,0]),(9,[1,4,0,0,0,31]),(8,[1,4,0,0,0,0]),(6,[1,4,0,0,11]),(5,[1,4,0,0]),(4,[1,4,0]),(3,[0,0,4]),(2,[4,0]),(1,[0,0,12]),(0,[0,0])]) [208,209] (A2 [(0,[6]),(1,[1,4,0,0])]) (some [4,0]) [] [] []
def Lq{R:Type}(a:Bool)(g:LL)(f d:Int)(e:Bool)(c:LL)(h:Bool->LL->Int->LL->Option R)(i:Bool->LL->Int->Int->Bool->LL->Option R):Option R:=cond e (vl (Pc .u32 d (16:Int)) λb=>cond (G2 (c.length+2)) (h a g f (c++[[(SV.int .u16 (Em b))],[(SV.int .u16 (Em d))]])) none) (i a g f d e c)
abbrev Vj(b:Code):Prop:=∀(k:Out->St Z->Option R) a d c g e f,A9 (T3 L) Q Y b ⟨gp [(1,pB a),(4,.fl 0),(0,.s (.sl false false 1 d)),(0,pI c),(0,p32 g),(31,pB e)] 23,[.arr true 25 1 f],s⟩ k=Lq a d c g e f (λa d c h=>k (.exit 1) ⟨gp [(1,pB a),(4,.fl 0),(0,.s (.sl false false 1 d)),(0,pI c)] 56,[.arr true 25 1 h],s⟩) (λa d c g e f=>k .normal ⟨gp [(1,pB a),(4,.fl 0),(0,.s (.sl false false 1 d)),(0,pI c),(0,p32 g),(31,pB e)] 23,[.arr true 25 1 f],s⟩)
def Ap6:Vj (R:=R) L Q Y s (cd [1,1,1,1,0,1,0,0,1,0,0,0,1,1] Fx):=by intro k a e c f b d;unfold Lq;kernel_rfl
def Lr{R:Type}(a:Bool)(c:LL)(b:Int)(e:LL)(f:LL->Option R)(g:Bool->LL->Int->LL->Option R):Option R:=cond (inR b c.length) (cond (okE Pd c (b8 b) 0) (cond (A3 (j8 (gX c (b8 b) 0))) (vl (↑(N8 (grp (gX c (b8 b) 0))):Int) λd=>cond (not (o0 (grp (gX c (b8 b) 0)))) (f e) (cond (G2 (e.length+1)) (g a c b (e++[[(SV.int .u16 d)]])) none)) none) none) none
abbrev Vk(b:Code):Prop:=∀(k:Out->St Z->Option R) a d c v3 b4 l5,A9 (T3 L) Q Y b ⟨gp [(1,pB a),(4,.fl 0),(0,.s (.sl false false 1 d)),(0,pI c),(0,p32 v3),(31,pB b4)] 23,[.arr true 25 1 l5],s⟩ k=Lr a d c l5 (λe=>k .ret ⟨gp [(4,.fl 1),(0,pB false)] 59,[.arr true 25 1 e,.arr true 25 1 []],s⟩) (λa d c f=>k .normal ⟨gp [(1,pB a),(4,.fl 0),(0,.s (.sl false false 1 d)),(0,pI c)] 56,[.arr true 25 1 f],s⟩)
def Ap7:Vk (R:=R) L Q Y s (cd [1,1,1,1,0,1,0,0,1,0,0,1] Fx):=by intro k a e c f b d;unfold Lr;kernel_rfl
def R9{R:Type}(L n:Nat)(a:Bool)(m:LL)(l:Int)(l3:LL)(o:LL->Option R)(p:LL->Option R):Option R:=match n with|0=>none|n+1=>cond (ltI l (m.length:Int)) (cond (inR l m.length) (cond (okE Pd m (b8 l) 0) (cond (A3 (j8 (gX m (b8 l) 0))) (vl (↑(N8 (v4B (gX m (b8 l) 0))):Int) λq=>cond (o0 (v4B (gX m (b8 l) 0))) (cond a (vl (A1 ((m.length:Int)-1)) λa9=>Lq a m l q (l==a9) l3 (λb X r B=>vl (A1 (r+1)) λP=>R9 L n b X P B o p) (λc a0 t b3 b0 C=>Lr c a0 t C (λD=>o D) (λd a1 u F=>vl (A1 (u+1)) λS=>R9 L n d a1 S F o p))) (Lq a m l q false l3 (λe a2 v G=>vl (A1 (v+1)) λT=>R9 L n e a2 T G o p) (λf a3 w b4 b1 H=>Lr f a3 w H (λI=>o I) (λg a4 x J=>vl (A1 (x+1)) λU=>R9 L n g a4 U J o p)))) (Lq a m l q false l3 (λh a5 y K=>vl (A1 (y+1)) λV=>R9 L n h a5 V K o p) (λi a6 z b5 b2 M=>Lr i a6 z M (λN=>o N) (λj a7 A O=>vl (A1 (A+1)) λW=>R9 L n j a7 W O o p)))) none) none) none) (p l3)
def Ap8(b:Code)(c:Vj (R:=R) L Q Y s b)(a:Code)(d:Vk (R:=R) L Q Y s a)(n:Nat)(e:Bool)(v:LL)(q:Int)(u:LL):D0 1 ((T3 L).keep 6) (bd (T3 L) Q Y (cd [1,1,1,1,0,1,0,0] (G7 [1,1,1,1,0,1,0,0,1,0,0,1] a (G7 [1,1,1,1,0,1,0,0,1,0,0,0,1,1] b Fx)))) n ⟨gp [(1,pB e),(4,.fl 0),(0,.s (.sl false false 1 v)),(0,pI q)] 56,[.arr true 25 1 u],s⟩ k =
 R9 L n e v q u (λl0=>k .ret ⟨gp [(4,.fl 1),(0,pB false)] 59,[.arr true 25 1 l0,.arr true 25 1 []],s⟩) (λl0=>k (.exit 0) ⟨gp [(6,.fl 0)] 58,[.arr true 25 1 l0],s⟩):=by
 induction n generalizing e v q u with
 | zero=>rfl
 | succ n t=>rw[R9];exact let K0:=(E2 1 (E1 (T3 L) Q Y (cd [1,1,1,1,0,1,0,0,1,1] Fx) (lpK 1 ((T3 L).keep 6) (bd (T3 L) Q Y (cd [1,1,1,1,0,1,0,0] (G7 [1,1,1,1,0,1,0,0,1,0,0,1] a (G7 [1,1,1,1,0,1,0,0,1,0,0,0,1,1] b Fx)))) n k)));let K1:=(E1 (T3 L) Q Y a K0);(j1 (by kernel_rfl) (A0 (A0 (A0 (A0 (A4 λr=>(A0 (A0 (A4 λb0=>((c K1 e v q r (q==b0) u).trans (congr (congr rfl (fx4 λf V b1 C=>(j1 (by kernel_rfl) (A4 λN=>(t f V N C))))) (fx6 λg W z a6 w D=>(j1 (by kernel_rfl) ((d K0 g W z a6 w D).trans (congr (congr rfl (by kernel_rfl)) (fx4 λh X b2 F=>(j1 (by kernel_rfl) (A4 λO=>(t h X O F))))))))))) ((c K1 e v q r false u).trans (congr (congr rfl (fx4 λi a0 b3 G=>(j1 (by kernel_rfl) (A4 λP=>(t i a0 P G))))) (fx6 λj a1 A a7 x H=>(j1 (by kernel_rfl) ((d K0 j a1 A a7 x H).trans (congr (congr rfl (by kernel_rfl)) (fx4 λl a2 b4 I=>(j1 (by kernel_rfl) (A4 λS=>(t l a2 S I))))))))))) ((c K1 e v q r false u).trans (congr (congr rfl (fx4 λm a3 b5 J=>(j1 (by kernel_rfl) (A4 λT=>(t m a3 T J))))) (fx6 λo a4 B a9 y K=>(j1 (by kernel_rfl) ((d K0 o a4 B a9 y K).trans (congr (congr rfl (by kernel_rfl)) (fx4 λp a5 b6 M=>(j1 (by kernel_rfl) (A4 λU=>(t p a5 U M)))))))))))) rfl) rfl) rfl) rfl))
def Ap5{R:Type}(L:Nat)(e:By)(a:Bool)(f:LL->Option R)(g:LL->Option R):Option R:=cond (e==[]) (f []) (cond (A3 e.length) (vl (D5 (pcs (u8n (58:Int)) e)) λd=>R9 L L a d 0 [] (λb=>g b) (λc=>f c)) none)
def Cy0(a:Code)(c:Vj (R:=PV × List Blk × Z) L Q Y s a)(b:Code)(d:Vk (R:=PV × List Blk × Z) L Q Y s b)(h:By)(e:Bool):A9 (T3 L) Q Y (cd [] (G7 [1,1,1,1,0,1,0,0,1,0,0,1] b (G7 [1,1,1,1,0,1,0,0,1,0,0,0,1,1] a Fx))) ⟨[pS h,pB e]++tps 63,[],s⟩ (F4 (T3 L) al4)=Ap5 L h e (λg=>some (.tup [.fl 0,pB true],[.arr true 25 1 g],s)) (λg=>some (.tup [.fl 1,pB false],[.arr true 25 1 g,.arr true 25 1 []],s)):=by unfold Ap5;exact(j1 (by kernel_rfl) (A0 rfl (A0 (A4 λf=>((Ap8 L Q Y s (E2 0 (E1 (T3 L) Q Y (cd [1,1,1,1,1] Fx) (F4 (T3 L) al4))) a c b d L e f 0 []).trans (by kernel_rfl))) rfl)))
def Cy1(d:Nat)(s0 last1):evC (T3 L) (d+1) Z Y 173 [pS s0,pB last1] [] s=Ap5 L s0 last1 (λa=>some (.tup [.fl 0,pB true],[.arr true 25 1 a],s)) (λa=>some (.tup [.fl 1,pB false],[.arr true 25 1 a,.arr true 25 1 []],s)):=
 (evE (fn:=al4) (by kernel_rfl)).trans (j1 (by kernel_rfl) (Cy0 L (evC (T3 L) d) Y s (cd [1,1,1,1,0,1,0,0,1,0,0,0,1,1] Fx) (Ap6 L (evC (T3 L) d) Y s) (cd [1,1,1,1,0,1,0,0,1,0,0,1] Fx) (Ap7 L (evC (T3 L) d) Y s) s0 last1))
noncomputable abbrev QI:Code:=C7 ap2
noncomputable def Dq(L:Nat):Cfg:=B8 L [172] (A2 [(2,[0,1,0])]) [] (A2 [(6,[2]),(3,[0,2]),(5,[2]),(4,[0,2,17]),(2,[0,2,4]),(1,[0,2]),(0,[0])]) [] (A2 [(0,[]),(1,[0,2])]) (some [2]) [] [] []
def W3{R:Type}(L n:Nat)(b:By)(a:Int)(c:Int->Option R)(d:Unit->Option R):Option R:=match n with|0=>none|n+1=>cond (ltI (A1 (a+1)) (b.length:Int)) (cond (inR a b.length) (cond ((bAt b a)==58) (cond (inR (A1 (a+1)) b.length) (vl (bAt b (A1 (a+1))) λe=>cond (e==58) (c a) (W3 L n b (A1 (a+1)) c d)) none) (W3 L n b (A1 (a+1)) c d)) none) (d ())
def OZ(n s0 i1):D0 0 ((Dq L).keep 2) (bd (Dq L) Q Y (cd [1,0,1,0,0] QI)) n ⟨gp [(0,pS s0),(2,pI i1)] 19,[],s⟩ k =
 W3 L n s0 i1 (λn0=>k .ret ⟨gp [(2,pI n0)] 20,[],s⟩) (λ_=>k (.exit 0) ⟨gp [] 23,[],s⟩):=by
 induction n generalizing s0 i1 with
 | zero=>rfl
 | succ n a=>rw[W3];simp only[<-a];kernel_rfl
def GY{R:Type}(L:Nat)(c:By)(b:Int->Option R):Option R:=W3 L L c 0 (λa=>b a) (λ_=>b (-1))
def Be6(d:Nat)(s0):evC (Dq L) (d+1) Z Y 172 [pS s0] [] s=GY L s0 (λa=>some (pI a,[],s)):=by refine(evE (fn:=ap2) (by kernel_rfl)).trans ?_;generalize evC (Dq L) d=Q;unfold GY;exact(j1 (by kernel_rfl) ((OZ L Q Y s (E2 0 (E1 (Dq L) Q Y (cd [1,1] QI) (F4 (Dq L) ap2))) L s0 0).trans (by kernel_rfl)))
noncomputable abbrev Uf:Code:=C7 ai6
noncomputable def Av(L:Nat):Cfg:=B8 L [128] (A2 [(21,[2,0,0,6,2]),(17,[2,0,0,4,1,1]),(8,[2,0,0,1,1])]) [(172,PU),(173,Bs8)] (A2 [(24,[2,0]),(22,[2,1,6,2]),(23,[2,1,6,2]),(21,[2,1,6,2,73]),(20,[2,1,6,2]),(18,[2,1,4,1,1]),(19,[2,1,4,1,1]),(17,[2,1,4,1,1,62]),(16,[2,1,4,1,1]),(15,[2,0]),(14,[2,1,4,1,59]),(13,[2,1,4,0,0,0]),(12,[0,1,1,0,3,0]),(11,[2,0]),(9,[2,1,1,1]),(10,[2,1,1,1]),(8,[2,1,1,1,24]),(7,[2,1,1,1]),(6,[2,0]),(5,[2,1,1,23]),(4,[2,1,1,0]),(3,[0,1,1,0,12]),(2,[0,1,1,0]),(1,[0,1,1]),(0,[0,1])]) [172] (A2 [(4,[2,1]),(5,[2,1,6,2]),(2,[2,1,6]),(3,[2,1,4,1,1]),(0,[2,1]),(1,[2,1,1,1])]) (some [2,0]) [] [] []
def Oa{R:Type}(L n:Nat)(b:Bool)(c:LL)(a:Int)(g d:LL)(f:LL->LL->Option R):Option R:=match n with|0=>none|n+1=>cond (ltI a 8) (cond (inR a c.length) (cond (okE ⟨true,false,[.int .u16]⟩ c (b8 a) 0) (cond (inR a 8) (cond (decide ((b8 a)<d.length)) (vl (ac1 d (b8 a) (G5 (j0 d (b8 a) []) 0 [(SV.int .u16 (gE c (b8 a) 0))])) λe=>Oa L n b c (A1 (a+1)) g e f) none) none) none) none) (f g d)
def Bm6(n l_z0 a i2 l3 l4):D0 2 ((Av L).keep 8) (bd (Av L) Q Y (cd [1,1,1,0,1,0,1,1,0,1,0,0] Uf)) n ⟨gp [(2,.ptr 0 0 0),(1,.ptr 1 0 0),(1,.s (.sl l_z0 l_z0 1 a)),(1,pI i2)] 93,[.arr false 26 1 l3,.arr false 26 1 l4],s⟩ k =
 Oa L n l_z0 a i2 l3 l4 (λc a=>k (.exit 0) ⟨gp [(2,.ptr 0 0 0),(1,.ptr 1 0 0)] 97,[.arr false 26 1 c,.arr false 26 1 a],s⟩):=by
 induction n generalizing l_z0 a i2 l3 l4 with
 | zero=>rfl
 | succ n b=>rw[Oa];simp only[<-b];kernel_rfl
def Ob{R:Type}(L n:Nat)(e:Bool)(d:LL)(b:Bool)(i:LL)(a:Int)(h f:LL)(g:Bool->LL->LL->LL->Option R):Option R:=match n with|0=>none|n+1=>cond (ltI a (d.length:Int)) (cond (inR a d.length) (cond (okE ⟨true,false,[.int .u16]⟩ d (b8 a) 0) (cond (inR a 8) (cond (decide ((b8 a)<f.length)) (vl (ac1 f (b8 a) (G5 (j0 f (b8 a) []) 0 [(SV.int .u16 (gE d (b8 a) 0))])) λc=>Ob L n e d b i (A1 (a+1)) h c g) none) none) none) none) (g b i h f)
def Bm7(n l_z0 l1 r_z2 r3 i4 l5 l6):D0 2 ((Av L).keep 17) (bd (Av L) Q Y (cd [1,1,1,1,1,1,1,0,1,0,0] Uf)) n ⟨gp [(2,.ptr 0 0 0),(1,.ptr 1 0 0),(4,.s (.sl l_z0 l_z0 1 l1)),(1,.s (.sl r_z2 r_z2 1 r3)),(1,pI i4)] 88,[.arr false 26 1 l5,.arr false 26 1 l6],s⟩ k =
 Ob L n l_z0 l1 r_z2 r3 i4 l5 l6 (λa e c d=>k (.exit 2) ⟨gp [(2,.ptr 0 0 0),(1,.ptr 1 0 0),(6,.s (.sl a a 1 e))] 90,[.arr false 26 1 c,.arr false 26 1 d],s⟩):=by
 induction n generalizing l_z0 l1 r_z2 r3 i4 l5 l6 with
 | zero=>rfl
 | succ n b=>rw[Ob];simp only[<-b];kernel_rfl
def Oc{R:Type}(L n:Nat)(e:Bool)(c:LL)(b:Int)(h f:LL)(g:LL->LL->Option R):Option R:=match n with|0=>none|n+1=>cond (ltI b (c.length:Int)) (vl (A1 ((8:Int)-(c.length:Int))) λa=>cond (inR b c.length) (cond (okE ⟨true,false,[.int .u16]⟩ c (b8 b) 0) (cond (inR (A1 (a+b)) 8) (cond (decide ((b8 (A1 (a+b)))<f.length)) (vl (ac1 f (b8 (A1 (a+b))) (G5 (j0 f (b8 (A1 (a+b))) []) 0 [(SV.int .u16 (gE c (b8 b) 0))])) λd=>Oc L n e c (A1 (b+1)) h d g) none) none) none) none) (g h f)
def Bm8(n r_z0 r1 i2 l3 l4):D0 2 ((Av L).keep 21) (bd (Av L) Q Y (cd [1,1,1,1,1,1,1,1,0,1,0,0] Uf)) n ⟨gp [(2,.ptr 0 0 0),(1,.ptr 1 0 0),(6,.s (.sl r_z0 r_z0 1 r1)),(2,pI i2)] 87,[.arr false 26 1 l3,.arr false 26 1 l4],s⟩ k =
 Oc L n r_z0 r1 i2 l3 l4 (λb c=>k (.exit 4) ⟨gp [(2,.ptr 0 0 0),(1,.ptr 1 0 0)] 97,[.arr false 26 1 b,.arr false 26 1 c],s⟩):=by
 induction n generalizing r_z0 r1 i2 l3 l4 with
 | zero=>rfl
 | succ n a=>rw[Oc];simp only[<-a];kernel_rfl
def C15{R:Type}(L:Nat)(e:By)(j:Int->Int->Int->Int->Int->Int->Int->Int->Bool->LL->LL->Option R):Option R:=cond (A3 e.length) (cond (ltI (KX e) (0:Int)) (cond (A3 e.length) (cond (not (o0 (P6 e true))) (j 0 0 0 0 0 0 0 0 false (a8 8 [(SV.int .u16 (0:Int))]) (a8 8 [(SV.int .u16 (0:Int))])) (cond ((↑(j8 (D2 (gvs e true))):Int)!=8) (j 0 0 0 0 0 0 0 0 false (a8 8 [(SV.int .u16 (0:Int))]) (a8 8 [(SV.int .u16 (0:Int))])) (Oa L L (p7 (gvs e true)) (D2 (gvs e true)) 0 (a8 8 [(SV.int .u16 (0:Int))]) (a8 8 [(SV.int .u16 (0:Int))]) (λn a=>cond ((decide (8=(a.length*1)))&&(okS ⟨true,true,[.int .u16,.int .u16,.int .u16,.int .u16,.int .u16,.int .u16,.int .u16,.int .u16]⟩ (b9 a) 0)) (vl (SV.gI (j0 (b9 a) 0 SV.nilp)) λo=>vl (SV.gI (j0 (b9 a) 1 SV.nilp)) λp=>vl (SV.gI (j0 (b9 a) 2 SV.nilp)) λq=>vl (SV.gI (j0 (b9 a) 3 SV.nilp)) λr=>vl (SV.gI (j0 (b9 a) 4 SV.nilp)) λt=>vl (SV.gI (j0 (b9 a) 5 SV.nilp)) λu=>vl (SV.gI (j0 (b9 a) 6 SV.nilp)) λv=>vl (SV.gI (j0 (b9 a) 7 SV.nilp)) λw=>cond (decide (8=(n.length*1))) (vl (U7 1 n.length [(SV.int .u16 o),(SV.int .u16 p),(SV.int .u16 q),(SV.int .u16 r),(SV.int .u16 t),(SV.int .u16 u),(SV.int .u16 v),(SV.int .u16 w)]) λb=>cond ((decide (8=(b.length*1)))&&(okS ⟨true,true,[.int .u16,.int .u16,.int .u16,.int .u16,.int .u16,.int .u16,.int .u16,.int .u16]⟩ (b9 b) 0)) (j (SV.gI (j0 (b9 b) 0 SV.nilp)) (SV.gI (j0 (b9 b) 1 SV.nilp)) (SV.gI (j0 (b9 b) 2 SV.nilp)) (SV.gI (j0 (b9 b) 3 SV.nilp)) (SV.gI (j0 (b9 b) 4 SV.nilp)) (SV.gI (j0 (b9 b) 5 SV.nilp)) (SV.gI (j0 (b9 b) 6 SV.nilp)) (SV.gI (j0 (b9 b) 7 SV.nilp)) true b a) none) none) none)))) none) (cond (J0 0 (KX e) e.length) (vl (cut e 0 (KX e)) λf=>cond (A3 f.length) (vl (A1 ((KX e)+2)) λG=>cond (J0 G (e.length:Int) e.length) (vl (cut e G (e.length:Int)) λg=>cond (A3 g.length) (cond (not (o0 (P6 f false))) (j 0 0 0 0 0 0 0 0 false (a8 8 [(SV.int .u16 (0:Int))]) (a8 8 [(SV.int .u16 (0:Int))])) (cond (not (o0 (P6 g true))) (j 0 0 0 0 0 0 0 0 false (a8 8 [(SV.int .u16 (0:Int))]) (a8 8 [(SV.int .u16 (0:Int))])) (vl (A1 ((↑(j8 (D2 (gvs f false))):Int)+(↑(j8 (D2 (gvs g true))):Int))) λI=>cond (ltI 7 I) (j 0 0 0 0 0 0 0 0 false (a8 8 [(SV.int .u16 (0:Int))]) (a8 8 [(SV.int .u16 (0:Int))])) (Ob L L (p7 (gvs f false)) (D2 (gvs f false)) (p7 (gvs g true)) (D2 (gvs g true)) 0 (a8 8 [(SV.int .u16 (0:Int))]) (a8 8 [(SV.int .u16 (0:Int))]) (λh H l m=>Oc L L h H 0 l m (λi c=>cond ((decide (8=(c.length*1)))&&(okS ⟨true,true,[.int .u16,.int .u16,.int .u16,.int .u16,.int .u16,.int .u16,.int .u16,.int .u16]⟩ (b9 c) 0)) (vl (SV.gI (j0 (b9 c) 0 SV.nilp)) λx=>vl (SV.gI (j0 (b9 c) 1 SV.nilp)) λy=>vl (SV.gI (j0 (b9 c) 2 SV.nilp)) λz=>vl (SV.gI (j0 (b9 c) 3 SV.nilp)) λA=>vl (SV.gI (j0 (b9 c) 4 SV.nilp)) λB=>vl (SV.gI (j0 (b9 c) 5 SV.nilp)) λC=>vl (SV.gI (j0 (b9 c) 6 SV.nilp)) λD=>vl (SV.gI (j0 (b9 c) 7 SV.nilp)) λF=>cond (decide (8=(i.length*1))) (vl (U7 1 i.length [(SV.int .u16 x),(SV.int .u16 y),(SV.int .u16 z),(SV.int .u16 A),(SV.int .u16 B),(SV.int .u16 C),(SV.int .u16 D),(SV.int .u16 F)]) λd=>cond ((decide (8=(d.length*1)))&&(okS ⟨true,true,[.int .u16,.int .u16,.int .u16,.int .u16,.int .u16,.int .u16,.int .u16,.int .u16]⟩ (b9 d) 0)) (j (SV.gI (j0 (b9 d) 0 SV.nilp)) (SV.gI (j0 (b9 d) 1 SV.nilp)) (SV.gI (j0 (b9 d) 2 SV.nilp)) (SV.gI (j0 (b9 d) 3 SV.nilp)) (SV.gI (j0 (b9 d) 4 SV.nilp)) (SV.gI (j0 (b9 d) 5 SV.nilp)) (SV.gI (j0 (b9 d) 6 SV.nilp)) (SV.gI (j0 (b9 d) 7 SV.nilp)) true d c) none) none) none)))))) none) none) none) none)) none
def Dm8(d:Nat)(s0):evC (Av L) (d+1) Z Y 128 [pS s0] [] s=C15 L s0 (λl m n o p q r t r8 h l10=>some (.tup [.agg [p16 l,p16 m,p16 n,p16 o,p16 p,p16 q,p16 r,p16 t],pB r8],[.arr false 26 1 h,.arr false 26 1 l10],s)):=by refine(evE (fn:=ai6) (by kernel_rfl)).trans ?_;generalize evC (Av L) d=Q;unfold C15;exact(j1 (by kernel_rfl) (A0 (A0 (A0 (A0 rfl (A0 rfl ((Bm6 L Q Y s (E2 0 (E1 (Av L) Q Y (cd [1,1,1,0,1,0,1,1,1] Uf) (E1 (Av L) Q Y (cd [1,1,1,1] Uf) (F4 (Av L) ai6)))) L (p7 (gvs s0 true)) (D2 (gvs s0 true)) 0 (a8 8 [(SV.int .u16 (0:Int))]) (a8 8 [(SV.int .u16 (0:Int))])).trans (by kernel_rfl)))) rfl) (A0 (A4 λf=>(A0 (A4 λi=>(A0 (A4 λg=>(A0 (A0 rfl (A0 rfl (A4 λj=>(A0 rfl ((Bm7 L Q Y s (E2 2 (E1 (Av L) Q Y (cd [1,1,1,1,1,1,1,1] Uf) (F4 (Av L) ai6))) L (p7 (gvs f false)) (D2 (gvs f false)) (p7 (gvs g true)) (D2 (gvs g true)) 0 (a8 8 [(SV.int .u16 (0:Int))]) (a8 8 [(SV.int .u16 (0:Int))])).trans (congr rfl (fx4 λa e b c=>(j1 (by kernel_rfl) ((Bm8 L Q Y s (E2 4 (E1 (Av L) Q Y (cd [1,1,1,1,1,1,1,1,1] Uf) (F4 (Av L) ai6))) L a e 0 b c).trans (by kernel_rfl)))))))))) rfl)) rfl)) rfl)) rfl)) rfl))
noncomputable abbrev Bu9:Code:=C7 ao8
noncomputable def Mp(L:Nat):Cfg:=B8 L [132] (A2 [(3,[2,0,0])]) [] (A2 [(6,[2]),(4,[3,0]),(5,[3,0]),(3,[3,0,6]),(2,[3,0]),(1,[0,2]),(0,[0])]) [] (A2 [(0,[3]),(1,[3,0])]) (some [2]) [] [] []
def Bd{R:Type}(L n:Nat)(a:By)(v1:Int)(f:By->Option R):Option R:=match n with|0=>none|n+1=>cond (ltI 0 v1) (vl (Em ((ab3 v1 (16:Int))+1)) λb=>cond (J0 (ab3 v1 (16:Int)) b 16) (vl (cut ([48,49,50,51,52,53,54,55,56,57,97,98,99,100,101,102]:List UInt8) (ab3 v1 (16:Int)) b) λd=>cond (E6 d.length a.length) (vl (Em (ab1 v1 (16:Int))) λg=>Bd L n (d++a) g f) none) none) (cond (a==[]) (vl (Em ((ab3 v1 (16:Int))+1)) λc=>cond (J0 (ab3 v1 (16:Int)) c 16) (vl (cut ([48,49,50,51,52,53,54,55,56,57,97,98,99,100,101,102]:List UInt8) (ab3 v1 (16:Int)) c) λe=>cond (E6 e.length a.length) (vl (Em (ab1 v1 (16:Int))) λh=>Bd L n (e++a) h f) none) none) (f a))
def Aq0(n a v1):D0 0 ((Mp L).keep 3) (bd (Mp L) Q Y (cd [1,1,0,1,0,0] Bu9)) n ⟨gp [(3,pS a),(0,p16 v1)] 18,[],s⟩ k =
 Bd L n a v1 (λa=>k (.exit 0) ⟨gp [(3,pS a)] 19,[],s⟩):=by
 induction n generalizing a v1 with
 | zero=>rfl
 | succ n b=>rw[Bd];simp only[<-b];kernel_rfl
def Bz4{R:Type}(L:Nat)(b:Int)(c:By->Option R):Option R:=Bd L L ([]:List UInt8) b (λa=>c a)
def Cy5(d:Nat)(g0):evC (Mp L) (d+1) Z Y 132 [p16 g0] [] s=Bz4 L g0 (λa=>some (pS a,[],s)):=by refine(evE (fn:=ao8) (by kernel_rfl)).trans ?_;generalize evC (Mp L) d=Q;unfold Bz4;exact(j1 (by kernel_rfl) ((Aq0 L Q Y s (E2 0 (E1 (Mp L) Q Y (cd [1,1,1] Bu9) (F4 (Mp L) ao8))) L ([]:List UInt8) g0).trans (by kernel_rfl)))
noncomputable abbrev Ps:Code:=C7 am8
noncomputable def Z1(L:Nat):Cfg:=B8 L [97] (A2 [(12,[1,0,0,0,2,0]),(6,[1,0,0,0,0,0]),(3,[1,0,0,0,0])]) [(132,Bt1)] (A2 [(20,[2]),(13,[1,1,0,2,0]),(19,[1,1,0,2,0]),(18,[1,1,0,2,0]),(17,[1,1,0,2,0,45]),(16,[1,1,0,2,0]),(15,[1,1,0,2,0]),(14,[1,1,0,2,0,29]),(12,[1,1,0,2,0,24]),(11,[1,1,0,2,0]),(10,[1,1,0,2]),(4,[1,1,0,0]),(9,[1,1,0,0]),(8,[1,1,0,0,0,22]),(7,[1,1,0,0,0]),(6,[1,1,0,0,0,17]),(5,[1,1,0,0,0]),(3,[1,1,0,0,4]),(2,[1,1,0,0]),(1,[1,1,0]),(0,[1])]) [132] (A2 [(4,[7]),(5,[1,1,0,2,0]),(0,[1,1,0]),(1,[1,1,0,0]),(2,[1,1,0,0,0]),(3,[1,1,0,0,0])]) (some [2]) [] [] []
def Nz{R:Type}(L n:Nat)(b a c d:Int)(e:LL)(f:Int->Int->Int->Int->LL->Option R):Option R:=match n with|0=>none|n+1=>cond (ltI (A1 (c+d)) (8:Int)) (cond (inR (A1 (c+d)) 8) (cond (okE ⟨true,false,[.int .u16]⟩ e (b8 (A1 (c+d))) 0) (vl (gE e (b8 (A1 (c+d))) 0) λg=>cond (g==0) (Nz L n b a c (A1 (d+1)) e f) (f b a c d e)) none) none) (f b a c d e)
def Bm3(n b a c e d):D0 1 ((Z1 L).keep 6) (bd (Z1 L) Q Y (cd [1,1,0,1,0,0,1,0,0,1,0,0,0] Ps)) n ⟨gp [(1,.ptr 0 0 0),(1,pI b),(0,pI a),(0,pI c),(0,pI e)] 57,[.arr false 26 1 d],s⟩ k =
 Nz L n b a c e d (λb a c e d=>k (.exit 2) ⟨gp [(1,.ptr 0 0 0),(1,pI b),(0,pI a),(0,pI c),(0,pI e)] 57,[.arr false 26 1 d],s⟩):=by
 induction n generalizing b a c e d with
 | zero=>rfl
 | succ n f=>rw[Nz];simp only[<-f];kernel_rfl
def Jv{R:Type}(L n:Nat)(e b i:Int)(j:LL)(h:Int->Int->LL->Option R):Option R:=match n with|0=>none|n+1=>cond (ltI i 8) (Nz L L e b i 0 j (λd a c g f=>cond (ltI a g) (Jv L n c g (A1 (c+1)) f h) (Jv L n d a (A1 (c+1)) f h))) (h e b j)
def Bm4(n b a i2 l3):D0 1 ((Z1 L).keep 3) (bd (Z1 L) Q Y (cd [1,1,0,1,0,0] Ps)) n ⟨gp [(1,.ptr 0 0 0),(1,pI b),(0,pI a),(0,pI i2)] 58,[.arr false 26 1 l3],s⟩ k =
 Jv L n b a i2 l3 (λb a i=>k (.exit 0) ⟨gp [(1,.ptr 0 0 0),(1,pI b),(0,pI a)] 59,[.arr false 26 1 i],s⟩):=by
 induction n generalizing b a i2 l3 with
 | zero=>rfl
 | succ n h=>rw[Jv];exact(j1 (by kernel_rfl) (A0 ((Bm3 L Q Y s (E2 2 (E1 (Z1 L) Q Y (cd [1,1,0,1,0,0,1,0,0,1,1] Ps) (E2 1 (E1 (Z1 L) Q Y (cd [1,1,0,1,0,0,1,1] Ps) (lpK 1 ((Z1 L).keep 3) (bd (Z1 L) Q Y (cd [1,1,0,1,0,0] Ps)) n k))))) L b a i2 0 l3).trans (congr rfl (fx5 λe c d g f=>(j1 (by kernel_rfl) (A0 (h d g (A1 (d+1)) f) (h e c (A1 (d+1)) f)))))) rfl))
def U4{R:Type}(L n:Nat)(e a:Int)(d:By)(b:Int)(c:LL)(l:By->LL->Option R):Option R:=match n with|0=>none|n+1=>cond (ltI b 8) (cond (b==e) (cond (E6 d.length 2) (vl (d++[58,58]) λp=>vl (A1 (a-1)) λm=>vl (A1 ((A1 (b+m))+1)) λo=>U4 L n e a p o c l) none) (cond (not (d==[])) (vl (A1 ((d.length:Int)-1)) λf=>cond (inR f d.length) (cond ((bAt d f)!=58) (cond (E6 d.length 1) (vl (d++[58]) λg=>cond (inR b 8) (cond (okE ⟨true,false,[.int .u16]⟩ c (b8 b) 0) (cond (ltN (gE c (b8 b) 0) 65536) (vl (P9 (b8 (gE c (b8 b) 0))) λh=>cond (E6 g.length h.length) (U4 L n e a (g++h) (A1 (b+1)) c l) none) none) none) none) none) (cond (inR b 8) (cond (okE ⟨true,false,[.int .u16]⟩ c (b8 b) 0) (cond (ltN (gE c (b8 b) 0) 65536) (vl (P9 (b8 (gE c (b8 b) 0))) λi=>cond (E6 d.length i.length) (U4 L n e a (d++i) (A1 (b+1)) c l) none) none) none) none)) none) (cond (inR b 8) (cond (okE ⟨true,false,[.int .u16]⟩ c (b8 b) 0) (cond (ltN (gE c (b8 b) 0) 65536) (vl (P9 (b8 (gE c (b8 b) 0))) λj=>cond (E6 d.length j.length) (U4 L n e a (d++j) (A1 (b+1)) c l) none) none) none) none))) (l d c)
def Bm5(n at0 most1 s2 i3 l4):D0 1 ((Z1 L).keep 12) (bd (Z1 L) Q Y (cd [1,1,1,1,0,1,0,0] Ps)) n ⟨gp [(1,.ptr 0 0 0),(1,pI at0),(0,pI most1),(2,pS s2),(0,pI i3)] 55,[.arr false 26 1 l4],s⟩ k =
 U4 L n at0 most1 s2 i3 l4 (λc b=>k (.exit 4) ⟨gp [(7,pS c)] 56,[.arr false 26 1 b],s⟩):=by
 induction n generalizing at0 most1 s2 i3 l4 with
 | zero=>rfl
 | succ n a=>rw[U4];simp only[<-a];kernel_rfl
def Dm5{R:Type}(L:Nat)(f g h i j l m n:Int)(o:By->LL->Option R):Option R:=Jv L L (-1) 1 0 [[(SV.int .u16 f)],[(SV.int .u16 g)],[(SV.int .u16 h)],[(SV.int .u16 i)],[(SV.int .u16 j)],[(SV.int .u16 l)],[(SV.int .u16 m)],[(SV.int .u16 n)]] (λb a e=>U4 L L b a ([]:List UInt8) 0 e (λd c=>o d c))
def Dm6(d:Nat)(a0 a1 a2 a3 a4 a5 a6 a7):evC (Z1 L) (d+1) Z Y 97 [.agg [p16 a0,p16 a1,p16 a2,p16 a3,p16 a4,p16 a5,p16 a6,p16 a7]] [] s=Dm5 L a0 a1 a2 a3 a4 a5 a6 a7 (λf e=>some (pS f,[.arr false 26 1 e],s)):=by refine(evE (fn:=am8) (by kernel_rfl)).trans ?_;generalize evC (Z1 L) d=Q;unfold Dm5;exact(j1 (by kernel_rfl) ((Bm4 L Q Y s (E2 0 (E1 (Z1 L) Q Y (cd [1,1,1] Ps) (F4 (Z1 L) am8))) L (-1) 1 0 [[(SV.int .u16 a0)],[(SV.int .u16 a1)],[(SV.int .u16 a2)],[(SV.int .u16 a3)],[(SV.int .u16 a4)],[(SV.int .u16 a5)],[(SV.int .u16 a6)],[(SV.int .u16 a7)]]).trans (congr rfl (fx3 λb a c=>(j1 (by kernel_rfl) ((Bm5 L Q Y s (E2 4 (E1 (Z1 L) Q Y (cd [1,1,1,1,1] Ps) (F4 (Z1 L) am8))) L b a ([]:List UInt8) 0 c).trans (by kernel_rfl)))))))
noncomputable def KF(L:Nat):Cfg:=B8 L [213] (A2 []) [] (A2 [(1,[2]),(0,[0])]) [] (A2 []) (some [2]) [] [] []
def ZS{R:Type}(L:Nat)(n0:Int)(a:Bool->Option R):Option R:=cond (not (ltI n0 0)) (cond (not (ltI 1114111 n0)) (cond (ltI n0 55296) (a true) (a (ltI 57343 n0))) (a false)) (a false)
def Ca6(d:Nat)(n0):evC (KF L) (d+1) Z Y 213 [pI n0] [] s=ZS L n0 (λa=>some (pB a,[],s)):=by refine(evE (fn:=Tryz.f213) (by kernel_rfl)).trans ?_;generalize evC (KF L) d=Q;unfold ZS;kernel_rfl
noncomputable abbrev Pq:Code:=C7 al6
noncomputable def Y9(L:Nat):Cfg:=B8 L [215] (A2 [(6,[0,5,0])]) [] (A2 [(9,[6]),(8,[0,6]),(7,[0,6]),(6,[0,6,11]),(5,[0,6]),(4,[0]),(2,[0,0]),(3,[0,0]),(1,[0,0,6]),(0,[0,0,0])]) [] (A2 [(0,[0,6]),(1,[0,6])]) (some [6]) [] [] []
def Hf{R:Type}(L n:Nat)(a b:Int)(e:Int->Int->Option R):Option R:=match n with|0=>none|n+1=>cond (ltI 455 a) (vl (A1 (ab1 a (35:Int))) λc=>vl (A1 (b+36)) λd=>Hf L n c d e) (e a b)
def ZN(n a b):D0 0 ((Y9 L).keep 6) (bd (Y9 L) Q Y (cd [1,1,1,1,0,0,0] Pq)) n ⟨gp [(0,pI a),(6,pI b)] 23,[],s⟩ k =
 Hf L n a b (λa b=>k (.exit 0) ⟨gp [(0,pI a),(6,pI b)] 23,[],s⟩):=by
 induction n generalizing a b with
 | zero=>rfl
 | succ n c=>rw[Hf];simp only[<-c];kernel_rfl
def He{R:Type}(L:Nat)(c b:Int)(i:Int->Option R):Option R:=cond (b !=0) (vl (A1 (ab1 c b)) λh=>Hf L L (A1 (c+h)) 0 (λa e=>vl (A1 ((36:Int)*a)) λf=>vl (A1 (a+38)) λd=>cond (d !=0) (vl (A1 (ab1 f d)) λg=>i (A1 (e+g))) none)) none
abbrev ET(b:Code):Prop:=∀(k:Out->St Z->Option R) delta0 count1,A9 (Y9 L) Q Y b ⟨gp [(0,pI delta0),(0,pI count1)] 29,[],s⟩ k=He L delta0 count1 (λn0=>k .ret ⟨gp [(6,pI n0)] 24,[],s⟩)
def ZM:ET (R:=R) L Q Y s (cd [1,1] Pq):=by intro k a b;unfold He;exact(j1 (by kernel_rfl) (A0 (A4 λc=>((ZN L Q Y s (E2 0 (E1 (Y9 L) Q Y (cd [1,1,1,1,1] Pq) k)) L (A1 (a+c)) 0).trans (by kernel_rfl))) rfl))
def MS{R:Type}(L:Nat)(b a:Int)(c:Bool)(h:Int->Option R):Option R:=cond c (vl (A1 (ab1 b (700:Int))) λf=>He L f a (λd=>h d)) (vl (A1 (ab1 b (2:Int))) λg=>He L g a (λe=>h e))
def B89(e:Code)(a:ET (R:=PV × List Blk × Z) L Q Y s e)(c b:Int)(d:Bool):A9 (Y9 L) Q Y (cd [] (G7 [1,1] e Pq)) ⟨[pI c,pI b,pB d]++tps 28,[],s⟩ (F4 (Y9 L) al6)=MS L c b d (λi=>some (pI i,[],s)):=by unfold MS;exact let h:=(F4 (Y9 L) al6);(j1 (by kernel_rfl) (A0 (A4 λf=>((a h f b).trans (by kernel_rfl))) (A4 λg=>((a h g b).trans (by kernel_rfl)))))
def B90(d:Nat)(delta0 count1 first2):evC (Y9 L) (d+1) Z Y 215 [pI delta0,pI count1,pB first2] [] s=MS L delta0 count1 first2 (λa=>some (pI a,[],s)):=
 (evE (fn:=al6) (by kernel_rfl)).trans (j1 (by kernel_rfl) (B89 L (evC (Y9 L) d) Y s (cd [1,1] Pq) (ZM L (evC (Y9 L) d) Y s) delta0 count1 first2))
noncomputable def A39(L:Nat):Cfg:=B8 L [239] (A2 []) [] (A2 [(3,[2]),(2,[2]),(1,[0,3]),(0,[0])]) [] (A2 []) (some [2]) [] [] []
def Di5{R:Type}(L:Nat)(a:Int)(d:Int->Option R):Option R:=cond (ltI a 26) (vl (wu8 (A1 ((97:Int)+a))) λb=>d b) (vl (A1 ((A1 ((48:Int)+a))-26)) λc=>d (wu8 c))
def Di6(d:Nat)(d0):evC (A39 L) (d+1) Z Y 239 [pI d0] [] s=Di5 L d0 (λa=>some (p8 a,[],s)):=by refine(evE (fn:=Tryz.f239) (by kernel_rfl)).trans ?_;generalize evC (A39 L) d=Q;unfold Di5;kernel_rfl
noncomputable abbrev Ud:Code:=C7 al9
noncomputable def Kd(L:Nat):Cfg:=B8 L [250] (A2 []) [] (A2 [(7,[2]),(2,[2]),(4,[2]),(6,[2]),(5,[0,22]),(3,[0,12]),(1,[0,2]),(0,[0])]) [] (A2 [(0,[])]) (some [2]) [] [] []
def Ye{R:Type}(a:Int)(g:Bool)(e:Int->Option R)(f:Int->Bool->Option R):Option R:=cond g (vl (A1 (wu8 (a-65))) λb=>e b) (cond (not (ltI a 48)) (cond (not (ltI 57 a)) (vl (A1 (wu8 (a-48))) λc=>vl (A1 (c+26)) λd=>e d) (f a (not (ltI 57 a)))) (f a false))
abbrev SG(b:Code):Prop:=∀(k:Out->St Z->Option R) a c,A9 (Kd L) Q Y b ⟨gp [(0,p8 a),(12,pB c)] 20,[],s⟩ k=Ye a c (λn0=>k .ret ⟨gp [(2,pI n0)] 31,[],s⟩) (λa c=>k .normal ⟨gp [(0,p8 a),(22,pB c)] 10,[],s⟩)
def Bd5:SG (R:=R) L Q Y s (cd [1,0,0,1,1,1] Ud):=by intro k a b;unfold Ye;kernel_rfl
def Yf{R:Type}(a:Int)(l:Bool)(f:Int->Option R)(j:Int->Bool->Option R):Option R:=cond l (vl (A1 (wu8 (a-97))) λg=>f g) (cond (not (ltI a 65)) (Ye a (not (ltI 90 a)) (λh=>f h) (λb c=>j b c)) (Ye a false (λi=>f i) (λd e=>j d e)))
abbrev CY(b:Code):Prop:=∀(k:Out->St Z->Option R) a c,A9 (Kd L) Q Y b ⟨gp [(0,p8 a),(2,pB c)] 30,[],s⟩ k=Yf a c (λn0=>k .ret ⟨gp [(2,pI n0)] 31,[],s⟩) (λa c=>k .normal ⟨gp [(0,p8 a),(22,pB c)] 10,[],s⟩)
def Bd6(a:Code)(b:SG (R:=R) L Q Y s a):CY (R:=R) L Q Y s (cd [1,0,0,1] (G7 [1,0,0,1,1,1] a Ud)):=by intro k c d;unfold Yf;simp only[<-b k];kernel_rfl
def Bd7:CY (R:=R) L Q Y s (cd [1,0,0,1] Ud):=by intro k a b;exact j1 (by kernel_rfl) (Bd6 L Q Y s (cd [1,0,0,1,1,1] Ud) (Bd5 L Q Y s) k a b)
def Cx0{R:Type}(L:Nat)(c:Int)(d:Int->Option R):Option R:=cond (not (ltI c 97)) (Yf c (not (ltI 122 c)) (λa=>d a) (λe f=>d (-1))) (Yf c false (λb=>d b) (λg h=>d (-1)))
def Dj6(b:Code)(a:CY (R:=PV × List Blk × Z) L Q Y s b)(c:Int):A9 (Kd L) Q Y (cd [] (G7 [1,0,0,1] b Ud)) ⟨[p8 c]++tps 33,[],s⟩ (F4 (Kd L) al9)=Cx0 L c (λe=>some (pI e,[],s)):=by unfold Cx0;exact let d:=(E2 0 (E1 (Kd L) Q Y (cd [1,1] Ud) (F4 (Kd L) al9)));(j1 (by kernel_rfl) (A0 ((a d c (not (ltI 122 c))).trans (by kernel_rfl)) ((a d c false).trans (by kernel_rfl))))
def Dj7(d:Nat)(b0):evC (Kd L) (d+1) Z Y 250 [p8 b0] [] s=Cx0 L b0 (λa=>some (pI a,[],s)):=
 (evE (fn:=al9) (by kernel_rfl)).trans (j1 (by kernel_rfl) (Dj6 L (evC (Kd L) d) Y s (cd [1,0,0,1] Ud) (Bd7 L (evC (Kd L) d) Y s) b0))
end
section
variable {Z R : Type} (L : Nat) (Q : G4) (Y : Yh Z) (s : Z) (k : Out -> St Z -> Option R)
noncomputable def A36(L:Nat):Cfg:=B8 L [163] (A2 []) [] (A2 [(1,[4]),(0,[0,0])]) [] (A2 []) (some [4]) [] [] []
def Dg7{R:Type}(L:Nat)(c a:By)(d:Bool->Option R):Option R:=cond (not (ltI (c.length:Int) (a.length:Int))) (cond (J0 0 (a.length:Int) c.length) (vl (cut c 0 (a.length:Int)) λb=>d (b==a)) none) (d false)
def Dg8(d:Nat)(s0 prefix1):evC (A36 L) (d+1) Z Y 163 [pS s0,pS prefix1] [] s=Dg7 L s0 prefix1 (λa=>some (pB a,[],s)):=by refine(evE (fn:=Tryz.f163) (by kernel_rfl)).trans ?_;generalize evC (A36 L) d=Q;unfold Dg7;kernel_rfl
noncomputable def A33(L:Nat):Cfg:=B8 L [120] (A2 []) [(163,UM)] (A2 [(1,[4]),(0,[0,0])]) [163] (A2 []) (some [4]) [] [] []
def Qg{R:Type}(L:Nat)(b a:By)(c:Bool->Option R):Option R:=cond (A3 b.length) (c (w8 a b)) none
def De9(d:Nat)(s0 prefix1):evC (A33 L) (d+1) Z Y 120 [pS s0,pS prefix1] [] s=Qg L s0 prefix1 (λa=>some (pB a,[],s)):=by refine(evE (fn:=Tryz.f120) (by kernel_rfl)).trans ?_;generalize evC (A33 L) d=Q;unfold Qg;kernel_rfl
noncomputable def A37(L:Nat):Cfg:=B8 L [232] (A2 []) [] (A2 [(1,[4]),(0,[0,0])]) [] (A2 []) (some [4]) [] [] []
def Dg9{R:Type}(L:Nat)(b a:By)(e:Bool->Option R):Option R:=cond (not (ltI (b.length:Int) (a.length:Int))) (vl (A1 ((b.length:Int)-(a.length:Int))) λc=>cond (J0 c (b.length:Int) b.length) (vl (cut b c (b.length:Int)) λd=>e (d==a)) none) (e false)
def Dh0(d:Nat)(s0 suffix1):evC (A37 L) (d+1) Z Y 232 [pS s0,pS suffix1] [] s=Dg9 L s0 suffix1 (λa=>some (pB a,[],s)):=by refine(evE (fn:=Tryz.f232) (by kernel_rfl)).trans ?_;generalize evC (A37 L) d=Q;unfold Dg9;kernel_rfl
noncomputable def A34(L:Nat):Cfg:=B8 L [207] (A2 []) [(232,Az5)] (A2 [(1,[4]),(0,[0,0])]) [232] (A2 []) (some [4]) [] [] []
def Df0{R:Type}(L:Nat)(b a:By)(c:Bool->Option R):Option R:=cond (A3 b.length) (c (ah4 a b)) none
def Df1(d:Nat)(s0 suffix1):evC (A34 L) (d+1) Z Y 207 [pS s0,pS suffix1] [] s=Df0 L s0 suffix1 (λa=>some (pB a,[],s)):=by refine(evE (fn:=Tryz.f207) (by kernel_rfl)).trans ?_;generalize evC (A34 L) d=Q;unfold Df0;kernel_rfl
noncomputable def XJ(L:Nat):Cfg:=B8 L [221] (A2 []) [(232,Az5)] (A2 [(3,[4]),(2,[4]),(1,[0,0,5]),(0,[0,0])]) [232] (A2 []) (some [4]) [] [] []
def Bx8{R:Type}(L:Nat)(b a:By)(d:By->Option R):Option R:=cond (A3 b.length) (cond (ah4 a b) (vl (A1 ((b.length:Int)-(a.length:Int))) λc=>cond (J0 0 c b.length) (d (cut b 0 c)) none) (d b)) none
def Cu0(d:Nat)(s0 suffix1):evC (XJ L) (d+1) Z Y 221 [pS s0,pS suffix1] [] s=Bx8 L s0 suffix1 (λa=>some (pS a,[],s)):=by refine(evE (fn:=Tryz.f221) (by kernel_rfl)).trans ?_;generalize evC (XJ L) d=Q;unfold Bx8;kernel_rfl
noncomputable def XW(L:Nat):Cfg:=B8 L [199] (A2 []) [(221,Bs4)] (A2 [(1,[4]),(0,[0,0])]) [221] (A2 []) (some [4]) [] [] []
def B08{R:Type}(L:Nat)(b a:By)(c:By->Option R):Option R:=cond (A3 b.length) (c (Ac7 b a)) none
def C38(d:Nat)(s0 suffix1):evC (XW L) (d+1) Z Y 199 [pS s0,pS suffix1] [] s=B08 L s0 suffix1 (λa=>some (pS a,[],s)):=by refine(evE (fn:=Tryz.f199) (by kernel_rfl)).trans ?_;generalize evC (XW L) d=Q;unfold B08;kernel_rfl
noncomputable def XF(L:Nat):Cfg:=B8 L [158] (A2 []) [(163,UM)] (A2 [(3,[4,0]),(2,[4,0]),(1,[0,0,7]),(0,[0,0])]) [163] (A2 []) (some [4,0]) [] [] []
def Bx1{R:Type}(L:Nat)(b a:By)(d:By->Bool->Option R):Option R:=cond (A3 b.length) (cond (not (w8 a b)) (d b false) (cond (J0 (a.length:Int) (b.length:Int) b.length) (vl (cut b (a.length:Int) (b.length:Int)) λc=>d c true) none)) none
def Ct2(d:Nat)(s0 prefix1):evC (XF L) (d+1) Z Y 158 [pS s0,pS prefix1] [] s=Bx1 L s0 prefix1 (λa b=>some (.tup [pS a,pB b],[],s)):=by refine(evE (fn:=Tryz.f158) (by kernel_rfl)).trans ?_;generalize evC (XF L) d=Q;unfold Bx1;kernel_rfl
noncomputable def A27(L:Nat):Cfg:=B8 L [118] (A2 []) [(158,Bs1)] (A2 [(1,[4,0]),(0,[0,0])]) [158] (A2 []) (some [4,0]) [] [] []
def Db3{R:Type}(L:Nat)(b a:By)(c:By->Bool->Option R):Option R:=cond (A3 b.length) (c (Hu b a) (w8 a b)) none
def Db4(d:Nat)(s0 prefix1):evC (A27 L) (d+1) Z Y 118 [pS s0,pS prefix1] [] s=Db3 L s0 prefix1 (λa b=>some (.tup [pS a,pB b],[],s)):=by refine(evE (fn:=Tryz.f118) (by kernel_rfl)).trans ?_;generalize evC (A27 L) d=Q;unfold Db3;kernel_rfl
noncomputable abbrev Ag7:Code:=C7 ap9
noncomputable def Ev(L:Nat):Cfg:=B8 L [210] (A2 [(11,[0,0,0,0,4,0,0])]) [(234,Kt),(235,A06),(179,JH)] (A2 [(18,[8]),(17,[9,0]),(16,[0,0,0,0,5,0]),(15,[0,0,0,0,5,0]),(14,[0,0,0,0,5,0,0]),(13,[0,0,0,0,5,0,0,29]),(12,[0,0,0,0,5,0,0]),(11,[0,0,0,0,5,0,25]),(10,[0,0,0,0,5,0]),(9,[0,0,0,0,5]),(8,[0,0,0,0,5]),(7,[0,0,0,0]),(6,[0,0,0,0]),(5,[0,0,0,0,16]),(4,[8]),(3,[0,0,0,0,11]),(2,[8]),(1,[0,0,0,0,9]),(0,[0,0,0,0])]) [235,179] (A2 [(0,[0,8,0]),(1,[0,0,0,0,5,0])]) (some [8]) [] [] []
def Bw{R:Type}(L n:Nat)(c b:By)(a l d:Int)(g:LL)(j:By->Int->LL->Option R):Option R:=match n with|0=>none|n+1=>cond (ltI d l) (cond (A3 c.length) (cond (ltI (v7 c b) (0:Int)) (j c d g) (vl (A1 ((v7 c b)+a)) λe=>cond (J0 0 e c.length) (cond (inR d g.length) (cond (decide ((b8 d)<g.length)) (vl (ac1 g (b8 d) (G5 (j0 g (b8 d) []) 0 [(SV.str (cut c 0 e))])) λh=>vl (A1 ((v7 c b)+(b.length:Int))) λf=>cond (J0 f (c.length:Int) c.length) (vl (cut c f (c.length:Int)) λi=>Bw L n i b a l (A1 (d+1)) h j) none) none) none) none)) none) (j c d g)
def Xi(n a sep1 sepSave2 n3 i4 l5):D0 1 ((Ev L).keep 11) (bd (Ev L) Q Y (cd [1,1,1,1,1,1,1,1,0,0,0] Ag7)) n ⟨gp [(0,pS a),(0,pS sep1),(0,pI sepSave2),(0,pI n3),(5,.fl 0),(0,pI i4)] 55,[.arr false 9 1 l5],s⟩ k =
 Bw L n a sep1 sepSave2 n3 i4 l5 (λa b d=>k (.exit 0) ⟨gp [(0,pS a),(8,.fl 0),(0,pI b)] 55,[.arr false 9 1 d],s⟩):=by
 induction n generalizing a sep1 sepSave2 n3 i4 l5 with
 | zero=>rfl
 | succ n c=>rw[Bw];simp only[<-c];kernel_rfl
def LK{R:Type}(L:Nat)(t d:By)(a u:Int)(w:Unit->Option R)(v:Nat->LL->Option R):Option R:=cond (u==0) (w ()) (cond (d==[]) none (cond (ltI u 0) (cond (d.length==1) (vl (↑(List.count (j0 d 0 0) t):Int) λn=>vl (A1 ((t.length:Int)+1)) λo=>vl (if (o<(A1 (n+1))) then o else (A1 (n+1))) λg=>cond (((decide ((0:Int)<=g))&&(decide (g<=g)))&&(G2 (b8 g))) (Bw L L t d a (A1 (g-1)) 0 (a8 (b8 g) [(SV.str ([]:List UInt8))]) (λq b e=>cond (inR b e.length) (cond (decide ((b8 b)<e.length)) (vl (ac1 e (b8 b) (G5 (j0 e (b8 b) []) 0 [(SV.str q)])) λi=>vl (A1 (b+1)) λl=>cond (J0 0 l i.length) (v ((b8 l)-0) i) none) none) none)) none) none) (vl (A1 ((t.length:Int)+1)) λp=>vl (if (p<u) then p else u) λh=>cond (((decide ((0:Int)<=h))&&(decide (h<=h)))&&(G2 (b8 h))) (Bw L L t d a (A1 (h-1)) 0 (a8 (b8 h) [(SV.str ([]:List UInt8))]) (λr c f=>cond (inR c f.length) (cond (decide ((b8 c)<f.length)) (vl (ac1 f (b8 c) (G5 (j0 f (b8 c) []) 0 [(SV.str r)])) λj=>vl (A1 (c+1)) λm=>cond (J0 0 m j.length) (v ((b8 m)-0) j) none) none) none)) none)))
def RG(d:Nat)(s0 sep1 sepSave2 n3):evC (Ev L) (d+1) Z Y 210 [pS s0,pS sep1,pI sepSave2,pI n3] [] s=LK L s0 sep1 sepSave2 n3 (λ_=>some (.fl 0,[.arr true 9 1 []],s)) (λc f=>some (.vw 0 0 c,[.arr false 9 1 f],s)):=by refine(evE (fn:=ap9) (by kernel_rfl)).trans ?_;generalize evC (Ev L) d=Q;unfold LK;exact let e:=(E2 0 (E1 (Ev L) Q Y (cd [1,1,1,1,1,1,1,1,1] Ag7) (F4 (Ev L) ap9)));(j1 (by kernel_rfl) (A0 rfl (A0 rfl (A0 (A0 (A4 λg=>(A4 λh=>(A4 λa=>(A0 ((Xi L Q Y s e L s0 sep1 sepSave2 (A1 (a-1)) 0 (a8 (b8 a) [(SV.str ([]:List UInt8))])).trans (by kernel_rfl)) rfl)))) rfl) (A4 λi=>(A4 λb=>(A0 ((Xi L Q Y s e L s0 sep1 sepSave2 (A1 (b-1)) 0 (a8 (b8 b) [(SV.str ([]:List UInt8))])).trans (by kernel_rfl)) rfl)))))))
noncomputable def KL(L:Nat):Cfg:=B8 L [176] (A2 []) [(210,Af2)] (A2 [(1,[4]),(0,[0,0])]) [] (A2 []) (some [4]) [] [] []
def Ac1{R:Type}(L:Nat)(c a:By)(d:LL->Option R):Option R:=cond (A3 c.length) (cond (a.length==1) (cond ((0:Int)==0) (cond (((-1):Int)==((-1):Int)) (vl (D5 (pcs (j0 a 0 0) c)) λb=>d b) none) none) none) none
def Cg2(d:Nat)(s0 sep1):evC (KL L) (d+1) Z Y 176 [pS s0,pS sep1] [] s=Ac1 L s0 sep1 (λa=>some (.s (.sl false false 1 a),[],s)):=by refine(evE (fn:=Tryz.f176) (by kernel_rfl)).trans ?_;generalize evC (KL L) d=Q;unfold Ac1;kernel_rfl
noncomputable abbrev Cn7:Code:=C7 ao5
noncomputable def Uj(L:Nat):Cfg:=B8 L [116] (A2 [(3,[0,1,0,6,0])]) [] (A2 [(10,[2]),(9,[0,2,6,0]),(8,[0,2,6,0]),(7,[0,2,1,4,0]),(6,[0,2,1,4,0,10]),(5,[0,2,1,4,0]),(4,[0,2,0,5,0]),(3,[0,2,6,0,0]),(2,[0,2,6,0]),(1,[0,2]),(0,[0])]) [] (A2 [(0,[3]),(1,[0,2,6,0])]) (some [2]) [] [] []
def Gd{R:Type}(L n:Nat)(b:By)(e a:Int)(c:LL)(d:LL->Option R):Option R:=match n with|0=>none|n+1=>cond (ltI a e) (cond (inR a b.length) (cond (not (ltI (bAt b a) (65:Int))) (cond (not (ltI 90 (bAt b a))) (vl (wu8 ((bAt b a)+32)) λf=>cond (G2 (c.length+1)) (Gd L n b e (A1 (a+1)) (c++[[(SV.int .u8 f)]]) d) none) (cond (G2 (c.length+1)) (Gd L n b e (A1 (a+1)) (c++[[(SV.int .u8 (bAt b a))]]) d) none)) (cond (G2 (c.length+1)) (Gd L n b e (A1 (a+1)) (c++[[(SV.int .u8 (bAt b a))]]) d) none)) none) (d c)
def A98(n s0 n1 n2 l3):D0 1 ((Uj L).keep 3) (bd (Uj L) Q Y (cd [1,1,0,1,0,0] Cn7)) n ⟨gp [(0,pS s0),(2,.fl 0),(6,pI n1),(0,pI n2)] 20,[.arr false 5 1 l3],s⟩ k =
 Gd L n s0 n1 n2 l3 (λb=>k (.exit 0) ⟨gp [(3,.fl 0)] 28,[.arr false 5 1 b],s⟩):=by
 induction n generalizing s0 n1 n2 l3 with
 | zero=>rfl
 | succ n a=>rw[Gd];simp only[<-a];kernel_rfl
def Dg5{R:Type}(L:Nat)(b:By)(c:By->LL->Option R):Option R:=cond ((decide ((0:Int)<=(b.length:Int)))&&(G2 (b8 (b.length:Int)))) (Gd L L b (b.length:Int) 0 [] (λa=>cond (ab4 a Pb) (c (x8 Mu a) a) none)) none
def Dg6(d:Nat)(s0):evC (Uj L) (d+1) Z Y 116 [pS s0] [] s=Dg5 L s0 (λb a=>some (pS b,[.arr false 5 1 a],s)):=by refine(evE (fn:=ao5) (by kernel_rfl)).trans ?_;generalize evC (Uj L) d=Q;unfold Dg5;exact(j1 (by kernel_rfl) (A0 ((A98 L Q Y s (E2 0 (E1 (Uj L) Q Y (cd [1,1,1] Cn7) (F4 (Uj L) ao5))) L s0 (s0.length:Int) 0 []).trans (by kernel_rfl)) rfl))
noncomputable def A31(L:Nat):Cfg:=B8 L [137] (A2 []) [(120,HV)] (A2 [(1,[2]),(0,[0])]) [120] (A2 []) (some [2]) [] [] []
def De5{R:Type}(L:Nat)(a:By)(b:Bool->Option R):Option R:=cond (A3 a.length) (cond (w8 ([48,120]:List UInt8) a) (b true) (cond (A3 a.length) (b (w8 ([48,88]:List UInt8) a)) none)) none
def De6(d:Nat)(s0):evC (A31 L) (d+1) Z Y 137 [pS s0] [] s=De5 L s0 (λa=>some (pB a,[],s)):=by refine(evE (fn:=Tryz.f137) (by kernel_rfl)).trans ?_;generalize evC (A31 L) d=Q;unfold De5;kernel_rfl
noncomputable abbrev Fo:Code:=C7 al2
noncomputable def Y1(L:Nat):Cfg:=B8 L [139] (A2 [(3,[0,0,2,0,0,4,0])]) [] (A2 [(18,[4,0]),(17,[0,0,4,4,0]),(16,[0,0,4,4,0]),(15,[4,0]),(14,[0,0,4,1,2,0,39]),(9,[0,0,4,1,2,0]),(11,[0,0,4,1,2,0]),(13,[0,0,4,1,2,0]),(7,[4,0]),(12,[0,0,4,2,1,0,26]),(10,[0,0,4,2,1,0,15]),(8,[0,0,4,2,1,0,5]),(6,[0,0,4,2,1,0]),(5,[0,0,4,0,3,0]),(4,[0,0,4,0,3,0]),(3,[0,0,4,4,0,0]),(2,[0,0,4,4,0]),(1,[0,0,4]),(0,[0,0])]) [] (A2 [(0,[6]),(1,[0,0,4,4,0]),(2,[0,0,4,1,2,0])]) (some [4,0]) [] [] []
def Wr{R:Type}(m:By)(a i b j l:Int)(n:Bool)(g:By->Int->Int->Int->Int->Int->Option R)(h:Unit->Option R):Option R:=cond n (vl (A1 (wu8 (b-97))) λc=>vl (A1 (c+10)) λd=>g m a i d j l) (cond (not (ltI b 65)) (cond (not (ltI 70 b)) (vl (A1 (wu8 (b-65))) λe=>vl (A1 (e+10)) λf=>g m a i f j l) (h ())) (h ()))
abbrev QW(b:Code):Prop:=∀(k:Out->St Z->Option R) f a c b3 d e b6,A9 (Y1 L) Q Y b ⟨gp [(0,pS f),(0,pI a),(4,pI c),(2,p8 b3),(1,pI d),(0,pI e),(15,pB b6)] 32,[],s⟩ k=Wr f a c b3 d e b6 (λf a c g d e=>k .normal ⟨gp [(0,pS f),(0,pI a),(4,pI c),(1,pI g),(2,pI d),(0,pI e)] 48,[],s⟩) (λ_=>k .ret ⟨gp [(4,pI (0:Int)),(0,pB false)] 55,[],s⟩)
def A55:QW (R:=R) L Q Y s (cd [1,1,0,1,0,0,1,1,0,0,1,1,0,1,0,1,1,1] Fo):=by intro k g a d b e f c;unfold Wr;kernel_rfl
def Ws{R:Type}(v:By)(a q d r t:Int)(x:Bool)(m:By->Int->Int->Int->Int->Int->Option R)(w:Unit->Option R):Option R:=cond x (vl (A1 (wu8 (d-48))) λn=>m v a q n r t) (cond (not (ltI d 97)) (Wr v a q d r t (not (ltI 102 d)) (λu c o l p f=>m u c o l p f) (λ_=>w ())) (Wr v a q d r t false (λj b g e h i=>m j b g e h i) (λ_=>w ())))
abbrev Rt(b:Code):Prop:=∀(k:Out->St Z->Option R) f a c b3 d e b6,A9 (Y1 L) Q Y b ⟨gp [(0,pS f),(0,pI a),(4,pI c),(2,p8 b3),(1,pI d),(0,pI e),(5,pB b6)] 42,[],s⟩ k=Ws f a c b3 d e b6 (λf a c g d e=>k .normal ⟨gp [(0,pS f),(0,pI a),(4,pI c),(1,pI g),(2,pI d),(0,pI e)] 48,[],s⟩) (λ_=>k .ret ⟨gp [(4,pI (0:Int)),(0,pB false)] 55,[],s⟩)
def A56(a:Code)(b:QW (R:=R) L Q Y s a):Rt (R:=R) L Q Y s (cd [1,1,0,1,0,0,1,1,0,0,1,1,0,1,0,1] (G7 [1,1,0,1,0,0,1,1,0,0,1,1,0,1,0,1,1,1] a Fo)):=by intro k i c f d g h e;unfold Ws;simp only[<-b k];kernel_rfl
def A57:Rt (R:=R) L Q Y s (cd [1,1,0,1,0,0,1,1,0,0,1,1,0,1,0,1] Fo):=by intro k g a d b e f c;exact j1 (by kernel_rfl) (A56 L Q Y s (cd [1,1,0,1,0,0,1,1,0,0,1,1,0,1,0,1,1,1] Fo) (A55 L Q Y s) k g a d b e f c)
def Wt{R:Type}(j:By)(a g d h i:Int)(e:Unit->Option R)(f:By->Int->Int->Int->Int->Option R):Option R:=cond (not (ltI d a)) (e ()) (vl (A1 ((A1 (g*a))+d)) λb=>vl (if ((1099511627776:Int)<b) then (1099511627776:Int) else b) λc=>f j a c h i)
abbrev BS(b:Code):Prop:=∀(k:Out->St Z->Option R) e a c d3 d n5,A9 (Y1 L) Q Y b ⟨gp [(0,pS e),(0,pI a),(4,pI c),(1,pI d3),(2,pI d),(0,pI n5)] 48,[],s⟩ k=Wt e a c d3 d n5 (λ_=>k .ret ⟨gp [(4,pI (0:Int)),(0,pB false)] 55,[],s⟩) (λe a c f d=>k .normal ⟨gp [(0,pS e),(0,pI a),(4,pI c),(4,pI f),(0,pI d)] 48,[],s⟩)
def A58:BS (R:=R) L Q Y s (cd [1,1,0,1,0,0,1,1,0,0,1,1,1] Fo):=by intro k f a c b d e;unfold Wt;kernel_rfl
def Ji{R:Type}(L n:Nat)(g:By)(e H I f:Int)(h:Unit->Option R)(G:Int->Option R):Option R:=match n with|0=>none|n+1=>cond (ltI f I) (cond (inR f g.length) (cond (not (ltI (bAt g f) (48:Int))) (Ws g e H (bAt g f) I f (not (ltI 57 (bAt g f))) (λB a l i m o=>Wt B a l i m o (λ_=>h ()) (λC b p q r=>vl (A1 (r+1)) λt=>Ji L n C b p q t h G)) (λ_=>h ())) (Ws g e H (bAt g f) I f false (λD c u j v w=>Wt D c u j v w (λ_=>h ()) (λF d x y z=>vl (A1 (z+1)) λA=>Ji L n F d x y A h G)) (λ_=>h ()))) none) (G H)
def A59(b:Code)(d:Rt (R:=R) L Q Y s b)(a:Code)(e:BS (R:=R) L Q Y s a)(n:Nat)(l:By)(c C D j:Int):D0 0 ((Y1 L).keep 3) (bd (Y1 L) Q Y (cd [1,1,0,1,0,0] (G7 [1,1,0,1,0,0,1,1,0,0,1,1,1] a (G7 [1,1,0,1,0,0,1,1,0,0,1,1,0,1,0,1] b Fo)))) n ⟨gp [(0,pS l),(0,pI c),(4,pI C),(4,pI D),(0,pI j)] 48,[],s⟩ k =
 Ji L n l c C D j (λ_=>k .ret ⟨gp [(4,pI (0:Int)),(0,pB false)] 55,[],s⟩) (λn0=>k (.exit 0) ⟨gp [(6,pI n0)] 54,[],s⟩):=by
 induction n generalizing l c C D j with
 | zero=>rfl
 | succ n M=>rw[Ji];exact let J:=(E2 1 (E1 (Y1 L) Q Y (cd [1,1,0,1,0,0,1,1,1] Fo) (lpK 0 ((Y1 L).keep 3) (bd (Y1 L) Q Y (cd [1,1,0,1,0,0] (G7 [1,1,0,1,0,0,1,1,0,0,1,1,1] a (G7 [1,1,0,1,0,0,1,1,0,0,1,1,0,1,0,1] b Fo)))) n k)));let K:=(E2 2 (E1 (Y1 L) Q Y a J));(j1 (by kernel_rfl) (A0 (A0 (A0 ((d K l c C (bAt l j) D j (not (ltI 57 (bAt l j)))).trans (congr (congr rfl (fx6 λF f p m q r=>(j1 (by kernel_rfl) ((e J F f p m q r).trans (congr (congr rfl (by kernel_rfl)) (fx5 λG g t u N=>(j1 (by kernel_rfl) (A4 λv=>(M G g t u v))))))))) (by kernel_rfl))) ((d K l c C (bAt l j) D j false).trans (congr (congr rfl (fx6 λH h w o x y=>(j1 (by kernel_rfl) ((e J H h w o x y).trans (congr (congr rfl (by kernel_rfl)) (fx5 λI i z A O=>(j1 (by kernel_rfl) (A4 λB=>(M I i z A B))))))))) (by kernel_rfl)))) rfl) rfl))
def Cp9{R:Type}(L:Nat)(d:By)(a:Int)(c:Int->Bool->Option R):Option R:=Ji L L d a 0 (d.length:Int) 0 (λ_=>c 0 false) (λb=>c b true)
def Dc4(a:Code)(d:Rt (R:=PV × List Blk × Z) L Q Y s a)(b:Code)(e:BS (R:=PV × List Blk × Z) L Q Y s b)(f:By)(c:Int):A9 (Y1 L) Q Y (cd [] (G7 [1,1,0,1,0,0,1,1,0,0,1,1,1] b (G7 [1,1,0,1,0,0,1,1,0,0,1,1,0,1,0,1] a Fo))) ⟨[pS f,pI c]++tps 59,[],s⟩ (F4 (Y1 L) al2)=Cp9 L f c (λg h=>some (.tup [pI g,pB h],[],s)):=by unfold Cp9;exact(j1 (by kernel_rfl) ((A59 L Q Y s (E2 0 (E1 (Y1 L) Q Y (cd [1,1,1] Fo) (F4 (Y1 L) al2))) a d b e L f c 0 (f.length:Int) 0).trans (by kernel_rfl)))
def Dc5(d:Nat)(s0 base1):evC (Y1 L) (d+1) Z Y 139 [pS s0,pI base1] [] s=Cp9 L s0 base1 (λa b=>some (.tup [pI a,pB b],[],s)):=
 (evE (fn:=al2) (by kernel_rfl)).trans (j1 (by kernel_rfl) (Dc4 L (evC (Y1 L) d) Y s (cd [1,1,0,1,0,0,1,1,0,0,1,1,0,1,0,1] Fo) (A57 L (evC (Y1 L) d) Y s) (cd [1,1,0,1,0,0,1,1,0,0,1,1,1] Fo) (A58 L (evC (Y1 L) d) Y s) s0 base1))
noncomputable def Cp0(L:Nat):Cfg:=B8 L [138] (A2 []) [(137,Az0),(139,TS)] (A2 [(7,[2,0]),(2,[2,0]),(4,[2,0]),(6,[2,0]),(5,[0,14]),(3,[0,6]),(1,[0,3]),(0,[0])]) [137,139] (A2 [(0,[0])]) (some [2,0]) [] [] []
def num{R:Type}(L:Nat)(a:By)(d:Int->Bool->Option R):Option R:=cond (a==[]) (d 0 false) (cond (A3 a.length) (cond (Z4 a) (cond (J0 2 (a.length:Int) a.length) (vl (cut a 2 (a.length:Int)) λb=>cond (A3 b.length) (cond (ltN 16 17) (vl (↑(N8 (F0 16 0 b)):Int) λe=>d e (o0 (F0 16 0 b))) none) none) none) (cond (ltI 1 (a.length:Int)) (cond (inR 0 a.length) (cond ((bAt a (0:Int))==48) (cond (J0 1 (a.length:Int) a.length) (vl (cut a 1 (a.length:Int)) λc=>cond (A3 c.length) (cond (ltN 8 17) (vl (↑(N8 (F0 8 0 c)):Int) λf=>d f (o0 (F0 8 0 c))) none) none) none) (cond (A3 a.length) (cond (ltN 10 17) (vl (↑(N8 (F0 10 0 a)):Int) λg=>d g (o0 (F0 10 0 a))) none) none)) none) (cond (A3 a.length) (cond (ltN 10 17) (vl (↑(N8 (F0 10 0 a)):Int) λh=>d h (o0 (F0 10 0 a))) none) none))) none)
def Dz3(d:Nat)(s0):evC (Cp0 L) (d+1) Z Y 138 [pS s0] [] s=num L s0 (λa b=>some (.tup [pI a,pB b],[],s)):=by refine(evE (fn:=Tryz.f138) (by kernel_rfl)).trans ?_;generalize evC (Cp0 L) d=Q;unfold num;kernel_rfl
noncomputable def XL(L:Nat):Cfg:=B8 L [136] (A2 []) [(176,Wi)] (A2 [(5,[2]),(4,[3]),(3,[3,0,13]),(2,[3,0]),(1,[3]),(0,[0])]) [] (A2 []) (some [2]) [] [] []
def parts{R:Type}(L:Nat)(e:By)(c:LL->Option R):Option R:=cond (A3 e.length) (cond (1==1) (vl (D5 (pcs (j0 ([46]:List UInt8) 0 0) e)) λa=>vl (A1 ((a.length:Int)-1)) λb=>cond (ltI 0 b) (cond (inR b a.length) (cond (okE Pd a (b8 b) 0) (vl (gX a (b8 b) 0) λd=>cond (d==[]) (cond (J0 0 b a.length) (c (cut a 0 b)) none) (c a)) none) none) (c a)) none) none
def Cw3(d:Nat)(s0):evC (XL L) (d+1) Z Y 136 [pS s0] [] s=parts L s0 (λa=>some (.s (.sl false false 1 a),[],s)):=by refine(evE (fn:=Tryz.f136) (by kernel_rfl)).trans ?_;generalize evC (XL L) d=Q;unfold parts;kernel_rfl
noncomputable def BG(L:Nat):Cfg:=B8 L [102] (A2 []) [(136,UV),(137,Az0),(138,Cl1),(139,TS)] (A2 [(7,[2]),(6,[4,3]),(5,[2]),(4,[6]),(3,[4,13]),(2,[4]),(1,[3]),(0,[0])]) [137,138,139] (A2 []) (some [2]) [] [] []
def GQ{R:Type}(L:Nat)(c:By)(d:Bool->Option R):Option R:=cond (A3 c.length) (vl (A1 ((↑(j8 (D5 (C8 c))):Int)-1)) λb=>cond (inR b (j8 (D5 (C8 c)))) (cond (okE Pd (D5 (C8 c)) (b8 b) 0) (vl (gX (D5 (C8 c)) (b8 b) 0) λa=>cond (A3 a.length) (cond (Z4 a) (cond (A3 a.length) (vl (↑(N8 (Ah a)):Int) λe=>d (o0 (Ah a))) none) (cond (A3 a.length) (cond (ltN 10 17) (vl (↑(N8 (F0 10 0 a)):Int) λf=>cond (o0 (F0 10 0 a)) (d (not (a==[]))) (d false)) none) none)) none) none) none) none
def Bb1(d:Nat)(s0):evC (BG L) (d+1) Z Y 102 [pS s0] [] s=GQ L s0 (λa=>some (pB a,[],s)):=by refine(evE (fn:=Tryz.f102) (by kernel_rfl)).trans ?_;generalize evC (BG L) d=Q;unfold GQ;kernel_rfl
noncomputable abbrev Cn9:Code:=C7 ap4
noncomputable def Ul(L:Nat):Cfg:=B8 L [200] (A2 [(6,[2,0,0,0,10,0,0])]) [(136,UV),(138,Cl1)] (A2 [(20,[2,0]),(19,[4,0,10,0,0]),(18,[4,0,10,0,0]),(17,[2,0]),(16,[4,0,2,1,5,0,0,29]),(15,[4,0,2,1,5,0,0]),(14,[4,0,10,0,0]),(13,[2,0]),(12,[4,0,2,7,0,0,17]),(11,[4,0,2,7,0,0,15]),(10,[2,0]),(9,[4,0,0,1,7,0,0,10]),(8,[4,0,0,1,0,6,0,0]),(7,[4,0,0,0,8,0,0]),(6,[4,0,10,0,0,0]),(5,[4,0,10,0,0]),(4,[4,0]),(3,[2,0]),(2,[4,10]),(1,[4]),(0,[0])]) [138] (A2 [(0,[5]),(1,[4,0,10,0,0])]) (some [2,0]) [] [] []
def Jr{R:Type}(L n:Nat)(a:LL)(v1 l d:Int)(e:Unit->Option R)(h:Int->Option R):Option R:=match n with|0=>none|n+1=>cond (ltI d l) (cond (inR d a.length) (cond (okE Pd a (b8 d) 0) (cond (A3 (j8 (gX a (b8 d) 0))) (vl (↑(N8 (Ah (gX a (b8 d) 0))):Int) λb=>cond (not (o0 (Ah (gX a (b8 d) 0)))) (e ()) (vl (A1 ((a.length:Int)-1)) λi=>cond (ltI d i) (cond (ltI 255 b) (e ()) (vl (bOr .i64 (Ss .i64 v1 (8:Int)) b) λj=>Jr L n a j l (A1 (d+1)) e h)) (vl (A1 ((5:Int)-(a.length:Int))) λc=>cond (decide ((0:Int)<=(A1 ((8:Int)*c)))) (vl (Ss .i64 (1:Int) (A1 ((8:Int)*c))) λf=>cond (not (ltI b f)) (e ()) (cond (decide ((0:Int)<=(A1 ((8:Int)*c)))) (vl (Ss .i64 v1 (A1 ((8:Int)*c))) λg=>Jr L n a (bOr .i64 g b) l (A1 (d+1)) e h) none)) none))) none) none) none) (h v1)
def Bd2(n l0 v1 n2 n3):D0 0 ((Ul L).keep 6) (bd (Ul L) Q Y (cd [1,0,1,1,1,1,0,1,0,0] Cn9)) n ⟨gp [(4,.s (.sl false false 1 l0)),(0,pI v1),(10,.s (.sl false false 1 l0)),(0,pI n2),(0,pI n3)] 38,[],s⟩ k =
 Jr L n l0 v1 n2 n3 (λ_=>k .ret ⟨gp [(2,p32 (0:Int)),(0,pB false)] 53,[],s⟩) (λv0=>k (.exit 0) ⟨gp [(5,pI v0)] 51,[],s⟩):=by
 induction n generalizing l0 v1 n2 n3 with
 | zero=>rfl
 | succ n a=>rw[Jr];simp only[<-a];kernel_rfl
def Dj0{R:Type}(L:Nat)(b:By)(c:Int->Bool->Option R):Option R:=cond (A3 b.length) (cond (ltI 4 (↑(j8 (D5 (C8 b))):Int)) (c 0 false) (Jr L L (D5 (C8 b)) 0 (↑(j8 (D5 (C8 b))):Int) 0 (λ_=>c 0 false) (λa=>c (DR a) true))) none
def Dj1(d:Nat)(s0):evC (Ul L) (d+1) Z Y 200 [pS s0] [] s=Dj0 L s0 (λa b=>some (.tup [p32 a,pB b],[],s)):=by refine(evE (fn:=ap4) (by kernel_rfl)).trans ?_;generalize evC (Ul L) d=Q;unfold Dj0;exact(j1 (by kernel_rfl) (A0 (A0 rfl ((Bd2 L Q Y s (E2 0 (E1 (Ul L) Q Y (cd [1,0,1,1,1,1,1] Cn9) (F4 (Ul L) ap4))) L (D5 (C8 s0)) 0 (↑(j8 (D5 (C8 s0))):Int) 0).trans (by kernel_rfl))) rfl))
noncomputable abbrev Du7:Code:=C7 aq3
noncomputable def KN(L:Nat):Cfg:=B8 L [255] (A2 [(6,[2,0,1,9,0,0])]) [(176,Wi),(139,TS),(123,Az3)] (A2 [(13,[2,0]),(12,[5,9,0,0]),(11,[5,9,0,0]),(10,[2,0]),(9,[5,2,6,0,0,19]),(8,[5,1,0,0,5,0,0]),(7,[5,1,7,0,0]),(6,[5,9,0,0,0]),(5,[5,9,0,0]),(4,[4,0]),(3,[2,0]),(2,[4,9]),(1,[4]),(0,[0])]) [139,123] (A2 [(0,[5]),(1,[5,9,0,0])]) (some [2,0]) [] [] []
def Wb{R:Type}(L n:Nat)(v0:Int)(c:LL)(h b:Int)(d:Unit->Option R)(g:Int->Option R):Option R:=match n with|0=>none|n+1=>cond (ltI b h) (cond (inR b c.length) (cond (okE Pd c (b8 b) 0) (cond (A3 (j8 (gX c (b8 b) 0))) (cond (ltN 10 17) (vl (↑(N8 (F0 10 0 (gX c (b8 b) 0))):Int) λa=>cond (not (o0 (F0 10 0 (gX c (b8 b) 0)))) (d ()) (cond (ltI 255 a) (d ()) (cond (ltN a 4294967296) (vl (k9 (b8 a)) λf=>cond (not (f==(gX c (b8 b) 0))) (d ()) (vl (bOr .u32 (Ss .u32 v0 (8:Int)) (DR a)) λe=>Wb L n e c h (A1 (b+1)) d g)) none))) none) none) none) none) (g v0)
def Ci3(n v0 l1 n2 n3):D0 0 ((KN L).keep 6) (bd (KN L) Q Y (cd [1,1,1,1,0,1,0,0] Du7)) n ⟨gp [(5,p32 v0),(9,.s (.sl false false 1 l1)),(0,pI n2),(0,pI n3)] 27,[],s⟩ k =
 Wb L n v0 l1 n2 n3 (λ_=>k .ret ⟨gp [(2,p32 (0:Int)),(0,pB false)] 41,[],s⟩) (λv0=>k (.exit 0) ⟨gp [(5,p32 v0)] 39,[],s⟩):=by
 induction n generalizing v0 l1 n2 n3 with
 | zero=>rfl
 | succ n a=>rw[Wb];simp only[<-a];kernel_rfl
def v4p{R:Type}(L:Nat)(d:By)(b:Int->Bool->Option R):Option R:=cond (A3 d.length) (cond (1==1) (vl (D5 (pcs (j0 ([46]:List UInt8) 0 0) d)) λa=>cond ((a.length:Int)!=4) (b 0 false) (Wb L L 0 a (a.length:Int) 0 (λ_=>b 0 false) (λc=>b c true))) none) none
def D14(d:Nat)(s0):evC (KN L) (d+1) Z Y 255 [pS s0] [] s=v4p L s0 (λb c=>some (.tup [p32 b,pB c],[],s)):=by refine(evE (fn:=aq3) (by kernel_rfl)).trans ?_;generalize evC (KN L) d=Q;unfold v4p;exact(j1 (by kernel_rfl) (A0 (A0 (A4 λa=>(A0 rfl ((Ci3 L Q Y s (E2 0 (E1 (KN L) Q Y (cd [1,1,1,1,1] Du7) (F4 (KN L) aq3))) L 0 a (a.length:Int) 0).trans (by kernel_rfl)))) rfl) rfl))
noncomputable abbrev Du6:Code:=C7 ap1
noncomputable def KM(L:Nat):Cfg:=B8 L [167] (A2 [(3,[0,1,0,0])]) [(123,Az3)] (A2 [(6,[2]),(4,[0,2,0]),(5,[0,2,0]),(3,[0,2,0,1]),(2,[0,2,0]),(1,[0,2]),(0,[0])]) [123] (A2 [(0,[3]),(1,[0,2,0])]) (some [2]) [] [] []
def Jb{R:Type}(L n:Nat)(v0:Int)(a:By)(e:Int)(f:By->Option R):Option R:=match n with|0=>none|n+1=>cond (not (ltI e 0)) (cond (decide ((0:Int)<=e)) (vl (A19 .u32 (Pc .u32 v0 e) (255:Int)) λb=>cond (ltN (A1 b) 4294967296) (vl (k9 (b8 (A1 b))) λc=>cond (E6 c.length 1) (vl (c++[46]) λd=>cond (E6 a.length d.length) (Jb L n v0 (a++d) (A1 (e-8)) f) none) none) none) none) (f a)
def Ci2(n v0 out1 i2):D0 0 ((KM L).keep 3) (bd (KM L) Q Y (cd [1,1,0,1,0,0] Du6)) n ⟨gp [(0,p32 v0),(2,pS out1),(0,pI i2)] 18,[],s⟩ k =
 Jb L n v0 out1 i2 (λa=>k (.exit 0) ⟨gp [(3,pS a)] 19,[],s⟩):=by
 induction n generalizing v0 out1 i2 with
 | zero=>rfl
 | succ n b=>rw[Jb];simp only[<-b];kernel_rfl
def v4f{R:Type}(L:Nat)(v0:Int)(d:By->Option R):Option R:=Jb L L v0 ([]:List UInt8) 24 (λa=>vl (A1 ((a.length:Int)-1)) λb=>cond (J0 0 b a.length) (vl (cut a 0 b) λc=>d c) none)
def D13(d:Nat)(v0):evC (KM L) (d+1) Z Y 167 [p32 v0] [] s=v4f L v0 (λa=>some (pS a,[],s)):=by refine(evE (fn:=ap1) (by kernel_rfl)).trans ?_;generalize evC (KM L) d=Q;unfold v4f;exact(j1 (by kernel_rfl) ((Ci2 L Q Y s (E2 0 (E1 (KM L) Q Y (cd [1,1,1] Du6) (F4 (KM L) ap1))) L v0 ([]:List UInt8) 24).trans (by kernel_rfl)))
noncomputable abbrev QH:Code:=C7 ao4
noncomputable def Dp(L:Nat):Cfg:=B8 L [111] (A2 [(2,[0,1,0])]) [] (A2 [(6,[2]),(3,[0,2]),(5,[2]),(4,[0,2,15]),(2,[0,2,3]),(1,[0,2]),(0,[0])]) [] (A2 [(0,[0]),(1,[0,2])]) (some [2]) [] [] []
def Bo{R:Type}(L n:Nat)(a:By)(b:Int)(c:Unit->Option R)(d:By->Option R):Option R:=match n with|0=>none|n+1=>cond (ltI b (a.length:Int)) (cond (inR b a.length) (cond (ltI (bAt a b) (48:Int)) (c ()) (cond (inR b a.length) (cond (ltI 57 (bAt a b)) (c ()) (Bo L n a (A1 (b+1)) c d)) none)) none) (d a)
def OY(n a i1):D0 0 ((Dp L).keep 2) (bd (Dp L) Q Y (cd [1,0,1,0,0] QH)) n ⟨gp [(0,pS a),(2,pI i1)] 18,[],s⟩ k =
 Bo L n a i1 (λ_=>k .ret ⟨gp [(2,pB false)] 19,[],s⟩) (λa=>k (.exit 0) ⟨gp [(0,pS a)] 21,[],s⟩):=by
 induction n generalizing a i1 with
 | zero=>rfl
 | succ n b=>rw[Bo];simp only[<-b];kernel_rfl
def GW{R:Type}(L:Nat)(c:By)(b:Bool->Option R):Option R:=Bo L L c 0 (λ_=>b false) (λa=>b (not (a==[])))
def Be5(d:Nat)(s0):evC (Dp L) (d+1) Z Y 111 [pS s0] [] s=GW L s0 (λa=>some (pB a,[],s)):=by refine(evE (fn:=ao4) (by kernel_rfl)).trans ?_;generalize evC (Dp L) d=Q;unfold GW;exact(j1 (by kernel_rfl) ((OY L Q Y s (E2 0 (E1 (Dp L) Q Y (cd [1,1] QH) (F4 (Dp L) ao4))) L s0 0).trans (by kernel_rfl)))
noncomputable abbrev Co2:Code:=C7 ao6
noncomputable def Uo(L:Nat):Cfg:=B8 L [127] (A2 [(3,[0,1,0,0])]) [] (A2 [(9,[2]),(4,[0,2,0]),(8,[0,2,0]),(7,[0,2,0,0]),(6,[0,2,0,0,14]),(5,[0,2,0,0]),(3,[0,2,0,4]),(2,[0,2,0]),(1,[0,2]),(0,[0])]) [] (A2 [(0,[3]),(1,[0,2,0])]) (some [2]) [] [] []
def Gl{R:Type}(L n:Nat)(b:By)(a:Int)(c:LL)(d:LL->Option R):Option R:=match n with|0=>none|n+1=>cond (ltI a (b.length:Int)) (cond (inR a b.length) (cond (not (ltI (bAt b a) (65:Int))) (cond (not (ltI 90 (bAt b a))) (vl (wu8 ((bAt b a)+32)) λe=>cond (G2 (c.length+1)) (Gl L n b (A1 (a+1)) (c++[[(SV.int .u8 e)]]) d) none) (cond (G2 (c.length+1)) (Gl L n b (A1 (a+1)) (c++[[(SV.int .u8 (bAt b a))]]) d) none)) (cond (G2 (c.length+1)) (Gl L n b (A1 (a+1)) (c++[[(SV.int .u8 (bAt b a))]]) d) none)) none) (d c)
def Bh6(n s0 i1 l2):D0 1 ((Uo L).keep 3) (bd (Uo L) Q Y (cd [1,1,0,1,0,0] Co2)) n ⟨gp [(0,pS s0),(2,.fl 0),(0,pI i1)] 24,[.arr true 5 1 l2],s⟩ k =
 Gl L n s0 i1 l2 (λb=>k (.exit 0) ⟨gp [(3,.fl 0)] 25,[.arr true 5 1 b],s⟩):=by
 induction n generalizing s0 i1 l2 with
 | zero=>rfl
 | succ n a=>rw[Gl];simp only[<-a];kernel_rfl
def Dl0{R:Type}(L:Nat)(c:By)(b:By->LL->Option R):Option R:=Gl L L c 0 [] (λa=>cond (ab4 a Pb) (b (x8 Mu a) a) none)
def Dl1(d:Nat)(s0):evC (Uo L) (d+1) Z Y 127 [pS s0] [] s=Dl0 L s0 (λb a=>some (pS b,[.arr true 5 1 a],s)):=by refine(evE (fn:=ao6) (by kernel_rfl)).trans ?_;generalize evC (Uo L) d=Q;unfold Dl0;exact(j1 (by kernel_rfl) ((Bh6 L Q Y s (E2 0 (E1 (Uo L) Q Y (cd [1,1,1] Co2) (F4 (Uo L) ao6))) L s0 0 []).trans (by kernel_rfl)))
noncomputable abbrev Ah1:Code:=C7 as1
noncomputable def Ho(L:Nat):Cfg:=B8 L [76] (A2 [(4,[0,0,2,0,0,0])]) [] (A2 [(9,[4]),(5,[0,0,3,0,0]),(8,[0,0,3,0,0]),(7,[0,0,3,1]),(6,[0,0,3,0,0,16]),(4,[0,0,3,0,0,3]),(3,[0,0,3,0,0]),(2,[0,0,3,0]),(1,[0,0,3]),(0,[0,0])]) [] (A2 [(0,[5]),(1,[0,0,3,0,0])]) (some [4]) [] [] []
def X7{R:Type}(L n:Nat)(c:By)(d a b:Int)(e:LL)(f:LL->Option R):Option R:=match n with|0=>none|n+1=>cond (not (ltI (c.length:Int) b)) (cond (b==(c.length:Int)) (cond (J0 a b c.length) (cond (G2 (e.length+1)) (X7 L n c d (A1 (b+1)) (A1 (b+1)) (e++[[(SV.str (cut c a b))]]) f) none) none) (cond (inR b c.length) (cond ((bAt c b)==d) (cond (J0 a b c.length) (cond (G2 (e.length+1)) (X7 L n c d (A1 (b+1)) (A1 (b+1)) (e++[[(SV.str (cut c a b))]]) f) none) none) (X7 L n c d a (A1 (b+1)) e f)) none)) (f e)
def Aa8(n s0 at1 from2 i3 l4):D0 1 ((Ho L).keep 4) (bd (Ho L) Q Y (cd [1,1,1,0,1,0,0] Ah1)) n ⟨gp [(0,pS s0),(0,p8 at1),(3,.fl 0),(0,pI from2),(0,pI i3)] 27,[.arr true 9 1 l4],s⟩ k =
 X7 L n s0 at1 from2 i3 l4 (λb=>k (.exit 0) ⟨gp [(5,.fl 0)] 29,[.arr true 9 1 b],s⟩):=by
 induction n generalizing s0 at1 from2 i3 l4 with
 | zero=>rfl
 | succ n a=>rw[X7];simp only[<-a];kernel_rfl
def NJ{R:Type}(L:Nat)(d:By)(a:Int)(c:LL->Option R):Option R:=X7 L L d a 0 0 [] (λb=>c b)
def Cd8(d:Nat)(s0 at1):evC (Ho L) (d+1) Z Y 76 [pS s0,p8 at1] [] s=NJ L s0 at1 (λa=>some (.fl 0,[.arr true 9 1 a],s)):=by refine(evE (fn:=as1) (by kernel_rfl)).trans ?_;generalize evC (Ho L) d=Q;unfold NJ;exact(j1 (by kernel_rfl) ((Aa8 L Q Y s (E2 0 (E1 (Ho L) Q Y (cd [1,1,1,1] Ah1) (F4 (Ho L) as1))) L s0 at1 0 0 []).trans (by kernel_rfl)))
noncomputable def BF(L:Nat):Cfg:=B8 L [95] (A2 []) [(95,(Me L))] (A2 [(3,[2]),(2,[2]),(1,[0,3]),(0,[0])]) [95] (A2 []) (some [2]) [] [] []
def GI{R:Type}(L:Nat)(n0:Int)(g:By->Option R):Option R:=cond (ltI n0 10) (vl (wu8 (A1 ((48:Int)+n0))) λa=>cond (ab4 [[(SV.int .u8 a)]] Pb) (vl (x8 Mu [[(SV.int .u8 a)]]) λf=>g f) none) (vl (A1 (ab1 n0 (10:Int))) λb=>cond (ltN b L) (vl (k9 (b8 b)) λd=>vl (A1 ((48:Int)+(ab3 n0 (10:Int)))) λc=>cond (ab4 [[(SV.int .u8 (wu8 c))]] Pb) (vl (x8 Mu [[(SV.int .u8 (wu8 c))]]) λe=>cond (E6 d.length e.length) (g (d++e)) none) none) none)
def A68(d:Nat)(n0):evC (BF L) (d+1) Z Y 95 [pI n0] [] s=GI L n0 (λa=>some (pS a,[],s)):=by refine(evE (fn:=Tryz.f95) (by kernel_rfl)).trans ?_;generalize evC (BF L) d=Q;unfold GI;kernel_rfl
noncomputable abbrev Ue:Code:=C7 al3
noncomputable def Ke(L:Nat):Cfg:=B8 L [153] (A2 []) [] (A2 [(7,[2]),(2,[2]),(4,[2]),(6,[2]),(5,[0,23]),(3,[0,12]),(1,[0,2]),(0,[0])]) [] (A2 [(0,[])]) (some [2]) [] [] []
def Yi{R:Type}(a:Int)(h:Bool)(f:Int->Option R)(g:Int->Bool->Option R):Option R:=cond h (vl (A1 (wu8 (a-97))) λb=>vl (A1 (b+10)) λc=>f c) (cond (not (ltI a 65)) (cond (not (ltI 70 a)) (vl (A1 (wu8 (a-65))) λd=>vl (A1 (d+10)) λe=>f e) (g a (not (ltI 70 a)))) (g a false))
abbrev SH(b:Code):Prop:=∀(k:Out->St Z->Option R) a c,A9 (Ke L) Q Y b ⟨gp [(0,p8 a),(12,pB c)] 21,[],s⟩ k=Yi a c (λn0=>k .ret ⟨gp [(2,pI n0)] 32,[],s⟩) (λa c=>k .normal ⟨gp [(0,p8 a),(23,pB c)] 10,[],s⟩)
def Be2:SH (R:=R) L Q Y s (cd [1,0,0,1,1,1] Ue):=by intro k a b;unfold Yi;kernel_rfl
def Yj{R:Type}(b:Int)(l:Bool)(f:Int->Option R)(j:Int->Bool->Option R):Option R:=cond l (vl (A1 (wu8 (b-48))) λg=>f g) (cond (not (ltI b 97)) (Yi b (not (ltI 102 b)) (λh=>f h) (λc d=>j c d)) (Yi b false (λi=>f i) (λe a=>j e a)))
abbrev CZ(b:Code):Prop:=∀(k:Out->St Z->Option R) a c,A9 (Ke L) Q Y b ⟨gp [(0,p8 a),(2,pB c)] 31,[],s⟩ k=Yj a c (λn0=>k .ret ⟨gp [(2,pI n0)] 32,[],s⟩) (λa c=>k .normal ⟨gp [(0,p8 a),(23,pB c)] 10,[],s⟩)
def Be3(a:Code)(b:SH (R:=R) L Q Y s a):CZ (R:=R) L Q Y s (cd [1,0,0,1] (G7 [1,0,0,1,1,1] a Ue)):=by intro k c d;unfold Yj;simp only[<-b k];kernel_rfl
def Be4:CZ (R:=R) L Q Y s (cd [1,0,0,1] Ue):=by intro k a b;exact j1 (by kernel_rfl) (Be3 L Q Y s (cd [1,0,0,1,1,1] Ue) (Be2 L Q Y s) k a b)
def Cx3{R:Type}(L:Nat)(c:Int)(d:Int->Option R):Option R:=cond (not (ltI c 48)) (Yj c (not (ltI 57 c)) (λa=>d a) (λe f=>d 99)) (Yj c false (λb=>d b) (λg h=>d 99))
def Dk0(b:Code)(a:CZ (R:=PV × List Blk × Z) L Q Y s b)(c:Int):A9 (Ke L) Q Y (cd [] (G7 [1,0,0,1] b Ue)) ⟨[p8 c]++tps 34,[],s⟩ (F4 (Ke L) al3)=Cx3 L c (λe=>some (pI e,[],s)):=by unfold Cx3;exact let d:=(E2 0 (E1 (Ke L) Q Y (cd [1,1] Ue) (F4 (Ke L) al3)));(j1 (by kernel_rfl) (A0 ((a d c (not (ltI 57 c))).trans (by kernel_rfl)) ((a d c false).trans (by kernel_rfl))))
def Dk1(d:Nat)(b0):evC (Ke L) (d+1) Z Y 153 [p8 b0] [] s=Cx3 L b0 (λa=>some (pI a,[],s)):=
 (evE (fn:=al3) (by kernel_rfl)).trans (j1 (by kernel_rfl) (Dk0 L (evC (Ke L) d) Y s (cd [1,0,0,1] Ue) (Be4 L (evC (Ke L) d) Y s) b0))
noncomputable abbrev Dm:Code:=C7 al1
noncomputable def Q4(L:Nat):Cfg:=B8 L [112] (A2 [(10,[0,1,0,0,0,0])]) [(153,Cl5)] (A2 [(16,[2,0]),(11,[0,3,0,0]),(15,[0,3,0,0]),(14,[2,0]),(13,[0,3,0,0,0,44]),(12,[0,3,0,0,0]),(10,[0,3,0,0,36]),(9,[0,3,0,0]),(8,[0,3,0]),(5,[0,3]),(7,[0,3]),(6,[0,3,32]),(4,[0,3,22]),(3,[0,3]),(2,[2,0]),(1,[0,8]),(0,[0])]) [153] (A2 [(0,[5]),(1,[0,3,0,0])]) (some [2,0]) [] [] []
def HC{R:Type}(a:By)(c:By->Option R):Option R:=cond (J0 2 (a.length:Int) a.length) (vl (cut a 2 (a.length:Int)) λb=>c b) none
abbrev SN(b:Code):Prop:=∀(k:Out->St Z->Option R) a,A9 (Q4 L) Q Y b ⟨gp [(0,pS a),(3,pI (10:Int)),(22,pB true)] 32,[],s⟩ k=HC a (λa=>k .normal ⟨gp [(0,pS a),(3,pI (16:Int))] 55,[],s⟩)
def Bh9:SN (R:=R) L Q Y s (cd [1,1,1,0,1] Dm):=by intro k a;unfold HC;kernel_rfl
def Jt{R:Type}(L n:Nat)(d:By)(h a:Int)(f:Unit->Option R)(g:Int->Option R):Option R:=match n with|0=>none|n+1=>cond (ltI a (d.length:Int)) (cond (inR a d.length) (cond (inR (bAt d a) 256) (vl (↑(dig (u8n (bAt d a))):Int) λb=>cond (not (ltI b 16)) (f ()) (vl (A1 ((A1 (h*16))+b)) λc=>vl (if ((1099511627776:Int)<c) then (1099511627776:Int) else c) λe=>Jt L n d e (A1 (a+1)) f g)) none) none) (g h)
def Bi4(n s0 n1 i2):D0 0 ((Q4 L).keep 10) (bd (Q4 L) Q Y (cd [1,1,1,1,1,0,1,0,0] Dm)) n ⟨gp [(0,pS s0),(3,pI (16:Int)),(0,pI n1),(0,pI i2)] 53,[],s⟩ k =
 Jt L n s0 n1 i2 (λ_=>k .ret ⟨gp [(2,pI (0:Int)),(0,pB false)] 56,[],s⟩) (λn0=>k (.exit 0) ⟨gp [(5,pI n0)] 54,[],s⟩):=by
 induction n generalizing s0 n1 i2 with
 | zero=>rfl
 | succ n a=>rw[Jt];simp only[<-a];kernel_rfl
def HD{R:Type}(L:Nat)(c:By)(b:Int->Bool->Option R):Option R:=Jt L L c 0 0 (λ_=>b 0 false) (λa=>b a true)
abbrev SO(b:Code):Prop:=∀(k:Out->St Z->Option R) s0,A9 (Q4 L) Q Y b ⟨gp [(0,pS s0),(3,pI (16:Int))] 55,[],s⟩ k=HD L s0 (λn0 a=>k .ret ⟨gp [(2,pI n0),(0,pB a)] 56,[],s⟩)
def Bi0:SO (R:=R) L Q Y s (cd [1,1,1,1] Dm):=by intro k a;unfold HD;exact(j1 (by kernel_rfl) ((Bi4 L Q Y s (E2 0 (E1 (Q4 L) Q Y (cd [1,1,1,1,1,1] Dm) k)) L a 0 0).trans (by kernel_rfl)))
def Sf{R:Type}(a:By)(f:Bool)(d:By->Int->Option R)(e:By->Bool->Option R):Option R:=cond f (cond (J0 2 (a.length:Int) a.length) (vl (cut a 2 (a.length:Int)) λc=>d c 16) none) (cond (not (ltI (a.length:Int) (2:Int))) (cond (inR 0 a.length) (cond ((bAt a (0:Int))==48) (cond (J0 1 (a.length:Int) a.length) (vl (cut a 1 (a.length:Int)) λb=>d b 8) none) (e a ((bAt a (0:Int))==48))) none) (e a false))
abbrev SP(b:Code):Prop:=∀(k:Out->St Z->Option R) c d,A9 (Q4 L) Q Y b ⟨gp [(0,pS c),(3,pI (10:Int)),(22,pB d)] 32,[],s⟩ k=Sf c d (λc a=>k .normal ⟨gp [(0,pS c),(3,pI a)] 55,[],s⟩) (λc d=>k .normal ⟨gp [(0,pS c),(3,pI (10:Int)),(32,pB d)] 22,[],s⟩)
def Bi1:SP (R:=R) L Q Y s (cd [1,1,1,0,1] Dm):=by intro k b a;unfold Sf;kernel_rfl
def Gm{R:Type}(L n:Nat)(f:By)(a i d:Int)(g:Unit->Option R)(h:Int->Option R):Option R:=match n with|0=>none|n+1=>cond (ltI d (f.length:Int)) (cond (inR d f.length) (cond (inR (bAt f d) 256) (vl (↑(dig (u8n (bAt f d))):Int) λb=>cond (not (ltI b a)) (g ()) (vl (A1 ((A1 (i*a))+b)) λc=>vl (if ((1099511627776:Int)<c) then (1099511627776:Int) else c) λe=>Gm L n f a e (A1 (d+1)) g h)) none) none) (h i)
def NI(n s0 base1 n2 i3):D0 0 ((Q4 L).keep 10) (bd (Q4 L) Q Y (cd [1,1,1,1,1,0,1,0,0] Dm)) n ⟨gp [(0,pS s0),(3,pI base1),(0,pI n2),(0,pI i3)] 53,[],s⟩ k =
 Gm L n s0 base1 n2 i3 (λ_=>k .ret ⟨gp [(2,pI (0:Int)),(0,pB false)] 56,[],s⟩) (λn0=>k (.exit 0) ⟨gp [(5,pI n0)] 54,[],s⟩):=by
 induction n generalizing s0 base1 n2 i3 with
 | zero=>rfl
 | succ n a=>rw[Gm];simp only[<-a];kernel_rfl
def Sg{R:Type}(L:Nat)(d:By)(a:Int)(c:Int->Bool->Option R):Option R:=Gm L L d a 0 0 (λ_=>c 0 false) (λb=>c b true)
abbrev SQ(b:Code):Prop:=∀(k:Out->St Z->Option R) s0 base1,A9 (Q4 L) Q Y b ⟨gp [(0,pS s0),(3,pI base1)] 55,[],s⟩ k=Sg L s0 base1 (λn0 a=>k .ret ⟨gp [(2,pI n0),(0,pB a)] 56,[],s⟩)
def Bi2:SQ (R:=R) L Q Y s (cd [1,1,1,1] Dm):=by intro k b a;unfold Sg;exact(j1 (by kernel_rfl) ((NI L Q Y s (E2 0 (E1 (Q4 L) Q Y (cd [1,1,1,1,1,1] Dm) k)) L b a 0 0).trans (by kernel_rfl)))
def Si{R:Type}(L:Nat)(c:By)(b:Int->Bool->Option R):Option R:=Gm L L c 10 0 0 (λ_=>b 0 false) (λa=>b a true)
abbrev ST(b:Code):Prop:=∀(k:Out->St Z->Option R) s0 a,A9 (Q4 L) Q Y b ⟨gp [(0,pS s0),(3,pI (10:Int)),(32,pB a)] 22,[],s⟩ k=Si L s0 (λn0 a=>k .ret ⟨gp [(2,pI n0),(0,pB a)] 56,[],s⟩)
def Bi3:ST (R:=R) L Q Y s (cd [1,1,1,1] Dm):=by intro k a b;unfold Si;exact(j1 (by kernel_rfl) ((NI L Q Y s (E2 0 (E1 (Q4 L) Q Y (cd [1,1,1,1,1,1] Dm) k)) L a 10 0 0).trans (by kernel_rfl)))
def Cz5{R:Type}(L:Nat)(a:By)(e:Int->Bool->Option R):Option R:=cond (a==[]) (e 0 false) (cond (not (ltI (a.length:Int) (2:Int))) (cond (inR 0 a.length) (cond ((bAt a (0:Int))==48) (cond (inR 1 a.length) (cond ((bAt a (1:Int))==120) (HC a (λB=>HD L B (λA z=>e A z))) (cond (inR 1 a.length) (Sf a ((bAt a (1:Int))==88) (λt b=>Sg L t b (λm f=>e m f)) (λu C=>Si L u (λn g=>e n g))) none)) none) (Sf a false (λv c=>Sg L v c (λo h=>e o h)) (λw D=>Si L w (λp i=>e p i)))) none) (Sf a false (λx d=>Sg L x d (λq j=>e q j)) (λy F=>Si L y (λr l=>e r l))))
def Dl2(e:Code)(f:SN (R:=PV × List Blk × Z) L Q Y s e)(a:SP (R:=PV × List Blk × Z) L Q Y s e)(d:Code)(g:SO (R:=PV × List Blk × Z) L Q Y s d)(b:SQ (R:=PV × List Blk × Z) L Q Y s d)(c:ST (R:=PV × List Blk × Z) L Q Y s d)(m:By):A9 (Q4 L) Q Y (cd [] (G7 [1,1,1,1] d (G7 [1,1,1,0,1] e Dm))) ⟨[pS m]++tps 59,[],s⟩ (F4 (Q4 L) al1)=Cz5 L m (λz A=>some (.tup [pI z,pB A],[],s)):=by unfold Cz5;exact let l:=(F4 (Q4 L) al1);let x:=(E1 (Q4 L) Q Y d l);(j1 (by kernel_rfl) (A0 rfl (A0 (A0 (A0 (A0 (A0 ((f x m).trans (congr rfl (fx1 λy=>(j1 (by kernel_rfl) ((g l y).trans (by kernel_rfl)))))) (A0 ((a x m ((bAt m (1:Int))==88)).trans (congr (congr rfl (fx2 λq h=>(j1 (by kernel_rfl) ((b l q h).trans (by kernel_rfl))))) (fx2 λr n=>(j1 (by kernel_rfl) ((c l r n).trans (by kernel_rfl)))))) rfl)) rfl) ((a x m false).trans (congr (congr rfl (fx2 λt i=>(j1 (by kernel_rfl) ((b l t i).trans (by kernel_rfl))))) (fx2 λu o=>(j1 (by kernel_rfl) ((c l u o).trans (by kernel_rfl))))))) rfl) ((a x m false).trans (congr (congr rfl (fx2 λv j=>(j1 (by kernel_rfl) ((b l v j).trans (by kernel_rfl))))) (fx2 λw p=>(j1 (by kernel_rfl) ((c l w p).trans (by kernel_rfl)))))))))
def Dl3(d:Nat)(s0):evC (Q4 L) (d+1) Z Y 112 [pS s0] [] s=Cz5 L s0 (λa b=>some (.tup [pI a,pB b],[],s)):=
 (evE (fn:=al1) (by kernel_rfl)).trans (j1 (by kernel_rfl) (Dl2 L (evC (Q4 L) d) Y s (cd [1,1,1,0,1] Dm) (Bh9 L (evC (Q4 L) d) Y s) (Bi1 L (evC (Q4 L) d) Y s) (cd [1,1,1,1] Dm) (Bi0 L (evC (Q4 L) d) Y s) (Bi2 L (evC (Q4 L) d) Y s) (Bi3 L (evC (Q4 L) d) Y s) s0))
noncomputable def KH(L:Nat):Cfg:=B8 L [110] (A2 []) [(76,Ku)] (A2 [(4,[2]),(3,[3]),(2,[3,13]),(1,[3]),(0,[0])]) [] (A2 []) (some [2]) [] [] []
def Aa6{R:Type}(L:Nat)(f:By)(d:LL->Option R):Option R:=cond (A3 f.length) (vl (D5 (pcs (u8n (46:Int)) f)) λa=>cond (ltI 1 (a.length:Int)) (vl (A1 ((a.length:Int)-1)) λb=>cond (inR b a.length) (cond (okE Pd a (b8 b) 0) (vl (gX a (b8 b) 0) λe=>cond (e==[]) (vl (A1 ((a.length:Int)-1)) λc=>cond (J0 0 c a.length) (d (cut a 0 c)) none) (d a)) none) none) (d a)) none
def Cd2(d:Nat)(s0):evC (KH L) (d+1) Z Y 110 [pS s0] [] s=Aa6 L s0 (λa=>some (.s (.sl false false 1 a),[],s)):=by refine(evE (fn:=Tryz.f110) (by kernel_rfl)).trans ?_;generalize evC (KH L) d=Q;unfold Aa6;kernel_rfl
noncomputable def Up(L:Nat):Cfg:=B8 L [75] (A2 []) [(110,IV),(111,PT),(112,A04)] (A2 [(6,[2]),(5,[4,1]),(4,[2]),(3,[4,11]),(2,[4]),(1,[3]),(0,[0])]) [111,112] (A2 []) (some [2]) [] [] []
def Yr{R:Type}(L:Nat)(d:By)(c:Bool->Option R):Option R:=cond (A3 d.length) (vl (A1 ((↑(j8 (D5 (C8 d))):Int)-1)) λb=>cond (inR b (j8 (D5 (C8 d)))) (cond (okE Pd (D5 (C8 d)) (b8 b) 0) (vl (gX (D5 (C8 d)) (b8 b) 0) λa=>cond (A3 a.length) (cond ((not (p7 a))&&(o0 (F0 10 0 a))) (c true) (cond (A3 a.length) (vl (↑(N8 (Ah a)):Int) λe=>cond (o0 (Ah a)) (cond (not (ltI (a.length:Int) (2:Int))) (cond (inR 1 a.length) (cond ((bAt a (1:Int))==120) (c true) (cond (inR 1 a.length) (c ((bAt a (1:Int))==88)) none)) none) (c false)) (c false)) none)) none) none) none) none
def Aq4(d:Nat)(s0):evC (Up L) (d+1) Z Y 75 [pS s0] [] s=Yr L s0 (λa=>some (pB a,[],s)):=by refine(evE (fn:=Tryz.f75) (by kernel_rfl)).trans ?_;generalize evC (Up L) d=Q;unfold Yr;kernel_rfl
noncomputable abbrev Bv1:Code:=C7 ao7
noncomputable def Mr(L:Nat):Cfg:=B8 L [130] (A2 [(6,[2,0,0,0,0])]) [(110,IV),(112,A04)] (A2 [(18,[2,0]),(7,[4,0,0]),(17,[4,0,0]),(16,[2,0]),(15,[4,0,0,0,38]),(14,[4,0,0]),(13,[2,0]),(12,[4,0,0,0,33]),(11,[4,0,0,0,26]),(10,[2,0]),(9,[4,0,0,0,21]),(8,[4,0,0,0,0]),(6,[4,0,0,10]),(5,[4,0,0]),(4,[4,0]),(3,[2,0]),(2,[4,8]),(1,[4]),(0,[0])]) [112] (A2 [(0,[5]),(1,[4,0,0])]) (some [2,0]) [] [] []
def Fe{R:Type}(L n:Nat)(b:LL)(v1 a:Int)(e:Unit->Option R)(h:Int->Option R):Option R:=match n with|0=>none|n+1=>cond (ltI a (b.length:Int)) (cond (inR a b.length) (cond (okE Pd b (b8 a) 0) (cond (A3 (j8 (gX b (b8 a) 0))) (vl (↑(N8 (Ah (gX b (b8 a) 0))):Int) λc=>cond (not (o0 (Ah (gX b (b8 a) 0)))) (e ()) (vl (A1 ((b.length:Int)-1)) λi=>cond (a==i) (vl (A1 ((5:Int)-(b.length:Int))) λg=>cond (decide ((0:Int)<=(A1 ((8:Int)*g)))) (vl (Ss .i64 (1:Int) (A1 ((8:Int)*g))) λj=>cond (not (ltI c j)) (e ()) (Fe L n b (A1 (v1+c)) (A1 (a+1)) e h)) none) (cond (ltI 255 c) (e ()) (vl (A1 ((24:Int)-(A1 ((8:Int)*a)))) λd=>cond (decide ((0:Int)<=d)) (vl (A1 (v1+(Ss .i64 c d))) λf=>Fe L n b f (A1 (a+1)) e h) none)))) none) none) none) (h v1)
def Ar1(n p0 v1 i2):D0 0 ((Mr L).keep 6) (bd (Mr L) Q Y (cd [1,1,1,1,0,1,0,0] Bv1)) n ⟨gp [(4,.s (.sl false false 1 p0)),(0,pI v1),(0,pI i2)] 49,[],s⟩ k =
 Fe L n p0 v1 i2 (λ_=>k .ret ⟨gp [(2,p32 (0:Int)),(0,pB false)] 52,[],s⟩) (λv0=>k (.exit 0) ⟨gp [(5,pI v0)] 50,[],s⟩):=by
 induction n generalizing p0 v1 i2 with
 | zero=>rfl
 | succ n a=>rw[Fe];simp only[<-a];kernel_rfl
def Bz9{R:Type}(L:Nat)(c:By)(b:Int->Bool->Option R):Option R:=cond (A3 c.length) (cond (ltI 4 (↑(j8 (D5 (C8 c))):Int)) (b 0 false) (Fe L L (D5 (C8 c)) 0 0 (λ_=>b 0 false) (λa=>b (DR a) true))) none
def Cz9(d:Nat)(s0):evC (Mr L) (d+1) Z Y 130 [pS s0] [] s=Bz9 L s0 (λa b=>some (.tup [p32 a,pB b],[],s)):=by refine(evE (fn:=ao7) (by kernel_rfl)).trans ?_;generalize evC (Mr L) d=Q;unfold Bz9;exact(j1 (by kernel_rfl) (A0 (A0 rfl ((Ar1 L Q Y s (E2 0 (E1 (Mr L) Q Y (cd [1,1,1,1,1] Bv1) (F4 (Mr L) ao7))) L (D5 (C8 s0)) 0 0).trans (by kernel_rfl))) rfl))
noncomputable abbrev Co0:Code:=C7 aq1
noncomputable def Um(L:Nat):Cfg:=B8 L [233] (A2 [(2,[0,1,0,0])]) [(95,Zy)] (A2 [(6,[2,0]),(3,[0,3]),(5,[2,0]),(4,[0,3,7]),(2,[0,3,1]),(1,[0,3]),(0,[0])]) [95] (A2 [(0,[]),(1,[0,3])]) (some [2,0]) [] [] []
def Nn{R:Type}(L n:Nat)(e:By)(a:Int)(c:Int->Option R)(d:Unit->Option R):Option R:=match n with|0=>none|n+1=>cond (ltI a 256) (cond (ltN a 4294967296) (vl (k9 (b8 a)) λb=>cond (b==e) (c a) (Nn L n e (A1 (a+1)) c d)) none) (d ())
def Be0(n s0 n1):D0 0 ((Um L).keep 2) (bd (Um L) Q Y (cd [1,0,1,0,0] Co0)) n ⟨gp [(0,pS s0),(3,pI n1)] 9,[],s⟩ k =
 Nn L n s0 n1 (λn0=>k .ret ⟨gp [(2,pI n0),(0,pB true)] 10,[],s⟩) (λ_=>k (.exit 0) ⟨gp [] 14,[],s⟩):=by
 induction n generalizing s0 n1 with
 | zero=>rfl
 | succ n a=>rw[Nn];simp only[<-a];kernel_rfl
def Dj8{R:Type}(L:Nat)(c:By)(b:Int->Bool->Option R):Option R:=Nn L L c 0 (λa=>b a true) (λ_=>b 0 false)
def Dj9(d:Nat)(s0):evC (Um L) (d+1) Z Y 233 [pS s0] [] s=Dj8 L s0 (λa b=>some (.tup [pI a,pB b],[],s)):=by refine(evE (fn:=aq1) (by kernel_rfl)).trans ?_;generalize evC (Um L) d=Q;unfold Dj8;exact(j1 (by kernel_rfl) ((Be0 L Q Y s (E2 0 (E1 (Um L) Q Y (cd [1,1] Co0) (F4 (Um L) aq1))) L s0 0).trans (by kernel_rfl)))
noncomputable abbrev Co3:Code:=C7 ap8
noncomputable def Ur(L:Nat):Cfg:=B8 L [208] (A2 [(6,[2,0,0,0,0])]) [(76,Ku),(233,Cl4)] (A2 [(12,[2,0]),(7,[4,0,0]),(11,[4,0,0]),(10,[2,0]),(9,[4,0,0,0,19]),(8,[4,0,0,0,0]),(6,[4,0,0,8]),(5,[4,0,0]),(4,[4,0]),(3,[2,0]),(2,[4,8]),(1,[4]),(0,[0])]) [233] (A2 [(0,[5]),(1,[4,0,0])]) (some [2,0]) [] [] []
def Ny{R:Type}(L n:Nat)(b:LL)(v1 a:Int)(f:Unit->Option R)(g:Int->Option R):Option R:=match n with|0=>none|n+1=>cond (ltI a 4) (cond (inR a b.length) (cond (okE Pd b (b8 a) 0) (cond (A3 (j8 (gX b (b8 a) 0))) (vl (↑(N8 (oct (gX b (b8 a) 0))):Int) λc=>cond (not (o0 (oct (gX b (b8 a) 0)))) (f ()) (vl (DR (v1*256)) λd=>vl (DR (d+(DR c))) λe=>Ny L n b e (A1 (a+1)) f g)) none) none) none) (g v1)
def Bm2(n p0 v1 i2):D0 0 ((Ur L).keep 6) (bd (Ur L) Q Y (cd [1,1,1,1,0,1,0,0] Co3)) n ⟨gp [(4,.s (.sl false false 1 p0)),(0,p32 v1),(0,pI i2)] 27,[],s⟩ k =
 Ny L n p0 v1 i2 (λ_=>k .ret ⟨gp [(2,p32 (0:Int)),(0,pB false)] 30,[],s⟩) (λv0=>k (.exit 0) ⟨gp [(5,p32 v0)] 28,[],s⟩):=by
 induction n generalizing p0 v1 i2 with
 | zero=>rfl
 | succ n a=>rw[Ny];simp only[<-a];kernel_rfl
def Dm3{R:Type}(L:Nat)(d:By)(b:Int->Bool->Option R):Option R:=cond (A3 d.length) (vl (D5 (pcs (u8n (46:Int)) d)) λa=>cond ((a.length:Int)!=4) (b 0 false) (Ny L L a 0 0 (λ_=>b 0 false) (λc=>b c true))) none
def Dm4(d:Nat)(s0):evC (Ur L) (d+1) Z Y 208 [pS s0] [] s=Dm3 L s0 (λb c=>some (.tup [p32 b,pB c],[],s)):=by refine(evE (fn:=ap8) (by kernel_rfl)).trans ?_;generalize evC (Ur L) d=Q;unfold Dm3;exact(j1 (by kernel_rfl) (A0 (A4 λa=>(A0 rfl ((Bm2 L Q Y s (E2 0 (E1 (Ur L) Q Y (cd [1,1,1,1,1] Co3) (F4 (Ur L) ap8))) L a 0 0).trans (by kernel_rfl)))) rfl))
noncomputable def A42(L:Nat):Cfg:=B8 L [96] (A2 []) [(95,Zy)] (A2 [(1,[2]),(0,[0])]) [95] (A2 []) (some [2]) [] [] []
def Dm1{R:Type}(L:Nat)(v0:Int)(n:By->Option R):Option R:=vl (Pc .u32 v0 (24:Int)) λg=>cond (ltN (A1 g) 4294967296) (vl (k9 (b8 (A1 g))) λj=>cond (E6 j.length 1) (vl (j++[46]) λc=>vl (Pc .u32 v0 (16:Int)) λm=>vl (ab3 m (256:Int)) λh=>cond (ltN (A1 h) 4294967296) (vl (k9 (b8 (A1 h))) λd=>cond (E6 c.length d.length) (cond (E6 (j8 (c++d)) 1) (vl ((c++d)++[46]) λe=>vl (ab3 (Pc .u32 v0 (8:Int)) (256:Int)) λi=>cond (ltN (A1 i) 4294967296) (vl (k9 (b8 (A1 i))) λf=>cond (E6 e.length f.length) (cond (E6 (j8 (e++f)) 1) (vl ((e++f)++[46]) λl=>vl (ab3 v0 (256:Int)) λa=>cond (ltN (A1 a) 4294967296) (vl (k9 (b8 (A1 a))) λb=>cond (E6 l.length b.length) (n (l++b)) none) none) none) none) none) none) none) none) none) none
def Dm2(d:Nat)(v0):evC (A42 L) (d+1) Z Y 96 [p32 v0] [] s=Dm1 L v0 (λa=>some (pS a,[],s)):=by refine(evE (fn:=Tryz.f96) (by kernel_rfl)).trans ?_;generalize evC (A42 L) d=Q;unfold Dm1;kernel_rfl
noncomputable def BL(L:Nat):Cfg:=B8 L [176] (A2 []) [(210,AA)] (A2 [(1,[4]),(0,[0,0])]) [] (A2 []) (some [4]) [] [] []
def HG{R:Type}(L:Nat)(c a:By)(d:Nat->LL->Option R):Option R:=cond (A3 c.length) (cond (a.length==1) (cond ((0:Int)==0) (cond (((-1):Int)==((-1):Int)) (vl (D5 (pcs (j0 a 0 0) c)) λb=>d (j8 (pcs (j0 a 0 0) c)) b) none) none) none) none
def Bo3(d:Nat)(s0 sep1):evC (BL L) (d+1) Z Y 176 [pS s0,pS sep1] [] s=HG L s0 sep1 (λa b=>some (.vw 0 0 a,[.arr false 9 1 b],s)):=by refine(evE (fn:=Tryz.f176) (by kernel_rfl)).trans ?_;generalize evC (BL L) d=Q;unfold HG;kernel_rfl
end
end
section
open Go
attribute [simp] B9 E7 D1 Ad8 B16 B15 Ad9 Ay K8 F8
attribute [simp] vl
@[simp] theorem D9{n:Nat}(h:n<=1000000000):A3 n=true:=TB.2 h
@[simp] theorem Sz{v:Int}{n:Nat}(h:0<=v)(a:v<n):ltN v n=true:=E3.2 ⟨h,a⟩
def K3{n:Nat}(h:n<=1000000000:=by omega):A3 n=true:=D9 h
def M5{v:Int}{n:Nat}(h:0<=v:=by omega)(g:v<n:=by omega):ltN v n=true:=Sz h g
@[simp] theorem G3{m n:Nat}(h:m+n<4611686018427387904):E6 m n=true:=by simp[E6,h]
abbrev rv(v:PV)(H:List Blk):Option (PV × List Blk × Unit):=some (v,H,())
def L7{n:Nat}(h:A3 n=true):n<=1000000000:=TB.1 h
def D6(s:By)(i:Nat)(h:i<s.length):s.drop i=s.getD i 0::s.drop (i+1):=by rw[j6,j9 h,o6,x7]
def TF(s:By)(i:Nat)(h:i<s.length):s.take (i+1)=s.take i++[s.getD i 0]:=by rw[aj9,j6,j9 h];rfl
def MF(s:By)(i:Nat)(h:i<s.length):(B6 (s.take (i+1))).map E4=(B6 (s.take i)).map E4++[E4 (Y3 (s.getD i 0))]:=by unfold B6;rw[TF s i h,ah5,ah5];rfl
def K9(b:UInt8):(b.toNat<65/\Y3 b=b)\/(90<b.toNat/\Y3 b=b)\/(65<=b.toNat/\b.toNat<=90/\((Y3 b).toNat=b.toNat+32)):=by
 unfold Y3;by_cases a:b.toNat<65
 ·refine .inl ⟨a,if_neg ?_⟩;intro h;have:=ae2.1 h.1;simp at this;omega
 ·by_cases c:90<b.toNat
  ·refine .inr (.inl ⟨c,if_neg ?_⟩);intro h;have:=ae2.1 h.2;simp at this;omega
  ·refine .inr (.inr ⟨by omega,by omega,?_⟩);rw[if_pos (by constructor<;>(rw[ae2];simp;omega)),UInt8.toNat_add];simp;omega
@[simp] theorem D3(s:By)(i:Nat):bAt s (i:Int)=((s.getD i 0).toNat:Int):=by simp[bAt]
@[simp] theorem Ba(s:By):bAt s 0=((s.getD 0 0).toNat:Int):=by simp[bAt]
@[simp] theorem Bu4(s:By):bAt s 1=((s.getD 1 0).toNat:Int):=by simp[bAt]
def Fy{c:Type}(s:List c)(a b:Nat):cut s (a:Int) (b:Int)=(s.take b).drop a:=by simp[cut]
@[simp] theorem Q5{b:Type}(s:List b)(a:Int):cut s a (s.length:Int)=s.drop a.toNat:=by simp[cut]
@[simp] theorem L1{a:Type}(s:List a)(b:Int):cut s 0 b=s.take b.toNat:=by simp[cut]
@[simp] theorem F2(l:List By):(D5 l).length=l.length:=by simp[D5]
@[simp] theorem V6(l:List By)(i:Nat):gX (D5 l) i 0=l.getD i []:=by
 unfold gX gC D5;by_cases h:i<l.length
 ·simp[j6,j9 h,SV.gS]
 ·simp[j6,ah8 (show l.length<=i by omega),SV.gS]
@[simp] theorem R7{l:List By}{i:Nat}(h:i<l.length):okE Pd (D5 l) i 0=true:=by unfold okE D5;simp[j6,j9 h,h,Pd,okS,SV.has]
def Zl(a b:List By):D5 (a++b)=D5 a++D5 b:=by simp[D5]
def Ka(b:UInt8):u8n (b.toNat:Int)=b:=by simp[u8n]
def Ad0(b:UInt8):inR (b.toNat:Int) 256=true:=by have:=b.toNat_lt;exact F1
def Dv8{a b:UInt8}:((a.toNat:Int)==(b.toNat:Int))=(a==b):=by
 rw[ah3];simp only[beq_iff_eq];constructor
 ·intro h;exact UInt8.toNat_inj.1 (by omega)
 ·intro h;rw[h]
def S6(a:UInt8)(n:Nat)(h:n<256):((a.toNat:Int)==(n:Int))=(a==aa9 n):=by rw[<-Dv8];simp[ak9 h]
def Fr(p s:By):p.isPrefixOf s=(decide (p.length<=s.length)&&(s.take p.length==p)):=by
 rw[ah3];simp only[ad2,ab0,decide_eq_true_eq,beq_iff_eq];constructor
 ·intro h;exact⟨h.length_le,(ag7.1 h).symm⟩
 ·rintro⟨_,h⟩;exact ag7.2 h.symm
def Ov(p s:By):p.isSuffixOf s=(decide (p.length<=s.length)&&(s.drop (s.length-p.length)==p)):=by
 rw[ah3];simp only[List.isSuffixOf_iff_suffix,ab0,decide_eq_true_eq,beq_iff_eq];constructor
 ·intro h;exact⟨h.length_le,(ag8.1 h).symm⟩
 ·rintro⟨_,h⟩;exact ag8.2 h.symm
def Dt(b:UInt8):(48<=b.toNat/\b.toNat<=57/\dig b=b.toNat-48)\/(97<=b.toNat/\b.toNat<=102/\dig b=b.toNat-87)\/(65<=b.toNat/\b.toNat<=70/\dig b=b.toNat-55)\/(¬(48<=b.toNat/\b.toNat<=57)/\¬(97<=b.toNat/\b.toNat<=102)/\¬(65<=b.toNat/\b.toNat<=70)/\dig b=99):=by
 unfold dig;split
 ·rename_i h;exact .inl ⟨h.1,h.2,rfl⟩
 ·split
  ·rename_i h;exact .inr (.inl ⟨h.1,h.2,rfl⟩)
  ·split
   ·rename_i h;exact .inr (.inr (.inl ⟨h.1,h.2,rfl⟩))
   ·exact .inr (.inr (.inr ⟨by assumption,by assumption,by assumption,rfl⟩))
def C17(m:Nat):(if (1099511627776:Int)<(m:Int) then (1099511627776:Int) else (m:Int))=((min m X3:Nat):Int):=by unfold X3;split<;>omega
def KY{base:Nat}:∀{s:By} {n v:Nat},n<=X3->F0 base n s=some v->v<=X3
 | [],n,v,h,e=>by simp only[F0,o8] at e;omega
 | b::r,n,v,h,e=>by
  simp only[F0] at e;split at e
  ·exact KY (by omega) e
  ·cases e
def By3{s:By}{v:Nat}(h:Ah s=some v):v<=X3:=by
 unfold Ah at h
 repeat' split at h
 all_goals first|(cases h;done)|exact KY (by unfold X3;omega) h
def QU(base:Nat):∀(x y:By) (n:Nat),F0 base n (x++y)=(F0 base n x).bind λm=>F0 base m y
 | [],y,n=>rfl
 | b::r,y,n=>by
  simp only[ak7,F0];split
  ·exact QU base r y _
  ·rfl
def X5(u:Nat)(h:¬u<10):k9 u=k9 (u / 10)++[aa9 (48+u % 10)]:=by rw[k9,dif_neg h]
def Dv1(d:Nat)(h:d<10):dig (aa9 (48+d))=d:=by
 unfold dig;have:(aa9 (48+d)).toNat=48+d:=by simp;omega
 rw[this,R2];omega
def BP:∀u:Nat,u<=X3->F0 10 0 (k9 u)=some u:=by
 intro u
 induction u using af0 with
 | _ u a=>
  intro b;by_cases h:u<10
  ·rw[ag1 h];simp only[F0,Dv1 u h];rw[if_pos h];unfold X3;simp;omega
  ·rw[X5 u h,QU,a (u / 10) (by omega) (by omega)];simp only[al0,F0,Dv1 (u % 10) (by omega)];rw[R2];unfold X3 at *;simp;omega
def Cr(u:Nat):k9 u≠[]:=by intro h;have:=Lib.decDigits_length u;have a:=Lib.nDigits_pos u;rw[h] at this;simp at this;omega
def Gw:∀(k u:Nat),0<k->u<10 ^ k->(k9 u).length<=k
 | 0,u,h,_=>by omega
 | k+1,u,_,h=>by
  by_cases b:u<10
  ·rw[ag1 b];simp
  ·rw[X5 u b,ad8,ad0];have a:0<k:=by
    rcases Nat.eq_zero_or_pos k with rfl|a
    ·rw[af3,Nat.pow_one] at h;omega
    ·exact a
   have:=Gw k (u / 10) a (by rw[aa6] at h;omega);omega
def G1(u:Nat)(h:u<4294967296):(k9 u).length<=10:=Gw 10 u (by omega) (by omega)
def Yc{s:By}{n:Nat}:oct s=some n↔n<256/\k9 n=s:=by
 unfold oct;constructor
 ·intro h;split at h
  ·rename_i m c;split at h
   ·rename_i a;cases h;exact⟨by omega,a.2⟩
   ·cases h
  ·cases h
 ·rintro⟨b,rfl⟩;rw[BP n (by unfold X3;omega)];exact if_pos ⟨by omega,rfl⟩
def Du5(a b:Nat)(c:a<9223372036854775808)(d:b<9223372036854775808):bOr .i64 (a:Int) (b:Int)=((a ||| b:Nat):Int):=by
 unfold bOr;rw[show ac7 .i64=64 from rfl,Dx1 64 a b (by omega) (by omega)];have:a ||| b<2 ^ 63:=ag2 (by omega) (by omega)
 exact A7
def D66(a b:Nat)(c:a<4294967296)(d:b<4294967296):bOr .u32 (a:Int) (b:Int)=((a ||| b:Nat):Int):=by
 unfold bOr;rw[show ac7 .u32=32 from rfl,Dx1 32 a b (by omega) (by omega)];have:a ||| b<2 ^ 32:=ag2 (by omega) (by omega)
 exact Ok
def Dw7(a b:Nat)(c:a<4294967296)(d:b<4294967296):A19 .u32 (a:Int) (b:Int)=((a &&& b:Nat):Int):=by unfold A19;rw[show ac7 .u32=32 from rfl,Du9 32 a b (by omega) (by omega)];have:a &&& b<2 ^ 32:=Nat.and_lt_two_pow _ (by omega);exact Ok
def Dw6(x:Nat):x &&& 255=x % 256:=ae4 x 8
def Au8(a m:Nat)(h:a*2 ^ m<9223372036854775808)(b:m<=64):Ss .i64 (a:Int) (m:Int)=((a*2 ^ m:Nat):Int):=by
 unfold Ss;rw[j2,show ac7 .i64=64 from rfl,ae9 b];have:(a:Int)*2 ^ m=((a*2 ^ m:Nat):Int):=by simp
 rw[this];exact A7
def D84(a m:Nat)(h:a*2 ^ m<4294967296)(b:m<=32):Ss .u32 (a:Int) (m:Int)=((a*2 ^ m:Nat):Int):=by
 unfold Ss;rw[j2,show ac7 .u32=32 from rfl,ae9 b];have:(a:Int)*2 ^ m=((a*2 ^ m:Nat):Int):=by simp
 rw[this];exact Ok
def GS(v n m:Nat)(h:n<2 ^ m):v*2 ^ m ||| n=v*2 ^ m+n:=by rw[Nat.or_comm,Dz5 n v m h,Nat.add_comm]
def Lp{c:UInt8}{s:By}(h:c∉s):pcs c s=[s]:=by unfold pcs;rw[Zj c s [] h];rfl
def GU{c:UInt8}{p r:By}(h:c∉p):pcs c (p++c::r)=p::pcs c r:=by unfold pcs;rw[FO c p [] r h];rfl
def Jo(c:UInt8)(s:By):(pcs c s).length=s.count c+1:=Jy c s []
def ZO(c:UInt8)(s:By):pcs c s≠[]:=Bn6 c s []
def Cv{c:UInt8}{s x:By}(h:x∈pcs c s):c∉x/\x.length<=s.length:=by have:=Qy c s [] (by simp) x h;simpa using this
def Ht(c:UInt8)(s:By):s.count c<=s.length:=List.count_le_length
def P0(c:UInt8):∀s:By,c∉s\/∃p r,s=p++c::r/\c∉p
 | []=>.inl (by simp)
 | b::s=>by
  by_cases h:b=c
  ·subst h;exact .inr ⟨[],s,rfl,by simp⟩
  ·rcases P0 c s with a|⟨p,r,rfl,d⟩
   ·exact .inl (by simp[a,Ne.symm h])
   ·exact .inr ⟨b::p,r,rfl,by simp[d,Ne.symm h]⟩
def Uy{c:UInt8}{s:By}(h:c∉s):v7 s [c]=-1:=by
 rcases am5 s [c] with a|⟨i,a,e,b,f⟩
 ·exact a.1
 ·exfalso;simp only[ak6,ad2] at b;obtain⟨t,d⟩:=b;have:c∈s.drop i:=by rw[<-d];simp
  exact h (ad3 this)
def CI{c:UInt8}{p r:By}(h:c∉p):v7 (p++c::r) [c]=(p.length:Int):=by
 rcases am5 (p++c::r) [c] with d|⟨i,d,m,f,g⟩
 ·exfalso;have:=d.2 p.length (by simp);simp[ak6] at this
 ·rw[d];have n:¬p.length<i:=by
   intro a;have:=g p.length a;simp[ak6] at this
  have k:¬i<p.length:=by
   intro a;simp only[ak6,ad2] at f;obtain⟨t,b⟩:=f;have j:(p++c::r).drop i=p.drop i++c::r:=by rw[ac4 (by omega)]
   rw[j] at b;cases e:p.drop i with
   | nil=>have:=ac0 (i:=i) (l:=p);rw[e] at this;simp at this;omega
   | cons x y=>
    rw[e] at b;simp at b;have:x∈p:=ad3 (i:=i) (by rw[e];simp);rw[<-b.1] at this;exact h this
  omega
def B98(s:By):C8 s≠[]:=by
 unfold C8;split
 ·rename_i h;intro e;have:=congrArg j8 e;simp at this;omega
 ·exact ZO _ _
def Nk{s x:By}(h:x∈C8 s):x.length<=s.length:=by
 unfold C8 at h;split at h
 ·exact(Cv ((List.dropLast_sublist _).subset h)).2
 ·exact(Cv h).2
def Bn(s:By):1<=(C8 s).length/\(C8 s).length<=s.length+1:=by
 have a:=ad6.2 (B98 s);have b:=Jo 46 s;have c:=Ht 46 s;refine⟨a,?_⟩;unfold C8;split
 ·rw[List.length_dropLast];omega
 ·omega
def CP(s:By):(C8 s).getD ((C8 s).length-1) []=Dh s:=by unfold Dh;rw[List.getLastD_eq_getLast?,List.getLast?_eq_getElem?,j6]
def RP(s:By):Dh s∈C8 s:=by have h:=(Bn s).1;rw[<-CP,j6,j9 (by omega)];exact ak8 _
def Kh{base:Nat}:∀{s:By} {n i:Nat},i<s.length->base<=dig (s.getD i 0)->F0 base n s=none
 | [],n,i,h,_=>by simp at h
 | b::r,n,0,h,a=>by
  simp only[aa5] at a;simp only[F0];rw[G0]
 | b::r,n,i+1,h,a=>by
  simp only[ai7] at a;simp only[F0];split
  ·exact Kh (i:=i) (by simpa using h) a
  ·rfl
def Gz(s:By):Z4 s=true↔s.getD 0 0=48/\(s.getD 1 0=120\/s.getD 1 0=88):=by simp[Z4]
def Li{s:By}(h:Z4 s=true):2<=s.length:=by
 rw[Gz] at h
 match s with
 | []=>simp at h
 | [a]=>simp at h
 | a::b::r=>simp
def Cv5(l:By):(if Z4 l then (F0 16 0 (l.drop 2)).isSome else !l.isEmpty&&(F0 10 0 l).isSome) =
  (if (!l.isEmpty&&(F0 10 0 l).isSome)=true then true else (if (Ah l).isSome=true then decide (2<=l.length)&&(l.getD 1 0==120||l.getD 1 0==88) else false)):=by
 by_cases b:Z4 l=true
 ·have g:=Li b;have j:=(Gz l).1 b;have f:F0 10 0 l=none:=Kh (i:=1) (by omega) (by rcases j.2 with h|h<;>rw[h]<;>decide);have d:Ah l=F0 16 0 (l.drop 2):=by
   unfold Ah;rw[if_neg (by intro e;rw[e] at g;simp at g),if_pos b]
  rw[if_pos b,f,d];have c:(l.getD 1 0==120||l.getD 1 0==88)=true:=by simpa using j.2
  rw[c];simp[g]
 ·rw[if_neg b];cases n:(!l.isEmpty&&(F0 10 0 l).isSome) with
  | true=>rfl
  | false=>
   rw[if_neg (by simp)];cases d:Ah l with
   | none=>rfl
   | some v=>
    rw[show(some v).isSome=true from rfl,if_pos rfl]
    symm
    rw[Bool.and_eq_false_iff];by_cases c:2<=l.length
    ·right
     apply ag0;intro a;have a:l.getD 1 0=120\/l.getD 1 0=88:=by
      cases k:(l.getD 1 0==120||l.getD 1 0==88) with
      | false=>exact absurd k a
      | true=>simpa using k
     have m:¬l.getD 0 0=48:=λh=>b ((Gz l).2 ⟨h,a⟩)
     have f:F0 10 0 l=none:=Kh (i:=1) (by omega) (by rcases a with h|h<;>rw[h]<;>decide);unfold Ah at d;rw[if_neg (by intro e;rw[e] at c;simp at c),if_neg b,if_neg (by intro h;exact m h.2),f] at d;cases d
    ·left;simpa using c
end
section
open Go Go.Proofs
def B80{R:Type}{a:Bool->Option R}(s p:By)(b:A3 s.length=true):Dg7 LF s p a=a (p.isPrefixOf s):=by
 have:=L7 b;unfold Dg7;rw[Fr];by_cases h:p.length<=s.length
 ·simp_all
 ·simp (disch:=omega) [h]
def B59{R:Type}{a:Bool->Option R}(s p:By)(b:A3 s.length=true):Qg LF s p a=a (p.isPrefixOf s):=by unfold Qg;rw[b];rfl
def B81{R:Type}{a:Bool->Option R}(s p:By)(b:A3 s.length=true):Dg9 LF s p a=a (p.isSuffixOf s):=by
 have:=L7 b;unfold Dg9;rw[Ov];by_cases h:p.length<=s.length
 ·have e:((s.length:Int)-(p.length:Int)).toNat=s.length-p.length:=by omega
  simp (disch:=omega) [h,e]
 ·simp (disch:=omega) [h]
def B60{R:Type}{a:Bool->Option R}(s p:By)(b:A3 s.length=true):Df0 LF s p a=a (p.isSuffixOf s):=by unfold Df0;rw[b];rfl
def Ba4{R:Type}{b:By->Option R}(s p:By)(a:A3 s.length=true):Bx8 LF s p b=b (Ac7 s p):=by
 have:=L7 a;unfold Bx8 Ac7;rw[a];cases h:p.isSuffixOf s with
 | false=>simp
 | true=>
  have:p.length<=s.length:=by rw[Ov] at h;simp at h;exact h.1
  have e:((s.length:Int)-(p.length:Int)).toNat=s.length-p.length:=by omega
  simp (disch:=omega) [e]
def Bo6{R:Type}{a:By->Option R}(s p:By)(b:A3 s.length=true):B08 LF s p a=a (Ac7 s p):=by unfold B08;rw[b];rfl
def A93{R:Type}{b:By->Bool->Option R}(s p:By)(a:A3 s.length=true):Bx1 LF s p b=b (Hu s p) (p.isPrefixOf s):=by
 have:=L7 a;unfold Bx1 Hu;rw[a];cases h:p.isPrefixOf s with
 | false=>simp
 | true=>
  have:p.length<=s.length:=by rw[Fr] at h;simp at h;exact h.1
  simp_all
def B32{R:Type}{a:By->Bool->Option R}(s p:By)(b:A3 s.length=true):Db3 LF s p a=a (Hu s p) (p.isPrefixOf s):=by unfold Db3;rw[b];rfl
def Aw1{R:Type}{a:LL->Option R}(s p:By)(b:A3 s.length=true)(c:(p.length==1)=true):Ac1 LF s p a=a (D5 (pcs (p.getD 0 0) s)):=by unfold Ac1;rw[b,c];rfl
def B77{R:Type}{k0:LL->Option R}(s:By)(o:s.length<=1000000000):∀(r i n:Nat),i+r=s.length->r<n->Gd LF n s (s.length:Int) (i:Int) ((B6 (s.take i)).map E4) k0=k0 ((B6 s).map E4):=by
 intro r
 induction r with
 | zero=>
  intro i n g j;obtain⟨n,rfl⟩:∃m,n=m+1:=⟨n-1,by omega⟩
  rw[Gd];rw[A6,o9 (by omega)];rfl
 | succ r a=>
  intro i n g j;obtain⟨n,rfl⟩:∃m,n=m+1:=⟨n-1,by omega⟩
  rw[Gd];have h:(B6 (s.take i)).length=i:=by simp[B6];omega
  have a:=a (i+1) n (by omega) (by omega);rw[MF s i (by omega)] at a;rw[D3];have l:=(s.getD i 0).toNat_lt;generalize s.getD i 0=b at *;have c:((i:Int)+1)=((i+1:Nat):Int):=by omega
  simp (disch:=omega) only[B9,K8,cond_true,vl,ae7,h,F8,D1];rw[c];rcases K9 b with⟨d,e⟩|⟨d,e⟩|⟨d,k,e⟩
  ·simp (disch:=omega) only[B9,j5,cond_false];rw[e] at a;exact a
  ·simp (disch:=omega) only[E7,B9,j5,j4,cond_false,cond_true];rw[e] at a;exact a
  ·have f:wu8 ((b.toNat:Int)+32)=((Y3 b).toNat:Int):=by
    rw[N2];omega
   simp (disch:=omega) only[E7,j4,cond_true,f];exact a
def B78{R:Type}{k0:By->LL->Option R}(s:By)(b:A3 s.length=true):Dg5 LF s k0=k0 (B6 s) ((B6 s).map E4):=by have c:=L7 b;have:=C5;unfold Dg5;simp (disch:=omega) only[j2,F8,ag5];rw[show(decide ((0:Int)<=(s.length:Int)))=true by simp];have:=B77 (k0:=λa=>cond (ab4 a Pb) (k0 (x8 Mu a) a) none) s c s.length 0 LF (by omega) (by omega);simp only[ac2,B6,aq6] at this;rw[cond_true];refine j1 this ?_;rw[show(x8 Y3 s).map E4=(B6 s).map E4 from rfl,Y7,Z6];rfl
def Cc5{R:Type}{k0:LL->Option R}(s:By)(o:s.length<=1000000000):∀(r i n:Nat),i+r=s.length->r<n->Gl LF n s (i:Int) ((B6 (s.take i)).map E4) k0=k0 ((B6 s).map E4):=by
 intro r
 induction r with
 | zero=>
  intro i n g j;obtain⟨n,rfl⟩:∃m,n=m+1:=⟨n-1,by omega⟩
  rw[Gl];rw[A6,o9 (by omega)];rfl
 | succ r a=>
  intro i n g j;obtain⟨n,rfl⟩:∃m,n=m+1:=⟨n-1,by omega⟩
  rw[Gl];have h:(B6 (s.take i)).length=i:=by simp[B6];omega
  have a:=a (i+1) n (by omega) (by omega);rw[MF s i (by omega)] at a;rw[D3];have l:=(s.getD i 0).toNat_lt;generalize s.getD i 0=b at *;have c:((i:Int)+1)=((i+1:Nat):Int):=by omega
  simp (disch:=omega) only[B9,K8,cond_true,vl,ae7,h,F8,D1];rw[c];rcases K9 b with⟨d,e⟩|⟨d,e⟩|⟨d,k,e⟩
  ·simp (disch:=omega) only[B9,j5,cond_false];rw[e] at a;exact a
  ·simp (disch:=omega) only[E7,B9,j5,j4,cond_false,cond_true];rw[e] at a;exact a
  ·have f:wu8 ((b.toNat:Int)+32)=((Y3 b).toNat:Int):=by
    rw[N2];omega
   simp (disch:=omega) only[E7,j4,cond_true,f];exact a
def Cc6{R:Type}{k0:By->LL->Option R}(s:By)(b:A3 s.length=true):Dl0 LF s k0=k0 (B6 s) ((B6 s).map E4):=by have c:=L7 b;have:=C5;unfold Dl0;have:=Cc5 (k0:=λa=>cond (ab4 a Pb) (k0 (x8 Mu a) a) none) s c s.length 0 LF (by omega) (by omega);refine j1 this ?_;rw[Y7,Z6];rfl
def B56{R:Type}{c:Bool->Option R}(s:By)(d:A3 s.length=true):De5 LF s c=c (Z4 s):=by
 unfold De5;have key:Z4 s=(([48,120]:By).isPrefixOf s||([48,88]:By).isPrefixOf s):=by
  match s with
  | []=>rfl
  | [a]=>simp[Z4,w8]
  | a::b::r=>
   simp only[Z4,w8,aa5,ai7,ag5];rw[aj4 (a:=(48:UInt8)),aj4 (a:=(120:UInt8)),aj4 (a:=(88:UInt8))];cases (a==48)<;>simp
 grind
def B37{R:Type}{k0:Unit->Option R}{k1:Int->Option R}(s:By)(C:s.length<=1000000000)(base:Nat)(B:base<=16):∀(r i a n:Nat),i+r=s.length->r<n->a<=X3->
  Ji LF n s (base:Int) (a:Int) (s.length:Int) (i:Int) k0 k1=match F0 base a (s.drop i) with|some v=>k1 (v:Int)|none=>k0 ():=by
 intro r
 induction r with
 | zero=>
  intro i a n u w q;obtain⟨n,rfl⟩:∃m,n=m+1:=⟨n-1,by omega⟩
  rw[Ji];rw[A6,j7 (by omega)];rfl
 | succ r l=>
  intro i a n u w q;obtain⟨n,rfl⟩:∃m,n=m+1:=⟨n-1,by omega⟩
  rw[Ji,D6 s i (by omega)];rw[D3];have t:=(s.getD i 0).toNat_lt;generalize s.getD i 0=b at *;have k:((i:Int)+1)=((i+1:Nat):Int):=by omega
  have o:X3=1099511627776:=rfl;have step:∀d:Nat,d<base->(a*base+d<100000000000000/\A1 (A1 ((a:Int)*(base:Int))+(d:Int))=((a*base+d:Nat):Int)):=by
   intro d c;have h:a*base<=1099511627776*16:=am7 (by omega) (by omega);refine⟨by omega,?_⟩;have p:A1 ((a*base:Nat):Int)=((a*base:Nat):Int):=A7;rw[<-am3,p,A7];rfl
  simp (disch:=omega) only[B9,K8,cond_true,vl,D1,Wt,Ws,Wr];rw[k];simp only[F0];rcases Dt b with⟨h,j,e⟩|⟨h,j,e⟩|⟨h,j,e⟩|⟨h,j,A,e⟩
  ·have f:wu8 ((b.toNat:Int)-48)=((dig b:Nat):Int):=by rw[N2];omega
   simp (disch:=omega) only[B9,E7,j5,j4,cond_false,cond_true,f,D1];by_cases c:dig b<base
   ·rw[if_pos c,A8,(step _ c).2,C17];exact l (i+1) _ n (by omega) (by omega) (by omega)
   ·rw[if_neg c,A6];rfl
  ·have f:wu8 ((b.toNat:Int)-97)+10=((dig b:Nat):Int):=by rw[N2];omega
   have g:wu8 ((b.toNat:Int)-97)=((b.toNat:Int)-97):=N2;rw[g] at f;simp (disch:=omega) only[B9,E7,j5,j4,cond_false,cond_true,g,D1,f];by_cases c:dig b<base
   ·rw[if_pos c,A8,(step _ c).2,C17];exact l (i+1) _ n (by omega) (by omega) (by omega)
   ·rw[if_neg c,A6];rfl
  ·have f:wu8 ((b.toNat:Int)-65)+10=((dig b:Nat):Int):=by rw[N2];omega
   have g:wu8 ((b.toNat:Int)-65)=((b.toNat:Int)-65):=N2;rw[g] at f;simp (disch:=omega) only[B9,E7,j5,j4,cond_false,cond_true,g,D1,f];by_cases c:dig b<base
   ·rw[if_pos c,A8,(step _ c).2,C17];exact l (i+1) _ n (by omega) (by omega) (by omega)
   ·rw[if_neg c,A6];rfl
  ·rw[if_neg (show ¬dig b<base by omega)];by_cases x:b.toNat<48
   ·simp (disch:=omega) only[B9,E7,j5,j4,cond_false,cond_true]
   ·by_cases y:b.toNat<65
    ·simp (disch:=omega) only[B9,E7,j5,j4,cond_false,cond_true]
    ·by_cases z:b.toNat<97
     ·simp (disch:=omega) only[B9,E7,j5,j4,cond_false,cond_true]
     ·simp (disch:=omega) only[B9,E7,j5,j4,cond_false,cond_true]
def B38{R:Type}{k0:Int->Bool->Option R}(s:By)(base:Int)(c:A3 s.length=true)(d:ltN base 17=true):Cp9 LF s base k0=k0 (N8 (F0 base.toNat 0 s):Int) (F0 base.toNat 0 s).isSome:=by have f:=L7 c;have:=C5;obtain⟨a,e⟩:=E3.1 d;obtain⟨b,rfl⟩:=o5 a;unfold Cp9;have:=B37 (k0:=λ_=>k0 0 false) (k1:=λn=>k0 n true) s f b (by omega) s.length 0 0 LF (by omega) (by omega) (by unfold X3;omega);refine j1 this ?_;rw[p4,j2];cases F0 b 0 s<;>rfl
def Cv4{R:Type}{f:Int->Bool->Option R}(s:By)(d:A3 s.length=true):num LF s f=f (N8 (Ah s):Int) (Ah s).isSome:=by
 have k:=L7 d;unfold num Ah;rw[d];by_cases a:s=[]
 ·subst a;rfl
 have c:(s==([]:By))=false:=by simpa using a
 have j:0<s.length:=ad6.2 a;rw[if_neg a,c];simp only[cond_true,cond_false,vl];cases h:Z4 s with
 | true=>
  have:=Li h;simp (disch:=first|omega|(simp;omega)) only[cond_true,if_true,Ay,Q5,D9,Sz];rfl
 | false=>
  simp only[cond_false,p6,if_false];have i:(F0 10 0 s)=F0 10 0 s:=rfl;by_cases g:1<s.length
  ·simp (disch:=omega) only[B9,K8,cond_true,Ba,g,true_and];have e:=S6 (s.getD 0 0) 48 (by omega);rw[show((48:Nat):Int)=48 from rfl] at e;rw[e];by_cases b:s.getD 0 0=48
   ·rw[if_pos b,b,show((48:UInt8)==aa9 48)=true from rfl];simp (disch:=first|omega|(simp;omega)) only[Ay,Q5,D9,Sz,cond_true];rfl
   ·rw[if_neg b,show(s.getD 0 0==aa9 48)=false from beq_eq_false_iff_ne.2 b];rfl
  ·rw[A6,G0];rfl
def ZG{R:Type}{b:Bool->Option R}(s:By)(a:A3 s.length=true):GQ LF s b=b (E9 s):=by
 have i:=L7 a;have h:=Bn s;have g:=Nk (RP s);have d:=CP s;have c:((C8 s).length:Int)-1=(((C8 s).length-1:Nat):Int):=by omega
 unfold GQ E9;rw[a];simp (disch:=omega) only[cond_true,vl,F2,c,D1,K8,j2,R7,V6,d,D9];cases f:Z4 (Dh s) with
 | true=>
  have:=Li f;have e:Ah (Dh s)=F0 16 0 ((Dh s).drop 2):=by
   unfold Ah;grind
  simp[e]
 | false=>
  simp only[cond_false,p6,if_false];cases F0 10 0 (Dh s) with
  | none=>simp
  | some v=>cases Dh s<;>rfl
def PI{R:Type}{c:Bool->Option R}(s:By)(a:A3 s.length=true):Yr LF s c=c (E9 s):=by
 have j:=L7 a;have i:=Bn s;have h:=Nk (RP s);have e:=CP s;have d:((C8 s).length:Int)-1=(((C8 s).length-1:Nat):Int):=by omega
 unfold Yr E9;rw[a,Cv5];simp (disch:=omega) only[cond_true,vl,F2,d,D1,K8,j2,R7,V6,e,D9];generalize Dh s=l at *;cases (!l.isEmpty&&(F0 10 0 l).isSome) with
 | true=>rfl
 | false=>
  simp only[cond_false,p6,if_false];cases Ah l with
  | none=>rfl
  | some v=>
   simp only[o7,cond_true,if_true,Bu4];by_cases b:2<=l.length
   ·simp (disch:=omega) only[E7,K8,j4,cond_true,b,decide_true,an2];have f:=S6 (l.getD 1 0) 120 (by omega);have g:=S6 (l.getD 1 0) 88 (by omega);grind
   ·rw[A8];simp[b]
def YI{R:Type}{e:By->Option R}(b:Nat)(j:b<=9223372036854775808)(n:Int)(f:ltN n (b+1)=true):GI b n e=e (k9 n.toNat):=by
 obtain⟨a,g⟩:=E3.1 f;obtain⟨m,rfl⟩:=o5 a;have key:∀d:Nat,d<10->wu8 (A1 (48+(d:Int)))=((48+d:Nat):Int):=by
  intro d i;rw[A7,N2];rfl
 have c:∀d:Nat,d<10->[[SV.int .u8 ((48+d:Nat):Int)]]=[aa9 (48+d)].map E4:=by
  intro d i;rw[C42 (by omega)];rfl
 unfold GI;rw[j2];by_cases h:m<10
 ·rw[A8,key m h,ag1 h];simp only[cond_true,vl];rw[c m h,Y7,Z6];rfl
 ·have l:=Gw 19 (m / 10) (by omega) (by omega);rw[A6,show(10:Int)=((10:Nat):Int) from rfl,M8,Db];simp (disch:=omega) only[cond_false,vl,D1,cond_true,j2];rw[M5];simp only[cond_true];have k:=key (m % 10) (by omega);rw[A7] at k;rw[k,c (m % 10) (by omega),Y7,Z6,G3 (by simp;omega),X5 m h];rfl
def Cb3{R:Type}{f:Int->Option R}{c:Unit->Option R}(s:By):∀(r m n:Nat),m+r=256->r<n->Nn LF n s (m:Int) f c=match oct s with|some v=>(if m<=v then f (v:Int) else c ())|none=>c ():=by
 intro r
 induction r with
 | zero=>
  intro m n g i;obtain⟨n,rfl⟩:∃m,n=m+1:=⟨n-1,by omega⟩
  rw[Nn];rw[A6];cases h:oct s with
  | none=>rfl
  | some v=>have:=(Yc.1 h).1;simp only[cond_false];rw[G0]
 | succ r j=>
  intro m n g i;obtain⟨n,rfl⟩:∃m,n=m+1:=⟨n-1,by omega⟩
  rw[Nn];have b:((m:Int)+1)=((m+1:Nat):Int):=by omega
  simp (disch:=omega) only[B9,Sz,cond_true,vl,D1,j2];by_cases a:k9 m=s
  ·rw[show(k9 m==s)=true by simpa using a,Yc.2 ⟨by omega,a⟩];simp
  ·rw[show(k9 m==s)=false by simpa using a,cond_false,b,j (m+1) n (by omega) (by omega)];cases h:oct s with
   | none=>rfl
   | some v=>
    have:=(Yc.1 h).2;have:v≠m:=by intro e;subst e;exact a this
    simp only[];by_cases d:m<=v
    ·rw[if_pos d,R2]
    ·rw[if_neg d,G0]
def Cb4{R:Type}{a:Int->Bool->Option R}(s:By)(b:A3 s.length=true):Dj8 LF s a=a (N8 (oct s):Int) (oct s).isSome:=by have:=C5;unfold Dj8;refine j1 (Cb3 s 256 0 LF (by omega) (by omega)) ?_;cases oct s<;>rfl
def D67(s:By)(a b:Nat)(h:a<=b)(c:b<s.length):cut s (a:Int) ((b+1:Nat):Int)=cut s (a:Int) (b:Int)++[s.getD b 0]:=by rw[Fy,Fy,TF s b c,ac4 (by rw[y8];omega)]
def Cp6(s:By)(a:Nat):cut s (a:Int) (a:Int)=[]:=by rw[Fy];grind
def Ar4{R:Type}{k0:LL->Option R}(s:By)(p:s.length<=1000000000)(c:UInt8):∀(r i a n:Nat) (l:List By),i+r=s.length->r+1<n->a<=i->l.length<=i->
  X7 LF n s (c.toNat:Int) (a:Int) (i:Int) (D5 l) k0=k0 (D5 (l++M7 c (cut s (a:Int) (i:Int)) (s.drop i))):=by
 intro r
 induction r with
 | zero=>
  intro i a n l j o f k;obtain⟨n,rfl⟩:∃m,n=m+1:=⟨n-1,by omega⟩
  obtain⟨n,rfl⟩:∃m,n=m+1:=⟨n-1,by omega⟩
  have b:i=s.length:=by omega
  subst b;rw[X7];simp (disch:=omega) only[E7,j4,cond_true,beq_self_eq_true,Ay,F2,F8,D1];rw[X7];rw[A8,List.drop_length];simp only[j5,cond_false,M7,Zl];rfl
 | succ r g=>
  intro i a n l j o f k;obtain⟨n,rfl⟩:∃m,n=m+1:=⟨n-1,by omega⟩
  rw[X7];have d:((i:Int)+1)=((i+1:Nat):Int):=by omega
  have e:((i:Int)==(s.length:Int))=false:=by rw[beq_eq_false_iff_ne];omega
  simp (disch:=omega) only[E7,j4,cond_true,cond_false,e,K8,D3,Dv8,Ay,F2,F8,D1];rw[d,D6 s i (by omega)];simp only[M7];by_cases h:s.getD i 0=c
  ·rw[show(s.getD i 0==c)=true by simpa using h,if_pos h,cond_true];have:=g (i+1) (i+1) n (l++[cut s (a:Int) (i:Int)]) (by omega) (by omega) (by omega) (by simp<;>omega);rw[Zl] at this;refine j1 this ?_;rw[Cp6];simp
  ·rw[show(s.getD i 0==c)=false from beq_eq_false_iff_ne.2 h,if_neg h,cond_false];rw[g (i+1) a n l (by omega) (by omega) (by omega) (by omega),D67 s a i f (by omega)]
def Bl2{R:Type}{k0:LL->Option R}(s:By)(c:Int)(a:A3 s.length=true)(d:inR c 256=true):NJ LF s c k0=k0 (D5 (pcs (u8n c) s)):=by
 have f:=L7 a;have:=C5;simp only[inR,ab0,decide_eq_true_eq] at d;have e:c=((u8n c).toNat:Int):=by
  unfold u8n;simp;omega
 unfold NJ;generalize u8n c=b at *;subst e;have:=Ar4 (k0:=k0) s f b s.length 0 0 LF [] (by omega) (by omega) (by omega) (by simp);refine j1 this ?_;rw[Cp6];rfl
def Aw3(c:UInt8)(s:By):(D5 (pcs c s)).isEmpty=false:=by
 cases h:pcs c s with
 | nil=>exact absurd h (ZO c s)
 | cons a r=>rfl
def Ar5(s:By)(c:Int)(a:A3 s.length=true)(b:inR c 256=true):∃r H,NJ LF s c (λl=>rv (.fl 0) [.arr true 9 1 l])=rv r H/\r.stab [1] H = .s (.sl false false 1 (D5 (pcs (u8n c) s))):=by refine⟨_,_,Bl2 s c a b,?_⟩;simp[PV.stab,Sq,PV.snap,Aw3]
def C18(d:List By)(x:By)(m:Nat):ac1 (D5 (d++a8 (m+1) [])) d.length (G5 (j0 (D5 (d++a8 (m+1) [])) d.length []) 0 [SV.str x])=D5 ((d++[x])++a8 m []):=by
 have a:j0 (D5 (d++a8 (m+1) [])) d.length []=[SV.str []]:=by
  unfold D5;grind
 rw[a];simp only[G5,aj0,Zl];rw[show d.length=(D5 d).length by simp,ah9 _ _ (by omega),aq9,af2];simp[D5]
def Ak7{R:Type}{k0:By->Int->LL->Option R}(c:UInt8):∀(m n:Nat) (s:By) (d:List By),s.length<=1000000000->m=s.count c->d.length+m<=1000000000->m<n->
  ∃(f:List By) (e:By),pcs c s=f++[e]/\e.length<=s.length/\Bw LF n s [c] 0 ((d.length+m:Nat):Int) (d.length:Int) (D5 (d++a8 (m+1) [])) k0=k0 e ((d.length+m:Nat):Int) (D5 ((d++f)++[[]])):=by
 intro m
 induction m with
 | zero=>
  intro n s d k b x y;obtain⟨n,rfl⟩:∃m,n=m+1:=⟨n-1,by omega⟩
  have a:c∉s:=af7.1 b.symm;refine⟨[],s,Lp a,Nat.le_refl _,?_⟩;rw[Bw];rw[A6];simp
 | succ m z=>
  intro n s d k b x y;obtain⟨n,rfl⟩:∃m,n=m+1:=⟨n-1,by omega⟩
  rcases P0 c s with a|⟨p,r,rfl,a⟩
  ·rw[af7.2 a] at b;omega
  ·have i:m=r.count c:=by
    rw[List.count_append,List.count_cons,af7.2 a] at b;simp at b;omega
   simp only[ad8,ab9] at k;obtain⟨f,e,w,B,j⟩:=z n r (d++[p]) (by omega) i (by simp<;>omega) (by omega);refine⟨p::f,e,by rw[GU a,w];rfl,by simp<;>omega,?_⟩;rw[Bw];have l:((p.length:Int)+1)=((p.length+1:Nat):Int):=by omega
   have o:(d.length:Int)+1=((d.length+1:Nat):Int):=by omega
   have q:((p.length+1:Nat):Int).toNat=p.length+1:=by omega
   have A:(((p++c::r).length:Nat):Int)=((p.length+(r.length+1):Nat):Int):=by simp
   have t:(p++c::r).take p.length=p:=List.take_left' rfl;have u:(p++c::r).drop (p.length+1)=r:=by
    rw[show p++c::r=(p++[c])++r by simp,am4 (by simp)]
   rw[CI a];have v:(D5 (d++a8 (m+1+1) [])).length=d.length+(m+2):=by simp<;>omega
   simp (disch:=first|omega|(simp;omega)) only[B9,E7,D9,cond_true,cond_false,vl,Int.add_zero,D1,Ay,K8,v,j2,ad0,Q5,L1,t,C18];rw[decide_eq_true (show d.length<d.length+(m+2) by omega),cond_true,show((1:Nat):Int)=1 from rfl,l];simp (disch:=first|omega|(simp;omega)) only[D1,Ay,cond_true,Q5,q,u,o];have g:((((d++[p]).length+m:Nat):Int))=((d.length+(m+1):Nat):Int):=by simp<;>omega
   have h:(((d++[p]).length:Nat):Int)=((d.length+1:Nat):Int):=by simp
   rw[g,h] at j;rw[j];simp
def LM{R:Type}{k0:Unit->Option R}{g:Nat->LL->Option R}(s p:By)(v n:Int)(w:A3 s.length=true)(x:(p.length==1)=true)(y:(v==0)=true)(z:(n==(-1))=true) :
  LK LF s p v n k0 g=g (pcs (p.getD 0 0) s).length (D5 (pcs (p.getD 0 0) s)):=by
 have C:=L7 w;have:=C5;obtain⟨c,rfl⟩:∃c,p=[c]:=by
  match p,x with
  | [c],_=>exact⟨c,rfl⟩
 have:v=0:=by simpa using y
 subst this;have:n=-1:=by simpa using z
 subst this;have G:=Ht c s;have B:=Jo c s;obtain⟨d,D,u,F,h⟩:=Ak7 (R:=R) (k0:=λf a b=>cond (inR a (j8 b))
     (cond (decide ((b8 a)<(j8 b)))
      (vl (A1 (a+(1))) λe=>
      cond (J0 (0) e (j8 (ac1 b (b8 a) (G5 (j0 b (b8 a) []) 0 [(SV.str f)]))))
       (g ((b8 e)-0) (ac1 b (b8 a) (G5 (j0 b (b8 a) []) 0 [(SV.str f)])))
       (none))
      (none))
     (none)) c (s.count c) LF s [] C rfl (by simp<;>omega) (by omega)
 unfold LK;have i:A1 ((s.count c:Int)+1)=((s.count c+1:Nat):Int):=A7;have j:A1 ((s.length:Int)+1)=((s.length+1:Nat):Int):=A7;have k:(if ((s.length+1:Nat):Int)<((s.count c+1:Nat):Int) then ((s.length+1:Nat):Int) else ((s.count c+1:Nat):Int))=((s.count c+1:Nat):Int):=G0;have l:((s.count c+1:Nat):Int)-1=(s.count c:Int):=by omega
 have m:(a8 (s.count c+1) [SV.str ([]:By)])=D5 ([]++a8 (s.count c+1) []):=by simp[D5]
 simp only[aa5,vl,ad0,i,j,k,j2,m];rw[show((-1:Int)==0)=false from rfl,show([c]==([]:By))=false from rfl,show ltI (-1) 0=true from rfl,decide_eq_true (show(0:Int)<=((s.count c+1:Nat):Int) by omega),decide_eq_true (show((s.count c+1:Nat):Int)<=((s.count c+1:Nat):Int) by omega),F8 (by omega),l,A7];simp only[cond_true,cond_false,beq_self_eq_true,Bool.and_self];simp only[ae8,af3] at h;refine j1 h ?_;have o:(D5 ((([]:List By)++d)++[[]]))=D5 (d++a8 (0+1) []):=by simp
 have A:d.length=s.count c:=by grind
 have q:=C18 d D 0;rw[<-A,o];have t:(D5 (d++a8 (0+1) ([]:By))).length=d.length+1:=by simp
 have r:A1 ((d.length:Int)+1)=((d.length+1:Nat):Int):=A7;simp only[j2,q,t,vl,r];rw[F1,decide_eq_true (show d.length<d.length+1 by omega),Ay (by omega) (by omega) (by simp),u];simp
def Ak8(s p:By)(v n:Int)(a:A3 s.length=true)(b:(p.length==1)=true)(c:(v==0)=true)(d:(n==(-1))=true) :
  ∃r H,LK LF s p v n (λ_=>rv (.fl 0) [.arr true 9 1 []]) (λi l=>rv (.vw 0 0 i) [.arr false 9 1 l])=rv r H/\r.stab [1] H = .s (.sl false false 1 (D5 (pcs (p.getD 0 0) s))):=by
 refine⟨_,_,LM s p v n a b c d,?_⟩;simp[PV.stab,Sq,PV.snap,o9]
def Ac2{R:Type}{a:Nat->LL->Option R}(s p:By)(b:A3 s.length=true)(c:(p.length==1)=true):HG LF s p a=a (pcs (p.getD 0 0) s).length (D5 (pcs (p.getD 0 0) s)):=by unfold HG;rw[b,c];rfl
def RY{l:List By}{i:Nat}(h:i<l.length):l.getD i []∈l:=by grind
def Bb9{R:Type}{d:LL->Option R}(s:By)(b:A3 s.length=true):parts LF s d=d (D5 (C8 s)):=by
 have j:=L7 b;have g:=Jo 46 s;have i:=Ht 46 s;unfold parts;rw[b];have e:A1 (((pcs 46 s).length:Int)-1)=(((pcs 46 s).length-1:Nat):Int):=by rw[A7];omega
 simp only[cond_true,vl,aa5,show((1:Nat)==1)=true from rfl,F2,e,j2];by_cases c:1<(pcs 46 s).length
 ·rw[A8,F1,R7 (by omega),V6];have f:(pcs 46 s).getD ((pcs 46 s).length-1) []=(pcs 46 s).getLastD []:=by grind
  rw[f];by_cases a:(pcs 46 s).getLastD []=[]
  ·rw[a,show(([]:By)==[])=true from rfl,I3];have:C8 s=(pcs 46 s).dropLast:=by unfold C8;rw[if_pos ⟨c,a⟩]
   rw[this,ah7,L1,j2];simp[D5]
  ·rw[show((pcs 46 s).getLastD []==[])=false from beq_eq_false_iff_ne.2 a];have:C8 s=pcs 46 s:=by unfold C8;rw[if_neg (λh=>a h.2)]
   grind
 ·rw[A6];have:C8 s=pcs 46 s:=by unfold C8;rw[if_neg (λh=>c h.1)]
  grind
def Aq5{R:Type}{d:LL->Option R}(s:By)(b:A3 s.length=true):Aa6 LF s d=d (D5 (C8 s)):=by
 have j:=L7 b;have g:=Jo 46 s;have i:=Ht 46 s;unfold Aa6;rw[b];have e:A1 (((pcs 46 s).length:Int)-1)=(((pcs 46 s).length-1:Nat):Int):=by rw[A7];omega
 simp only[cond_true,vl,show u8n 46=46 from rfl,F2,e,j2];by_cases c:1<(pcs 46 s).length
 ·rw[A8,F1,R7 (by omega),V6];have f:(pcs 46 s).getD ((pcs 46 s).length-1) []=(pcs 46 s).getLastD []:=by grind
  rw[f];by_cases a:(pcs 46 s).getLastD []=[]
  ·rw[a,show(([]:By)==[])=true from rfl,I3];have:C8 s=(pcs 46 s).dropLast:=by unfold C8;rw[if_pos ⟨c,a⟩]
   rw[this,ah7,L1,j2];simp[D5]
  ·rw[show((pcs 46 s).getLastD []==[])=false from beq_eq_false_iff_ne.2 a];have:C8 s=pcs 46 s:=by unfold C8;rw[if_neg (λh=>a h.2)]
   grind
 ·rw[A6];have:C8 s=pcs 46 s:=by unfold C8;rw[if_neg (λh=>c h.1)]
  grind
def Kl(l:List By)(i:Nat)(h:i<l.length):l.drop i=l.getD i []::l.drop (i+1):=by simp_all
def Ca3{R:Type}{g:Unit->Option R}{j:Int->Option R}(l:List By)(B:1<=l.length)(L:l.length<=4)(A:∀x∈l,x.length<=1000000000):∀(r i v n:Nat),i+r=l.length->0<r->r<n->v<256 ^ i->
  Jr LF n (D5 l) (v:Int) (l.length:Int) (i:Int) g j=match Vf (8*(5-l.length)) v (l.drop i) with|some w=>j (w:Int)|none=>g ():=by
 intro r
 induction r with
 | zero=>intro i v n _ h;omega
 | succ r J=>
  intro i v n K _ M H;obtain⟨n,rfl⟩:∃m,n=m+1:=⟨n-1,by omega⟩
  rw[Jr,Kl l i (by omega)];have N:=A _ (RY (show i<l.length by omega));have f:X3=1099511627776:=rfl;have C:256 ^ i<=16777216:=by
   have:i=0\/i=1\/i=2\/i=3:=by omega
   rcases this with rfl|rfl|rfl|rfl<;>decide
  simp (disch:=omega) only[B9,F2,K8,cond_true,j2,R7,V6,D9,vl];simp only[Vf];have c:((i:Int)+1)=((i+1:Nat):Int):=by omega
  cases D:Ah (l.getD i []) with
  | none=>rfl
  | some q=>
   have F:=By3 D;have p:A1 ((l.length:Int)-1)=((l.length-1:Nat):Int):=by rw[A7];omega
   simp only[o7,j5,cond_false,N8,o6,p];by_cases G:r=0
   ·subst G;have t:l.drop (i+1)=[]:=j7 (by omega);have o:A1 (8*A1 (5-(l.length:Int)))=((8*(5-l.length):Nat):Int):=by
     rw[D1 (n:=5-(l.length:Int)) (by omega) (by omega),A7];omega
    have b:2 ^ (8*(5-l.length))*256 ^ i=4294967296:=by
     have:l.length=1\/l.length=2\/l.length=3\/l.length=4:=by omega
     grind
    have u:1*2 ^ (8*(5-l.length))<=4294967296:=by
     rw[<-b,ai2];exact ag9 _ (am2 (by omega))
    rw[t,A6,o,decide_eq_true (show(0:Int)<=((8*(5-l.length):Nat):Int) by omega)];simp only[cond_false,cond_true];have k:=Au8 1 (8*(5-l.length)) (by omega) (by omega);have I:v*2 ^ (8*(5-l.length))<4294967296:=by
     rw[<-b,Nat.mul_comm];exact Nat.mul_lt_mul_of_pos_left H (am2 (by omega))
    have e:=Au8 v (8*(5-l.length)) (by omega) (by omega);rw[show((1:Nat):Int)=1 from rfl] at k;rw[k,e,ai2];by_cases a:q<2 ^ (8*(5-l.length))
    ·rw[A8,if_pos a,Du5 _ _ (by omega) (by omega),GS v q _ a];simp only[j5,cond_false];obtain⟨n,rfl⟩:∃m,n=m+1:=⟨n-1,by omega⟩
     rw[Jr];rw[c,A7,A6];rfl
    ·rw[A6,if_neg a];rfl
   ·obtain⟨y,z,d⟩:∃y z,l.drop (i+1)=y::z:=⟨_,_,Kl l (i+1) (by omega)⟩
    rw[d,A8];simp only[cond_true];by_cases a:q<=255
    ·have e:=Au8 v 8 (by omega) (by omega);rw[show((8:Nat):Int)=8 from rfl] at e;rw[A6,if_pos a,e,Du5 _ _ (by omega) (by omega),GS v q 8 (by omega),c,A7];rw[<-d];exact J (i+1) _ n (by omega) (by omega) (by omega) (by rw[aa6];omega)
    ·rw[A8,if_neg a];rfl
def By8(free m:Nat):∀(l:List By) (v w:Nat),v<256 ^ m->Vf free v l=some w->w<256 ^ (m+(l.length-1))*2 ^ free
 | [],v,w,b,h=>by cases h
 | p::r,v,w,b,h=>by
  simp only[Vf] at h;cases a:Ah p with
  | none=>simp[a] at h
  | some q=>
   simp only[a] at h;cases r with
   | nil=>
    simp only at h;split at h
    ·rename_i c;cases h;simp only[ab9,ae8,Nat.add_sub_cancel,ah0];have:(v+1)*2 ^ free<=256 ^ m*2 ^ free:=Nat.mul_le_mul_right _ b;grind
    grind
   | cons y z=>
    simp only at h;split at h
    ·rename_i c;have:=By8 free (m+1) (y::z) (v*256+q) w (by rw[aa6];omega) h;grind
    grind
def Cw7{s:By}{w:Nat}(h:pnB s=some w):w<4294967296:=by
 unfold pnB at h;split at h
 ·cases h
 ·rename_i a;have b:=Bn s;have:=By8 _ 0 (C8 s) 0 w (by decide) h;have e:(C8 s).length=1\/(C8 s).length=2\/(C8 s).length=3\/(C8 s).length=4:=by omega
  grind
def Ca4{R:Type}{b:Int->Bool->Option R}(s:By)(a:A3 s.length=true):Dj0 LF s b=b (N8 (pnB s):Int) (pnB s).isSome:=by
 have f:=L7 a;have:=C5;have c:=Bn s;unfold Dj0;rw[a,F2];by_cases h:4<(C8 s).length
 ·rw[A8];unfold pnB;rw[if_pos h];rfl
 ·rw[A6];simp only[cond_true,cond_false];refine j1 (Ca3 (C8 s) c.1 (by omega) (λx g=>ae0 (Nk g) f) (C8 s).length 0 0 LF (by omega) (by omega) (by omega) (by decide)) ?_;have e:pnB s=Vf (8*(5-(C8 s).length)) 0 (C8 s):=by unfold pnB;rw[if_neg h]
  rw[p4,<-e];cases d:pnB s with
  | none=>rfl
  | some w=>
   have:=Cw7 d;simp only[N8,o6,o7];rw[Ok]
def Bj7{R:Type}{k0:Unit->Option R}{k1:Int->Option R}(l:List By)(F:1<=l.length)(L:l.length<=4)(D:∀x∈l,x.length<=1000000000):∀(r i v n:Nat),i+r=l.length->0<r->r<n->v<256 ^ i->
  Fe LF n (D5 l) ((v*2 ^ (32-8*i):Nat):Int) (i:Int) k0 k1=match Vf (8*(5-l.length)) v (l.drop i) with|some w=>k1 (w:Int)|none=>k0 ():=by
 intro r
 induction r with
 | zero=>intro i v n _ h;omega
 | succ r J=>
  intro i v n K _ M N;obtain⟨n,rfl⟩:∃m,n=m+1:=⟨n-1,by omega⟩
  rw[Fe,Kl l i (by omega)];have O:=D _ (RY (show i<l.length by omega));have k:X3=1099511627776:=rfl;have a:v*2 ^ (32-8*i)<4294967296:=by
   have:i=0\/i=1\/i=2\/i=3:=by omega
   rcases this with rfl|rfl|rfl|rfl
   all_goals omega
  simp (disch:=omega) only[B9,F2,K8,cond_true,j2,R7,V6,D9,vl];simp only[Vf];have c:((i:Int)+1)=((i+1:Nat):Int):=by omega
  cases G:Ah (l.getD i []) with
  | none=>rfl
  | some q=>
   have H:=By3 G;have A:A1 ((l.length:Int)-1)=((l.length-1:Nat):Int):=by rw[A7];omega
   simp only[o7,j5,cond_false,N8,o6,A];by_cases I:r=0
   ·subst I;have B:l.drop (i+1)=[]:=j7 (by omega);have u:A1 (8*A1 (5-(l.length:Int)))=((8*(5-l.length):Nat):Int):=by
     rw[D1 (n:=5-(l.length:Int)) (by omega) (by omega),A7];omega
    have f:2 ^ (8*(5-l.length))*256 ^ i=4294967296:=by
     have:l.length=1\/l.length=2\/l.length=3\/l.length=4:=by omega
     grind
    have C:1*2 ^ (8*(5-l.length))<=4294967296:=by
     rw[<-f,ai2];exact ag9 _ (am2 (by omega))
    have e:((i:Int)==((l.length-1:Nat):Int))=true:=by rw[beq_iff_eq];omega
    rw[B,e,u,decide_eq_true (show(0:Int)<=((8*(5-l.length):Nat):Int) by omega)];simp only[cond_true];have o:=Au8 1 (8*(5-l.length)) (by omega) (by omega);rw[show((1:Nat):Int)=1 from rfl] at o;rw[o,ai2];by_cases b:q<2 ^ (8*(5-l.length))
    ·rw[A8,if_pos b];simp only[j5,cond_false];obtain⟨n,rfl⟩:∃m,n=m+1:=⟨n-1,by omega⟩
     rw[Fe];rw[c,D1 (n:=((i+1:Nat):Int)) (by omega) (by omega),F2,A6];have:32-8*i=8*(5-l.length):=by omega
     rw[this] at a ⊢;rw[cond_false,A7];rfl
    ·rw[A6,if_neg b];rfl
   ·obtain⟨y,z,d⟩:∃y z,l.drop (i+1)=y::z:=⟨_,_,Kl l (i+1) (by omega)⟩
    have e:((i:Int)==((l.length-1:Nat):Int))=false:=by rw[beq_eq_false_iff_ne];omega
    rw[d,e];simp only[cond_false];by_cases b:q<=255
    ·have j:A1 (24-A1 (8*(i:Int)))=((24-8*i:Nat):Int):=by
      rw[D1 (n:=8*(i:Int)) (by omega) (by omega),A7];omega
     have g:q*2 ^ (24-8*i)<4294967296:=by
      have:i=0\/i=1\/i=2:=by omega
      clear a;rcases this with rfl|rfl|rfl
      ·show q*16777216<_;omega
      ·show q*65536<_;omega
      ·show q*256<_;omega
     have p:=Au8 q (24-8*i) (by omega) (by omega);rw[A6,if_pos b,j,decide_eq_true (show(0:Int)<=((24-8*i:Nat):Int) by omega),p,c,D1 (n:=((i+1:Nat):Int)) (by omega) (by omega)];have t:A1 (((v*2 ^ (32-8*i):Nat):Int)+((q*2 ^ (24-8*i):Nat):Int))=(((v*256+q)*2 ^ (32-8*(i+1)):Nat):Int):=by
      rw[A7];have:i=0\/i=1\/i=2:=by omega
      clear a g p j;rcases this with rfl|rfl|rfl
      ·show((v*4294967296:Nat):Int)+((q*16777216:Nat):Int)=(((v*256+q)*16777216:Nat):Int);omega
      ·show((v*16777216:Nat):Int)+((q*65536:Nat):Int)=(((v*256+q)*65536:Nat):Int);omega
      ·show((v*65536:Nat):Int)+((q*256:Nat):Int)=(((v*256+q)*256:Nat):Int);omega
     rw[t,<-d];exact J (i+1) _ n (by omega) (by omega) (by omega) (by rw[aa6];omega)
    ·rw[A8,if_neg b];rfl
def Bj8{R:Type}{k0:Int->Bool->Option R}(s:By)(a:A3 s.length=true):Bz9 LF s k0=k0 (N8 (pnB s):Int) (pnB s).isSome:=by
 have f:=L7 a;have:=C5;have c:=Bn s;unfold Bz9;rw[a,F2];by_cases h:4<(C8 s).length
 ·rw[A8];unfold pnB;rw[if_pos h];rfl
 ·rw[A6];simp only[cond_true,cond_false];have b:=Bj7 (k0:=λ_=>k0 0 false) (k1:=λv=>k0 (DR v) true) (C8 s) c.1 (by omega) (λx g=>ae0 (Nk g) f) (C8 s).length 0 0 LF (by omega) (by omega) (by omega) (by decide);rw[Nat.zero_mul] at b;refine j1 b ?_;have e:pnB s=Vf (8*(5-(C8 s).length)) 0 (C8 s):=by unfold pnB;rw[if_neg h]
  rw[p4,<-e];cases d:pnB s with
  | none=>rfl
  | some w=>
   have:=Cw7 d;simp only[N8,o6,o7];rw[Ok]
def By4:∀(l:List By) (v w m:Nat),v<256 ^ m->MN v l=some w->w<256 ^ (m+l.length)
 | [],v,w,m,b,h=>by simp only[MN,o8] at h;subst h;simpa using b
 | p::r,v,w,m,b,h=>by
  simp only[MN] at h;cases a:oct p with
  | none=>simp[a] at h
  | some q=>
   simp only[a] at h;have c:=(Yc.1 a).1;have:=By4 r (v*256+q) w (m+1) (by rw[aa6];omega) h;grind
def Dh9(s:By):oct s=match F0 10 0 s with|some n=>(if n<=255 then (if k9 n=s then some n else none) else none)|none=>none:=by unfold oct;grind
def C53{R:Type}{e:Unit->Option R}{f:Int->Option R}(l:List By)(z:l.length=4)(j:∀x∈l,x.length<=1000000000):∀(r i v n:Nat),i+r=4->r<n->v<256 ^ i->
  Wb LF n (v:Int) (D5 l) 4 (i:Int) e f=match MN v (l.drop i) with|some w=>f (w:Int)|none=>e ():=by
 intro r
 induction r with
 | zero=>
  intro i v n h k u;obtain⟨n,rfl⟩:∃m,n=m+1:=⟨n-1,by omega⟩
  rw[Wb];rw[A6,j7 (by omega)];rfl
 | succ r y=>
  intro i v n h k u;obtain⟨n,rfl⟩:∃m,n=m+1:=⟨n-1,by omega⟩
  rw[Wb,Kl l i (by omega)];have A:=j _ (RY (show i<l.length by omega));have o:256 ^ i<=16777216:=by
   have:i=0\/i=1\/i=2\/i=3:=by omega
   grind
  simp (disch:=omega) only[B9,F2,K8,cond_true,j2,R7,V6,D9,Sz,vl];simp only[MN];have b:((i:Int)+1)=((i+1:Nat):Int):=by omega
  rw[Dh9];cases p:F0 10 0 (l.getD i []) with
  | none=>rfl
  | some q=>
   have t:=KY (by unfold X3;omega) p;have d:X3=1099511627776:=rfl;simp only[o7,j5,cond_false,N8,o6,j2];by_cases c:q<=255
   ·rw[A6,if_pos c,M5];simp only[cond_false,cond_true];by_cases a:k9 q=l.getD i []
    ·have g:=D84 v 8 (by omega) (by omega);rw[show((8:Nat):Int)=8 from rfl] at g;rw[show(k9 q==l.getD i [])=true by simpa using a,if_pos a,g,Ok,D66 _ _ (by omega) (by omega),GS v q 8 (by omega),b,A7];exact y (i+1) _ n (by omega) (by omega) (by rw[aa6];omega)
    ·rw[show(k9 q==l.getD i [])=false from beq_eq_false_iff_ne.2 a,if_neg a];rfl
   ·rw[A8,if_neg c];rfl
def C54{R:Type}{b:Int->Bool->Option R}(s:By)(a:A3 s.length=true):v4p LF s b=b (N8 (v4B s):Int) (v4B s).isSome:=by
 have c:=L7 a;have:=C5;unfold v4p v4B;rw[a];simp only[cond_true,vl,aa5,F2,show((1:Nat)==1)=true from rfl];by_cases h:(pcs 46 s).length=4
 ·rw[if_pos h,h,show(((4:Nat):Int)!=4)=false from rfl,cond_false];refine j1 (C53 (pcs 46 s) h (λx d=>ae0 (Cv d).2 c) 4 0 0 LF (by omega) (by omega) (by decide)) ?_;rw[p4];cases MN 0 (pcs 46 s)<;>rfl
 ·rw[if_neg h,show(((pcs 46 s).length:Int)!=4)=true by simp<;>omega];rfl
def Ce6{R:Type}{b:Unit->Option R}{c:Int->Option R}(l:List By)(y:l.length=4)(h:∀x∈l,x.length<=1000000000):∀(r i v n:Nat),i+r=4->r<n->v<256 ^ i->
  Ny LF n (D5 l) (v:Int) (i:Int) b c=match MN v (l.drop i) with|some w=>c (w:Int)|none=>b ():=by
 intro r
 induction r with
 | zero=>
  intro i v n g j t;obtain⟨n,rfl⟩:∃m,n=m+1:=⟨n-1,by omega⟩
  rw[Ny];rw[A6,j7 (by omega)];rfl
 | succ r u=>
  intro i v n g j t;obtain⟨n,rfl⟩:∃m,n=m+1:=⟨n-1,by omega⟩
  rw[Ny,Kl l i (by omega)];have z:=h _ (RY (show i<l.length by omega));have k:256 ^ i<=16777216:=by
   have:i=0\/i=1\/i=2\/i=3:=by omega
   grind
  simp (disch:=omega) only[B9,F2,K8,cond_true,j2,R7,V6,D9,Sz,vl];simp only[MN];have a:((i:Int)+1)=((i+1:Nat):Int):=by omega
  cases o:oct (l.getD i []) with
  | none=>rfl
  | some q=>
   have p:=(Yc.1 o).1;simp only[o7,j5,cond_false,N8,o6];have d:DR ((v:Int)*256)=((v*256:Nat):Int):=by rw[Ok];simp
   have e:DR (q:Int)=(q:Int):=Ok;have f:DR (((v*256:Nat):Int)+(q:Int))=((v*256+q:Nat):Int):=by rw[Ok];simp
   rw[d,e,f,a,A7];exact u (i+1) _ n (by omega) (by omega) (by rw[aa6];omega)
def Ce7{R:Type}{b:Int->Bool->Option R}(s:By)(a:A3 s.length=true):Dm3 LF s b=b (N8 (v4B s):Int) (v4B s).isSome:=by
 have c:=L7 a;have:=C5;unfold Dm3 v4B;rw[a];simp only[cond_true,vl,show u8n 46=46 from rfl,F2];by_cases h:(pcs 46 s).length=4
 ·rw[if_pos h,h,show(((4:Nat):Int)!=4)=false from rfl,cond_false];refine j1 (Ce6 (pcs 46 s) h (λx d=>ae0 (Cv d).2 c) 4 0 0 LF (by omega) (by omega) (by decide)) ?_;rw[p4];cases MN 0 (pcs 46 s)<;>rfl
 ·rw[if_neg h,show(((pcs 46 s).length:Int)!=4)=true by simp<;>omega];rfl
def C52{R:Type}{j:By->Option R}(v:Int)(o:ltN v 4294967296=true):v4f LF v j=j (V4 v.toNat):=by
 obtain⟨c,p⟩:=E3.1 o;obtain⟨m,rfl⟩:=o5 c;have:=C5;obtain⟨f,q⟩:∃f,LF=f+1+1+1+1+1:=⟨LF-5,by omega⟩
 have step:∀(n:Nat) (i:Nat) (out:By) (K:By->Option R),i<=24->out.length<=1000->Jb LF (n+1) (m:Int) out (i:Int) K=Jb LF n (m:Int) (out++(k9 (m / 2 ^ i % 256)++[46])) ((i:Int)-8) K:=by
  intro n i out K y A;rw[Jb];have g:m / 2 ^ i<4294967296:=Nat.lt_of_le_of_lt (ah6 _ _) (by omega);have k:A19 .u32 (Pc .u32 (m:Int) (i:Int)) 255=((m / 2 ^ i % 256:Nat):Int):=by
   rw[Sm .u32 m i (by show i<=32;omega),show(255:Int)=((255:Nat):Int) from rfl,Dw7 _ _ g (by omega),Dw6]
  have z:=G1 (m / 2 ^ i % 256) (by omega);have l:A1 ((m / 2 ^ i % 256:Nat):Int)=((m / 2 ^ i % 256:Nat):Int):=A7;rw[A6,decide_eq_true (show(0:Int)<=(i:Int) by omega),k];simp only[vl,l,j2,j4,cond_true];rw[M5,G3 (by omega),G3 (by simp<;>omega),A7];rfl
 have b:∀(n:Nat) (out:By) (K:By->Option R),Jb LF (n+1) (m:Int) out (-8) K=K out:=by
  intro n out K;rw[Jb];simp_all
 have x:=G1 (m / 2 ^ 24 % 256) (by omega);have w:=G1 (m / 2 ^ 16 % 256) (by omega);have D:=G1 (m / 2 ^ 8 % 256) (by omega);have C:=G1 (m / 2 ^ 0 % 256) (by omega);have u:=G1 (m / 16777216 % 256) (by omega);have t:=G1 (m / 65536 % 256) (by omega);have B:=G1 (m / 256 % 256) (by omega);have r:=G1 (m % 256) (by omega);unfold v4f;rw[show Jb LF LF=Jb LF (f+1+1+1+1+1) by rw[<-q]];rw[show(24:Int)=((24:Nat):Int) from rfl,step _ 24 _ _ (by omega) (by simp)];rw[show((24:Nat):Int)-8=((16:Nat):Int) from rfl,step _ 16 _ _ (by omega) (by simp<;>omega)];rw[show((16:Nat):Int)-8=((8:Nat):Int) from rfl,step _ 8 _ _ (by omega) (by simp<;>omega)];rw[show((8:Nat):Int)-8=((0:Nat):Int) from rfl,step _ 0 _ _ (by omega) (by simp<;>omega)];rw[show((0:Nat):Int)-8=-8 from rfl,b];have h:m / 2 ^ 24 % 256=m / 16777216:=by omega
 have e:(([]:By)++(k9 (m / 2 ^ 24 % 256)++[46])++(k9 (m / 2 ^ 16 % 256)++[46])++(k9 (m / 2 ^ 8 % 256)++[46])++(k9 (m / 2 ^ 0 % 256)++[46]))=V4 m++[46]:=by
  unfold V4;grind
 have a:(V4 m++[46]).length<=1000:=by rw[<-e];simp;omega
 rw[e];have d:((V4 m++[46]).length:Int)-1=((V4 m).length:Int):=by simp<;>omega
 simp only[vl,d];simp only[ad8,ad0] at a;rw[A7,Ay (by omega) (by omega) (by simp<;>omega),L1,j2,j2];grind
def Ce5{R:Type}{b:By->Option R}(v:Int)(f:ltN v 4294967296=true):Dm1 LF v b=b (V4 v.toNat):=by
 obtain⟨a,g⟩:=E3.1 f;obtain⟨m,rfl⟩:=o5 a;have i:=G1 (m / 16777216) (by omega);have h:=G1 (m / 65536 % 256) (by omega);have l:=G1 (m / 256 % 256) (by omega);have k:=G1 (m % 256) (by omega);have c:Pc .u32 (m:Int) 24=((m / 16777216:Nat):Int):=Sm .u32 m 24 (by decide);have d:Pc .u32 (m:Int) 16=((m / 65536:Nat):Int):=Sm .u32 m 16 (by decide);have e:Pc .u32 (m:Int) 8=((m / 256:Nat):Int):=Sm .u32 m 8 (by decide);have t:∀x:Nat,ab3 (x:Int) 256=((x % 256:Nat):Int):=λx=>Db x 256
 have w:∀x:Nat,x<4294967296->A1 (x:Int)=(x:Int):=λx j=>A7
 unfold Dm1;simp only[vl,c,d,e,t];rw[w _ (by omega),w _ (by omega),w _ (by omega),w _ (by omega)];simp only[j2];rw[M5,M5,M5,M5];simp only[cond_true];rw[G3 (by omega),G3 (by simp<;>omega),G3 (by simp<;>omega),G3 (by simp<;>omega),G3 (by simp<;>omega),G3 (by simp<;>omega)];simp only[cond_true,V4,j2];grind
def ZV{R:Type}{g:Unit->Option R}{h:By->Option R}(s:By)(q:s.length<=1000000000):∀(r i n v:Nat),i+r=s.length->r<n->Bo LF n s (i:Int) g h=if (F0 10 v (s.drop i)).isSome then h s else g ():=by
 intro r
 induction r with
 | zero=>
  intro i n v k l;obtain⟨n,rfl⟩:∃m,n=m+1:=⟨n-1,by omega⟩
  rw[Bo];rw[A6,j7 (by omega)];rfl
 | succ r o=>
  intro i n v k l;obtain⟨n,rfl⟩:∃m,n=m+1:=⟨n-1,by omega⟩
  rw[Bo,D6 s i (by omega)];rw[D3];have j:=(s.getD i 0).toNat_lt;generalize s.getD i 0=b at *;have f:((i:Int)+1)=((i+1:Nat):Int):=by omega
  simp (disch:=omega) only[B9,K8,cond_true,D1];simp only[F0];rw[f,o (i+1) n (min (v*10+dig b) X3) (by omega) (by omega)];rcases Dt b with⟨a,d,e⟩|⟨a,d,e⟩|⟨a,d,e⟩|⟨a,d,p,e⟩
  ·simp only[if_pos (show dig b<10 by omega)];rw[A6,A6];rfl
  ·simp only[if_neg (show ¬dig b<10 by omega)];rw[A6,A8];rfl
  ·simp only[if_neg (show ¬dig b<10 by omega)];rw[A6,A8];rfl
  ·simp only[if_neg (show ¬dig b<10 by omega)];by_cases c:b.toNat<48
   ·rw[A8];rfl
   ·rw[A6,A8];rfl
def ZW{R:Type}{a:Bool->Option R}(s:By)(b:A3 s.length=true):GW LF s a=a (!s.isEmpty&&(F0 10 0 s).isSome):=by
 have c:=L7 b;have:=C5;unfold GW;refine j1 (ZV s c s.length 0 LF 0 (by omega) (by omega)) ?_;rw[p4];cases d:F0 10 0 s with
 | none=>simp
 | some v=>cases s<;>rfl
def Cb5{R:Type}{g:Int->Option R}(b:Int)(h:inR b 256=true):Cx3 LF b g=g (dig (u8n b):Int):=by
 simp only[inR,ab0,decide_eq_true_eq] at h;have j:b=((u8n b).toNat:Int):=by
  unfold u8n;simp;omega
 generalize u8n b=c at *;subst j;have i:=c.toNat_lt;unfold Cx3;simp only[Yj,Yi,vl];rcases Dt c with⟨d,f,e⟩|⟨d,f,e⟩|⟨d,f,e⟩|⟨d,f,o,e⟩
 ·have a:A1 (wu8 ((c.toNat:Int)-48))=((dig c:Nat):Int):=by
   rw[N2,A7];omega
  simp (disch:=omega) only[B9,E7,j5,j4,cond_false,cond_true,a]
 ·have a:A1 (A1 (wu8 ((c.toNat:Int)-97))+10)=((dig c:Nat):Int):=by
   rw[N2,D1 (n:=(c.toNat:Int)-97) (by omega) (by omega),A7];omega
  simp (disch:=omega) only[B9,E7,j5,j4,cond_false,cond_true,a]
 ·have a:A1 (A1 (wu8 ((c.toNat:Int)-65))+10)=((dig c:Nat):Int):=by
   rw[N2,D1 (n:=(c.toNat:Int)-65) (by omega) (by omega),A7];omega
  simp (disch:=omega) only[B9,E7,j5,j4,cond_false,cond_true,a]
 ·rw[e];by_cases k:c.toNat<48
  ·simp (disch:=omega) only[B9,E7,j5,j4,cond_false,cond_true];rfl
  ·by_cases l:c.toNat<65
   ·simp (disch:=omega) only[B9,E7,j5,j4,cond_false,cond_true];rfl
   ·by_cases m:c.toNat<97
    ·simp (disch:=omega) only[B9,E7,j5,j4,cond_false,cond_true];rfl
    ·simp (disch:=omega) only[B9,E7,j5,j4,cond_false,cond_true];rfl
def Aq3{R:Type}{g:Unit->Option R}{h:Int->Option R}(s:By)(p:s.length<=1000000000):∀(r i a n:Nat),i+r=s.length->r<n->a<=X3->
  Jt LF n s (a:Int) (i:Int) g h=match F0 16 a (s.drop i) with|some v=>h (v:Int)|none=>g ():=by
 intro r
 induction r with
 | zero=>
  intro i a n k l j;obtain⟨n,rfl⟩:∃m,n=m+1:=⟨n-1,by omega⟩
  rw[Jt];rw[A6,j7 (by omega)];rfl
 | succ r o=>
  intro i a n k l j;obtain⟨n,rfl⟩:∃m,n=m+1:=⟨n-1,by omega⟩
  rw[Jt,D6 s i (by omega)];rw[D3,Ka,Ad0];generalize s.getD i 0=b at *;have c:((i:Int)+1)=((i+1:Nat):Int):=by omega
  have f:X3=1099511627776:=rfl;simp (disch:=omega) only[B9,K8,cond_true,vl,D1];simp only[F0];rw[c];by_cases e:dig b<16
  ·have d:A1 (A1 ((a:Int)*16)+(dig b:Int))=((a*16+dig b:Nat):Int):=by
    rw[D1 (n:=(a:Int)*16) (by omega) (by omega),A7];simp
   rw[if_pos e,A8];simp (disch:=omega) only[D1,j5,cond_false] at d ⊢;rw[d,C17];exact o (i+1) _ n (by omega) (by omega) (by omega)
  ·rw[if_neg e,A6];rfl
def Bi5{R:Type}{f:Unit->Option R}{g:Int->Option R}(s:By)(t:s.length<=1000000000)(base:Nat)(q:base<=16):∀(r i a n:Nat),i+r=s.length->r<n->a<=X3->
  Gm LF n s (base:Int) (a:Int) (i:Int) f g=match F0 base a (s.drop i) with|some v=>g (v:Int)|none=>f ():=by
 intro r
 induction r with
 | zero=>
  intro i a n k l j;obtain⟨n,rfl⟩:∃m,n=m+1:=⟨n-1,by omega⟩
  rw[Gm];rw[A6,j7 (by omega)];rfl
 | succ r o=>
  intro i a n k l j;obtain⟨n,rfl⟩:∃m,n=m+1:=⟨n-1,by omega⟩
  rw[Gm,D6 s i (by omega)];rw[D3,Ka,Ad0];generalize s.getD i 0=b at *;have c:((i:Int)+1)=((i+1:Nat):Int):=by omega
  have e:X3=1099511627776:=rfl;simp only[F0,vl];rw[A8,F1,c,D1 (n:=((i+1:Nat):Int)) (by omega) (by omega)];simp only[cond_true];by_cases d:dig b<base
  ·have p:a*base<=1099511627776*16:=am7 (by omega) (by omega);have e0:A1 ((a:Int)*(base:Int))=((a*base:Nat):Int):=by
    rw[<-am3];exact A7
   have h:A1 (((a*base:Nat):Int)+(dig b:Int))=((a*base+dig b:Nat):Int):=by
    rw[A7];rfl
   rw[if_pos d,A8,e0,h,C17];exact o (i+1) _ n (by omega) (by omega) (by omega)
  ·rw[if_neg d,A6];rfl
def Cc7{R:Type}{a:Int->Bool->Option R}(s:By)(p:A3 s.length=true):Cz5 LF s a=a (N8 (Ah s):Int) (Ah s).isSome:=by
 have u:=L7 p;have:=C5;have o:∀x:By,x.length<=1000000000->Jt LF LF x 0 0 (λ_=>a 0 false) (λn=>a n true)=a (N8 (F0 16 0 x):Int) (F0 16 0 x).isSome:=by
  intro x f;refine j1 (Aq3 x f x.length 0 0 LF (by omega) (by omega) (by unfold X3;omega)) ?_;rw[p4];cases F0 16 0 x<;>rfl
 have c:∀(x:By) (b:Nat),b<=16->x.length<=1000000000->Gm LF LF x (b:Int) 0 0 (λ_=>a 0 false) (λn=>a n true)=a (N8 (F0 b 0 x):Int) (F0 b 0 x).isSome:=by
  intro x b q f;refine j1 (Bi5 x f b q x.length 0 0 LF (by omega) (by omega) (by unfold X3;omega)) ?_;rw[p4];cases F0 b 0 x<;>rfl
 have d:=λx=>c x 10 (by omega)
 have g:=λx=>c x 8 (by omega)
 have i:=λx=>c x 16 (by omega)
 rw[show((10:Nat):Int)=10 from rfl] at d;rw[show((8:Nat):Int)=8 from rfl] at g;rw[show((16:Nat):Int)=16 from rfl] at i;unfold Cz5 Ah;by_cases e:s=[]
 ·subst e;rfl
 have j:(s==([]:By))=false:=by simpa using e
 have t:0<s.length:=ad6.2 e;rw[if_neg e,j];simp only[cond_false,HC,HD,Sf,Sg,Si,vl];have k:=S6 (s.getD 0 0) 48 (by omega);have l:=S6 (s.getD 1 0) 120 (by omega);have m:=S6 (s.getD 1 0) 88 (by omega);rw[show((48:Nat):Int)=48 from rfl] at k;rw[show((120:Nat):Int)=120 from rfl] at l;rw[show((88:Nat):Int)=88 from rfl] at m;simp only[Ba,Bu4,k,l,m,show aa9 48=(48:UInt8) from rfl,show aa9 120=(120:UInt8) from rfl,show aa9 88=(88:UInt8) from rfl];by_cases r:2<=s.length
 ·simp (disch:=omega) only[E7,K8,Ay,j4,cond_true,Q5,show 1<s.length by omega,true_and];unfold Z4;grind
 ·rw[A8];have f:Z4 s=false:=by
   cases h:Z4 s with
   | false=>rfl
   | true=>have:=Li h;omega
  grind
def D65(a b:Nat)(c:a<65536)(d:b<65536):bOr .u16 (a:Int) (b:Int)=((a ||| b:Nat):Int):=by
 unfold bOr;rw[show ac7 .u16=16 from rfl,Dx1 16 a b (by omega) (by omega)];have:a ||| b<2 ^ 16:=ag2 (by omega) (by omega)
 exact Ks
def D83(a m:Nat)(h:a*2 ^ m<65536)(b:m<=16):Ss .u16 (a:Int) (m:Int)=((a*2 ^ m:Nat):Int):=by
 unfold Ss;rw[j2,show ac7 .u16=16 from rfl,ae9 b];have:(a:Int)*2 ^ m=((a*2 ^ m:Nat):Int):=by simp
 rw[this];exact Ks
def Bo4(v d:Nat)(b:v<4096)(a:d<16):bOr .u16 (Ss .u16 (v:Int) 4) (d:Int)=((v*16+d:Nat):Int):=by have:=D83 v 4 (by omega) (by omega);rw[show((4:Nat):Int)=4 from rfl] at this;rw[this,D65 _ _ (by omega) (by omega),GS v d 4 (by omega)]
def Cr1{R:Type}{c:Unit->Option R}{f:Int->Option R}(s:By)(B:s.length<=4):∀(r i v n:Nat),i+r=s.length->r<n->v<16 ^ i->
  Gb LF n s (v:Int) (s.length:Int) (i:Int) c f=match An v (s.drop i) with|some w=>f (w:Int)|none=>c ():=by
 intro r
 induction r with
 | zero=>
  intro i v n l o p;obtain⟨n,rfl⟩:∃m,n=m+1:=⟨n-1,by omega⟩
  rw[Gb];rw[A6,j7 (by omega)];rfl
 | succ r q=>
  intro i v n l o p;obtain⟨n,rfl⟩:∃m,n=m+1:=⟨n-1,by omega⟩
  rw[Gb,D6 s i (by omega)];rw[D3];have k:=(s.getD i 0).toNat_lt;generalize s.getD i 0=b at *;have j:((i:Int)+1)=((i+1:Nat):Int):=by omega
  have A:16 ^ i<=4096:=by
   have:i=0\/i=1\/i=2\/i=3:=by omega
   rcases this with rfl|rfl|rfl|rfl<;>decide
  simp (disch:=omega) only[B9,K8,cond_true,vl,D1,Xh,Xg,Xf];rw[j];simp only[An];have go:∀d:Nat,d<16->Gb LF n s ((v*16+d:Nat):Int) (s.length:Int) ((i+1:Nat):Int) c f=match An (v*16+d) (s.drop (i+1)) with|some w=>f (w:Int)|none=>c ():=
   λd z=>q (i+1) _ n (by omega) (by omega) (by rw[aa6];omega)
  rcases Dt b with⟨g,h,e⟩|⟨g,h,e⟩|⟨g,h,e⟩|⟨g,h,y,e⟩
  ·have a:Em (wu8 ((b.toNat:Int)-48))=((dig b:Nat):Int):=by rw[N2,Ks];omega
   simp (disch:=omega) only[B9,E7,j5,j4,cond_false,cond_true,a,Bo4,if_pos (show dig b<16 by omega)];exact go _ (by omega)
  ·have a:Em (wu8 (wu8 ((b.toNat:Int)-97)+10))=((dig b:Nat):Int):=by rw[Ad9 (n:=(b.toNat:Int)-97) (by omega) (by omega),N2,Ks];omega
   simp (disch:=omega) only[B9,E7,j5,j4,cond_false,cond_true,a,Bo4,if_pos (show dig b<16 by omega)];exact go _ (by omega)
  ·have a:Em (wu8 (wu8 ((b.toNat:Int)-65)+10))=((dig b:Nat):Int):=by rw[Ad9 (n:=(b.toNat:Int)-65) (by omega) (by omega),N2,Ks];omega
   simp (disch:=omega) only[B9,E7,j5,j4,cond_false,cond_true,a,Bo4,if_pos (show dig b<16 by omega)];exact go _ (by omega)
  ·rw[if_neg (show ¬dig b<16 by omega)];by_cases t:b.toNat<48
   ·simp (disch:=omega) only[B9,E7,j5,j4,cond_false,cond_true]
   ·by_cases u:b.toNat<65
    ·simp (disch:=omega) only[B9,E7,j5,j4,cond_false,cond_true]
    ·by_cases x:b.toNat<97
     ·simp (disch:=omega) only[B9,E7,j5,j4,cond_false,cond_true]
     ·simp (disch:=omega) only[B9,E7,j5,j4,cond_false,cond_true]
def B50{R:Type}{c:Int->Bool->Option R}(s:By)(d:A3 s.length=true):Cr3 LF s c=c (N8 (grp s):Int) (grp s).isSome:=by
 have:=C5;unfold Cr3 grp;by_cases a:s=[]
 ·subst a;rfl
 ·rw[show(s==([]:By))=false from beq_eq_false_iff_ne.2 a];by_cases b:4<s.length
  ·rw[A8,if_pos (.inr b)];rfl
  ·rw[A6,if_neg (by intro h;rcases h with h|h;exact a h;exact b h)];refine j1 (Cr1 s (by omega) s.length 0 0 LF (by omega) (by omega) (by decide)) ?_;rw[p4];cases An 0 s<;>rfl
def Ak3:∀(s:By) (v w m:Nat),v<16 ^ m->An v s=some w->w<16 ^ (m+s.length)
 | [],v,w,m,a,h=>by simp only[An,o8] at h;subst h;simpa using a
 | b::r,v,w,m,a,h=>by
  simp only[An] at h;split at h
  ·have:=Ak3 r (v*16+dig b) w (m+1) (by rw[aa6];omega) h;grind
  ·cases h
def Cr2{s:By}{v:Nat}(h:grp s=some v):v<65536:=by
 unfold grp at h;split at h
 ·cases h
 ·rename_i a;have:=Ak3 s 0 v 0 (by decide) h;have b:s.length<=4:=by omega
  have:16 ^ (0+s.length)<=16 ^ 4:=Nat.pow_le_pow_right (by omega) (by omega);omega
def Cb8{R:Type}{c:Unit->Option R}{f:Int->Option R}(s:By)(B:s.length<=4):∀(r i v n:Nat),i+r=s.length->r<n->v<16 ^ i->
  Gk LF n s (v:Int) (i:Int) c f=match An v (s.drop i) with|some w=>f (w:Int)|none=>c ():=by
 intro r
 induction r with
 | zero=>
  intro i v n l o p;obtain⟨n,rfl⟩:∃m,n=m+1:=⟨n-1,by omega⟩
  rw[Gk];rw[A6,j7 (by omega)];rfl
 | succ r q=>
  intro i v n l o p;obtain⟨n,rfl⟩:∃m,n=m+1:=⟨n-1,by omega⟩
  rw[Gk,D6 s i (by omega)];rw[D3];have k:=(s.getD i 0).toNat_lt;generalize s.getD i 0=b at *;have j:((i:Int)+1)=((i+1:Nat):Int):=by omega
  have A:16 ^ i<=4096:=by
   have:i=0\/i=1\/i=2\/i=3:=by omega
   rcases this with rfl|rfl|rfl|rfl<;>decide
  simp (disch:=omega) only[B9,K8,cond_true,vl,D1,Ym,Yl,Yk];rw[j];simp only[An];have go:∀d:Nat,d<16->Gk LF n s ((v*16+d:Nat):Int) ((i+1:Nat):Int) c f=match An (v*16+d) (s.drop (i+1)) with|some w=>f (w:Int)|none=>c ():=
   λd z=>q (i+1) _ n (by omega) (by omega) (by rw[aa6];omega)
  rcases Dt b with⟨g,h,e⟩|⟨g,h,e⟩|⟨g,h,e⟩|⟨g,h,y,e⟩
  ·have a:wu8 ((b.toNat:Int)-48)=(b.toNat:Int)-48:=N2;simp (disch:=omega) only[B9,E7,j5,j4,cond_false,cond_true,a,D1,if_pos (show dig b<16 by omega)];rw[show(v:Int)*16+((b.toNat:Int)-48)=((v*16+dig b:Nat):Int) by omega];exact go _ (by omega)
  ·have a:wu8 ((b.toNat:Int)-97)=(b.toNat:Int)-97:=N2;simp (disch:=omega) only[B9,E7,j5,j4,cond_false,cond_true,a,D1,if_pos (show dig b<16 by omega)];rw[show(v:Int)*16+((b.toNat:Int)-97)+10=((v*16+dig b:Nat):Int) by omega];exact go _ (by omega)
  ·have a:wu8 ((b.toNat:Int)-65)=(b.toNat:Int)-65:=N2;simp (disch:=omega) only[B9,E7,j5,j4,cond_false,cond_true,a,D1,if_pos (show dig b<16 by omega)];rw[show(v:Int)*16+((b.toNat:Int)-65)+10=((v*16+dig b:Nat):Int) by omega];exact go _ (by omega)
  ·rw[if_neg (show ¬dig b<16 by omega)];by_cases t:b.toNat<48
   ·simp (disch:=omega) only[B9,E7,j5,j4,cond_false,cond_true]
   ·by_cases u:b.toNat<65
    ·simp (disch:=omega) only[B9,E7,j5,j4,cond_false,cond_true]
    ·by_cases x:b.toNat<97
     ·simp (disch:=omega) only[B9,E7,j5,j4,cond_false,cond_true]
     ·simp (disch:=omega) only[B9,E7,j5,j4,cond_false,cond_true]
def Cb9{R:Type}{b:Int->Bool->Option R}(s:By)(f:A3 s.length=true):Cx9 LF s b=b (N8 (grp s):Int) (grp s).isSome:=by
 have:=C5;unfold Cx9;by_cases a:s=[]
 ·subst a;rfl
 ·have g:0<s.length:=ad6.2 a;rw[A6];by_cases c:4<s.length
  ·rw[A8];unfold grp;rw[if_pos (.inr c)];rfl
  ·rw[A6];refine j1 (Cb8 s (by omega) s.length 0 0 LF (by omega) (by omega) (by decide)) ?_;have e:grp s=An 0 s:=by
    unfold grp;grind
   rw[p4,<-e];cases d:grp s with
   | none=>rfl
   | some w=>
    have:=Cr2 d;simp only[N8,o6,o7];rw[Ks]
def H8(l:List Nat):(D2 l).length=l.length:=by simp[D2]
def Mb(a b:List Nat):D2 (a++b)=D2 a++D2 b:=by simp[D2]
def Zo(l:List Nat):(D2 l).isEmpty=l.isEmpty:=by cases l<;>rfl
def Nj{l:List Nat}{i:Nat}(h:i<l.length):okE ⟨true,false,[.int .u16]⟩ (D2 l) i 0=true:=by unfold okE D2;simp[j6,h,okS,SV.has]
def Ux(l:List Nat)(i:Nat):gE (D2 l) i 0=(l.getD i 0:Int):=by
 unfold gE gC D2;by_cases h:i<l.length
 ·simp[j6,j9 h,SV.gI]
 ·simp[j6,ah8 (show l.length<=i by omega),SV.gI]
def Lg:∀(last:Bool) (l:List By) (r:List Nat),De last l=some r->r.length<=2*l.length
 | last,[],r,h=>by simp only[De,o8] at h;subst h;simp
 | last,x::l,r,h=>by
  simp only[De] at h;split at h
  ·cases a:De last l with
   | none=>simp[a] at h
   | some q=>
    simp only[a,ad7,o8] at h;subst h;have:=Lg last l q a;grind
  grind
def Bq1{s:By}{v:Nat}(h:v4B s=some v):v<4294967296:=by
 unfold v4B at h;split at h
 ·rename_i a;have:=By4 (pcs 46 s) 0 v 0 (by decide) h;grind
 ·cases h
def Bw0:∀(last:Bool) (l:List By) (r:List Nat),De last l=some r->∀x∈r,x<65536
 | last,[],r,h,x,a=>by simp only[De,o8] at h;subst h;simp at a
 | last,y::l,r,h,x,a=>by
  simp only[De] at h;split at h
  ·rename_i v c;cases b:De last l with
   | none=>simp[b] at h
   | some q=>
    simp only[b,ad7,o8] at h;subst h;rcases an7.1 a with rfl|a
    ·exact Cr2 c
    ·exact Bw0 last l q b x a
  ·split at h
   ·rename_i v c;split at h
    ·simp only[o8] at h;subst h;have:=Bq1 c;grind
    grind
   ·cases h
def A76{R:Type}{k0:LL->Option R}{k1:LL->Option R}(last:Bool)(l:List By)(C:l.length<=1000000001)(w:∀x∈l,x.length<=1000000000):∀(r i n:Nat) (d:List Nat),i+r=l.length->r<n->d.length<=2*i->
  (∀q,De last (l.drop i)=some q->Ez LF n last (D5 l) (l.length:Int) (i:Int) (D2 d) k0 k1=k1 (D2 (d++q)))/\
  (De last (l.drop i)=none->∃k,Ez LF n last (D5 l) (l.length:Int) (i:Int) (D2 d) k0 k1=k0 k):=by
 intro r
 induction r with
 | zero=>
  intro i n d u y t;obtain⟨n,rfl⟩:∃m,n=m+1:=⟨n-1,by omega⟩
  rw[Ez,j7 (by omega)];rw[A6];refine⟨λq a=>?_,λh=>(by cases h)⟩;simp only[De,o8] at a;subst a;simp
 | succ r B=>
  intro i n d u y t;obtain⟨n,rfl⟩:∃m,n=m+1:=⟨n-1,by omega⟩
  rw[Ez,Kl l i (by omega)];have G:=w _ (RY (show i<l.length by omega));have f:((i:Int)+1)=((i+1:Nat):Int):=by omega
  simp (disch:=omega) only[B9,F2,K8,cond_true,j2,R7,V6,D9,vl,H8,F8,D1];rw[f];simp only[De];cases D:grp (l.getD i []) with
  | some v=>
   simp only[o7,cond_true,N8,o6];have c:D2 d++[[SV.int .u16 (v:Int)]]=D2 (d++[v]):=by rw[Mb];rfl
   rw[c];have:=B (i+1) n (d++[v]) (by omega) (by omega) (by simp<;>omega);refine⟨λq a=>?_,λh=>?_⟩
   ·cases b:De last (l.drop (i+1)) with
    | none=>simp[b] at a
    | some j=>
     simp only[b,ad7,o8] at a;subst a;rw[this.1 j b];simp
   ·cases b:De last (l.drop (i+1)) with
    | none=>exact this.2 b
    | some j=>simp[b] at h
  | none=>
   simp only[ad9,cond_false];cases z:v4B (l.getD i []) with
   | none=>
    simp only[ad9,j4,cond_true];exact⟨λq a=>(by cases a),λ_=>⟨_,rfl⟩⟩
   | some v=>
    have A:=Bq1 z;simp only[o7,j5,cond_false,N8,o6];cases last with
    | false=>
     simp only[j4,cond_true,p6,false_and,if_false];exact⟨λq a=>(by cases a),λ_=>⟨_,rfl⟩⟩
    | true=>
     simp only[j5,cond_false,true_and];by_cases F:r=0
     ·have e:l.drop (i+1)=[]:=j7 (by omega);rw[A6,e,if_pos rfl,show(16:Int)=((16:Nat):Int) from rfl,Sm .u32 v 16 (by decide)];refine⟨λq a=>?_,λh=>(by cases h)⟩;simp only[o8] at a;subst a;have o:Em ((v / 2 ^ 16:Nat):Int)=((v / 65536:Nat):Int):=Ks;have p:Em (v:Int)=((v % 65536:Nat):Int):=Ax7 v;rw[o,p,Mb];rfl
     ·have g:l.drop (i+1)≠[]:=by
       rw[Kl l (i+1) (by omega)];simp
      rw[A8,if_neg g];exact⟨λq a=>(by cases a),λ_=>⟨_,rfl⟩⟩
def Ai(c:UInt8){s:By}(a:s.length<=1000000000):(pcs c s).length<=1000000001:=by have:=Jo c s;grind
def A77(s:By)(last:Bool)(f:A3 s.length=true):∃r H,Bw1 LF s last (λl=>rv (.tup [.fl 0,.s (.bool true)]) [.arr true 25 1 l]) (λl=>rv (.tup [.fl 1,.s (.bool false)]) [.arr true 25 1 l,.arr true 25 1 []])=rv r H/\
  r.stab [1,0] H = .tup [.s (.sl (gvs s last).isEmpty (gvs s last).isEmpty 1 (D2 (gvs s last))),.s (.bool (P6 s last).isSome)]:=by
 have d:=L7 f;have:=C5;unfold Bw1 gvs P6;by_cases c:s=[]
 ·subst c;exact⟨_,_,rfl,rfl⟩
 ·rw[show(s==([]:By))=false from beq_eq_false_iff_ne.2 c,f,if_neg c];simp only[cond_false,cond_true,vl,aa5,F2,show((1:Nat)==1)=true from rfl];obtain⟨a,b⟩:=A76 (k0:=λl=>rv (.tup [.fl 1,.s (.bool false)]) [.arr true 25 1 l,.arr true 25 1 []]) (k1:=λl=>rv (.tup [.fl 0,.s (.bool true)]) [.arr true 25 1 l]) last (pcs 58 s) (Ai 58 d) (λx h=>ae0 (Cv h).2 d) (pcs 58 s).length 0 LF [] (by omega) (by have:=Ai 58 d;omega) (by simp);rw[p4] at a b;cases g:De last (pcs 58 s) with
  | some q=>
   refine⟨_,_,a q g,?_⟩;simp[PV.stab,Qb,Sq,PV.snap,N1,Zo]
  | none=>
   obtain⟨i,e⟩:=b g;refine⟨_,_,e,?_⟩;simp[PV.stab,Qb,Sq,PV.snap,N1,D2]
def LJ:∀(s:By) (v:Nat) (b:UInt8),b∈s->16<=dig b->An v s=none
 | c::r,v,b,h,a=>by
  simp only[An];rcases an7.1 h with rfl|h
  ·grind
  ·split
   ·exact LJ r _ b h a
   ·rfl
def Bq2{s:By}{v:Nat}(h:v4B s=some v):grp s=none:=by
 unfold v4B at h;split at h
 ·rename_i a;have b:(46:UInt8)∈s:=by
   apply ag0;intro c;rw[Lp c] at a;simp at a
  unfold grp;split
  ·rfl
  ·exact LJ s 0 46 b (by decide)
 ·cases h
def Bg5{R:Type}{k0:LL->Option R}{k1:LL->Option R}(last:Bool)(l:List By)(I:l.length<=1000000001)(D:∀x∈l,x.length<=1000000000):∀(r i n:Nat) (d:List Nat),i+r=l.length->r<n->d.length<=2*i->
  (∀q,De last (l.drop i)=some q->R9 LF n last (D5 l) (i:Int) (D2 d) k0 k1=k1 (D2 (d++q)))/\
  (De last (l.drop i)=none->∃k,R9 LF n last (D5 l) (i:Int) (D2 d) k0 k1=k0 k):=by
 intro r
 induction r with
 | zero=>
  intro i n d C F B;obtain⟨n,rfl⟩:∃m,n=m+1:=⟨n-1,by omega⟩
  rw[R9,j7 (by omega)];rw[F2,A6];refine⟨λq a=>?_,λh=>(by cases h)⟩;simp only[De,o8] at a;subst a;simp
 | succ r y=>
  intro i n d C F B;obtain⟨n,rfl⟩:∃m,n=m+1:=⟨n-1,by omega⟩
  rw[R9,Kl l i (by omega)];have L:=D _ (RY (show i<l.length by omega));have t:((i:Int)+1)=((i+1:Nat):Int):=by omega
  have w:A1 ((l.length:Int)-1)=((l.length-1:Nat):Int):=by rw[A7];omega
  simp (disch:=omega) only[B9,F2,K8,cond_true,j2,R7,V6,D9,vl,Lq,Lr,H8,F8,D1,cond_false];rw[t];simp only[De];have e:∀(f:v4B (l.getD i [])=none\/(last=false\/l.drop (i+1)≠[])),
    (∀q,(match grp (l.getD i []) with|some v=>(De last (l.drop (i+1))).map (v::·)|none=>match v4B (l.getD i []) with|some v=>if last=true/\l.drop (i+1)=[] then some [v / 65536,v % 65536] else none|none=>none)=some q->
     (cond (!(grp (l.getD i [])).isSome) (k0 (D2 d)) (R9 LF n last (D5 l) ((i+1:Nat):Int) (D2 d++[[SV.int .u16 (N8 (grp (l.getD i [])):Int)]]) k0 k1))=k1 (D2 (d++q)))/\
    ((match grp (l.getD i []) with|some v=>(De last (l.drop (i+1))).map (v::·)|none=>match v4B (l.getD i []) with|some v=>if last=true/\l.drop (i+1)=[] then some [v / 65536,v % 65536] else none|none=>none)=none->
     ∃k,(cond (!(grp (l.getD i [])).isSome) (k0 (D2 d)) (R9 LF n last (D5 l) ((i+1:Nat):Int) (D2 d++[[SV.int .u16 (N8 (grp (l.getD i [])):Int)]]) k0 k1))=k0 k):=by
   intro f;cases J:grp (l.getD i []) with
   | some v=>
    simp only[o7,j5,cond_false,N8,o6];have c:D2 d++[[SV.int .u16 (v:Int)]]=D2 (d++[v]):=by rw[Mb];rfl
    rw[c];have:=y (i+1) n (d++[v]) (by omega) (by omega) (by simp<;>omega);refine⟨λq a=>?_,λh=>?_⟩
    ·cases b:De last (l.drop (i+1)) with
     | none=>simp[b] at a
     | some z=>
      simp only[b,ad7,o8] at a;subst a;rw[this.1 z b];simp
    ·cases b:De last (l.drop (i+1)) with
     | none=>exact this.2 b
     | some z=>simp[b] at h
   | none=>
    simp only[ad9,j4,cond_true];refine⟨λq a=>?_,λ_=>⟨_,rfl⟩⟩;exfalso;cases g:v4B (l.getD i []) with
    | none=>rw[g] at a;cases a
    | some v=>
     rw[g] at a;rcases f with h|h|h
     ·rw[g] at h;cases h
     ·simp only[h,p6,false_and,if_false] at a;cases a
     ·simp only[if_neg (λhc:last=true/\l.drop (i+1)=[]=>h hc.2)] at a;cases a
  cases f:v4B (l.getD i []) with
  | none=>
   simp only[ad9,cond_false];have:=e (.inl f);simp only[f] at this;exact this
  | some v=>
   have H:=Bq1 f;have p:=Bq2 f;simp only[o7,cond_true,N8,o6];cases last with
   | false=>
    simp only[cond_false];have:=e (.inr (.inl rfl));simp only[f,N8] at this;exact this
   | true=>
    simp only[cond_true];by_cases K:r=0
    ·have j:l.drop (i+1)=[]:=j7 (by omega);have o:((i:Int)==(l.length:Int)-1)=true:=by rw[beq_iff_eq];omega
     rw[o,p,j];simp only[cond_true,and_self,if_true,o8];refine⟨λq a=>?_,λh=>(by cases h)⟩;subst a;rw[show(16:Int)=((16:Nat):Int) from rfl,Sm .u32 v 16 (by decide)];have w:Em ((v / 2 ^ 16:Nat):Int)=((v / 65536:Nat):Int):=Ks;have A:Em (v:Int)=((v % 65536:Nat):Int):=Ax7 v;rw[w,A];have c:D2 d++[[SV.int .u16 ((v / 65536:Nat):Int)],[SV.int .u16 ((v % 65536:Nat):Int)]]=D2 (d++[v / 65536,v % 65536]):=by rw[Mb];rfl
     rw[c];have G:0<n:=by omega
     exact(y (i+1) n (d++[v / 65536,v % 65536]) (by omega) (by omega) (by simp<;>omega)).1 [] (by rw[j];rfl) |>.trans (by simp)
    ·have u:l.drop (i+1)≠[]:=by
      rw[Kl l (i+1) (by omega)];simp
     have o:((i:Int)==(l.length:Int)-1)=false:=by rw[beq_eq_false_iff_ne];omega
     rw[o];simp only[cond_false];have:=e (.inr (.inr u));simp only[f,N8] at this;exact this
def Bg6(s:By)(last:Bool)(f:A3 s.length=true):∃r H,Ap5 LF s last (λl=>rv (.tup [.fl 0,.s (.bool true)]) [.arr true 25 1 l]) (λl=>rv (.tup [.fl 1,.s (.bool false)]) [.arr true 25 1 l,.arr true 25 1 []])=rv r H/\
  r.stab [1,0] H = .tup [.s (.sl (gvs s last).isEmpty (gvs s last).isEmpty 1 (D2 (gvs s last))),.s (.bool (P6 s last).isSome)]:=by
 have d:=L7 f;have:=C5;unfold Ap5 gvs P6;by_cases c:s=[]
 ·subst c;exact⟨_,_,rfl,rfl⟩
 ·rw[show(s==([]:By))=false from beq_eq_false_iff_ne.2 c,f,if_neg c];simp only[cond_false,cond_true,vl,show u8n 58=58 from rfl];obtain⟨a,b⟩:=Bg5 (k0:=λl=>rv (.tup [.fl 1,.s (.bool false)]) [.arr true 25 1 l,.arr true 25 1 []]) (k1:=λl=>rv (.tup [.fl 0,.s (.bool true)]) [.arr true 25 1 l]) last (pcs 58 s) (Ai 58 d) (λx h=>ae0 (Cv h).2 d) (pcs 58 s).length 0 LF [] (by omega) (by have:=Ai 58 d;omega) (by simp);rw[p4] at a b;cases g:De last (pcs 58 s) with
  | some q=>
   refine⟨_,_,a q g,?_⟩;simp[PV.stab,Qb,Sq,PV.snap,N1,Zo]
  | none=>
   obtain⟨i,e⟩:=b g;refine⟨_,_,e,?_⟩;simp[PV.stab,Qb,Sq,PV.snap,N1,D2]
def Dg1{j:Type}{W:List j}(h:W.length=8):∃a b c d e f g i,W=[a,b,c,d,e,f,g,i]:=by
 match W,h with
 | [a,b,c,d,e,f,g,i],_=>exact⟨a,b,c,d,e,f,g,i,rfl⟩
def r8(n:Nat):LL:=a8 n [SV.int .u16 0]
def Bd8(n:Nat):r8 n=D2 (a8 n 0):=by simp[r8,D2]
def LN{s:By}{last:Bool}{q:List Nat}(h:P6 s last=some q):gvs s last=q:=by unfold gvs;rw[h];rfl
def Db5(s:By):(w6 s [58,58]).1.length<=s.length/\(w6 s [58,58]).2.1.length<=s.length:=by unfold w6;grind
def B13{R:Type}{K:LL->LL->Option R}(X Y:List Nat)(h:X.length+Y.length<=8) :
  Rd (D2 X) (D2 Y) (r8 8) K=K (D2 (X++a8 (8-X.length-Y.length) 0++Y)) (D2 (X++a8 (8-X.length-Y.length) 0++Y)):=by
 unfold Rd;have n:(v8 0 (r8 8)++(v8 8 (D2 X)++ab2 (0+min (D2 X).length 8) (r8 8)))=D2 (X++a8 (8-X.length) 0):=by
  rw[H8,ae9 (show X.length<=8 by omega),o9 (l:=D2 X) (i:=8) (by rw[H8];omega),Mb,af3,Bd8,ac2,x9];unfold D2;rw[<-an5,List.drop_replicate]
 have m:A1 (8-(Y.length:Int))=((8-Y.length:Nat):Int):=by rw[A7];omega
 have o:(D2 (X++a8 (8-X.length) 0)).length=8:=by simp[H8]<;>omega
 have j:(v8 (8-Y.length) (D2 (X++a8 (8-X.length) 0))++(v8 (8-(8-Y.length)) (D2 Y)++ab2 (8-Y.length+min Y.length (8-(8-Y.length))) (D2 (X++a8 (8-X.length) 0))))=D2 (X++a8 (8-X.length-Y.length) 0++Y):=by
  rw[j7 (by rw[o];omega),o9 (l:=D2 Y) (by rw[H8];omega),Mb (X++_) Y,aa3]
  congr 1
  unfold D2;rw[<-an6,List.take_append,o9 (by omega),List.take_replicate];grind
 have k:(X++a8 (8-X.length-Y.length) 0++Y).length=8:=by simp<;>omega
 simp only[vl];rw[n];simp only[H8,m,j2];rw[j];simp only[H8];rw[show(r8 8).length=8 from rfl,show j8 (X++a8 (8-X.length) (0:Nat))=8 by simp<;>omega,I3,decide_eq_true (show 8-Y.length+(8-(8-Y.length))<=8 by omega)];simp only[decide_true,cond_true,Nat.le_refl,k];generalize (X++a8 (8-X.length-Y.length) 0++Y)=W at *;obtain⟨a,b,c,d,e,f,g,i,rfl⟩:=Dg1 k;rfl
def C59{R:Type}{k0:Int->Int->Int->Int->Int->Int->Int->Int->Bool->LL->LL->Option R}(s:By)(r:A3 s.length=true) :
  ∃l q,v6p LF s k0=k0 (v6c 0 s) (v6c 1 s) (v6c 2 s) (v6c 3 s) (v6c 4 s) (v6c 5 s) (v6c 6 s) (v6c 7 s) (v6B s).isSome l q:=by
 have C:=L7 r;have w:=Db5 s;unfold v6p v6c;rw[r];have bad:∀(h:v6B s=none),k0 0 0 0 0 0 0 0 0 false (r8 8) (r8 8)=k0 ((((v6B s).getD z8).getD 0 0:Nat):Int) ((((v6B s).getD z8).getD 1 0:Nat):Int) ((((v6B s).getD z8).getD 2 0:Nat):Int) ((((v6B s).getD z8).getD 3 0:Nat):Int) ((((v6B s).getD z8).getD 4 0:Nat):Int) ((((v6B s).getD z8).getD 5 0:Nat):Int) ((((v6B s).getD z8).getD 6 0:Nat):Int) ((((v6B s).getD z8).getD 7 0:Nat):Int) (v6B s).isSome (r8 8) (r8 8):=by
  intro h;rw[h];rfl
 simp (disch:=omega) only[cond_true,vl,D9];have j:v6B s=match P6 (w6 s [58,58]).1 (!(w6 s [58,58]).2.2),P6 (w6 s [58,58]).2.1 true with
  | some x,some y=>if (w6 s [58,58]).2.2 then (if x.length+y.length<=7 then some (x++a8 (8-x.length-y.length) 0++y) else none)
   else if x.length+y.length=8 then some (x++y) else none
  | _,_=>none:=rfl
 generalize (w6 s [58,58]).1=A at *;generalize (w6 s [58,58]).2.1=B at *;generalize (w6 s [58,58]).2.2=o at *;cases k:P6 A (!o) with
 | none=>exact⟨_,_,bad (by rw[j,k])⟩
 | some X=>
  cases m:P6 B true with
  | none=>exact⟨_,_,bad (by rw[j,k,m])⟩
  | some Y=>
   have u:X.length<=2000000002:=by
    unfold P6 at k;split at k
    ·grind
    ·have:=Lg _ _ _ k;have:=Ai 58 (s:=A) (by omega);omega
   have v:Y.length<=2000000002:=by
    unfold P6 at m;split at m
    ·grind
    ·have:=Lg _ _ _ m;have:=Ai 58 (s:=B) (by omega);omega
   rw[k,m] at j;simp only[LN k,LN m,H8,o7,j5,cond_false];rw[A7];have n:∀(W:List Nat),W.length=8->v6B s=some W->∃l q,(cond ((decide (8=(D2 W).length*1))&&(okS ⟨true,true,[.int .u16,.int .u16,.int .u16,.int .u16,.int .u16,.int .u16,.int .u16,.int .u16]⟩ (b9 (D2 W)) 0))
     (k0 (SV.gI (j0 (b9 (D2 W)) 0 SV.nilp)) (SV.gI (j0 (b9 (D2 W)) 1 SV.nilp)) (SV.gI (j0 (b9 (D2 W)) 2 SV.nilp)) (SV.gI (j0 (b9 (D2 W)) 3 SV.nilp)) (SV.gI (j0 (b9 (D2 W)) 4 SV.nilp)) (SV.gI (j0 (b9 (D2 W)) 5 SV.nilp)) (SV.gI (j0 (b9 (D2 W)) 6 SV.nilp)) (SV.gI (j0 (b9 (D2 W)) 7 SV.nilp)) true (D2 W) (D2 W)) none) =
     k0 ((((v6B s).getD z8).getD 0 0:Nat):Int) ((((v6B s).getD z8).getD 1 0:Nat):Int) ((((v6B s).getD z8).getD 2 0:Nat):Int) ((((v6B s).getD z8).getD 3 0:Nat):Int) ((((v6B s).getD z8).getD 4 0:Nat):Int) ((((v6B s).getD z8).getD 5 0:Nat):Int) ((((v6B s).getD z8).getD 6 0:Nat):Int) ((((v6B s).getD z8).getD 7 0:Nat):Int) (v6B s).isSome l q:=by
    intro W t h;rw[h];obtain⟨a,b,c,d,e,f,g,i,rfl⟩:=Dg1 t;exact⟨_,_,rfl⟩
   cases o with
   | false=>
    simp only[j4,cond_true,p6,if_false] at j ⊢;by_cases p:X.length+Y.length=8
    ·rw[if_pos p] at j;rw[show((X.length:Int)+(Y.length:Int)!=8)=false by simp;omega];simp only[cond_false];rw[show(a8 8 [SV.int ai1 0])=r8 8 from rfl,B13 X Y (by omega)];have z:8-X.length-Y.length=0:=by omega
     rw[z];simp only[List.replicate_zero,aa3];exact n (X++Y) (by simp<;>omega) j
    ·rw[if_neg p] at j;rw[show((X.length:Int)+(Y.length:Int)!=8)=true by simp;omega];exact⟨_,_,bad j⟩
   | true=>
    simp only[j5,cond_false,cond_true,if_true] at j ⊢;by_cases p:X.length+Y.length<=7
    ·rw[if_pos p] at j;rw[A6];simp only[cond_false];rw[show(a8 8 [SV.int ai1 0])=r8 8 from rfl,B13 X Y (by omega)];exact n _ (by simp<;>omega) j
    ·rw[if_neg p] at j;rw[A8];exact⟨_,_,bad j⟩
def Ab1(P T:List Nat)(t v:Nat):ac1 (D2 (P++t::T)) P.length (G5 (j0 (D2 (P++t::T)) P.length []) 0 [SV.int .u16 (v:Int)])=D2 (P++v::T):=by
 have a:j0 (D2 (P++t::T)) P.length []=[SV.int .u16 (t:Int)]:=by
  simp[D2,j6]
 rw[a];simp only[G5,aj0];simp[D2]
def C31(X T:List Nat)(i:Nat)(h:i<X.length):X.take (i+1)++T=X.take i++X.getD i 0::T:=by rw[aj9,j9 h,j6,j9 h,ab5];rfl
def D03{R:Type}{k0:LL->LL->Option R}(z:Bool)(X:List Nat)(h:X.length=8)(c:LL):∀(r i n:Nat),i+r=8->r<n->Oa LF n z (D2 X) (i:Int) c (D2 (X.take i++a8 r 0)) k0=k0 c (D2 X):=by
 intro r
 induction r with
 | zero=>
  intro i n d f;obtain⟨n,rfl⟩:∃m,n=m+1:=⟨n-1,by omega⟩
  rw[Oa];rw[A6,o9 (by omega)];simp
 | succ r g=>
  intro i n d f;obtain⟨n,rfl⟩:∃m,n=m+1:=⟨n-1,by omega⟩
  rw[Oa];have a:((i:Int)+1)=((i+1:Nat):Int):=by omega
  have e:(X.take i).length=i:=by rw[y8];omega
  have b:=Ab1 (X.take i) (a8 r 0) 0 (X.getD i 0);rw[e] at b;simp (disch:=first|omega|(simp[H8];omega)) only[B9,H8,K8,cond_true,j2,Nj,Ux,vl,D1,af2,b];rw[decide_eq_true (show i<j8 (X.take i++(0:Nat)::a8 r (0:Nat)) by simp<;>omega),a];simp only[cond_true];have:=g (i+1) n (by omega) (by omega);rw[C31 X _ i (by omega)] at this;exact this
def D04{R:Type}{k0:Bool->LL->LL->LL->Option R}(z:Bool)(X:List Nat)(k:X.length<=8)(e:Bool)(d c:LL):∀(r i n:Nat),i+r=X.length->r<n->Ob LF n z (D2 X) e d (i:Int) c (D2 (X.take i++a8 (8-i) 0)) k0=k0 e d c (D2 (X++a8 (8-X.length) 0)):=by
 intro r
 induction r with
 | zero=>
  intro i n f h;obtain⟨n,rfl⟩:∃m,n=m+1:=⟨n-1,by omega⟩
  rw[Ob];rw[H8,A6,o9 (by omega),show i=X.length by omega];rfl
 | succ r j=>
  intro i n f h;obtain⟨n,rfl⟩:∃m,n=m+1:=⟨n-1,by omega⟩
  rw[Ob];have a:((i:Int)+1)=((i+1:Nat):Int):=by omega
  have g:(X.take i).length=i:=by rw[y8];omega
  have b:=Ab1 (X.take i) (a8 (7-i) 0) 0 (X.getD i 0);rw[g] at b;rw[show 8-i=7-i+1 by omega,af2];simp (disch:=first|omega|(simp[H8];omega)) only[B9,H8,K8,cond_true,j2,Nj,Ux,vl,D1,b];rw[decide_eq_true (show i<j8 (X.take i++(0:Nat)::a8 (7-i) (0:Nat)) by simp<;>omega),a];simp only[cond_true];have:=j (i+1) n (by omega) (by omega);rw[C31 X _ i (by omega),show 8-(i+1)=7-i by omega] at this;exact this
def D05{R:Type}{k0:LL->LL->Option R}(z:Bool)(Y P:List Nat)(o:P.length+Y.length=8)(e:LL):∀(r i n:Nat) (T:List Nat),i+r=Y.length->r<n->T.length=r->Oc LF n z (D2 Y) (i:Int) e (D2 (P++Y.take i++T)) k0=k0 e (D2 (P++Y)):=by
 intro r
 induction r with
 | zero=>
  intro i n T h k a;obtain⟨n,rfl⟩:∃m,n=m+1:=⟨n-1,by omega⟩
  rw[Oc];rw[H8,A6,o9 (by omega),List.length_eq_zero_iff.1 a];simp
 | succ r l=>
  intro i n T h k a;obtain⟨n,rfl⟩:∃m,n=m+1:=⟨n-1,by omega⟩
  obtain⟨t,T,rfl⟩:∃t b,T=t::b:=by
   match T,a with
   | t::b,_=>exact⟨t,b,rfl⟩
  rw[Oc];have c:((i:Int)+1)=((i+1:Nat):Int):=by omega
  have j:(P++Y.take i).length=P.length+i:=by simp<;>omega
  have d:=Ab1 (P++Y.take i) T t (Y.getD i 0);rw[j] at d;have f:A1 (8-(Y.length:Int))=(P.length:Int):=by rw[A7];omega
  have g:A1 ((P.length:Int)+(i:Int))=((P.length+i:Nat):Int):=by rw[A7];rfl
  simp (disch:=first|omega|(simp[H8];omega)) only[B9,H8,K8,cond_true,j2,Nj,Ux,vl,f,g,D1,d];rw[decide_eq_true (show P.length+i<j8 (P++Y.take i++t::T) by simp<;>omega),c];simp only[cond_true];have:=l (i+1) n T (by omega) (by omega) (by simpa using a);rw[ab5,C31 Y _ i (by omega),<-ab5] at this;exact this
def Cf0{R:Type}{k0:Int->Int->Int->Int->Int->Int->Int->Int->Bool->LL->LL->Option R}(s:By)(B:A3 s.length=true) :
  ∃l L,C15 LF s k0=k0 (v6c 0 s) (v6c 1 s) (v6c 2 s) (v6c 3 s) (v6c 4 s) (v6c 5 s) (v6c 6 s) (v6c 7 s) (v6B s).isSome l L:=by
 have M:=L7 B;have F:=C5;unfold C15 v6c;rw[B];have bad:∀(h:v6B s=none),k0 0 0 0 0 0 0 0 0 false (r8 8) (r8 8)=k0 ((((v6B s).getD z8).getD 0 0:Nat):Int) ((((v6B s).getD z8).getD 1 0:Nat):Int) ((((v6B s).getD z8).getD 2 0:Nat):Int) ((((v6B s).getD z8).getD 3 0:Nat):Int) ((((v6B s).getD z8).getD 4 0:Nat):Int) ((((v6B s).getD z8).getD 5 0:Nat):Int) ((((v6B s).getD z8).getD 6 0:Nat):Int) ((((v6B s).getD z8).getD 7 0:Nat):Int) (v6B s).isSome (r8 8) (r8 8):=by
  intro h;rw[h];rfl
 have j:v6B s=match P6 (w6 s [58,58]).1 (!(w6 s [58,58]).2.2),P6 (w6 s [58,58]).2.1 true with
  | some x,some y=>if (w6 s [58,58]).2.2 then (if x.length+y.length<=7 then some (x++a8 (8-x.length-y.length) 0++y) else none)
   else if x.length+y.length=8 then some (x++y) else none
  | _,_=>none:=rfl
 have J:=Lib.index_room s [58,58];have I:=aq4 s [58,58];simp only[cond_true];by_cases C:KX s<0
 ·have n:w6 s [58,58]=(s,[],false):=by
   unfold w6;rw[if_neg (by unfold KX at C;omega)]
  rw[n] at j;simp only[j4,p6,if_false] at j;rw[B9 C];simp only[cond_true];cases m:P6 s true with
  | none=>
   rw[m] at j;exact⟨_,_,bad j⟩
  | some X=>
   have o:P6 [] true=some []:=rfl;have A:X.length<=2000000002:=by
    unfold P6 at m;split at m
    ·cases m;simp
    ·have:=Lg _ _ _ m;have:=Ai 58 (s:=s) (by omega);omega
   rw[m,o] at j;simp only[ae8,ah0,aa3] at j;simp only[o7,j5,cond_false,LN m,H8];by_cases p:X.length=8
   ·rw[if_pos p] at j;rw[show((X.length:Int)!=8)=false by simp;omega];simp only[cond_false];rw[show(a8 8 [SV.int ai1 0])=r8 8 from rfl];have h:=λK=>D03 (R:=R) (k0:=K) X.isEmpty X p (r8 8) 8 0 LF (by omega) (by omega)
    simp only[ac2,x9] at h;rw[<-Bd8] at h;rw[show((0:Nat):Int)=0 from rfl] at h;rw[h];rw[j];clear h j m bad;obtain⟨a,b,c,d,e,f,g,i,rfl⟩:=Dg1 p;exact⟨_,_,rfl⟩
   ·rw[if_neg p] at j;rw[show((X.length:Int)!=8)=true by simp;omega];exact⟨_,_,bad j⟩
 ·have r:0<=KX s:=by omega
  have q:=J r;obtain⟨k,t⟩:=o5 r;have w:k+2<=s.length:=by
   have:KX s+2<=(s.length:Int):=q;omega
  have n:w6 s [58,58]=(s.take k,s.drop (k+2),true):=by
   unfold w6;have:v7 s [58,58]=(k:Int):=t;rw[R2,this];rfl
  rw[n] at j;simp only[j5,if_true] at j;have D:A1 ((k:Int)+2)=((k+2:Nat):Int):=by rw[A7];rfl
  rw[t,A6,I3];simp only[cond_false,cond_true,vl,D,L1,Q5,j2];rw[D9 (by simp<;>omega),I3,D9 (by simp<;>omega)];simp only[cond_true];cases m:P6 (s.take k) false with
  | none=>
   rw[m] at j;exact⟨_,_,bad j⟩
  | some X=>
   cases o:P6 (s.drop (k+2)) true with
   | none=>
    rw[m,o] at j;exact⟨_,_,bad j⟩
   | some Y=>
    have A:X.length<=2000000002:=by
     unfold P6 at m;split at m
     ·cases m;simp
     ·have:=Lg _ _ _ m;have:=Ai 58 (s:=s.take k) (by simp<;>omega);omega
    have H:Y.length<=2000000002:=by
     unfold P6 at o;split at o
     ·cases o;simp
     ·have:=Lg _ _ _ o;have:=Ai 58 (s:=s.drop (k+2)) (by simp<;>omega);omega
    rw[m,o] at j;simp only[o7,j5,cond_false,LN m,LN o,H8];rw[A7];by_cases p:X.length+Y.length<=7
    ·simp only[if_pos p] at j;rw[A6];simp only[cond_false];rw[show(a8 8 [SV.int ai1 0])=r8 8 from rfl];have v:=λK=>D04 (R:=R) (k0:=K) X.isEmpty X (by omega) Y.isEmpty (D2 Y) (r8 8) X.length 0 LF (by omega) (by omega)
     simp only[ac2,x9] at v;rw[show(8-0:Nat)=8 from rfl,<-Bd8,show((0:Nat):Int)=0 from rfl] at v;rw[v];have u:X++a8 (8-X.length) 0=(X++a8 (8-X.length-Y.length) 0)++v8 0 Y++a8 Y.length 0:=by
      simp only[ac2,aa3,ab5];rw[List.replicate_append_replicate]
      congr 2
      omega
     have z:=λK=>D05 (R:=R) (k0:=K) Y.isEmpty Y (X++a8 (8-X.length-Y.length) 0) (by simp<;>omega) (r8 8) Y.length 0 LF (a8 Y.length 0) (by omega) (by omega) (by simp)
     rw[<-u,show((0:Nat):Int)=0 from rfl] at z;rw[z];rw[j];have G:j8 (X++a8 (8-X.length-Y.length) 0++Y)=8:=by simp<;>omega
     clear v z u j m o bad;generalize (X++a8 (8-X.length-Y.length) 0++Y)=W at *;obtain⟨a,b,c,d,e,f,g,i,rfl⟩:=Dg1 G;exact⟨_,_,rfl⟩
    ·simp only[if_neg p] at j;rw[A8];exact⟨_,_,bad j⟩
def NK{x:Nat}{r:List Nat}:Nv (x::r)=if x=0 then Nv r+1 else 0:=by unfold Nv;by_cases h:x=0<;>simp[h]
def HE(l:List Nat):Nv l<=l.length:=by unfold Nv;exact(List.takeWhile_sublist _).length_le
def C96{R:Type}{k0:Int->Int->Int->Int->LL->Option R}(W:List Nat)(l:W.length=8)(b a:Int)(i:Nat):∀(r j n:Nat),i+j+r=8->r<n->
  Jd LF n b a (i:Int) (j:Int) (D2 W) k0=k0 b a (i:Int) ((j+Nv (W.drop (i+j)):Nat):Int) (D2 W):=by
 intro r
 induction r with
 | zero=>
  intro j n f g;obtain⟨n,rfl⟩:∃m,n=m+1:=⟨n-1,by omega⟩
  rw[Jd];rw[A7,A6,j7 (by omega)];rfl
 | succ r k=>
  intro j n f g;obtain⟨n,rfl⟩:∃m,n=m+1:=⟨n-1,by omega⟩
  rw[Jd];have c:A1 ((i:Int)+(j:Int))=((i+j:Nat):Int):=by rw[A7];rfl
  have d:A1 ((j:Int)+1)=((j+1:Nat):Int):=by rw[A7];rfl
  have e:W.drop (i+j)=W.getD (i+j) 0::W.drop (i+(j+1)):=by
   rw[j6,j9 (by omega),o6,<-an8,x7]
  simp (disch:=first|omega|(simp[H8];omega)) only[c,d,B9,K8,cond_true,j2,Nj,Ux,vl];rw[e,NK];by_cases h:W.getD (i+j) 0=0
  ·rw[h,if_pos rfl,show(((0:Nat):Int)==0)=true from rfl,cond_true,k (j+1) n (by omega) (by omega)]
   congr 2
   omega
  ·rw[if_neg h,show(((W.getD (i+j) 0:Nat):Int)==0)=false by rw[beq_eq_false_iff_ne];omega];rfl
def Cj8{R:Type}{k0:Int->Int->LL->Option R}(W:List Nat)(f:W.length=8):∀(r i n z m:Nat),i+r=8->r<n->z<=8->m<=8->
  Fl LF n (z:Int) (m:Int) (i:Int) (D2 W) k0=k0 ((zGo (W.drop i) i z m).1:Nat) ((zGo (W.drop i) i z m).2:Nat) (D2 W):=by
 intro r
 induction r with
 | zero=>
  intro i n z m j o c l;obtain⟨n,rfl⟩:∃m,n=m+1:=⟨n-1,by omega⟩
  rw[Fl];rw[A6,j7 (by omega)];rfl
 | succ r d=>
  intro i n z m j o c l;obtain⟨n,rfl⟩:∃m,n=m+1:=⟨n-1,by omega⟩
  have e:=C5;rw[Fl];have a:=λK=>C96 (R:=R) (k0:=K) W f (z:Int) (m:Int) i r.succ 0 LF (by omega) (by omega)
  rw[show((0:Nat):Int)=0 from rfl] at a;simp only[af3,ah0] at a;rw[A8,cond_true,a];have g:W.drop i=W.getD i 0::W.drop (i+1):=by
   rw[j6,j9 (by omega),o6,x7]
  have k:=HE (W.drop i);rw[ac0] at k;have b:A1 ((i:Int)+1)=((i+1:Nat):Int):=by rw[A7];rfl
  rw[b];have c:zGo (W.drop i) i z m=if m<Nv (W.drop i) then zGo (W.drop (i+1)) (i+1) i (Nv (W.drop i)) else zGo (W.drop (i+1)) (i+1) z m:=by
   rw[g];rfl
  rw[c];by_cases h:m<Nv (W.drop i)
  ·rw[if_pos h,A8,cond_true];exact d (i+1) n i (Nv (W.drop i)) (by omega) (by omega) (by omega) (by omega)
  ·rw[if_neg h,A6,cond_false];exact d (i+1) n z m (by omega) (by omega) (by omega) (by omega)
def Rz{a b c d e f g i:Int}(h:ok8 a b c d e f g i=true):∃j k l m n o p q:Nat,a=j/\b=k/\c=l/\d=m/\e=n/\f=o/\g=p/\i=q/\j<65536/\k<65536/\l<65536/\m<65536/\n<65536/\o<65536/\p<65536/\q<65536:=by simp only[ok8,an4,List.all_nil,ag5,ab0,E3] at h;exact⟨a.toNat,b.toNat,c.toNat,d.toNat,e.toNat,f.toNat,g.toNat,i.toNat,by omega,by omega,by omega,by omega,by omega,by omega,by omega,by omega,by omega,by omega,by omega,by omega,by omega,by omega,by omega,by omega⟩
def Br6{R:Type}{j:Int->Int->LL->Option R}(a b c d e f g i:Int)(t:ok8 a b c d e f g i=true):B26 LF a b c d e f g i j=j ((zGo (n8 a b c d e f g i) 0 0 0).1:Nat) ((zGo (n8 a b c d e f g i) 0 0 0).2:Nat) (D2 (n8 a b c d e f g i)):=by obtain⟨k,l,m,n,o,p,q,r,rfl,rfl,rfl,rfl,rfl,rfl,rfl,rfl,h⟩:=Rz t;have:=C5;unfold B26;exact Cj8 [k,l,m,n,o,p,q,r] rfl 8 0 LF 0 0 rfl (by omega) (by omega) (by omega)
def Z3{n:Nat}(h:n<16):P9 n=[Lh n]:=by rw[P9,dif_pos h]
def X6{n:Nat}(h:¬n<16):P9 n=P9 (n / 16)++[Lh (n % 16)]:=by rw[P9,dif_neg h]
def Xl:∀n:Nat,n<65536->1<=(P9 n).length/\(P9 n).length<=4:=by
 intro n d;by_cases a:n<16
 ·rw[Z3 a];simp
 rw[X6 a];by_cases b:n / 16<16
 ·rw[Z3 b];simp
 rw[X6 b];by_cases c:n / 16 / 16<16
 ·rw[Z3 c];simp
 rw[X6 c,Z3 (show n / 16 / 16 / 16<16 by omega)];simp
def GK(d:Nat)(h:d<16):Lh d≠58:=by
 have:∀d:Fin 16,Lh d.val≠58:=by decide
 exact this ⟨d,h⟩
def B55(n:Nat):∃p d,P9 n=p++[d]/\d≠58:=by
 by_cases a:n<16
 ·exact⟨[],_,by rw[Z3 a];rfl,GK n a⟩
 ·exact⟨_,_,X6 a,GK _ (by omega)⟩
def Cr9(d:Nat)(h:d<16):cut ([48,49,50,51,52,53,54,55,56,57,97,98,99,100,101,102]:By) (d:Int) ((d+1:Nat):Int)=[Lh d]:=by
 have:∀d:Fin 16,(([48,49,50,51,52,53,54,55,56,57,97,98,99,100,101,102]:By).take (d.val+1)).drop d.val=[Lh d.val]:=by decide
 rw[Fy];exact this ⟨d,h⟩
def Bg9{R:Type}{c:By->Option R}:∀(v n:Nat) (s:By),v<65536->v+1<n->s.length+v<=70000->(0<v\/s=[])->
  Bd LF n s (v:Int) c=c (P9 v++s):=by
 intro v
 induction v using af0 with
 | _ v q=>
  intro n s w r u h;obtain⟨n,rfl⟩:∃m,n=m+1:=⟨n-1,by omega⟩
  have l:ab3 (v:Int) 16=((v % 16:Nat):Int):=Db v 16;have k:ab1 (v:Int) 16=((v / 16:Nat):Int):=M8 v 16;have i:Em (((v % 16:Nat):Int)+1)=((v % 16+1:Nat):Int):=by rw[Ks];rfl
  have j:Em ((v / 16:Nat):Int)=((v / 16:Nat):Int):=Ks;have last:∀(m:Nat) (t:By),t≠[]->Bd LF (m+1) t 0 c=c t:=by
   intro m t o;rw[Bd];rw[A6,show(t==([]:By))=false from beq_eq_false_iff_ne.2 o];rfl
  have a:(vl (Em ((ab3 (v:Int) 16)+1)) λd=>
    cond (J0 (ab3 (v:Int) 16) d 16)
    (vl (cut (([48,49,50,51,52,53,54,55,56,57,97,98,99,100,101,102]:List UInt8)) (ab3 (v:Int) 16) d) λe=>
     cond (E6 (j8 e) (j8 s))
     (vl (Em (ab1 (v:Int) 16)) λg=>Bd LF n (e++s) g c) none) none)=c (P9 v++s):=by
   simp only[vl,l,k,i,j];rw[I3,Cr9 _ (by omega),G3 (by simp;omega)];simp only[cond_true];by_cases b:v<16
   ·rw[Z3 b,ak9 b,show v / 16=0 by omega];obtain⟨n,rfl⟩:∃m,n=m+1:=⟨n-1,by omega⟩
    exact last n _ (by simp)
   ·rw[q (v / 16) (by omega) n _ (by omega) (by omega) (by simp;omega) (.inl (by omega)),X6 b];simp
  rw[Bd];by_cases p:0<v
  ·rw[A8,cond_true];exact a
  ·have f:s=[]:=by rcases h with h|h;omega;exact h
   rw[A6,cond_false,show(s==([]:By))=true by simpa using f,cond_true];exact a
def Bh0{R:Type}{b:By->Option R}(v:Int)(c:ltN v 65536=true):Bz4 LF v b=b (P9 v.toNat):=by obtain⟨a,d⟩:=E3.1 c;obtain⟨m,rfl⟩:=o5 a;have:=C5;unfold Bz4;refine j1 (Bg9 m LF [] (by omega) (by omega) (by simp<;>omega) (.inr rfl)) ?_;grind
def ZX{R:Type}{c:Int->Option R}{d:Unit->Option R}(s:By)(x:s.length<=1000000000):∀(r i n:Nat),i+r=s.length->r<n->
  W3 LF n s (i:Int) c d=if v7 (s.drop i) [58,58]=-1 then d () else c ((i:Int)+v7 (s.drop i) [58,58]):=by
 intro r
 induction r with
 | zero=>
  intro i n q u;obtain⟨n,rfl⟩:∃m,n=m+1:=⟨n-1,by omega⟩
  rw[W3];rw[A7,A6,j7 (by omega)];rfl
 | succ r h=>
  intro i n q u;obtain⟨n,rfl⟩:∃m,n=m+1:=⟨n-1,by omega⟩
  rw[W3];have f:A1 ((i:Int)+1)=((i+1:Nat):Int):=by rw[A7];rfl
  rw[f];by_cases t:i+1<s.length
  ·have h:=h (i+1) n (by omega) (by omega);rw[D6 s i (by omega)];have e:=D6 s (i+1) t;have p:=aq4 (s.drop (i+1)) [58,58];have l:v7 (s.getD i 0::s.drop (i+1)) [58,58]=if ([58,58]:By).isPrefixOf (s.getD i 0::s.drop (i+1)) then 0 else if v7 (s.drop (i+1)) [58,58]==-1 then -1 else v7 (s.drop (i+1)) [58,58]+1:=by
    rw[v7]
   have o:([58,58]:By).isPrefixOf (s.getD i 0::s.drop (i+1))=(s.getD i 0==58&&s.getD (i+1) 0==58):=by
    rw[e];simp only[w8,ag5];rw[aj4 (a:=(58:UInt8)),aj4 (a:=(58:UInt8)) (b:=s.getD (i+1) 0)]
   have j:=S6 (s.getD i 0) 58 (by omega);have k:=S6 (s.getD (i+1) 0) 58 (by omega);rw[show((58:Nat):Int)=58 from rfl,show aa9 58=(58:UInt8) from rfl] at j k;have next:W3 LF n s ((i+1:Nat):Int) c d=if (if v7 (s.drop (i+1)) [58,58]==-1 then (-1:Int) else v7 (s.drop (i+1)) [58,58]+1)=-1 then d () else c ((i:Int)+(if v7 (s.drop (i+1)) [58,58]==-1 then -1 else v7 (s.drop (i+1)) [58,58]+1)):=by
    rw[h];by_cases g:v7 (s.drop (i+1)) [58,58]=-1
    ·rw[g];rfl
    ·rw[if_neg g,show(v7 (s.drop (i+1)) [58,58]==-1)=false from beq_eq_false_iff_ne.2 g];simp only[p6,if_false];rw[G0]
     congr 1
     omega
   rw[l,o,A8,F1,F1];simp only[cond_true,D3,vl,j,k];cases v:(s.getD i 0==58) with
   | false=>
    simp only[cond_false,Bool.false_and,p6,if_false];exact next
   | true=>
    cases w:(s.getD (i+1) 0==58) with
    | false=>
     simp only[cond_true,cond_false,Bool.and_false,p6,if_false];exact next
    | true=>
     simp
  ·rw[A6,D6 s i (by omega),j7 (show s.length<=i+1 by omega)];have:v7 [s.getD i 0] [58,58]=-1:=by
    rw[v7];simp[w8,v7]
   rw[this];rfl
def ZY{R:Type}{a:Int->Option R}(s:By)(b:A3 s.length=true):GY LF s a=a (KX s):=by have c:=L7 b;have:=C5;unfold GY KX;refine j1 (ZX s c s.length 0 LF (by omega) (by omega)) ?_;grind
def Nm(n:Nat):ptI (n:Int)=W8 n:=rfl
def Ao7{R:Type}{a:Bool->Option R}(n:Int):ZS LF n a=a (ptI n):=by
 unfold ZS;by_cases h:n<0
 ·rw[B9 h];have:ptI n=false:=by
   cases n with
   | ofNat m=>exact absurd h (by simp)
   | negSucc m=>rfl
  grind
 ·obtain⟨m,rfl⟩:=o5 (show 0<=n by omega);rw[A6,Nm];unfold W8;by_cases b:1114111<m
  ·rw[A8];have:ai5 m 1114111=false:=by rw[aj5,ne_eq,Nat.ble_eq];omega
   grind
  ·rw[A6];have:ai5 m 1114111=true:=by rw[Nat.ble_eq];omega
   rw[this];by_cases c:m<55296
   ·rw[A8];have:Nat.blt m 55296=true:=by rw[Nat.blt_eq];omega
    grind
   ·rw[A6];have e:Nat.blt m 55296=false:=by rw[aj5,ne_eq,Nat.blt_eq];omega
    rw[e];simp only[j4,cond_true,cond_false,Bool.false_or,an2]
    congr 1
def JT{d k:Nat}(h:455<d):AY d k=AY (d / 35) (k+36):=by rw[AY,dif_pos h]
def Tx{d k:Nat}(h:¬ 455<d):AY d k=k+36*d / (d+38):=by rw[AY,dif_neg h]
def An8{R:Type}{k0:Int->Int->Option R}:∀(d n k:Nat),d<2305843009213693952->d<n->k+d<=4611686018427387904->
  ∃a b,a<=455/\b<=k+d/\AY d k=b+36*a / (a+38)/\Hf LF n (d:Int) (k:Int) k0=k0 (a:Int) (b:Int):=by
 intro d
 induction d using af0 with
 | _ d l=>
  intro n k p r q;obtain⟨n,rfl⟩:∃m,n=m+1:=⟨n-1,by omega⟩
  rw[Hf];by_cases h:455<d
  ·obtain⟨a,b,g,o,i,j⟩:=l (d / 35) (by omega) n (k+36) (by omega) (by omega) (by omega);refine⟨a,b,g,by omega,by rw[JT h];exact i,?_⟩;have e:ab1 (d:Int) 35=((d / 35:Nat):Int):=M8 d 35;have c:A1 ((d / 35:Nat):Int)=((d / 35:Nat):Int):=A7;have f:A1 ((k:Int)+36)=((k+36:Nat):Int):=by rw[A7];rfl
   rw[A8];simp only[cond_true,vl,e,c,f];exact j
  ·refine⟨d,k,by omega,by omega,Tx h,?_⟩;rw[A6];rfl
def An9{R:Type}{k0:Int->Option R}(d c:Int)(f:Bool)(z:ltN d 1152921504606846976=true)(A:ltN c 1000000=true)(B:ltI 0 c=true):MS LF d c f k0=k0 (R5 d.toNat c.toNat f:Nat):=by
 obtain⟨k,F⟩:=E3.1 z;obtain⟨j,D⟩:=E3.1 A;obtain⟨d,rfl⟩:=o5 k;obtain⟨c,rfl⟩:=o5 j;have J:=Ng.1 B;have C:=C5;have key:∀x:Nat,x<1152921504606846976->He LF (x:Int) (c:Int) k0=k0 ((AY (x+x / c) 0:Nat):Int):=by
  intro x L;have G:x / c<=x:=ah6 _ _;unfold He;have g:ab1 (x:Int) (c:Int)=((x / c:Nat):Int):=M8 x c;generalize x / c=q at *;have h:A1 (q:Int)=(q:Int):=A7;have o:A1 ((x:Int)+(q:Int))=((x+q:Nat):Int):=by rw[A7];rfl
  rw[show((c:Int)!=0)=true by simp;omega];simp only[cond_true,vl,g,h,o];obtain⟨a,n,H,I,w,y⟩:=An8 (R:=R) (k0:=λb l=>vl (A1 ((36)*b)) λm=>vl (A1 (b+(38))) λe=>cond (e !=(0)) (vl (A1 (ab1 m e)) λi=>k0 (A1 (l+i))) none) (x+q) LF 0 (by omega) (by omega) (by omega);refine j1 y ?_;have K:36*a / (a+38)<=36*a:=ah6 _ _;have p:A1 (36*(a:Int))=((36*a:Nat):Int):=by rw[A7];rfl
  have r:A1 ((a:Int)+38)=((a+38:Nat):Int):=by rw[A7];rfl
  have t:ab1 ((36*a:Nat):Int) ((a+38:Nat):Int)=((36*a / (a+38):Nat):Int):=M8 _ _;have u:A1 ((36*a / (a+38):Nat):Int)=((36*a / (a+38):Nat):Int):=A7;have v:A1 ((n:Int)+((36*a / (a+38):Nat):Int))=((n+36*a / (a+38):Nat):Int):=by rw[A7];rfl
  simp only[vl,p,r,t,u,v];rw[show(((a+38:Nat):Int)!=0)=true by simp;omega,w];rfl
 unfold MS R5;rw[j2,j2];cases f with
 | true=>
  have g:ab1 (d:Int) 700=((d / 700:Nat):Int):=M8 d 700;have h:A1 ((d / 700:Nat):Int)=((d / 700:Nat):Int):=A7;simp only[cond_true,vl,g,h,if_true];exact key _ (by omega)
 | false=>
  have g:ab1 (d:Int) 2=((d / 2:Nat):Int):=M8 d 2;have h:A1 ((d / 2:Nat):Int)=((d / 2:Nat):Int):=A7;simp only[cond_false,vl,g,h,p6,if_false];exact key _ (by omega)
def QT{d:Nat}(h:d<36):(Bc d).toNat=if d<26 then 97+d else 22+d:=by unfold Bc;split<;>simp<;>omega
def Ca1{R:Type}{b:Int->Option R}(d:Int)(c:ltN d 36=true):Di5 LF d b=b ((Bc d.toNat).toNat:Nat):=by
 obtain⟨a,e⟩:=E3.1 c;obtain⟨d,rfl⟩:=o5 a;unfold Di5;rw[j2,QT (by omega)];by_cases h:d<26
 ·rw[A8,if_pos h];simp only[cond_true,vl]
  congr 1
  rw[A7,N2];rfl
 ·rw[A6,if_neg h];simp only[cond_false,vl]
  congr 1
  rw[D1 (n:=48+(d:Int)) (by omega) (by omega),A7,N2];omega
def FS(b:UInt8):(97<=b.toNat/\b.toNat<=122/\Oz b=some (b.toNat-97))\/(65<=b.toNat/\b.toNat<=90/\Oz b=some (b.toNat-65))\/(48<=b.toNat/\b.toNat<=57/\Oz b=some (b.toNat-22))\/(¬(97<=b.toNat/\b.toNat<=122)/\¬(65<=b.toNat/\b.toNat<=90)/\¬(48<=b.toNat/\b.toNat<=57)/\Oz b=none):=by unfold Oz;grind
def Ca9{R:Type}{g:Int->Option R}(b:Int)(h:inR b 256=true):Cx0 LF b g=g (E5 (u8n b)):=by
 simp only[inR,ab0,decide_eq_true_eq] at h;have j:b=((u8n b).toNat:Int):=by
  unfold u8n;simp;omega
 generalize u8n b=c at *;subst j;have i:=c.toNat_lt;unfold Cx0 E5;simp only[Yf,Ye,vl];rcases FS c with⟨d,f,e⟩|⟨d,f,e⟩|⟨d,f,e⟩|⟨d,f,o,e⟩
 ·have a:A1 (wu8 ((c.toNat:Int)-97))=((c.toNat-97:Nat):Int):=by
   rw[N2,A7];omega
  simp (disch:=omega) only[B9,E7,j5,j4,cond_false,cond_true,a,e]
 ·have a:A1 (wu8 ((c.toNat:Int)-65))=((c.toNat-65:Nat):Int):=by
   rw[N2,A7];omega
  simp (disch:=omega) only[B9,E7,j5,j4,cond_false,cond_true,a,e]
 ·have a:A1 (A1 (wu8 ((c.toNat:Int)-48))+26)=((c.toNat-22:Nat):Int):=by
   rw[N2,D1 (n:=(c.toNat:Int)-48) (by omega) (by omega),A7];omega
  simp (disch:=omega) only[B9,E7,j5,j4,cond_false,cond_true,a,e]
 ·rw[e];by_cases k:c.toNat<48
  ·simp (disch:=omega) only[B9,E7,j5,j4,cond_false,cond_true]
  ·by_cases l:c.toNat<65
   ·simp (disch:=omega) only[B9,E7,j5,j4,cond_false,cond_true]
   ·by_cases m:c.toNat<97
    ·simp (disch:=omega) only[B9,E7,j5,j4,cond_false,cond_true]
    ·simp (disch:=omega) only[B9,E7,j5,j4,cond_false,cond_true]
def Do0{l:LL}(h:l.all Xr=true):∃W:List Nat,l=D2 W/\(∀x∈W,x<65536):=by
 induction l with
 | nil=>exact⟨[],rfl,by simp⟩
 | cons x r c=>
  simp only[an4,ab0] at h;obtain⟨W,rfl,e⟩:=c h.2;have a:=h.1;unfold Xr at a;split at a
  ·rename_i n;obtain⟨b,d⟩:=E3.1 a;obtain⟨m,rfl⟩:=o5 b;refine⟨m::W,rfl,?_⟩;grind
  ·cases a
def Ac9{W:List Nat}(h:∀x∈W,x<65536):(D2 W).all Xr=true:=by rw[ae3];intro x a;simp only[D2,aq7] at a;obtain⟨n,b,rfl⟩:=a;have:=h n b;exact Sz (v:=(n:Int)) (n:=65536) (by omega) (by omega)
def Wy(W:List Nat):(D2 W).map elN=W:=by
 unfold D2;rw[aj8]
 conv=>rhs;rw[<-ar9 W]
 apply af1;intro x _;simp[elN,SV.gI]
def Aj4(l:List By):(D5 l).map elS=l:=by
 unfold D5;rw[aj8]
 conv=>rhs;rw[<-ar9 l]
 apply af1;intro x _;simp[elS,SV.gS]
def C26(l:List By):(D5 l).all isS=true:=by rw[ae3];intro x a;simp only[D5,aq7] at a;obtain⟨n,b,rfl⟩:=a;rfl
def Av4{P:List Nat->Prop}(a:P [])(b:∀l x,P l->P (l++[x]))(l:List Nat):P l:=by
 have:∀r:List Nat,P r.reverse:=by
  intro r
  induction r with
  | nil=>exact a
  | cons x r c=>rw[List.reverse_cons];exact b _ _ c
 have:=this l.reverse;grind
def B68(l:List By)(x p:By)(h:l≠[]):ag6 (l++[x]) p=ag6 l p++p++x:=by
 cases l with
 | nil=>exact absurd rfl h
 | cons y r=>
  rw[ak7,an3,an3];unfold Lib.joinTail;simp
def Ha:K7 []=[]:=rfl
def Lj(n:Nat):K7 [n]=P9 n:=by unfold K7;exact Lib.join_one _ _
def Uz(l:List Nat)(n:Nat)(h:l≠[]):K7 (l++[n])=K7 l++[58]++P9 n:=by unfold K7;rw[ah5,List.map_singleton,B68 _ _ _ (by simpa using h)]
def Bz:∀l:List Nat,(∀x∈l,x<65536)->(K7 l).length<=5*l.length:=by
 refine Av4 ?_ ?_
 ·intro _;simp[Ha]
 ·intro l n c h;have d:=c (λx b=>h x (by simp[b]));have e:=Xl n (h n (by simp));by_cases a:l=[]
  ·subst a;rw[x9,Lj];simp;omega
  ·rw[Uz l n a];simp;omega
def A87:∀(l:List Nat) (h:l≠[]),∃q d,K7 l=q++[d]/\d≠58:=by
 refine Av4 ?_ ?_
 ·grind
 ·intro l n _ _;obtain⟨q,d,c,a⟩:=B55 n;by_cases b:l=[]
  ·subst b;exact⟨q,d,by rw[x9,Lj,c],a⟩
  ·exact⟨K7 l++[58]++q,d,by rw[Uz l n b,c];simp,a⟩
def C57{R:Type}{c:LL->Option R}(z t:Bool)(W:List Nat)(l:∀x∈W,x<65536)(p:W.length<=8):∀(r i n:Nat) (d:List By),i+r=W.length->r<n->d.length=i->
  Wc LF n z t (D2 W) (W.length:Int) (i:Int) (D5 d) c=c (D5 (d++(W.drop i).map P9)):=by
 intro r
 induction r with
 | zero=>
  intro i n d h j f;obtain⟨n,rfl⟩:∃m,n=m+1:=⟨n-1,by omega⟩
  rw[Wc];rw[A6,j7 (by omega)];simp
 | succ r k=>
  intro i n d h j f;obtain⟨n,rfl⟩:∃m,n=m+1:=⟨n-1,by omega⟩
  rw[Wc];have b:W.drop i=W.getD i 0::W.drop (i+1):=by
   rw[j6,j9 (by omega),o6,x7]
  have o:W.getD i 0<65536:=by
   rw[j6,j9 (by omega),o6];simp_all
  have e:A1 ((i:Int)+1)=((i+1:Nat):Int):=by rw[A7];rfl
  rw[b];generalize g:W.getD i 0=x at *;simp (disch:=omega) only[B9,K8,cond_true,H8,j2,Nj,Ux,vl,e,g,Ad8,Sz,F2,F8,show((16:Int)==16)=true from rfl];have a:D5 d++[[SV.str (P9 x)]]=D5 (d++[P9 x]):=by rw[Zl];rfl
  rw[a,k (i+1) n _ (by omega) (by omega) (by simp;omega)];simp
def C58{R:Type}{k0:By->LL->Option R}(z t:Bool)(l:LL)(c:l.all Xr=true)(a:ai5 l.length 8=true):∃g,v6j LF z t l k0=k0 (K7 (l.map elN)) g:=by
 obtain⟨W,rfl,b⟩:=Do0 c;have f:W.length<=8:=by rw[H8] at a;exact Nat.le_of_ble_eq_true a
 have d:=C5;refine⟨D5 (W.map P9),?_⟩;unfold v6j;rw[H8];refine j1 (C57 z t W b f W.length 0 LF [] (by omega) (by omega) rfl) ?_;have e:=Bz W b;unfold K7 at e;rw[x9,p4,C26,Aj4,Wy,F2,K3,D9 (by simp;omega)];rfl
def Ae4:∀(l:List Nat) (i z m:Nat),z+m<=i+l.length->(zGo l i z m).1+(zGo l i z m).2<=i+l.length
 | [],i,z,m,h=>by simpa[zGo] using h
 | x::r,i,z,m,h=>by
  have a:=HE (x::r);simp only[zGo];simp only[ab9] at h a ⊢;split
  ·have:=Ae4 r (i+1) i (Nv (x::r)) (by omega);omega
  ·have:=Ae4 r (i+1) z m (by omega);omega
def C56{R:Type}{k0:By->LL->Option R}(p r t u v w y A:Int)(G:ok8 p r t u v w y A=true):∃l,v6f LF p r t u v w y A k0=k0 (Ao (n8 p r t u v w y A)) l:=by
 obtain⟨a,b,c,d,e,f,g,j,rfl,rfl,rfl,rfl,rfl,rfl,rfl,rfl,h⟩:=Rz G;have C:n8 a b c d e f g j=[a,b,c,d,e,f,g,j]:=rfl;refine⟨D2 [a,b,c,d,e,f,g,j],?_⟩;unfold v6f;rw[G,C,cond_true];have o:([[SV.int .u16 (a:Int)],[SV.int .u16 (b:Int)],[SV.int .u16 (c:Int)],[SV.int .u16 (d:Int)],[SV.int .u16 (e:Int)],[SV.int .u16 (f:Int)],[SV.int .u16 (g:Int)],[SV.int .u16 (j:Int)]]:LL)=D2 [a,b,c,d,e,f,g,j]:=rfl;rw[o];have B:∀x∈[a,b,c,d,e,f,g,j],x<65536:=by simp_all
 have n:[a,b,c,d,e,f,g,j].length=8:=rfl;have k:=Ae4 [a,b,c,d,e,f,g,j] 0 0 0 (by simp);unfold Ao;generalize [a,b,c,d,e,f,g,j]=W at *;generalize zGo W 0 0 0=q at *;obtain⟨z,m⟩:=q;rw[n] at k;simp only[vl] at k ⊢;have N:∀i,(D2 W).take i=D2 (W.take i):=λi=>by unfold D2;rw[an6]
 have J:∀i,(D2 W).drop i=D2 (W.drop i):=λi=>by unfold D2;rw[an5]
 by_cases I:m<2
 ·rw[if_pos I,A8,cond_true,Ac9 B,Wy];rfl
 ·have K:A1 ((z:Int)+(m:Int))=((z+m:Nat):Int):=by rw[A7];rfl
  have hA:∀x∈W.take z,x<65536:=λx D=>B x (ae6 D)
  have H:∀x∈W.drop (z+m),x<65536:=λx D=>B x (ad3 D)
  have O:=Bz _ hA;have P:=Bz _ H;have L:(W.take z).length<=8:=by rw[y8];omega
  have M:(W.drop (z+m)).length<=8:=by rw[ac0];omega
  rw[if_neg I,A6,cond_false,I3,K];simp only[j2,Nat.sub_zero];rw[N,J,Ac9 hA,Wy,H8,ai0 L,G3 (by omega),I3];have F:(D2 (W.drop (z+m))).take (8-(z+m))=D2 (W.drop (z+m)):=o9 (by rw[H8,ac0];omega);rw[F,Ac9 H,Wy,H8,ai0 M,G3 (by simp;omega)];simp
def Dm7{R:Type}{k0:Int->Int->Int->Int->LL->Option R}(W:List Nat)(l:W.length=8)(b a:Int)(i:Nat):∀(r j n:Nat),i+j+r=8->r<n->
  Nz LF n b a (i:Int) (j:Int) (D2 W) k0=k0 b a (i:Int) ((j+Nv (W.drop (i+j)):Nat):Int) (D2 W):=by
 intro r
 induction r with
 | zero=>
  intro j n f g;obtain⟨n,rfl⟩:∃m,n=m+1:=⟨n-1,by omega⟩
  rw[Nz];rw[A7,A6,j7 (by omega)];rfl
 | succ r k=>
  intro j n f g;obtain⟨n,rfl⟩:∃m,n=m+1:=⟨n-1,by omega⟩
  rw[Nz];have c:A1 ((i:Int)+(j:Int))=((i+j:Nat):Int):=by rw[A7];rfl
  have d:A1 ((j:Int)+1)=((j+1:Nat):Int):=by rw[A7];rfl
  have e:W.drop (i+j)=W.getD (i+j) 0::W.drop (i+(j+1)):=by
   rw[j6,j9 (by omega),o6,<-an8,x7]
  simp (disch:=first|omega|(simp[H8];omega)) only[c,d,B9,K8,cond_true,j2,Nj,Ux,vl];rw[e,NK];by_cases h:W.getD (i+j) 0=0
  ·rw[h,if_pos rfl,show(((0:Nat):Int)==0)=true from rfl,cond_true,k (j+1) n (by omega) (by omega)]
   congr 2
   omega
  ·rw[if_neg h,show(((W.getD (i+j) 0:Nat):Int)==0)=false by rw[beq_eq_false_iff_ne];omega];rfl
def RR(z m:Nat)(a b:Int):Prop:=(2<=m/\a=z/\b=m)\/(m<2/\a=-1/\b=1)
def C14{R:Type}{k0:Int->Int->LL->Option R}(W:List Nat)(o:W.length=8):∀(r i n z m:Nat) (a b:Int),i+r=8->r<n->z<=8->m<=8->RR z m a b->
  ∃g j,RR (zGo (W.drop i) i z m).1 (zGo (W.drop i) i z m).2 g j/\Jv LF n a b (i:Int) (D2 W) k0=k0 g j (D2 W):=by
 intro r
 induction r with
 | zero=>
  intro i n z m a b t w e v h;obtain⟨n,rfl⟩:∃m,n=m+1:=⟨n-1,by omega⟩
  rw[Jv];rw[A6,j7 (by omega)];exact⟨a,b,h,rfl⟩
 | succ r f=>
  intro i n z m a b t w e v h;obtain⟨n,rfl⟩:∃m,n=m+1:=⟨n-1,by omega⟩
  have l:=C5;rw[Jv];have c:=λK=>Dm7 (R:=R) (k0:=K) W o a b i r.succ 0 LF (by omega) (by omega)
  rw[show((0:Nat):Int)=0 from rfl] at c;simp only[af3,ah0] at c;rw[A8,cond_true,c];have p:W.drop i=W.getD i 0::W.drop (i+1):=by
   rw[j6,j9 (by omega),o6,x7]
  have u:=HE (W.drop i);rw[ac0] at u;have d:A1 ((i:Int)+1)=((i+1:Nat):Int):=by rw[A7];rfl
  rw[d];have e:zGo (W.drop i) i z m=if m<Nv (W.drop i) then zGo (W.drop (i+1)) (i+1) i (Nv (W.drop i)) else zGo (W.drop (i+1)) (i+1) z m:=by
   rw[p];rfl
  rw[e];generalize Nv (W.drop i)=q at *;unfold RR at h;by_cases k:m<q
  ·rw[if_pos k];by_cases x:q<2
   ·rw[A6,cond_false];exact f (i+1) n i q a b (by omega) (by omega) (by omega) (by omega) (by unfold RR;omega)
   ·rw[A8,cond_true];exact f (i+1) n i q i q (by omega) (by omega) (by omega) (by omega) (by unfold RR;omega)
  ·rw[if_neg k,A6,cond_false];exact f (i+1) n z m a b (by omega) (by omega) (by omega) (by omega) h
def RC(q:By)(d:UInt8):(q++[d]).getD q.length 0=d:=by simp
def Ce9{R:Type}{k:By->LL->Option R}(W:List Nat)(u:W.length=8)(v:∀x∈W,x<65536)(a b:Int)(s c:By)(i n:Nat)(w:i<8)(o:(i:Int)≠a)(j:s.length<=1000)
  (h:(s=[]/\c=P9 (W.getD i 0))\/(∃q d,s=q++[d]/\d≠58/\c=s++[58]++P9 (W.getD i 0))\/(∃q,s=q++[58]/\c=s++P9 (W.getD i 0))) :
  U4 LF (n+1) a b s (i:Int) (D2 W) k=U4 LF n a b c ((i+1:Nat):Int) (D2 W) k:=by
 rw[U4];have t:W.getD i 0<65536:=by simp_all
 have m:A1 ((i:Int)+1)=((i+1:Nat):Int):=by rw[A7];rfl
 have y:=Xl _ t;rw[A8,show((i:Int)==a)=false from beq_eq_false_iff_ne.2 o];generalize r:W.getD i 0=x at *;have ok:=Nj (l:=W) (i:=i) (by omega);simp (disch:=omega) only[cond_true,cond_false,K8,j2,ok,Ux,r,Sz,vl,m];rcases h with⟨rfl,rfl⟩|⟨q,d,rfl,p,rfl⟩|⟨q,rfl,rfl⟩
 ·have e:E6 ([]:By).length (P9 x).length=true:=G3 (by simp;omega);rw[e];rfl
 ·have f:A1 (((q++[d]).length:Int)-1)=((q.length:Nat):Int):=by rw[A7];simp
  rw[show((q++[d])==([]:By))=false by simp,f,K8 (by omega) (by simp<;>omega),D3,RC];have g:(d.toNat:Int)≠58:=by
   intro h;apply p;apply UInt8.toNat.inj;grind
  rw[show((d.toNat:Int)!=58)=true from bne_iff_ne.2 g,G3 (by simp at j ⊢;omega),G3 (by simp at j ⊢;omega)];rfl
 ·have f:A1 (((q++[58]).length:Int)-1)=((q.length:Nat):Int):=by rw[A7];simp
  rw[show((q++[(58:UInt8)])==([]:By))=false by simp,f,K8 (by omega) (by simp<;>omega),D3,RC];have e:E6 (q++[(58:UInt8)]).length (P9 x).length=true:=G3 (by simp at j ⊢;omega);rw[e];rfl
def Cg5(W:List Nat)(i:Nat)(h:i<W.length):W.take (i+1)=W.take i++[W.getD i 0]:=by simp_all
def NQ{R:Type}{k0:By->LL->Option R}(W:List Nat)(m:W.length=8)(f:∀x∈W,x<65536)(a b:Int)(e:Nat)(I:e<=8)(p:By)(z:p=[]\/∃q,p=q++[58])(A:p.length<=100)(o:Nat)(w:o<=8) :
  ∀(r i n:Nat),i+r=e->o<=i->(∀j:Nat,i<=j->j<e->(j:Int)≠a)->
   U4 LF (n+r) a b (p++K7 ((W.take i).drop o)) (i:Int) (D2 W) k0=U4 LF n a b (p++K7 ((W.take e).drop o)) (e:Int) (D2 W) k0:=by
 intro r
 induction r with
 | zero=>
  intro i n u w _;rw[show i=e by omega];rfl
 | succ r G=>
  intro i n u y g;rw[show n+(r+1)=(n+r)+1 by omega];have h:((W.take i).drop o).length=i-o:=by rw[ac0,y8];omega
  have v:=Bz ((W.take i).drop o) (λx F=>f x (ae6 (ad3 F)));have D:(W.take (i+1)).drop o=(W.take i).drop o++[W.getD i 0]:=by
   rw[Cg5 W i (by omega),ac4 (by rw[y8];omega)]
  have C:(p++K7 ((W.take i).drop o)).length<=1000:=by rw[ad8];omega
  rw[Ce9 W m f a b (p++K7 ((W.take i).drop o)) (p++K7 ((W.take (i+1)).drop o)) i (n+r) (by omega) (g i (by omega) (by omega)) C]
  ·exact G (i+1) n (by omega) (by omega) (λj H k=>g j (by omega) k)
  ·rw[D];generalize (W.take i).drop o=l at *;by_cases c:l=[]
   ·subst c;rw[x9,Lj,Ha,aa3];rcases z with rfl|⟨q,rfl⟩
    ·exact .inl ⟨rfl,rfl⟩
    ·exact .inr (.inr ⟨q,rfl,rfl⟩)
   ·obtain⟨q,d,B,t⟩:=A87 l c;refine .inr (.inl ⟨p++q,d,by rw[B,ab5],t,?_⟩);rw[Uz l _ c];simp
def Ce8{R:Type}{k0:By->LL->Option R}(A B C D F G H I:Int)(V:ok8 A B C D F G H I=true):Dm5 LF A B C D F G H I k0=k0 (Ao (n8 A B C D F G H I)) (D2 (n8 A B C D F G H I)):=by
 obtain⟨g,i,k,l,o,p,r,t,rfl,rfl,rfl,rfl,rfl,rfl,rfl,rfl,h⟩:=Rz V;have K:n8 g i k l o p r t=[g,i,k,l,o,p,r,t]:=rfl;unfold Dm5;rw[K];have y:([[SV.int .u16 (g:Int)],[SV.int .u16 (i:Int)],[SV.int .u16 (k:Int)],[SV.int .u16 (l:Int)],[SV.int .u16 (o:Int)],[SV.int .u16 (p:Int)],[SV.int .u16 (r:Int)],[SV.int .u16 (t:Int)]]:LL)=D2 [g,i,k,l,o,p,r,t]:=rfl;rw[y];have J:∀x∈[g,i,k,l,o,p,r,t],x<65536:=by simp_all
 have e:[g,i,k,l,o,p,r,t].length=8:=rfl;have w:=Ae4 [g,i,k,l,o,p,r,t] 0 0 0 (by simp);have X:=C5;generalize [g,i,k,l,o,p,r,t]=W at *;obtain⟨a,b,L,Y⟩:=C14 (R:=R) (k0:=λv f M=>U4 LF LF v f [] 0 M (λd c=>k0 d c)) W e 8 0 LF 0 0 (-1) 1 (by omega) (by omega) (by omega) (by omega) (.inr ⟨by omega,rfl,rfl⟩);refine j1 Y ?_;rw[p4] at L;unfold Ao;generalize zGo W 0 0 0=q at *;obtain⟨z,m⟩:=q;rw[e] at w;simp only at w L ⊢;have stop:∀(n:Nat) (s:By),0<n->U4 LF n a b s ((8:Nat):Int) (D2 W) (λd c=>k0 d c)=k0 s (D2 W):=by
  intro n s O;obtain⟨n,rfl⟩:∃m,n=m+1:=⟨n-1,by omega⟩
  rw[U4];simp_all
 rcases L with⟨N,rfl,rfl⟩|⟨N,rfl,rfl⟩
 ·rw[G0];have u:=NQ (R:=R) (k0:=λd c=>k0 d c) W e J (z:Int) (m:Int) z (by omega) [] (.inl rfl) (by simp) 0 (by omega) z 0 (LF-z) (by omega) (by omega) (λj _ h2=>by omega);rw[show LF-z+z=LF by omega] at u;simp only[ac2,p4,Ha,x9] at u;refine j1 u ?_;obtain⟨n,O⟩:∃n,LF-z=n+8+1:=⟨LF-z-9,by omega⟩
  rw[O,U4];have hA:∀x∈W.take z,x<65536:=λx Z=>J x (ae6 Z)
  have la:=Bz _ hA;have l1:(W.take z).length<=8:=by rw[y8];omega
  have S:A1 ((m:Int)-1)=((m-1:Nat):Int):=by rw[A7];omega
  have T:A1 ((z:Int)+((m-1:Nat):Int))=((z+(m-1):Nat):Int):=by rw[A7];omega
  have U:A1 (((z+(m-1):Nat):Int)+1)=((z+m:Nat):Int):=by rw[A7];omega
  rw[A8,G3 (by omega)];simp only[beq_self_eq_true,cond_true,vl,S,T,U];have P:=NQ (R:=R) (k0:=λd c=>k0 d c) W e J (z:Int) (m:Int) 8 (by omega) (K7 (W.take z)++[58,58]) (.inr ⟨K7 (W.take z)++[58],by simp⟩) (by simp;omega) (z+m) (by omega) (8-(z+m)) (z+m) (n+(z+m)) (by omega) (by omega) (λj h1 _=>by omega);rw[show n+(z+m)+(8-(z+m))=n+8 by omega] at P;have Q:(W.take (z+m)).drop (z+m)=[]:=j7 (by rw[y8];omega);rw[Q,Ha,aa3] at P;grind
 ·rw[if_pos N];have u:=NQ (R:=R) (k0:=λd c=>k0 d c) W e J (-1) 1 8 (by omega) [] (.inl rfl) (by simp) 0 (by omega) 8 0 (LF-8) (by omega) (by omega) (λj _ _=>by omega);rw[show LF-8+8=LF by omega] at u;simp only[ac2,p4,Ha,x9] at u;grind
set_option maxRecDepth 100000
section
variable {Z R : Type} (L : Nat) (Q : G4) (Y : Yh Z) (s : Z) (k : Out -> St Z -> Option R)
noncomputable def XD(L:Nat):Cfg:=B8 L [247] (A2 []) [] (A2 [(1,[2]),(0,[0])]) [] (A2 []) (some [2]) [] [] []
def Dv2{R:Type}(L:Nat)(a:Unit->Option R):Option R:=a ()
def Cs8(d:Nat):evC (XD L) (d+1) Z Y 247 [pI (16:Int)] [] s=Dv2 L  (λ_=>some (pB true,[],s)):=by refine(evE (fn:=Tryz.f247) (by kernel_rfl)).trans ?_;generalize evC (XD L) d=Q;unfold Dv2;kernel_rfl
noncomputable abbrev WU:Code:=C7 aq0
noncomputable def Jh(L:Nat):Cfg:=B8 L [231] (A2 [(11,[0,0,1,0,5,0,0,0,0,0,0]),(18,[0,0,1,0,5,0,0,0,3])]) [(247,UI),(248,Dw3)] (A2 [(30,[10,0]),(29,[10,0]),(28,[0,9,0,0,0,80]),(27,[0,3,5,0,0,0]),(26,[0,3,5,0,0,0]),(25,[0,3,5,0,0,0,75]),(16,[0,2,0,5,0,0,0]),(15,[0,0,1,0,5,0,0,0]),(14,[0,0,1,0,5,0,0,0,0,0,0]),(13,[0,0,1,0,5,0,0,0,0,0,0]),(12,[0,0,1,0,5,0,0,0,0,0,0]),(11,[0,0,1,0,5,0,0,0,0,0,0,29]),(10,[0,0,1,0,5,0,0,0,0,0,0]),(9,[0,0,0,0,0,5,0,0,0,0,0]),(8,[0,0,0,0,0,5,0,0,0,0]),(24,[0,2,0,5,0,0,0]),(23,[0,0,1,0,5,0,0,0]),(22,[0,0,1,0,5,0,0,0,3]),(21,[0,2,0,5,0,0,0,3,0]),(20,[0,0,1,0,5,0,0,0,3,0]),(19,[0,0,1,0,5,0,0,0,3]),(18,[0,0,1,0,5,0,0,0,3,50]),(17,[0,0,1,0,5,0,0,0,3]),(7,[0,0,0,0,0,5,0,0,0,20]),(6,[0,0,0,0,0,5,0,0,0]),(5,[0,0,0,0,0,5,0,0,0,16]),(4,[0,0,0,0,0,5,0,0,0]),(3,[0,0,0,0,0,5,0,0]),(2,[0,0,0,0,0,5,0]),(1,[0,0,0,0,0,5,0,16]),(0,[0,0,0,0,0,5,0])]) [247,248] (A2 [(0,[0,0,1,0,5,0,0,0]),(1,[0,0,1,0,5,0,0,0,0,0,0]),(2,[0,0,1,0,5,0,0,0]),(3,[0,0,1,0,5,0,0,0,3])]) (some [10,0]) [] [] []
def Lf{R:Type}(L n:Nat)(b a:Bool)(c:LL)(g d:Int)(f:LL)(j:Bool->Bool->LL->Int->Int->LL->Option R):Option R:=match n with|0=>none|n+1=>cond (not (ltI g 16)) (vl (A19 .u64 g (15:Int)) λe=>cond (inR e 36) (vl (bAt (([48,49,50,51,52,53,54,55,56,57,97,98,99,100,101,102,103,104,105,106,107,108,109,110,111,112,113,114,115,116]:List UInt8)++[117,118,119,120,121,122]) e) λi=>cond (inR (A1 (d-1)) 65) (cond (decide ((b8 (A1 (d-1)))<f.length)) (vl (ac1 f (b8 (A1 (d-1))) (G5 (j0 f (b8 (A1 (d-1))) []) 0 [(SV.int .u8 i)])) λh=>Lf L n b a c (Pc .u64 g (4:Int)) (A1 (d-1)) h j) none) none) none) (j b a c g d f)
def Aj7(n b a c f d e):D0 2 ((Jh L).keep 11) (bd (Jh L) Q Y (cd [1,1,1,1,1,0,1,0,1,1,1,0,0,0] WU)) n ⟨gp [(0,.s (.sl b a 0 c)),(0,p64 f),(1,pB false),(0,pB false),(5,.fl 0),(0,pS ([]:List UInt8)),(0,.ptr 1 0 0),(0,pI d),(0,p64 (4:Int)),(0,p64 (16:Int)),(0,p64 (15:Int))] 85,[.arr true 5 1 [],.arr false 243 1 e],s⟩ k =
 Lf L n b a c f d e (λb a c f d e=>k (.exit 0) ⟨gp [(0,.s (.sl b a 0 c)),(0,p64 f),(1,pB false),(0,pB false),(5,.fl 0),(0,pS ([]:List UInt8)),(0,.ptr 1 0 0),(0,pI d)] 88,[.arr true 5 1 [],.arr false 243 1 e],s⟩):=by
 induction n generalizing b a c f d e with
 | zero=>rfl
 | succ n g=>rw[Lf];simp only[<-g];kernel_rfl
def Aj6{R:Type}(L:Nat)(e d:Bool)(ds:LL)(v:Int)(m:By->LL->Option R):Option R:=cond ((16:Int)==16) (cond ((16:Int)==16) (Lf L L e d ds v 65 (a8 65 [(SV.int .u8 (0:Int))]) (λg f j i a c=>cond (inR i 36) (vl (bAt (([48,49,50,51,52,53,54,55,56,57,97,98,99,100,101,102,103,104,105,106,107,108,109,110,111,112,113,114,115,116]:List UInt8)++[117,118,119,120,121,122]) i) λl=>cond (inR (A1 (a-1)) 65) (cond (decide ((b8 (A1 (a-1)))<c.length)) (vl (ac1 c (b8 (A1 (a-1))) (G5 (j0 c (b8 (A1 (a-1))) []) 0 [(SV.int .u8 l)])) λb=>cond (decide (b.length=65)) (cond (J0 (A1 (a-1)) (65:Int) 65) (cond (ab4 (v8 (65-(b8 (A1 (a-1)))) (ab2 (b8 (A1 (a-1))) b)) Pb) (vl (x8 Mu (v8 (65-(b8 (A1 (a-1)))) (ab2 (b8 (A1 (a-1))) b))) λh=>m h b) none) none) none) none) none) none)) none) none
def Cq5(d:Nat)(ds_z ds_t ds v):evC (Jh L) (d+1) Z Y 231 [.s (.sl ds_z ds_t 0 ds),p64 v,pI (16:Int),pB false,pB false] [] s=Aj6 L ds_z ds_t ds v (λb a=>some (.tup [.fl 0,pS b],[.arr true 5 1 [],.arr false 243 1 a],s)):=by refine(evE (fn:=aq0) (by kernel_rfl)).trans ?_;generalize evC (Jh L) d=Q;unfold Aj6;exact(j1 (by kernel_rfl) (A0 (A0 ((Aj7 L Q Y s (E2 0 (E1 (Jh L) Q Y (cd [1,1,1,1,1,0,1,0,1,1,1,1] WU) (E1 (Jh L) Q Y (cd [1,1,1,1,1,1] WU) (F4 (Jh L) aq0)))) L ds_z ds_t ds v 65 (a8 65 [(SV.int .u8 (0:Int))])).trans (by kernel_rfl)) rfl) rfl))
noncomputable def XC(L:Nat):Cfg:=B8 L [244] (A2 []) [(231,TV)] (A2 [(9,[4]),(8,[8]),(7,[4]),(6,[5,0]),(5,[0,4,0]),(4,[0,4]),(3,[4]),(2,[0,11]),(1,[0,0,8]),(0,[0,0])]) [] (A2 []) (some [4]) [] [] []
def Bw8{R:Type}(L:Nat)(v:Int)(a:By->Option R):Option R:=cond (ltN v 65536) (cond ((16:Int)==16) (a (P9 (b8 v))) none) none
def Cs2(d:Nat)(v):evC (XC L) (d+1) Z Y 244 [p64 v,pI (16:Int)] [] s=Bw8 L v (λa=>some (pS a,[],s)):=by refine(evE (fn:=Tryz.f244) (by kernel_rfl)).trans ?_;generalize evC (XC L) d=Q;unfold Bw8;kernel_rfl
noncomputable def A29(L:Nat):Cfg:=B8 L [227] (A2 []) [(244,UH)] (A2 [(1,[4]),(0,[0,0])]) [244] (A2 []) (some [4]) [] [] []
def Dd2{R:Type}(L:Nat)(v:Int)(a:By->Option R):Option R:=cond (ltN v 65536) (cond ((16:Int)==16) (a (P9 (b8 v))) none) none
def Dd3(d:Nat)(v):evC (A29 L) (d+1) Z Y 227 [p64 v,pI (16:Int)] [] s=Dd2 L v (λa=>some (pS a,[],s)):=by refine(evE (fn:=Tryz.f227) (by kernel_rfl)).trans ?_;generalize evC (A29 L) d=Q;unfold Dd2;kernel_rfl
end
end
end Go.Proofs.YtfkhfkjcidamaaaGreatDoor.E
namespace Go.Proofs
open Go.Shelf
def Tryz.lays156_ren:aa0:=⟨fun|156=>202|165=>224|166=>225|169=>226|240=>242|241=>243|276=>256|277=>257|n=>n,fun|31=>56|9=>9|3=>3|4=>4|0=>0|20=>20|72=>220|76=>224|70=>218|37=>154|75=>223|127=>240|164=>246|5=>5|80=>226|n=>n,fun|n=>n⟩
theorem Tryz.lays156:as8 p5 Tryz.lays156_ren:={
 mixed:=by kernel_rfl
 f156:=Tryz.func202.trans (congrArg some (by kernel_rfl))
 f165:=Tryz.func224.trans (congrArg some (by kernel_rfl))
 f166:=Tryz.func225.trans (congrArg some (by kernel_rfl))
 f169:=Tryz.func226.trans (congrArg some (by kernel_rfl))
 f240:=Tryz.func242.trans (congrArg some (by kernel_rfl))
 f241:=Tryz.func243.trans (congrArg some (by kernel_rfl))
 f276:=Tryz.func256.trans (congrArg some (by kernel_rfl))
 f277:=Tryz.func257.trans (congrArg some (by kernel_rfl))
 t0:=y9
 a0:=ad4
 z0:=ac8
 v0:=aa4
 t3:=p9
 a3:=aa8
 z3:=aa1
 v3:=w9
 t4:=x3
 a4:=ab6
 z4:=aa7
 v4:=x4
 t9:=x6
 a9:=ac6
 z9:=ab8
 v9:=y7
 t20:=ak3
 a20:=ar7
 z20:=ao2
 v20:=am1
 t31:=Tryz.underlying56
 a31:=Tryz.isAgg56
 z31:=Tryz.sizeOf56
 v31:=Tryz.zeroValue56
 t37:=aj1
 a37:=an9
 z37:=am9
 v37:=ak4
 t70:=Tryz.underlying218
 a70:=Tryz.isAgg218
 z70:=Tryz.sizeOf218
 v70:=Tryz.zeroValue218
 t72:=Tryz.underlying220
 a72:=Tryz.isAgg220
 z72:=Tryz.sizeOf220
 v72:=Tryz.zeroValue220
 t75:=Tryz.underlying223
 a75:=Tryz.isAgg223
 z75:=Tryz.sizeOf223
 v75:=Tryz.zeroValue223
 t76:=Tryz.underlying224
 a76:=Tryz.isAgg224
 z76:=Tryz.sizeOf224
 v76:=Tryz.zeroValue224
 t127:=Tryz.underlying240
 a127:=Tryz.isAgg240
 z127:=Tryz.sizeOf240
 v127:=Tryz.zeroValue240
 t164:=Tryz.underlying246
 a164:=Tryz.isAgg246
 z164:=Tryz.sizeOf246
 v164:=Tryz.zeroValue246 }
theorem Tryz.Builder_Extra_156:Builder.Extra p5 Tryz.lays156_ren:={
 sizeBuilder:=by kernel_rfl
 liesBuilder:=by kernel_rfl
 t5:=x5
 a5:=ac5
 z5:=ab7
 v5:=y5
 infoByte:=by kernel_rfl
 cellsByte:=by kernel_rfl
 sizeByte:=by kernel_rfl
 neB5:=by decide }
def Tryz.lays195_ren:aa0:=⟨fun|195=>223|n=>n,fun|9=>9|3=>3|0=>0|4=>4|n=>n,fun|n=>n⟩
theorem Tryz.lays195:as9 p5 Tryz.lays195_ren:={
 mixed:=by kernel_rfl
 f195:=ar3.trans (congrArg some (by kernel_rfl))
 t0:=y9
 a0:=ad4
 z0:=ac8
 v0:=aa4
 t3:=p9
 a3:=aa8
 z3:=aa1
 v3:=w9
 t4:=x3
 a4:=ab6
 z4:=aa7
 v4:=x4
 t9:=x6
 a9:=ac6
 z9:=ab8
 v9:=y7 }
def Tryz.laysM171_ren:aa0:=⟨fun|171=>123|243=>169|246=>206|283=>228|284=>229|285=>230|286=>231|129=>151|317=>245|318=>246|319=>247|320=>248|337=>258|338=>259|n=>n,fun|3=>3|9=>9|2=>2|4=>4|171=>228|0=>0|53=>167|37=>154|5=>5|173=>230|212=>242|51=>24|20=>20|213=>243|46=>103|232=>249|233=>250|n=>n,fun|17=>3|18=>4|19=>5|n=>n⟩
theorem Tryz.laysM171:ar8 p5 Tryz.laysM171_ren:={
 mixed:=by kernel_rfl
 f129:=Tryz.func151.trans (congrArg some (by kernel_rfl))
 f171:=Tryz.func123.trans (congrArg some (by kernel_rfl))
 f243:=Tryz.func169.trans (congrArg some (by kernel_rfl))
 f246:=Tryz.func206.trans (congrArg some (by kernel_rfl))
 f283:=Tryz.func228.trans (congrArg some (by kernel_rfl))
 f284:=Tryz.func229.trans (congrArg some (by kernel_rfl))
 f285:=Tryz.func230.trans (congrArg some (by kernel_rfl))
 f286:=Tryz.func231.trans (congrArg some (by kernel_rfl))
 f317:=Tryz.func245.trans (congrArg some (by kernel_rfl))
 f318:=Tryz.func246.trans (congrArg some (by kernel_rfl))
 f319:=Tryz.func247.trans (congrArg some (by kernel_rfl))
 f320:=ar4.trans (congrArg some (by kernel_rfl))
 f337:=ar5.trans (congrArg some (by kernel_rfl))
 f338:=ar6.trans (congrArg some (by kernel_rfl))
 t0:=y9
 a0:=ad4
 z0:=ac8
 v0:=aa4
 t2:=Tryz.underlying2
 a2:=Tryz.isAgg2
 z2:=Tryz.sizeOf2
 v2:=Tryz.zeroValue2
 t3:=p9
 a3:=aa8
 z3:=aa1
 v3:=w9
 t4:=x3
 a4:=ab6
 z4:=aa7
 v4:=x4
 t5:=x5
 a5:=ac5
 z5:=ab7
 v5:=y5
 t9:=x6
 a9:=ac6
 z9:=ab8
 v9:=y7
 t20:=ak3
 a20:=ar7
 z20:=ao2
 v20:=am1
 t37:=aj1
 a37:=an9
 z37:=am9
 v37:=ak4
 t46:=z7
 a46:=ac9
 z46:=ac3
 v46:=aa2
 t51:=ad1
 a51:=af6
 z51:=ae5
 v51:=ad5
 t53:=af8
 a53:=ai8
 z53:=ai3
 v53:=ag3
 t171:=Tryz.underlying228
 a171:=Tryz.isAgg228
 z171:=Tryz.sizeOf228
 v171:=Tryz.zeroValue228
 t173:=Tryz.underlying230
 a173:=Tryz.isAgg230
 z173:=Tryz.sizeOf230
 v173:=Tryz.zeroValue230
 t212:=Tryz.underlying242
 a212:=Tryz.isAgg242
 z212:=Tryz.sizeOf242
 v212:=Tryz.zeroValue242
 t213:=Tryz.underlying243
 a213:=Tryz.isAgg243
 z213:=Tryz.sizeOf243
 t232:=aj2
 a232:=ao0
 z232:=an0
 v232:=ak5
 t233:=aj3
 a233:=ao1
 z233:=an1
 v233:=Tryz.zeroValue250
 g17:=by kernel_rfl
 g18:=by kernel_rfl
 g19:=by kernel_rfl
 i0:=by kernel_rfl
 i2:=by kernel_rfl
 i3:=by kernel_rfl
 i4:=by kernel_rfl
 i5:=by kernel_rfl
 i9:=by kernel_rfl
 i20:=by kernel_rfl
 i37:=by kernel_rfl
 i46:=by kernel_rfl
 i51:=by kernel_rfl
 i53:=by kernel_rfl
 i171:=by kernel_rfl
 i173:=by kernel_rfl
 i212:=by kernel_rfl
 i232:=by kernel_rfl
 i233:=by kernel_rfl
 m17:=by kernel_rfl
 m18:=by kernel_rfl
 m19:=by kernel_rfl }
def Tryz.lays143_ren:aa0:=⟨fun|143=>179|219=>152|217=>187|225=>188|224=>189|267=>190|266=>217|314=>218|n=>n,fun|9=>9|3=>3|4=>4|5=>5|46=>103|146=>216|51=>24|n=>n,fun|1=>0|n=>n⟩
theorem Tryz.lays143:as5 p5 Tryz.lays143_ren:={
 mixed:=by kernel_rfl
 f143:=ar2.trans (congrArg some (by kernel_rfl))
 f217:=af4.trans (congrArg some (by kernel_rfl))
 f219:=ak0.trans (congrArg some (by kernel_rfl))
 f224:=ah2.trans (congrArg some (by kernel_rfl))
 f225:=ah1.trans (congrArg some (by kernel_rfl))
 f266:=af5.trans (congrArg some (by kernel_rfl))
 f267:=ak1.trans (congrArg some (by kernel_rfl))
 f314:=ak2.trans (congrArg some (by kernel_rfl))
 t3:=p9
 a3:=aa8
 z3:=aa1
 v3:=w9
 t4:=x3
 a4:=ab6
 z4:=aa7
 v4:=x4
 t5:=x5
 a5:=ac5
 z5:=ab7
 v5:=y5
 t9:=x6
 a9:=ac6
 z9:=ab8
 v9:=y7
 t46:=z7
 a46:=ac9
 z46:=ac3
 v46:=aa2
 t51:=ad1
 a51:=af6
 z51:=ae5
 v51:=ad5
 t146:=af9
 a146:=ai9
 z146:=ai4
 v146:=ag4
 g1:=by kernel_rfl }
def Tryz.lays145_ren:aa0:=⟨fun|145=>73|220=>109|219=>152|217=>187|225=>188|224=>189|267=>190|266=>217|314=>218|n=>n,fun|9=>9|4=>4|59=>117|3=>3|5=>5|46=>103|146=>216|51=>24|n=>n,fun|1=>0|n=>n⟩
theorem Tryz.lays145:as6 p5 Tryz.lays145_ren:={
 mixed:=by kernel_rfl
 f145:=Tryz.func73.trans (congrArg some (by kernel_rfl))
 f217:=af4.trans (congrArg some (by kernel_rfl))
 f219:=ak0.trans (congrArg some (by kernel_rfl))
 f220:=Tryz.func109.trans (congrArg some (by kernel_rfl))
 f224:=ah2.trans (congrArg some (by kernel_rfl))
 f225:=ah1.trans (congrArg some (by kernel_rfl))
 f266:=af5.trans (congrArg some (by kernel_rfl))
 f267:=ak1.trans (congrArg some (by kernel_rfl))
 f314:=ak2.trans (congrArg some (by kernel_rfl))
 t3:=p9
 a3:=aa8
 z3:=aa1
 v3:=w9
 t4:=x3
 a4:=ab6
 z4:=aa7
 v4:=x4
 t5:=x5
 a5:=ac5
 z5:=ab7
 v5:=y5
 t9:=x6
 a9:=ac6
 z9:=ab8
 v9:=y7
 t46:=z7
 a46:=ac9
 z46:=ac3
 v46:=aa2
 t51:=ad1
 a51:=af6
 z51:=ae5
 v51:=ad5
 t59:=Tryz.underlying117
 a59:=Tryz.isAgg117
 z59:=Tryz.sizeOf117
 v59:=Tryz.zeroValue117
 t146:=af9
 a146:=ai9
 z146:=ai4
 v146:=ag4
 g1:=by kernel_rfl }
def Tryz.lays138_ren:aa0:=⟨fun|138=>235|195=>223|218=>249|143=>179|219=>152|217=>187|225=>188|224=>189|267=>190|266=>217|314=>218|n=>n,fun|9=>9|3=>3|4=>4|5=>5|0=>0|46=>103|146=>216|51=>24|n=>n,fun|1=>0|n=>n⟩
theorem Tryz.lays138:as4 p5 Tryz.lays138_ren:={
 mixed:=by kernel_rfl
 f138:=Tryz.func235.trans (congrArg some (by kernel_rfl))
 f143:=ar2.trans (congrArg some (by kernel_rfl))
 f195:=ar3.trans (congrArg some (by kernel_rfl))
 f217:=af4.trans (congrArg some (by kernel_rfl))
 f218:=Tryz.func249.trans (congrArg some (by kernel_rfl))
 f219:=ak0.trans (congrArg some (by kernel_rfl))
 f224:=ah2.trans (congrArg some (by kernel_rfl))
 f225:=ah1.trans (congrArg some (by kernel_rfl))
 f266:=af5.trans (congrArg some (by kernel_rfl))
 f267:=ak1.trans (congrArg some (by kernel_rfl))
 f314:=ak2.trans (congrArg some (by kernel_rfl))
 t0:=y9
 a0:=ad4
 z0:=ac8
 v0:=aa4
 t3:=p9
 a3:=aa8
 z3:=aa1
 v3:=w9
 t4:=x3
 a4:=ab6
 z4:=aa7
 v4:=x4
 t5:=x5
 a5:=ac5
 z5:=ab7
 v5:=y5
 t9:=x6
 a9:=ac6
 z9:=ab8
 v9:=y7
 t46:=z7
 a46:=ac9
 z46:=ac3
 v46:=aa2
 t51:=ad1
 a51:=af6
 z51:=ae5
 v51:=ad5
 t146:=af9
 a146:=ai9
 z146:=ai4
 v146:=ag4
 g1:=by kernel_rfl }
def Tryz.lays196_ren:aa0:=⟨fun|196=>222|259=>241|n=>n,fun|9=>9|4=>4|3=>3|5=>5|12=>12|119=>233|0=>0|46=>103|139=>236|138=>235|53=>167|n=>n,fun|3=>1|4=>2|n=>n⟩
theorem Tryz.lays196:at3 p5 Tryz.lays196_ren:={
 mixed:=by kernel_rfl
 f196:=Tryz.func222.trans (congrArg some (by kernel_rfl))
 f259:=Tryz.func241.trans (congrArg some (by kernel_rfl))
 t0:=y9
 a0:=ad4
 z0:=ac8
 v0:=aa4
 t3:=p9
 a3:=aa8
 z3:=aa1
 v3:=w9
 t4:=x3
 a4:=ab6
 z4:=aa7
 v4:=x4
 t5:=x5
 a5:=ac5
 z5:=ab7
 v5:=y5
 t9:=x6
 a9:=ac6
 z9:=ab8
 v9:=y7
 t12:=Tryz.underlying12
 a12:=Tryz.isAgg12
 z12:=Tryz.sizeOf12
 v12:=Tryz.zeroValue12
 t46:=z7
 a46:=ac9
 z46:=ac3
 v46:=aa2
 t53:=af8
 a53:=ai8
 z53:=ai3
 v53:=ag3
 t119:=Tryz.underlying233
 a119:=Tryz.isAgg233
 z119:=Tryz.sizeOf233
 t138:=Tryz.underlying235
 a138:=Tryz.isAgg235
 z138:=Tryz.sizeOf235
 v138:=Tryz.zeroValue235
 t139:=Tryz.underlying236
 a139:=Tryz.isAgg236
 z139:=Tryz.sizeOf236
 v139:=Tryz.zeroValue236
 g3:=by kernel_rfl
 g4:=by kernel_rfl }
def Tryz.lays2_21_ren:aa0:=⟨fun|21=>237|27=>251|28=>252|35=>260|39=>261|n=>n,fun|22=>169|3=>3|4=>4|0=>0|n=>n,fun|n=>n⟩
theorem Tryz.lays2_21:at4 p5 Tryz.lays2_21_ren:={
 mixed:=by kernel_rfl
 f21:=Tryz.func237.trans (congrArg some (by kernel_rfl))
 f27:=Tryz.func251.trans (congrArg some (by kernel_rfl))
 f28:=Tryz.func252.trans (congrArg some (by kernel_rfl))
 f35:=Tryz.func260.trans (congrArg some (by kernel_rfl))
 f39:=Tryz.func261.trans (congrArg some (by kernel_rfl))
 t0:=y9
 a0:=ad4
 z0:=ac8
 v0:=aa4
 t3:=p9
 a3:=aa8
 z3:=aa1
 v3:=w9
 t4:=x3
 a4:=ab6
 z4:=aa7
 v4:=x4
 t22:=Tryz.underlying169
 a22:=Tryz.isAgg169
 z22:=Tryz.sizeOf169
 v22:=Tryz.zeroValue169
 i3:=by kernel_rfl }
def Tryz.lays7_27_ren:aa0:=⟨fun|27=>248|28=>258|29=>259|n=>n,fun|25=>103|3=>3|27=>24|22=>167|4=>4|53=>249|0=>0|5=>5|54=>250|n=>n,fun|0=>4|1=>5|n=>n⟩
theorem Tryz.lays7_27:at5 p5 Tryz.lays7_27_ren:={
 mixed:=by kernel_rfl
 f27:=ar4.trans (congrArg some (by kernel_rfl))
 f28:=ar5.trans (congrArg some (by kernel_rfl))
 f29:=ar6.trans (congrArg some (by kernel_rfl))
 t0:=y9
 a0:=ad4
 z0:=ac8
 v0:=aa4
 i0:=by kernel_rfl
 t3:=p9
 a3:=aa8
 z3:=aa1
 v3:=w9
 i3:=by kernel_rfl
 t4:=x3
 a4:=ab6
 z4:=aa7
 v4:=x4
 i4:=by kernel_rfl
 t5:=x5
 a5:=ac5
 z5:=ab7
 v5:=y5
 i5:=by kernel_rfl
 t22:=af8
 a22:=ai8
 z22:=ai3
 v22:=ag3
 i22:=by kernel_rfl
 t25:=z7
 a25:=ac9
 z25:=ac3
 v25:=aa2
 i25:=by kernel_rfl
 t27:=ad1
 a27:=af6
 z27:=ae5
 v27:=ad5
 i27:=by kernel_rfl
 t53:=aj2
 a53:=ao0
 z53:=an0
 v53:=ak5
 i53:=by kernel_rfl
 t54:=aj3
 a54:=ao1
 z54:=an1
 g0:=by kernel_rfl
 g1:=by kernel_rfl }
def Tryz.lays137_ren:aa0:=⟨fun|137=>157|217=>187|266=>217|n=>n,fun|9=>9|5=>5|3=>3|n=>n,fun|n=>n⟩
theorem Tryz.lays137:as3 p5 Tryz.lays137_ren:={
 mixed:=by kernel_rfl
 f137:=ar1.trans (congrArg some (by kernel_rfl))
 f217:=af4.trans (congrArg some (by kernel_rfl))
 f266:=af5.trans (congrArg some (by kernel_rfl))
 t3:=p9
 a3:=aa8
 z3:=aa1
 v3:=w9
 t5:=x5
 a5:=ac5
 z5:=ab7
 v5:=y5
 t9:=x6
 a9:=ac6
 z9:=ab8
 v9:=y7 }
def Tryz.lays153_ren:aa0:=⟨fun|153=>119|152=>159|226=>160|227=>161|228=>162|137=>157|119=>196|224=>189|225=>188|217=>187|266=>217|n=>n,fun|9=>9|3=>3|4=>4|5=>5|21=>21|117=>177|116=>176|0=>0|46=>103|124=>200|n=>n,fun|n=>n⟩
theorem Tryz.lays153:as7 p5 Tryz.lays153_ren:={
 mixed:=by kernel_rfl
 f119:=Tryz.func196.trans (congrArg some (by kernel_rfl))
 f137:=ar1.trans (congrArg some (by kernel_rfl))
 f152:=Tryz.func159.trans (congrArg some (by kernel_rfl))
 f153:=Tryz.func119.trans (congrArg some (by kernel_rfl))
 f217:=af4.trans (congrArg some (by kernel_rfl))
 f224:=ah2.trans (congrArg some (by kernel_rfl))
 f225:=ah1.trans (congrArg some (by kernel_rfl))
 f226:=Tryz.func160.trans (congrArg some (by kernel_rfl))
 f227:=Tryz.func161.trans (congrArg some (by kernel_rfl))
 f228:=Tryz.func162.trans (congrArg some (by kernel_rfl))
 f266:=af5.trans (congrArg some (by kernel_rfl))
 t0:=y9
 a0:=ad4
 z0:=ac8
 v0:=aa4
 t3:=p9
 a3:=aa8
 z3:=aa1
 v3:=w9
 t4:=x3
 a4:=ab6
 z4:=aa7
 v4:=x4
 t5:=x5
 a5:=ac5
 z5:=ab7
 v5:=y5
 t9:=x6
 a9:=ac6
 z9:=ab8
 v9:=y7
 t21:=Tryz.underlying21
 a21:=Tryz.isAgg21
 z21:=Tryz.sizeOf21
 v21:=Tryz.zeroValue21
 t46:=z7
 a46:=ac9
 z46:=ac3
 v46:=aa2
 t116:=Tryz.underlying176
 a116:=Tryz.isAgg176
 z116:=Tryz.sizeOf176
 t117:=Tryz.underlying177
 a117:=Tryz.isAgg177
 z117:=Tryz.sizeOf177
 v117:=Tryz.zeroValue177
 t124:=Tryz.underlying200
 a124:=Tryz.isAgg200
 z124:=Tryz.sizeOf200
 v124:=Tryz.zeroValue200 }
end Go.Proofs
namespace Go.Proofs.YtfkhfkjcidamaaaGreatDoor.E
set_option linter.all false
section
open Go Go.Proofs Go.Sort
set_option maxRecDepth 100000
def YJ{C:Cfg}{St:Nat->Prop}{w:World}{g:Nat}{k:IntKind}{zs:List Int}(a:GOK C St w)(b:C.G=GX)(h:GX.tab g=some (k,zs)):∃e x,w.heap[g]? = some (.cells (zs.map λz=>Value.int k z).toArray e x):=(a.1 g k zs (by rw[b];exact h)).2
def Cq9{C:Cfg}{St:Nat->Prop}{w:World}(a:GOK C St w)(b:C.G=GX):∃m,w.cell? ⟨0,0,none⟩=some (.int .i64 m):=(a.2 _ (by rw[b];rfl)).2
def GJ{w:World}{g:Nat}{a:List Int}{k:IntKind}{e:TypeId}{x}(h:w.heap[g]? = some (.cells (a.map λz=>Value.int k z).toArray e x))(i:Nat)(b:i<a.length):w.cell? ⟨g,i,none⟩=some (.int k (a.getD i 0)):=by simp[World.cell?,h,j6,j9 b]
def Dd5{C:Cfg}{St:Nat->Prop}{w:World}(f:GOK C St w)(a:C.G=GX):Lib.Utf8Tabs 1 2 w:=by
 obtain⟨j,m,h⟩:=YJ (g:=1) (k:=.u8) (zs:=aj7) f a rfl;obtain⟨b,n,d⟩:=YJ (g:=2) (k:=.u8) (zs:=Hk) f a rfl;refine⟨λc a=>?_,λi l=>⟨?_,?_⟩⟩
 ·rw[GJ h c (by simp[aj7];omega)];simp[aj7,j6,j9,a]
 ·rw[GJ d (2*i) (by simp[Hk];omega)];have:2*i<32:=by omega
  simp[Hk,j6,this]
 ·rw[GJ d (2*i+1) (by simp[Hk];omega)];have:2*i+1<32:=by omega
  have e:(2*i+1) / 2=i:=by omega
  have b:¬(2*i+1) % 2=0:=by omega
  simp[Hk,j6,this,e,b]
def Cr0{C:Cfg}{St:Nat->Prop}{w:World}(b:GOK C St w)(c:C.G=GX):Lib.TabIs p5 w "internal/strconv.uint64pow10" .u64 aq5:=by
 obtain⟨d,e,a⟩:=YJ (g:=3) (k:=.u64) (zs:=aq5) b c rfl;unfold Lib.TabIs World.var?
 rw [show p5.globalNamed "internal/strconv.uint64pow10" = some 3 by kernel_rfl]
 simp only[al0,a]
def Br2:B4 p5 GX 179 JH:=by
 refine B4.fix (pf:=WB) _ (J3 (fn:=Tryz.f179) (by kernel_rfl) (by kernel_rfl) (by kernel_rfl) ?_);intro args ret o h;unfold WB at h;split at h
 ·rename_i s p;obtain⟨b,h⟩:=C4 h;obtain⟨rfl,rfl⟩:=J6 h;refine⟨rfl,rfl,λC r a t w q c f d=>?_⟩;obtain⟨U,V,rfl,j,k⟩:=d.arr2;obtain⟨n,rfl,rfl⟩:=j.inv_str;obtain⟨l,rfl,rfl⟩:=k.inv_str;obtain⟨m,g⟩:=Cq9 c a;have i:=L7 b;refine(Any.strings_Index Tryz.lays143 n l m w (by simp at i;omega) g).mono ?_;rintro e w' ⟨rfl,rfl⟩;exact⟨_,rfl,ae1 _ _,VP.mk_int _ _⟩
 ·cases h
def C84:B4 p5 GX 73 A07:=by
 refine B4.fix (pf:=WA) _ (J3 (fn:=Tryz.f73) (by kernel_rfl) (by kernel_rfl) (by kernel_rfl) ?_);intro args ret q h;unfold WA at h;split at h
 ·rename_i s p;obtain⟨b,h⟩:=C4 h;obtain⟨rfl,rfl⟩:=J6 h;refine⟨rfl,rfl,λC t a u w r c f d=>?_⟩;obtain⟨U,V,rfl,j,k⟩:=d.arr2;obtain⟨o,rfl,rfl⟩:=j.inv_str;obtain⟨l,rfl,rfl⟩:=k.inv_str;obtain⟨m,g⟩:=Cq9 c a;have i:=L7 b;refine(Any.strings_Cut Tryz.lays145 o l m w (by simp at i;omega) g).mono ?_;rintro e w' ⟨rfl,n,rfl⟩;exact⟨_,rfl,Pu _ _,VP.mk_tup3 (VP.mk_str _) (VP.mk_str _) (VP.mk_bool _)⟩
 ·cases h
def C83:B4 p5 GX 235 A06:=by
 refine B4.fix (pf:=VZ) _ (J3 (fn:=Tryz.f235) (by kernel_rfl) (by kernel_rfl) (by kernel_rfl) ?_);intro args ret o h;unfold VZ at h;split at h
 ·rename_i s p;obtain⟨f,h⟩:=C4 h;obtain⟨rfl,rfl⟩:=J6 h;refine⟨rfl,rfl,λC t g u w q r j i=>?_⟩;obtain⟨U,V,rfl,l,m⟩:=i.arr2;obtain⟨n,rfl,rfl⟩:=l.inv_str;obtain⟨b,rfl,k⟩:=m.inv_str;obtain⟨c,rfl⟩:∃c,p=[c]:=by
   match p,f with
   | [c],_=>exact⟨c,rfl⟩
  have a:b=⟨#[c]⟩:=by
   cases b with
   | mk d=>congr 1;exact Array.toList_inj.1 k
  subst a;refine(Any.strings_Count_one Tryz.lays138 n c w).mono ?_;rintro e w' ⟨rfl,rfl⟩;exact⟨_,rfl,ae1 _ _,VP.mk_int _ _⟩
 ·cases h
def C68:B4 p5 GX 123 Az3:=by
 refine B4.fix (pf:=UJ) _ (J3 (fn:=Tryz.f123) (by kernel_rfl) (by kernel_rfl) (by kernel_rfl) ?_);intro args ret l h;unfold UJ at h;split at h
 ·rename_i n;obtain⟨b,h⟩:=C4 h;obtain⟨rfl,rfl⟩:=J6 h;refine⟨rfl,rfl,λC o a p w m c i g=>?_⟩;obtain⟨U,rfl,j⟩:=g.arr1;obtain rfl:=j.inv_int;obtain⟨d,f⟩:=E3.1 b;refine(Any.strconv_Itoa Tryz.laysM171 n (by omega) (by omega) w (Cr0 c a)).mono ?_;rintro e w' ⟨rfl,k,os,rfl⟩;refine⟨_,rfl,(Pu w k).trans (show ar0 w.heap.size _ _ from KA (w.drewN k) os),?_⟩;have:Lib.itoa n=k9 n.toNat:=by unfold Lib.itoa;rw[G0]
  rw[this];exact VP.mk_str _
 ·cases h
def Ac4{l:LL}(h:l.all isS=true):l=D5 (l.map elS):=by
 unfold D5;rw[aj8]
 symm
 rw[af1 (g:=id)]
 ·simp
 ·intro x a;have:=ae3.1 h x a;unfold isS at this;split at this
  ·rfl
  grind
def B22:B4 p5 GX 202 WE:=by
 refine B4.fix (pf:=JK) _ (J3 (fn:=Tryz.f202) (by kernel_rfl) (by kernel_rfl) (by kernel_rfl) ?_);intro args ret Hc h;unfold JK at h;split at h
 ·rename_i z t l p;obtain⟨L,h⟩:=C4 h;obtain⟨O,h⟩:=C4 h;obtain⟨P,h⟩:=C4 h;obtain⟨rfl,rfl⟩:=J6 h;refine⟨rfl,rfl,λC hP Q Γ w Vs hG H R=>?_⟩;obtain⟨U,V,rfl,Z,hv⟩:=R.arr2;obtain⟨u,rfl,rfl⟩:=hv.inv_str;have m:=L7 O;have hn:=L7 P;have Y:=Z.inv_s;have c:∀(a:Option Addr) (cap:Nat),l=[]->Calls p5 202 #[.slice a 0 cap,.string u] w λe w'=>∃V,e = .returned V/\ar0 w.heap.size w w'/\VP Γ (A5 []) w' (.s (.str (ag6 (l.map elS) u.data.toList))) V:=by
   intro a cap T;subst T;refine(Any.strings_Join_none Tryz.lays156 Tryz.Builder_Extra_156 a cap u w).mono ?_;rintro e w' ⟨rfl,rfl⟩;exact⟨_,rfl,ae1 _ _,VP.mk_str _⟩
  cases Y with
  | nil=>exact c _ _ rfl
  | emp=>exact c _ _ rfl
  | sl _ _ g off n cap sz Vc I M hm ht S W y K=>
   subst I;have N:=Ac4 L;have J:∀i (h:i<l.length),∃b:ByteArray,(l[i])=[SV.str b.data.toList]/\w.cell? ⟨g,off+i,none⟩=some (.string b):=by
    intro i B;have d:=ae3.1 L (l[i]) (ak8 B);unfold isS at d;split at d
    ·rename_i x r;have k:=y i B 0 (by rw[r];simp);have o:=K i B 0 (by rw[r];simp);simp only[r,List.getElem_cons_zero] at o;obtain⟨b,f,rfl⟩:=o.inv_str;rw[f] at k;exact⟨b,r,by simpa using k⟩
    ·cases d
   obtain⟨xs,q,A⟩:∃xs:List ByteArray,xs.map (·.data.toList)=l.map elS/\∀(j:Nat) x,xs[j]? = some x->w.cell? ⟨g,off+j,none⟩=some (.string x):=by
    refine⟨(l.map elS).map λs=>⟨s.toArray⟩,by simp[Function.comp_def],?_⟩;intro j x d;simp only[List.getElem?_map] at d;cases D:l[j]? with
    | none=>simp[D] at d
    | some el=>
     obtain⟨F,rfl⟩:=List.getElem?_eq_some_iff.1 D;obtain⟨b,f,v⟩:=J j F;simp only[D,ad7,o8] at d;rw[f] at d;simp[elS,SV.gS] at d;rw[<-d];exact v
   have G:xs.length=l.length:=by
    have:=congrArg j8 q;simpa using this
   rw[<-q] at m ⊢;have f:g<w.heap.size:=H g S;have X:l.length<=140737488355328:=by omega
   refine(G▸Any.strings_Join Tryz.lays156 Tryz.Builder_Extra_156 g off cap xs u w A f (by omega) (by omega) (by omega)).mono ?_;rintro e w' ⟨rfl,hw⟩;exact⟨_,rfl,hw,VP.mk_str _⟩
 ·cases h
def OH(b:Nat)(f:b<=9223372036854775808):B4 p5 GX 95 (Me b):=by
 induction b with
 | zero=>
  intro args ret c h;exfalso;unfold Me Je at h;split at h
  ·rename_i n g;obtain⟨a,h⟩:=C4 h;have:=E3.1 a;omega
  ·cases h
 | succ b d=>
  refine B4.fix (pf:=Je (b+1)) _ (J4 [] (C₀:=BF b) (N3.ok (l:=[(95,Me b)]) rfl ⟨d (by omega),trivial⟩) (J2 rfl (by kernel_rfl)) follows ?_);intro args ret c h;unfold Je at h;split at h
  ·rename_i n;obtain⟨a,h⟩:=C4 h;obtain⟨rfl,rfl⟩:=J6 h;have e:=(A68 b noY () 0 n).trans (YI b (by omega) n a);exact⟨rfl,rfl,rfl,1,_,_,e,rfl⟩
  ·cases h
def TL:B4 p5 GX 95 Zy:=OH 4294967296 (by omega)
def D63(x:Nat)(h:x<65536):A19 .u64 (x:Int) 15=((x % 16:Nat):Int):=by unfold A19;rw[show ac7 .u64=64 from rfl,show(15:Int)=((15:Nat):Int) from rfl,Du9 64 x 15 (by omega) (by omega),show x &&& 15=x % 16 from ae4 x 4];exact Ad8 (by omega) (by omega)
def Ea4(x:Nat):Pc .u64 (x:Int) 4=((x / 16:Nat):Int):=by unfold Pc;show Int.fdiv (x:Int) 16=_;grind
def Bv6(d:Nat)(h:d<16):bAt (([48,49,50,51,52,53,54,55,56,57,97,98,99,100,101,102,103,104,105,106,107,108,109,110,111,112,113,114,115,116]:List UInt8)++([117,118,119,120,121,122]:List UInt8)) (d:Int)=((Lh d).toNat:Int):=by
 have:∀d:Fin 16,bAt (([48,49,50,51,52,53,54,55,56,57,97,98,99,100,101,102,103,104,105,106,107,108,109,110,111,112,113,114,115,116]:List UInt8)++([117,118,119,120,121,122]:List UInt8)) (d.val:Int)=((Lh d.val).toNat:Int):=by decide
 exact this ⟨d,h⟩
def Uw(i:Nat)(s:By):LL:=a8 i [SV.int .u8 0]++s.map E4
def KW(i:Nat)(s:By):(Uw i s).length=i+s.length:=by simp[Uw]
def Ai4(i:Nat)(s:By)(c:UInt8):ac1 (Uw (i+1) s) i (G5 (j0 (Uw (i+1) s) i []) 0 [SV.int .u8 (c.toNat:Int)])=Uw i (c::s):=by
 have a:j0 (Uw (i+1) s) i []=[SV.int .u8 0]:=by
  unfold Uw;grind
 rw[a];unfold Uw;rw[List.replicate_succ',ab5,ah9 _ _ (by simp),List.length_replicate,aq9];rfl
def A65{R:Type}(z t:Bool)(l:LL){e:Bool->Bool->LL->Int->Int->LL->Option R}:∀(v i n:Nat) (s:By),v<65536->v<n->i+s.length=65->(P9 v).length+s.length<=60->
  ∃(u a:Nat) (b:By),u<16/\Lh u::b=P9 v++s/\a+b.length=65/\Lf LF n z t l (v:Int) (i:Int) (Uw i s) e=e z t l (u:Int) (a:Int) (Uw a b):=by
 intro v
 induction v using af0 with
 | _ v w=>
  intro i n s r y q x;obtain⟨n,rfl⟩:∃m,n=m+1:=⟨n-1,by omega⟩
  rw[Lf];by_cases h:v<16
  ·refine⟨v,i,s,h,by rw[Z3 h];rfl,q,?_⟩;rw[A8];rfl
  ·have d:=X6 h;have c:(P9 v).length=(P9 (v / 16)).length+1:=by rw[d];simp
   obtain⟨j,rfl⟩:∃j,i=j+1:=⟨i-1,by omega⟩
   have f:A1 (((j+1:Nat):Int)-1)=(j:Int):=by rw[A7];omega
   obtain⟨u,a,b,g,k,o,p⟩:=w (v / 16) (by omega) j n (Lh (v % 16)::s) (by omega) (by omega) (by rw[ab9];omega) (by rw[ab9];omega);refine⟨u,a,b,g,by rw[k,d];simp,o,?_⟩;rw[A6,j4,cond_true,D63 v r];simp only[vl];rw[Ea4,f,j2,F1,Bv6 _ (by omega),F1];simp only[cond_true];rw[Ai4,KW,show(decide (j<j+1+s.length))=true from decide_eq_true (by omega)];exact p
def B46{R:Type}{k0:By->LL->Option R}(z t:Bool)(l:LL)(v:Int)(f:ltN v 65536=true):∃p,Aj6 LF z t l v k0=k0 (P9 v.toNat) p:=by
 obtain⟨d,m⟩:=E3.1 f;obtain⟨v,rfl⟩:=o5 d;have k:=C5;have r:=Xl v (by omega);rw[j2];unfold Aj6;have o:(a8 65 [SV.int .u8 (0:Int)])=Uw 65 []:=by unfold Uw;rw[aq6,aa3]
 rw[o];obtain⟨u,i,s,g,c,q,h⟩:=A65 (R:=R) z t l v 65 LF [] (by omega) (by omega) rfl (by rw[ae8];omega);rw[aa3] at c;have n:s.length<=3:=by have:=congrArg j8 c;rw[ab9] at this;omega
 obtain⟨j,rfl⟩:∃j,i=j+1:=⟨i-1,by omega⟩
 refine⟨Uw j (Lh u::s),?_⟩;rw[show((16:Int)==16)=true from rfl,cond_true,cond_true];refine j1 h ?_;have e:A1 (((j+1:Nat):Int)-1)=(j:Int):=by rw[A7];omega
 simp only[vl];rw[e,j2,F1,Bv6 u g,F1];simp only[cond_true];have a:(Lh u::s).length=s.length+1:=rfl;have b:((Uw j (Lh u::s)).drop j).take (65-j)=(Lh u::s).map E4:=by
  unfold Uw;rw[am4 (by simp),o9 (by rw[ae7,a];omega)]
 rw[Ai4,KW,KW,show(decide (j<j+1+s.length))=true from decide_eq_true (by omega),a,show(decide (j+(s.length+1)=65))=true from decide_eq_true (by omega),I3,b,Y7,Z6,c];rfl
def A66(z t:Bool)(l:LL)(v:Int)(c:ltN v 65536=true):∃r H,Aj6 LF z t l v (λb a=>rv (.tup [.fl 0,.s (.str b)]) [.arr true 5 1 [],.arr false 243 1 a])=rv r H/\r.stab [1,0] H = .tup [.s (.sl true true 1 []),.s (.str (P9 v.toNat))]:=by obtain⟨d,e⟩:=B46 (k0:=(λb a=>rv (.tup [.fl 0,.s (.str b)]) [.arr true 5 1 [],.arr false 243 1 a])) z t l v c;exact⟨_,_,e,rfl⟩
def B48{C:Cfg}{St:Nat->Prop}{w:World}(c:GOK C St w)(d:C.G=GX):TabAt 5 aj6 w:=by obtain⟨e,f,b⟩:=YJ (g:=5) (k:=.u8) (zs:=aj6.map λn:Nat=>(n:Int)) c d rfl;intro j a;rw[GJ b j (by rw[ae7];exact a)];simp[j6,j9 a]
def Ea5:B4 p5 GX 248 Dw3:=by
 refine B4.fix (pf:=Cm4) _ (J3 (fn:=Tryz.f248) (by kernel_rfl) (by kernel_rfl) (by kernel_rfl) ?_);intro args ret i h;unfold Cm4 at h;split at h
 ·rename_i x;obtain⟨b,h⟩:=C4 h;obtain⟨rfl,rfl⟩:=J6 h;obtain rfl:x=16:=eq_of_beq b;refine⟨rfl,rfl,λC k a l w j c f d=>?_⟩;obtain⟨U,rfl,g⟩:=d.arr1;obtain rfl:=g.inv_int;refine(Any7.bits_TrailingZeros Tryz.lays7_27 16 (by omega) w (λ_=>B48 c a)).mono ?_;rintro e w' ⟨rfl,rfl⟩;exact⟨_,rfl,ae1 _ _,VP.mk_int _ _⟩
 ·cases h
def Dq6:B4 p5 GX 247 UI:=by
 refine B4.fix (pf:=HX) _ (J4 [] (C₀:=XD LF) (N3.ok (l:=[]) rfl trivial) (J2 rfl (by kernel_rfl)) follows ?_);intro args ret b h;unfold HX at h;split at h
 ·rename_i x;obtain⟨a,h⟩:=C4 h;obtain⟨rfl,rfl⟩:=J6 h;obtain rfl:x=16:=eq_of_beq a;exact⟨rfl,rfl,rfl,1,_,_,Cs8 LF noY () 0,rfl⟩
 ·cases h
def Dq2:B4 p5 GX 231 TV:=by
 refine B4.fix (pf:=HQ) _ (J4 [1,0] (C₀:=Jh LF) (N3.ok (l:=[(247,UI),(248,Dw3)]) rfl ⟨Dq6,Ea5,trivial⟩) (J2 rfl (by kernel_rfl)) follows ?_);intro args ret k h;unfold HQ at h;split at h
 ·rename_i c a ds v b neg app;obtain⟨d,h⟩:=C4 h;obtain⟨f,h⟩:=C4 h;obtain⟨g,h⟩:=C4 h;obtain⟨i,h⟩:=C4 h;obtain⟨rfl,rfl⟩:=J6 h;obtain rfl:b=16:=eq_of_beq f;obtain rfl:neg=false:=by simpa using g
  obtain rfl:app=false:=by simpa using i
  obtain⟨r,H,e,j⟩:=A66 c a ds v d;exact⟨rfl,rfl,rfl,1,r,H,(Cq5 LF noY () 0 c a ds v).trans e,j⟩
 ·cases h
def Dq5:B4 p5 GX 244 UH:=by
 refine B4.fix (pf:=HW) _ (J4 [] (C₀:=XC LF) (N3.ok (l:=[(231,TV)]) rfl ⟨Dq2,trivial⟩) (J2 rfl (by kernel_rfl)) follows ?_);intro args ret f h;unfold HW at h;split at h
 ·rename_i v b;obtain⟨a,h⟩:=C4 h;obtain⟨c,h⟩:=C4 h;obtain⟨rfl,rfl⟩:=J6 h;obtain rfl:b=16:=eq_of_beq c;have e:Bw8 LF v (λd=>rv (.s (.str d)) [])=rv (.s (.str (P9 v.toNat))) []:=by
   unfold Bw8;rw[a];rfl
  exact⟨rfl,rfl,rfl,1,_,_,(Cs2 LF noY () 0 v).trans e,rfl⟩
 ·cases h
def D28:B4 p5 GX 227 Ck3:=by
 refine B4.fix (pf:=TW) _ (J4 [] (C₀:=A29 LF) (N3.ok (l:=[(244,UH)]) rfl ⟨Dq5,trivial⟩) (J2 rfl (by kernel_rfl)) follows ?_);intro args ret f h;unfold TW at h;split at h
 ·rename_i v b;obtain⟨a,h⟩:=C4 h;obtain⟨c,h⟩:=C4 h;obtain⟨rfl,rfl⟩:=J6 h;obtain rfl:b=16:=eq_of_beq c;have e:Dd2 LF v (λd=>rv (.s (.str d)) [])=rv (.s (.str (P9 v.toNat))) []:=by
   unfold Dd2;rw[a];rfl
  exact⟨rfl,rfl,rfl,1,_,_,(Dd3 LF noY () 0 v).trans e,rfl⟩
 ·cases h
end
section
open Go Go.Proofs
def D19(z t:Bool)(l:LL)(c:l.all Xr=true)(d:ai5 l.length 8=true):∃r H,v6j LF z t l (λb a=>rv (.s (.str b)) [.arr true 9 1 a])=rv r H/\r.stab [] H = .s (.str (K7 (l.map elN))):=by obtain⟨f,e⟩:=C58 (k0:=(λb a=>rv (.s (.str b)) [.arr true 9 1 a])) z t l c d;exact⟨_,_,e,rfl⟩
def D17(a b c d f g h i:Int)(l:ok8 a b c d f g h i=true):∃r H,v6f LF a b c d f g h i (λk j=>rv (.s (.str k)) [.arr false 26 1 j])=rv r H/\r.stab [] H = .s (.str (Ao (n8 a b c d f g h i))):=by obtain⟨m,e⟩:=C56 (k0:=(λk j=>rv (.s (.str k)) [.arr false 26 1 j])) a b c d f g h i l;exact⟨_,_,e,rfl⟩
def v6V(s:By):PV:=.tup [.agg [.s (.int .u16 (v6c 0 s)),.s (.int .u16 (v6c 1 s)),.s (.int .u16 (v6c 2 s)),.s (.int .u16 (v6c 3 s)),.s (.int .u16 (v6c 4 s)),.s (.int .u16 (v6c 5 s)),.s (.int .u16 (v6c 6 s)),.s (.int .u16 (v6c 7 s))],.s (.bool (v6B s).isSome)]
def D22(s:By)(k:A3 s.length=true):∃r H,v6p LF s (λb c d f g h i j r8 a l10=>rv (.tup [.agg [.s (.int .u16 b),.s (.int .u16 c),.s (.int .u16 d),.s (.int .u16 f),.s (.int .u16 g),.s (.int .u16 h),.s (.int .u16 i),.s (.int .u16 j)],.s (.bool r8)]) [.arr false 26 1 a,.arr false 26 1 l10])=rv r H/\r.stab [0,0] H=v6V s:=by obtain⟨l,m,e⟩:=C59 (k0:=(λb c d f g h i j r8 a l10=>rv (.tup [.agg [.s (.int .u16 b),.s (.int .u16 c),.s (.int .u16 d),.s (.int .u16 f),.s (.int .u16 g),.s (.int .u16 h),.s (.int .u16 i),.s (.int .u16 j)],.s (.bool r8)]) [.arr false 26 1 a,.arr false 26 1 l10])) s k;exact⟨_,_,e,rfl⟩
def Dm9(s:By)(k:A3 s.length=true):∃r H,C15 LF s (λb c d f g h i j r8 a l10=>rv (.tup [.agg [.s (.int .u16 b),.s (.int .u16 c),.s (.int .u16 d),.s (.int .u16 f),.s (.int .u16 g),.s (.int .u16 h),.s (.int .u16 i),.s (.int .u16 j)],.s (.bool r8)]) [.arr false 26 1 a,.arr false 26 1 l10])=rv r H/\r.stab [0,0] H=v6V s:=by obtain⟨l,m,e⟩:=Cf0 (k0:=(λb c d f g h i j r8 a l10=>rv (.tup [.agg [.s (.int .u16 b),.s (.int .u16 c),.s (.int .u16 d),.s (.int .u16 f),.s (.int .u16 g),.s (.int .u16 h),.s (.int .u16 i),.s (.int .u16 j)],.s (.bool r8)]) [.arr false 26 1 a,.arr false 26 1 l10])) s k;exact⟨_,_,e,rfl⟩
set_option maxRecDepth 100000
section
variable {Z R : Type} (L : Nat) (Q : G4) (Y : Yh Z) (s : Z) (k : Out -> St Z -> Option R)
noncomputable abbrev Ag8:Code:=C7 ap0
noncomputable def Hl(L:Nat):Cfg:=B8 L [164] (A2 [(16,[2,0,4,41,0,0])]) [(120,HV),(197,Br9),(198,Ck6),(199,Bu2),(102,Ri),(200,Cl3),(176,PY),(201,Cl0),(202,WE)] (A2 [(28,[2,0]),(25,[2,0]),(27,[2,0]),(26,[2,10,64]),(24,[2,10,59]),(23,[2,10]),(22,[2,5,41,0,0]),(21,[2,5,41,0,0]),(20,[2,0]),(19,[2,5,0,1,0,37,0,0,10]),(18,[2,5,0,1,0,37,0,0]),(17,[2,5,0,0,39,0,0]),(16,[2,5,41,0,0,0]),(15,[2,5,41,0,0]),(14,[2,5]),(13,[2,0]),(12,[2,0]),(11,[2,3,37]),(10,[2,3,0]),(9,[2,1,32]),(8,[2,1]),(7,[2,0]),(6,[2,1,27]),(5,[2,1,0]),(2,[2,0]),(4,[2,0]),(3,[0,1,16]),(1,[0,1,11]),(0,[0,1])]) [120,198,199,102,200,201,202] (A2 [(3,[2,10]),(1,[2,5]),(2,[2,5,41,0,0]),(0,[0,1])]) (some [2,0]) [] [] []
def U8{R:Type}(L n:Nat)(a:Nat)(i c:Int)(e:LL)(g:Int->LL->Option R)(h:Nat->LL->Option R):Option R:=match n with|0=>none|n+1=>cond (ltI c i) (cond (inR c a) (cond (okE Pd e (0+(b8 c)) 0) (vl (gX e (0+(b8 c)) 0) λb=>cond (A3 b.length) (vl (↑((I7 b)).2:Int) λd=>cond (d !=0) (g d e) (cond (inR c a) (cond (decide ((0+(b8 c))<e.length)) (vl (ac1 e (0+(b8 c)) (G5 (j0 e (0+(b8 c)) []) 0 [(SV.str ((I7 b)).1)])) λf=>U8 L n a i (A1 (c+1)) f g h) none) none)) none) none) none) (h a e)
def YK(n:Nat)(a:Nat)(d e:Int)(c:LL):D0 2 ((Hl L).keep 16) (bd (Hl L) Q Y (cd [1,1,1,1,1,1,1,0,1,0,0] Ag8)) n ⟨gp [(2,.ptr 0 0 0),(5,.vw 1 0 a),(41,.vw 1 0 a),(0,pI d),(0,pI e)] 31,[.box [pI (0:Int),pS ([]:List UInt8),p32 (0:Int),p16 (0:Int),p16 (0:Int),p16 (0:Int),p16 (0:Int),p16 (0:Int),p16 (0:Int),p16 (0:Int),p16 (0:Int)],.arr false 9 1 c],s⟩ k =
 U8 L n a d e c (λn0 b=>k .ret ⟨gp [(2,.ptr 0 0 0),(0,pI n0)] 80,[.box [pI (0:Int),pS ([]:List UInt8),p32 (0:Int),p16 (0:Int),p16 (0:Int),p16 (0:Int),p16 (0:Int),p16 (0:Int),p16 (0:Int),p16 (0:Int),p16 (0:Int)],.arr false 9 1 b],s⟩) (λa b=>k (.exit 1) ⟨gp [(2,.ptr 0 0 0),(5,.vw 1 0 a)] 75,[.box [pI (0:Int),pS ([]:List UInt8),p32 (0:Int),p16 (0:Int),p16 (0:Int),p16 (0:Int),p16 (0:Int),p16 (0:Int),p16 (0:Int),p16 (0:Int),p16 (0:Int)],.arr false 9 1 b],s⟩):=by
 induction n generalizing a d e c with
 | zero=>rfl
 | succ n f=>rw[U8];simp only[<-f];kernel_rfl
def CE{R:Type}(L:Nat)(a:By)(t:Int->By->Int->Int->Int->Int->Int->Int->Int->Int->Int->Int->Int->By->Int->Int->Int->Int->Int->Int->Int->Int->Int->Option R)(y:Int->By->Int->Int->By->LL->Option R):Option R:=cond (ltI 1024 (a.length:Int)) (t 0 ([]:List UInt8) 0 0 0 0 0 0 0 0 0 3 0 ([]:List UInt8) 0 0 0 0 0 0 0 0 0) (cond (A3 a.length) (cond (w8 ([91]:List UInt8) a) (cond (A3 a.length) (cond (Cs6 a) (vl (↑(B5.kind ((R1 a)).1):Int) λf=>vl (B5.name ((R1 a)).1) λr=>vl (↑(B5.v4 ((R1 a)).1):Int) λg=>vl (↑(j0 (B5.v6 ((R1 a)).1) 0 0):Int) λh=>vl (↑(j0 (B5.v6 ((R1 a)).1) 1 0):Int) λi=>vl (↑(j0 (B5.v6 ((R1 a)).1) 2 0):Int) λj=>vl (↑(j0 (B5.v6 ((R1 a)).1) 3 0):Int) λl=>vl (↑(j0 (B5.v6 ((R1 a)).1) 4 0):Int) λm=>vl (↑(j0 (B5.v6 ((R1 a)).1) 5 0):Int) λn=>vl (↑(j0 (B5.v6 ((R1 a)).1) 6 0):Int) λo=>vl (↑(j0 (B5.v6 ((R1 a)).1) 7 0):Int) λp=>vl (↑((R1 a)).2:Int) λw=>t f r g h i j l m n o p w f r g h i j l m n o p) none) none) (cond (A3 a.length) (cond (not (o0 (R8 a))) (t 0 ([]:List UInt8) 0 0 0 0 0 0 0 0 0 14 0 ([]:List UInt8) 0 0 0 0 0 0 0 0 0) (cond (A3 (j8 (Gg a))) (vl (Ac7 (Gg a) ([46]:List UInt8)) λb=>cond (A3 b.length) (cond (E9 b) (cond (A3 b.length) (vl (↑(N8 (pnB b)):Int) λq=>cond (not (o0 (pnB b))) (t 0 ([]:List UInt8) 0 0 0 0 0 0 0 0 0 14 0 ([]:List UInt8) 0 0 0 0 0 0 0 0 0) (t 2 ([]:List UInt8) q 0 0 0 0 0 0 0 0 0 2 ([]:List UInt8) q 0 0 0 0 0 0 0 0)) none) (cond (A3 b.length) (cond (1==1) (vl (D5 (pcs (j0 ([46]:List UInt8) 0 0) b)) λu=>U8 L L (j8 (pcs (j0 ([46]:List UInt8) 0 0) b)) (↑(j8 (pcs (j0 ([46]:List UInt8) 0 0) b)):Int) 0 u (λx v=>y 0 ([]:List UInt8) x 0 ([]:List UInt8) v) (λc d=>cond (ab4 (v8 c (ab2 0 d)) isS) (cond (A3 (j8 (ag6 (x8 elS (v8 c (ab2 0 d))) ([46]:List UInt8)))) (cond (A3 (j8 (v8 c (ab2 0 d)))) (vl (ag6 (x8 elS (v8 c (ab2 0 d))) ([46]:List UInt8)) λe=>cond (ltI 253 (e.length:Int)) (y 0 ([]:List UInt8) 3 0 ([]:List UInt8) d) (cond (A3 e.length) (cond (E9 e) (y 0 ([]:List UInt8) 14 0 ([]:List UInt8) d) (y 1 e 0 1 e d)) none)) none) none) none)) none) none)) none) none)) none)) none)
def B57(d:Nat)(raw0):evC (Hl L) (d+1) Z Y 164 [pS raw0] [] s=CE L raw0 (λo p t M N O P S r8 T q r c u e f g h i j l m n=>some (.tup [.agg [pI o,pS p,p32 t,p16 M,p16 N,p16 O,p16 P,p16 S,p16 r8,p16 T,p16 q],pI r],[.box [pI c,pS u,p32 e,p16 f,p16 g,p16 h,p16 i,p16 j,p16 l,p16 m,p16 n]],s)) (λo p t K U J=>some (.tup [.agg [pI o,pS p,p32 (0:Int),p16 (0:Int),p16 (0:Int),p16 (0:Int),p16 (0:Int),p16 (0:Int),p16 (0:Int),p16 (0:Int),p16 (0:Int)],pI t],[.box [pI K,pS U,p32 (0:Int),p16 (0:Int),p16 (0:Int),p16 (0:Int),p16 (0:Int),p16 (0:Int),p16 (0:Int),p16 (0:Int),p16 (0:Int)],.arr false 9 1 J],s)):=by refine(evE (fn:=ap0) (by kernel_rfl)).trans ?_;generalize evC (Hl L) d=Q;unfold CE;exact(j1 (by kernel_rfl) (A0 rfl (A0 (A0 (A0 (A0 (A4 λv=>(A4 λI=>(A4 λw=>(A4 λx=>(A4 λy=>(A4 λz=>(A4 λA=>(A4 λB=>(A4 λC=>(A4 λD=>(A4 λF=>(A4 λG=>rfl)))))))))))) rfl) rfl) (A0 (A0 rfl (A0 (A4 λa=>(A0 (A0 (A0 (A4 λH=>(A0 rfl rfl)) rfl) (A0 (A0 (A4 λb=>((YK L Q Y s (E2 1 (E1 (Hl L) Q Y (cd [1,1,1,1,1,1,1,1] Ag8) (F4 (Hl L) ap0))) L (j8 (pcs (j0 ([46]:List UInt8) 0 0) a)) (↑(j8 (pcs (j0 ([46]:List UInt8) 0 0) a)):Int) 0 b).trans (by kernel_rfl))) rfl) rfl)) rfl)) rfl)) rfl)) rfl)))
noncomputable abbrev Bu7:Code:=C7 ao9
noncomputable def Mn(L:Nat):Cfg:=B8 L [141] (A2 [(6,[0,1,0,1,10,0,0])]) [(180,Cl2),(181,Az8)] (A2 [(13,[2]),(12,[0,3,0,2]),(11,[0,2,1,10,0,0]),(10,[0,2,1,10,0,0]),(9,[2]),(8,[0,2,1,1,8,0,0,8]),(7,[0,2,1,1,8,0,0]),(6,[0,2,1,10,0,0,0]),(5,[0,2,1,10,0,0]),(4,[0,2,1]),(3,[2]),(2,[0,2,11]),(1,[0,2,0]),(0,[0])]) [181] (A2 [(0,[0,2,1]),(1,[0,2,1,10,0,0])]) (some [2]) [] [] []
def Z5{R:Type}(L n:Nat)(i:By)(b:Bool)(a:LL)(c:Bool)(h e:Int)(f:Unit->Option R)(g:By->Bool->LL->Bool->Option R):Option R:=match n with|0=>none|n+1=>cond (ltI e h) (cond (inR e a.length) (cond (okE Ma a (b8 e) 0) (vl (gE a (b8 e) 0) λd=>cond (not (ltI d 65)) (cond (not (ltI 90 d)) (f ()) (cond c (Z5 L n i b a (ltI d 128) h (A1 (e+1)) f g) (Z5 L n i b a false h (A1 (e+1)) f g))) (cond c (Z5 L n i b a (ltI d 128) h (A1 (e+1)) f g) (Z5 L n i b a false h (A1 (e+1)) f g))) none) none) (g i b a c)
def Am4(n d a b c n4 n5):D0 0 ((Mn L).keep 6) (bd (Mn L) Q Y (cd [1,1,1,1,0,1,0,0] Bu7)) n ⟨gp [(0,pS d),(2,.s (.sl a a 1 b)),(1,pB c),(10,.s (.sl a a 1 b)),(0,pI n4),(0,pI n5)] 31,[],s⟩ k =
 Z5 L n d a b c n4 n5 (λ_=>k .ret ⟨gp [(2,pB false)] 47,[],s⟩) (λd a b c=>k (.exit 0) ⟨gp [(0,pS d),(2,.s (.sl a a 1 b)),(1,pB c)] 44,[],s⟩):=by
 induction n generalizing d a b c n4 n5 with
 | zero=>rfl
 | succ n e=>rw[Z5];simp only[<-e];kernel_rfl
def Bx5{R:Type}(L:Nat)(d:By)(e:Bool->Option R):Option R:=cond (A3 d.length) (cond ((↑((O5 d)).2:Int)!=0) (e false) (Z5 L L d (p7 ((O5 d)).1) (Ni ((O5 d)).1) true (↑(j8 (Ni ((O5 d)).1)):Int) 0 (λ_=>e false) (λg c a b=>cond (ab4 a Ou) (vl ((Y2 (x8 elI a))).1 λh=>vl (↑((Y2 (x8 elI a))).2:Int) λf=>cond (not b) (cond (f==0) (e (h==g)) (e false)) (e false)) none))) none
def Ct4(d:Nat)(s0):evC (Mn L) (d+1) Z Y 141 [pS s0] [] s=Bx5 L s0 (λa=>some (pB a,[],s)):=by refine(evE (fn:=ao9) (by kernel_rfl)).trans ?_;generalize evC (Mn L) d=Q;unfold Bx5;exact(j1 (by kernel_rfl) (A0 (A0 rfl ((Am4 L Q Y s (E2 0 (E1 (Mn L) Q Y (cd [1,1,1,1,1] Bu7) (F4 (Mn L) ao9))) L s0 (p7 ((O5 s0)).1) (Ni ((O5 s0)).1) true (↑(j8 (Ni ((O5 s0)).1)):Int) 0).trans (by kernel_rfl))) rfl))
noncomputable abbrev Cn8:Code:=C7 ao3
noncomputable def Uk(L:Nat):Cfg:=B8 L [104] (A2 [(4,[0,1,26,0])]) [(118,Ay8),(141,Bs2)] (A2 [(11,[2]),(10,[5,0]),(9,[0,28,0]),(8,[2]),(7,[0,28,0,28]),(6,[0,3,24,0]),(5,[0,2,25,0]),(4,[0,28,0,0]),(3,[0,28,0]),(2,[2]),(1,[0,26]),(0,[0])]) [118,141] (A2 [(0,[0]),(1,[0,28,0])]) (some [2]) [] [] []
def T6{R:Type}(L n:Nat)(b:By)(e a:Int)(c:Unit->Option R)(d:By->Option R):Option R:=match n with|0=>none|n+1=>cond (ltI a e) (cond (inR a b.length) (cond (not (ltI (bAt b a) (97:Int))) (cond (not (not (ltI 122 (bAt b a)))) (cond (not (ltI (bAt b a) (48:Int))) (cond (not (not (ltI 57 (bAt b a)))) (cond ((bAt b a)!=45) (cond ((bAt b a)!=95) (c ()) (T6 L n b e (A1 (a+1)) c d)) (T6 L n b e (A1 (a+1)) c d)) (T6 L n b e (A1 (a+1)) c d)) (cond ((bAt b a)!=45) (cond ((bAt b a)!=95) (c ()) (T6 L n b e (A1 (a+1)) c d)) (T6 L n b e (A1 (a+1)) c d))) (T6 L n b e (A1 (a+1)) c d)) (cond (not (ltI (bAt b a) (48:Int))) (cond (not (not (ltI 57 (bAt b a)))) (cond ((bAt b a)!=45) (cond ((bAt b a)!=95) (c ()) (T6 L n b e (A1 (a+1)) c d)) (T6 L n b e (A1 (a+1)) c d)) (T6 L n b e (A1 (a+1)) c d)) (cond ((bAt b a)!=45) (cond ((bAt b a)!=95) (c ()) (T6 L n b e (A1 (a+1)) c d)) (T6 L n b e (A1 (a+1)) c d)))) none) (d b)
def Ba5(n a n1 n2):D0 0 ((Uk L).keep 4) (bd (Uk L) Q Y (cd [1,1,0,1,0,0] Cn8)) n ⟨gp [(0,pS a),(28,pI n1),(0,pI n2)] 41,[],s⟩ k =
 T6 L n a n1 n2 (λ_=>k .ret ⟨gp [(2,pB false)] 69,[],s⟩) (λa=>k (.exit 0) ⟨gp [(0,pS a)] 71,[],s⟩):=by
 induction n generalizing a n1 n2 with
 | zero=>rfl
 | succ n b=>rw[T6];simp only[<-b];kernel_rfl
def Dh1{R:Type}(L:Nat)(a:By)(b:Bool->Option R):Option R:=cond (ltI (a.length:Int) (1:Int)) (b false) (cond (ltI 63 (a.length:Int)) (b false) (cond (inR 0 a.length) (cond ((bAt a (0:Int))==45) (b false) (vl (A1 ((a.length:Int)-1)) λd=>cond (inR d a.length) (cond ((bAt a d)==45) (b false) (T6 L L a (a.length:Int) 0 (λ_=>b false) (λc=>cond (A3 c.length) (vl (Hu c ([120,110,45,45]:List UInt8)) λe=>cond (not (w8 ([120,110,45,45]:List UInt8) c)) (b true) (cond (A3 e.length) (b (Er e)) none)) none))) none)) none))
def Dh2(d:Nat)(s0):evC (Uk L) (d+1) Z Y 104 [pS s0] [] s=Dh1 L s0 (λb=>some (pB b,[],s)):=by refine(evE (fn:=ao3) (by kernel_rfl)).trans ?_;generalize evC (Uk L) d=Q;unfold Dh1;exact(j1 (by kernel_rfl) (A0 rfl (A0 rfl (A0 (A0 rfl (A4 λa=>(A0 (A0 rfl ((Ba5 L Q Y s (E2 0 (E1 (Uk L) Q Y (cd [1,1,1] Cn8) (F4 (Uk L) ao3))) L s0 (s0.length:Int) 0).trans (by kernel_rfl))) rfl))) rfl))))
noncomputable abbrev A20:Code:=C7 ap5
noncomputable def Px(L:Nat):Cfg:=B8 L [201] (A2 [(9,[2,0,1,20])]) [(222,Ag3),(223,Ag1),(116,Az4),(181,Az8),(104,UR)] (A2 [(18,[2,0]),(17,[2,0]),(16,[4,41]),(15,[4]),(14,[2,0]),(13,[8,32]),(12,[8,0]),(11,[5,20]),(10,[5,1,18]),(9,[5,20,0,0]),(8,[5,20]),(7,[4,0]),(6,[4,19]),(5,[0,3]),(2,[2,0]),(4,[2,0]),(3,[0,13]),(1,[0,9]),(0,[0])]) [222,223,116,181,104] (A2 [(1,[5]),(2,[5,20]),(0,[0])]) (some [2,0]) [] [] []
def Gc{R:Type}(L n:Nat)(c:LL)(b:By)(a:Nat)(e:LL->By->Nat->Option R):Option R:=match n with|0=>none|n+1=>cond (decide (a<b.length)) (vl ((as2 ⟨aq8 b⟩ a)).1 λd=>cond (G2 (c.length+1)) (Gc L n (c++[[(SV.int .i64 (A1 d))]]) b (a+((as2 ⟨aq8 b⟩ a)).2) e) none) (e c b a)
def A89(n:Nat)(a:LL)(c:By)(b:Nat):D0 2 ((Px L).keep 9) (bd (Px L) Q Y (cd [1,1,1,0,1,0,1,0,1,0,0] A20)) n ⟨gp [(5,.fl 0),(20,.it 1)] 21,[.arr true 3 1 a,.iter c b],s⟩ k =
 Gc L n a c b (λa c b=>k (.exit 1) ⟨gp [(5,.fl 0)] 42,[.arr true 3 1 a,.iter c b],s⟩):=by
 induction n generalizing a c b with
 | zero=>rfl
 | succ n d=>rw[Gc];simp only[<-d];kernel_rfl
def Am1{R:Type}(L:Nat)(b:By)(g:By->Int->Option R)(h:By->Int->LL->By->Nat->Option R):Option R:=cond (A3 b.length) (cond (not (o0 (Df b))) (g ([]:List UInt8) 4) (cond (A3 b.length) (vl (↑(am6 b):Int) λi=>cond (ltI 256 i) (g ([]:List UInt8) 3) (cond (A3 b.length) (cond (A3 b.length) (vl (↑(am6 b):Int) λj=>cond (ltI j (b.length:Int)) (Gc L L [] (B6 b) 0 (λa e d=>cond (ab4 a Ou) (vl ((Y2 (x8 elI a))).1 λf=>vl (↑((Y2 (x8 elI a))).2:Int) λl=>cond (l !=0) (h ([]:List UInt8) 14 a e d) (cond (E6 4 f.length) (vl (([120,110,45,45]:List UInt8)++f) λc=>cond (A3 c.length) (cond (not (K6 c)) (h ([]:List UInt8) 14 a e d) (h c 0 a e d)) none) none)) none)) (cond (A3 (j8 (B6 b))) (cond (not (K6 (B6 b))) (g ([]:List UInt8) 14) (g (B6 b) 0)) none)) none) none)) none)) none
def Df9(d:Nat)(s0):evC (Px L) (d+1) Z Y 201 [pS s0] [] s=Am1 L s0 (λa b=>some (.tup [pS a,pI b],[],s)) (λa b c h e=>some (.tup [pS a,pI b],[.arr true 3 1 c,.iter h e],s)):=by refine(evE (fn:=ap5) (by kernel_rfl)).trans ?_;generalize evC (Px L) d=Q;unfold Am1;exact(j1 (by kernel_rfl) (A0 (A0 rfl (A0 (A4 λf=>(A0 rfl (A0 (A0 (A4 λg=>(A0 ((A89 L Q Y s (E2 1 (E1 (Px L) Q Y (cd [1,1,1,0,1,0,1,1] A20) (E1 (Px L) Q Y (cd [1,1,1,1] A20) (F4 (Px L) ap5)))) L [] (B6 s0) 0).trans (by kernel_rfl)) (A0 (A0 rfl rfl) rfl))) rfl) rfl))) rfl)) rfl))
noncomputable abbrev Ub:Code:=C7 al8
noncomputable def Kc(L:Nat):Cfg:=B8 L [220] (A2 []) [] (A2 [(7,[2]),(2,[2]),(4,[2]),(6,[2]),(5,[0,23]),(3,[0,12]),(1,[0,2]),(0,[0])]) [] (A2 [(0,[])]) (some [2]) [] [] []
def Xj{R:Type}(a:Int)(h:Bool)(f:Int->Option R)(g:Int->Bool->Option R):Option R:=cond h (vl (A1 (wu8 (a-97))) λb=>vl (A1 (b+10)) λc=>f c) (cond (not (ltI a 65)) (cond (not (ltI 70 a)) (vl (A1 (wu8 (a-65))) λd=>vl (A1 (d+10)) λe=>f e) (g a (not (ltI 70 a)))) (g a false))
abbrev RJ(b:Code):Prop:=∀(k:Out->St Z->Option R) a c,A9 (Kc L) Q Y b ⟨gp [(0,p8 a),(12,pB c)] 21,[],s⟩ k=Xj a c (λn0=>k .ret ⟨gp [(2,pI n0)] 32,[],s⟩) (λa c=>k .normal ⟨gp [(0,p8 a),(23,pB c)] 10,[],s⟩)
def A80:RJ (R:=R) L Q Y s (cd [1,0,0,1,1,1] Ub):=by intro k a b;unfold Xj;kernel_rfl
def Xk{R:Type}(b:Int)(l:Bool)(f:Int->Option R)(j:Int->Bool->Option R):Option R:=cond l (vl (A1 (wu8 (b-48))) λg=>f g) (cond (not (ltI b 97)) (Xj b (not (ltI 102 b)) (λh=>f h) (λc d=>j c d)) (Xj b false (λi=>f i) (λe a=>j e a)))
abbrev CD(b:Code):Prop:=∀(k:Out->St Z->Option R) a c,A9 (Kc L) Q Y b ⟨gp [(0,p8 a),(2,pB c)] 31,[],s⟩ k=Xk a c (λn0=>k .ret ⟨gp [(2,pI n0)] 32,[],s⟩) (λa c=>k .normal ⟨gp [(0,p8 a),(23,pB c)] 10,[],s⟩)
def A81(a:Code)(b:RJ (R:=R) L Q Y s a):CD (R:=R) L Q Y s (cd [1,0,0,1] (G7 [1,0,0,1,1,1] a Ub)):=by intro k c d;unfold Xk;simp only[<-b k];kernel_rfl
def A82:CD (R:=R) L Q Y s (cd [1,0,0,1] Ub):=by intro k a b;exact j1 (by kernel_rfl) (A81 L Q Y s (cd [1,0,0,1,1,1] Ub) (A80 L Q Y s) k a b)
def Cr8{R:Type}(L:Nat)(c:Int)(d:Int->Option R):Option R:=cond (not (ltI c 48)) (Xk c (not (ltI 57 c)) (λa=>d a) (λe f=>d (-1))) (Xk c false (λb=>d b) (λg h=>d (-1)))
def De3(b:Code)(a:CD (R:=PV × List Blk × Z) L Q Y s b)(c:Int):A9 (Kc L) Q Y (cd [] (G7 [1,0,0,1] b Ub)) ⟨[p8 c]++tps 34,[],s⟩ (F4 (Kc L) al8)=Cr8 L c (λe=>some (pI e,[],s)):=by unfold Cr8;exact let d:=(E2 0 (E1 (Kc L) Q Y (cd [1,1] Ub) (F4 (Kc L) al8)));(j1 (by kernel_rfl) (A0 ((a d c (not (ltI 57 c))).trans (by kernel_rfl)) ((a d c false).trans (by kernel_rfl))))
def De4(d:Nat)(b0):evC (Kc L) (d+1) Z Y 220 [p8 b0] [] s=Cr8 L b0 (λa=>some (pI a,[],s)):=
 (evE (fn:=al8) (by kernel_rfl)).trans (j1 (by kernel_rfl) (De3 L (evC (Kc L) d) Y s (cd [1,0,0,1] Ub) (A82 L (evC (Kc L) d) Y s) b0))
noncomputable abbrev Cn6:Code:=C7 ap3
noncomputable def Ui(L:Nat):Cfg:=B8 L [198] (A2 [(3,[0,1,0,0,0])]) [(220,Ck7)] (A2 [(14,[2,0]),(4,[0,3,0]),(13,[0,3,0]),(12,[0,3,0]),(11,[2,0]),(10,[0,3,0,0,0,39]),(9,[0,3,0,0,0]),(8,[2,0]),(7,[0,3,0,25]),(6,[0,3,0]),(5,[0,3,0,14]),(3,[0,3,0,8]),(2,[0,3,0]),(1,[0,3]),(0,[0])]) [220] (A2 [(0,[4]),(1,[0,3,0])]) (some [2,0]) [] [] []
def U2{R:Type}(L n:Nat)(b:By)(a:Int)(c:LL)(f:LL->Option R)(g:LL->Option R):Option R:=match n with|0=>none|n+1=>cond (ltI a (b.length:Int)) (cond (inR a b.length) (cond ((bAt b a)!=37) (cond (inR a b.length) (cond (G2 (c.length+1)) (U2 L n b (A1 (a+1)) (c++[[(SV.int .u8 (bAt b a))]]) f g) none) none) (cond (not (ltI (A1 (a+2)) (b.length:Int))) (f c) (cond (inR (A1 (a+1)) b.length) (vl (bAt b (A1 (a+1))) λd=>cond (inR d 256) (cond (inR (A1 (a+2)) b.length) (vl (bAt b (A1 (a+2))) λe=>cond (inR e 256) (cond (ltI (Fz (u8n d)) (0:Int)) (f c) (cond (ltI (Fz (u8n e)) (0:Int)) (f c) (vl (A1 ((16:Int)*(Fz (u8n d)))) λh=>vl (A1 (h+(Fz (u8n e)))) λi=>cond (G2 (c.length+1)) (vl (A1 ((A1 (a+2))+1)) λj=>U2 L n b j (c++[[(SV.int .u8 (wu8 i))]]) f g) none))) none) none) none) none))) none) (g c)
def A79(n s0 i1 l2):D0 1 ((Ui L).keep 3) (bd (Ui L) Q Y (cd [1,0,1,1,0,1,0,0] Cn6)) n ⟨gp [(0,pS s0),(3,.fl 0),(0,pI i1)] 54,[.arr false 5 1 l2],s⟩ k =
 U2 L n s0 i1 l2 (λa=>k .ret ⟨gp [(2,pS ([]:List UInt8)),(0,pB false)] 56,[.arr false 5 1 a],s⟩) (λa=>k (.exit 0) ⟨gp [(4,.fl 0)] 55,[.arr false 5 1 a],s⟩):=by
 induction n generalizing s0 i1 l2 with
 | zero=>rfl
 | succ n b=>rw[U2];simp only[<-b];kernel_rfl
def Cr7{R:Type}(L:Nat)(c:By)(d:By->Bool->LL->Option R):Option R:=cond ((decide ((0:Int)<=(c.length:Int)))&&(G2 (b8 (c.length:Int)))) (U2 L L c 0 [] (λb=>d ([]:List UInt8) false b) (λa=>cond (ab4 a Pb) (d (x8 Mu a) true a) none)) none
def De1(d:Nat)(s0):evC (Ui L) (d+1) Z Y 198 [pS s0] [] s=Cr7 L s0 (λb c a=>some (.tup [pS b,pB c],[.arr false 5 1 a],s)):=by refine(evE (fn:=ap3) (by kernel_rfl)).trans ?_;generalize evC (Ui L) d=Q;unfold Cr7;exact(j1 (by kernel_rfl) (A0 ((A79 L Q Y s (E2 0 (E1 (Ui L) Q Y (cd [1,0,1,1,1] Cn6) (F4 (Ui L) ap3))) L s0 0 []).trans (by kernel_rfl)) rfl))
noncomputable def XB(L:Nat):Cfg:=B8 L [197] (A2 []) [(219,Du4)] (A2 [(6,[2,0]),(5,[2,0]),(4,[2,2,15]),(3,[2,2,0]),(2,[0,1,1,8]),(1,[0,1,1]),(0,[0,1])]) [] (A2 []) (some [2,0]) [] [] []
def Bw2{R:Type}(L:Nat)(b:By)(l:Int->Int->Int->Int->Int->Int->Int->Int->Int->Int->Int->LL->Option R)(m:Unit->Option R):Option R:=vl (A1 ((b.length:Int)-1)) λa=>cond (inR a b.length) (cond ((bAt b a)==93) (cond (J0 1 a b.length) (cond (A3 (j8 (cut b 1 a))) (vl (↑(v6c 0 (cut b 1 a)):Int) λc=>vl (↑(v6c 1 (cut b 1 a)):Int) λd=>vl (↑(v6c 2 (cut b 1 a)):Int) λe=>vl (↑(v6c 3 (cut b 1 a)):Int) λf=>vl (↑(v6c 4 (cut b 1 a)):Int) λg=>vl (↑(v6c 5 (cut b 1 a)):Int) λh=>vl (↑(v6c 6 (cut b 1 a)):Int) λi=>vl (↑(v6c 7 (cut b 1 a)):Int) λj=>cond (o0 (v6B (cut b 1 a))) (l 3 c d e f g h i j 0 3 [[(SV.int .u16 c)],[(SV.int .u16 d)],[(SV.int .u16 e)],[(SV.int .u16 f)],[(SV.int .u16 g)],[(SV.int .u16 h)],[(SV.int .u16 i)],[(SV.int .u16 j)]]) (l 0 0 0 0 0 0 0 0 0 14 0 [[(SV.int .u16 c)],[(SV.int .u16 d)],[(SV.int .u16 e)],[(SV.int .u16 f)],[(SV.int .u16 g)],[(SV.int .u16 h)],[(SV.int .u16 i)],[(SV.int .u16 j)]])) none) none) (m ())) none
def Cr5(d:Nat)(s0):evC (XB L) (d+1) Z Y 197 [pS s0] [] s=Bw2 L s0 (λl c e f g h i j r8 m b a=>some (.tup [.agg [pI l,pS ([]:List UInt8),p32 (0:Int),p16 c,p16 e,p16 f,p16 g,p16 h,p16 i,p16 j,p16 r8],pI m],[.box [pI b,pS ([]:List UInt8),p32 (0:Int),p16 c,p16 e,p16 f,p16 g,p16 h,p16 i,p16 j,p16 r8],.arr false 26 1 a],s)) (λ_=>some (.tup [.agg [pI (0:Int),pS ([]:List UInt8),p32 (0:Int),p16 (0:Int),p16 (0:Int),p16 (0:Int),p16 (0:Int),p16 (0:Int),p16 (0:Int),p16 (0:Int),p16 (0:Int)],pI (14:Int)],[.box [pI (0:Int),pS ([]:List UInt8),p32 (0:Int),p16 (0:Int),p16 (0:Int),p16 (0:Int),p16 (0:Int),p16 (0:Int),p16 (0:Int),p16 (0:Int),p16 (0:Int)]],s)):=by refine(evE (fn:=Tryz.f197) (by kernel_rfl)).trans ?_;generalize evC (XB L) d=Q;unfold Bw2;kernel_rfl
noncomputable def A35(L:Nat):Cfg:=B8 L [39] (A2 []) [(65,Ck9)] (A2 [(9,[2]),(4,[2]),(6,[2]),(8,[2]),(7,[1,31]),(5,[1,1,1,16]),(3,[1,1,1,0]),(2,[1,1,1]),(1,[1,1]),(0,[1])]) [65] (A2 [(0,[])]) (some [2]) [] [] []
def Pa{R:Type}(L:Nat)(c:Int)(b:By)(d e f g h i j l a:Int)(m:Bool->Int->By->Int->Int->Int->Int->Int->Int->Int->Int->Int->LL->Option R):Option R:=cond (c==1) (cond (A3 b.length) (cond (V0 b) (cond (d==0) (m ((e==0)&&((f==0)&&((g==0)&&((h==0)&&((i==0)&&((j==0)&&((l==0)&&((a==0)&&true)))))))) c b d e f g h i j l a (a8 8 [(SV.int .u16 (0:Int))])) (m false c b d e f g h i j l a (a8 8 [(SV.int .u16 (0:Int))]))) (m false c b d e f g h i j l a (a8 8 [(SV.int .u16 (0:Int))]))) none) (cond (c==2) (cond (b==[]) (m ((e==0)&&((f==0)&&((g==0)&&((h==0)&&((i==0)&&((j==0)&&((l==0)&&((a==0)&&true)))))))) c b d e f g h i j l a (a8 8 [(SV.int .u16 (0:Int))])) (m false c b d e f g h i j l a (a8 8 [(SV.int .u16 (0:Int))]))) (cond (c==3) (cond (b==[]) (m (d==0) c b d e f g h i j l a (a8 8 [(SV.int .u16 (0:Int))])) (m false c b d e f g h i j l a (a8 8 [(SV.int .u16 (0:Int))]))) (m false c b d e f g h i j l a (a8 8 [(SV.int .u16 (0:Int))]))))
def Df2(d:Nat)(h0 h1 h2 h3 h4 h5 h6 h7 h8 h9 h10):evC (A35 L) (d+1) Z Y 39 [.agg [pI h0,pS h1,p32 h2,p16 h3,p16 h4,p16 h5,p16 h6,p16 h7,p16 h8,p16 h9,p16 h10]] [] s=Pa L h0 h1 h2 h3 h4 h5 h6 h7 h8 h9 h10 (λn f o g h i j l e m b c a=>some (pB n,[.box [pI f,pS o,p32 g,p16 h,p16 i,p16 j,p16 l,p16 e,p16 m,p16 b,p16 c],.arr false 26 1 a],s)):=by refine(evE (fn:=Tryz.f39) (by kernel_rfl)).trans ?_;generalize evC (A35 L) d=Q;unfold Pa;kernel_rfl
noncomputable def A32(L:Nat):Cfg:=B8 L [122] (A2 []) [(39,UF),(167,Du0),(168,Du2)] (A2 [(7,[2]),(2,[2]),(4,[2]),(6,[2]),(5,[1,11]),(3,[1,5]),(1,[1,1]),(0,[1])]) [39,167,168] (A2 [(0,[1])]) (some [2]) [] [] []
def De7{R:Type}(L:Nat)(j:Int)(l:By)(b c d e f g h i a:Int)(o:By->Int->By->Int->Int->Int->Int->Int->Int->Int->Int->Int->Option R):Option R:=cond (A3 l.length) (cond (ltN b 4294967296) (cond (ok8 c d e f g h i a) (cond (not (K4 (mkH j l b (n8 c d e f g h i a)))) (o ([]:List UInt8) j l b c d e f g h i a) (cond (j==1) (o l j l b c d e f g h i a) (cond (j==2) (cond (ltN b 4294967296) (o (V4 (b8 b)) j l b c d e f g h i a) none) (cond (ok8 c d e f g h i a) (vl (Ao (n8 c d e f g h i a)) λm=>cond (E6 1 m.length) (vl (([91]:List UInt8)++m) λn=>cond (E6 n.length 1) (vl (n++[93]) λp=>o p j l b c d e f g h i a) none) none) none)))) none) none) none
def De8(d:Nat)(h0 h1 h2 h3 h4 h5 h6 h7 h8 h9 h10):evC (A32 L) (d+1) Z Y 122 [.agg [pI h0,pS h1,p32 h2,p16 h3,p16 h4,p16 h5,p16 h6,p16 h7,p16 h8,p16 h9,p16 h10]] [] s=De7 L h0 h1 h2 h3 h4 h5 h6 h7 h8 h9 h10 (λm e n f g h i j c l a b=>some (pS m,[.box [pI e,pS n,p32 f,p16 g,p16 h,p16 i,p16 j,p16 c,p16 l,p16 a,p16 b]],s)):=by refine(evE (fn:=Tryz.f122) (by kernel_rfl)).trans ?_;generalize evC (A32 L) d=Q;unfold De7;kernel_rfl
noncomputable def A30(L:Nat):Cfg:=B8 L [170] (A2 []) [(65,Ck9),(207,Ck8)] (A2 [(1,[4]),(0,[0,0])]) [65,207] (A2 []) (some [4]) [] [] []
def Dd9{R:Type}(L:Nat)(a b:By)(c:Bool->Option R):Option R:=cond (A3 a.length) (cond (V0 a) (cond (A3 b.length) (cond (V0 b) (cond (a==b) (c true) (cond (E6 1 a.length) (vl (([46]:List UInt8)++a) λd=>cond (A3 b.length) (c (ah4 d b)) none) none)) (c false)) none) (c false)) none
def De0(d:Nat)(super0 name1):evC (A30 L) (d+1) Z Y 170 [pS super0,pS name1] [] s=Dd9 L super0 name1 (λa=>some (pB a,[],s)):=by refine(evE (fn:=Tryz.f170) (by kernel_rfl)).trans ?_;generalize evC (A30 L) d=Q;unfold Dd9;kernel_rfl
end
end
end Go.Proofs.YtfkhfkjcidamaaaGreatDoor.E
