/-
  Parts of the proof, merged by a program of the prover's own; no condition.
-/
import Derived.Test.YtiodfnbjmmdlmaaGreatDoorKCE3
import Derived.Lib.IndexAny
import Derived.Lib.JoinLaws
import Derived.Lib.LastIndexLaws
import Derived.Lib.MapLaws
import Derived.Lib.TrimAscii
import Derived.Shelf.LaysM
import Derived.Shelf.Slices.CompactS
import Derived.Shelf.Slices.In.SortNone
import Derived.Shelf.Small.Strs
import Derived.Shelf.Sort.Plain
import Derived.Shelf.Spec.SlicesInsert
import Derived.Shelf.Spec.SlicesInsertGrow
import Derived.Shelf.Spec.TrailingZeros
import Derived.Shelf.Strconv.Itoa3
import Derived.Shelf.Strings.Count
import Derived.Shelf.Strings.Cut
import Derived.Shelf.Strings.IndexAnyAll
import Derived.Shelf.Strings.OnBuilder
import Derived.Shelf.Strings.Search3
import Derived.Shelf.Unicode.ValidAny
import Derived.Shelf.Utf8.RuneCount
import Derived.Test.YtiodfnbjmmdlmaaGreatDoorProg
open List renaming getD->c8,length->c9,replicate->j0,getD_eq_getElem?_getD->j7,drop_of_length_le->j9,getElem?_eq_getElem->k9,isPrefixOf->o0,length_cons->o8,take_of_length_le->w8,mem_of_mem_drop->x9,toArray->aa3,length_singleton->aa8,flatten->aa9,mem_of_mem_take->ab0,mem_cons->ab5,getD_cons_zero->ab7,all_eq_true->ac0,length_nil->ac6,drop_zero->ac7,length_drop->ac8,take->ac9,map_congr_left->ad0,map->ad1,length_append->ad4,getElem_cons_drop->ad6,set->ad7,drop->ae4,length_take->ae5,drop_append_of_le_length->ae9,append_nil->af2,length_map->af3,nil_append->af4,count_eq_zero->af8,isPrefixOf_iff_prefix->af9,all->ah0,cons_append->ah1,map_map->ah3,drop_left'->ah9,isSuffixOf->ai0,set_append_right->ai3,length_pos_iff->ai8,takeWhile_cons->ai9,map_drop->aj0,getElem?_map->ak2,isEmpty->ak3,getElem_mem->al3,take_zero->am4,all_cons->an4,map_take->an5,map_nil->ao5,mem_map->ao6,map_id->aq0
open Int renaming toNat_natCast->j1,toNat->j2,eq_ofNat_of_zero_le->p9,tdiv->ai4
open Eq renaming trans->j4
open Bool renaming not_true->j5,not_false->j6,false_eq_true->o6,and_eq_true->ab9,and_true->ag8,eq_iff_iff->ah7,or_eq_true->ah8,eq_false_iff->aj7,not_eq_true'->aj8
open Go.Lib renaming decDigits->j8,cut->w7,indexByte->aa0,indexAny->ad5,index->ae3,join->ae8,decodeL->ag2,deBruijn64tab->aj9,decDigits_one->ak0,firstTab->ak1,occAt->al2,index_spec->am2,runeCountL->am3,join_cons->an3,join_one->ao3,pow10Tab->ao4
open Option.some renaming injEq->o5,inj->af6
open Go.Proofs.Tryz renaming prog->o7,underlying3->o9,zeroValue3->p7,underlying4->s8,zeroValue4->s9,underlying9->v8,zeroValue9->w6,underlying0->w9,underlying5->x4,sizeOf3->x6,zeroValue0->x7,zeroValue5->x8,sizeOf4->y7,underlying67->y8,isAgg3->y9,zeroValue67->z7,sizeOf9->aa1,isAgg4->aa2,sizeOf0->aa4,sizeOf5->aa5,isAgg9->aa6,isAgg0->ab1,isAgg5->ab2,underlying37->ab3,sizeOf67->ab6,zeroValue37->ac1,isAgg67->ac5,sizeOf37->ad2,isAgg37->ad9,underlying95->ae0,zeroValue95->ae7,func115->af7,underlying161->ag0,func89->ag4,underlying23->ag5,zeroValue161->ag6,sizeOf95->ag9,zeroValue23->ah2,isAgg95->ah6,func91->ai5,func92->ai6,sizeOf161->ai7,isAgg161->aj1,sizeOf23->aj2,underlying185->aj5,underlying186->aj6,func114->ak6,func133->ak7,isAgg23->ak8,underlying20->ak9,underlying97->al0,zeroValue185->al1,f101->al5,f117->al6,zeroValue20->al7,zeroValue97->al8,func88->al9,f29->am5,f32->am6,f37->am7,f62->am8,f86->am9,f90->an0,sizeOf185->an1,sizeOf186->an2,isAgg185->an6,isAgg186->an7,sizeOf20->an8,sizeOf97->an9,f119->ao0,f126->ao1,f149->ao2,func103->ap0,func121->ap1,func141->ap2,func151->ap3,func152->ap4,isAgg20->ap5,isAgg97->ap6,f20->aq3,f25->aq4,f33->aq5,f35->aq6,f58->aq7,f68->aq8,f69->aq9,f87->ar0,f95->ar1,f97->ar2,f99->ar3,func56->ar4,func60->ar5
open Option renaming isSome->v7,getD_some->y5,isSome_some->aa7,map_some->ad3,isSome_none->aj4,bind_some->al4
open Go.Shelf renaming Ren->x5
open Go.Utf8 renaming decode->ab4
open Nat renaming ble->ab8,zero_le->ac2,pow_succ->ac4,ble_eq_true_of_le->ae1,le_of_ble_eq_true->ae2,and_two_pow_sub_one_eq_mod->ae6,le_refl->af0,mul_le_mul_right->af1,min_eq_left->af5,or_lt_two_pow->ag3,ble_eq->ah4,zero_add->ah5,div_le_self->ai1,strongRecOn->ai2,add_sub_cancel->aj3,le_trans->ak4,sub_self->ak5,add_zero->ao7,mul_comm->ao8
open Go.IntKind renaming bits->ac3,u16->ap9
open Go.RowKit.Below renaming refl->ad8
open Go.Fn renaming func->ag1
open UInt8 renaming ofNat->ag7,toNat_inj->am0
open Ne renaming symm->am1
open Go.RowKit renaming Below->ao9
open BEq renaming comm->ap7
open Go.Proofs.LaysM renaming n171->ap8
open Go.Proofs.Lays renaming n137->ar6,n138->ar7,n143->ar8,n145->ar9,n153->as0,n156->as1,n190->as2,n194->as3,n195->as4,n196->as5
open Go.Proofs.Lays2 renaming n21->as6
open Go.Proofs.Lays7 renaming n27->as7
namespace Go.Proofs.YtiodfnbjmmdlmaaGreatDoor.E
set_option linter.all false
section
open Go Go.Proofs
set_option maxRecDepth 100000
section
variable {W R : Type} (L : Nat) (Q : E3) (Y : Yh W) (s : W) (k : Out -> St W -> Option R)
noncomputable def Ad3(L:Nat):Cfg:=D1 L [66] (A3 []) [] (A3 [(1,[4]),(0,[0,0])]) [] (A3 []) (some [4]) [] [] []
noncomputable def B68{R:Type}(L:Nat)(c a:By)(d:Bool->Option R):Option R:=cond (not (ltI (c.length:Int) (a.length:Int))) (cond (O6 0 (a.length:Int) c.length) (vl (cut c 0 (a.length:Int)) λb=>d (b==a)) none) (d false)
theorem B69(d:Nat)(s0 prefix1):evC (Ad3 L) (d+1) W Y 66 [pS s0,pS prefix1] [] s=B68 L s0 prefix1 (λa=>some (pB a,[],s)):=by refine(evE (fn:=Tryz.f66) (by kernel_rfl)).trans ?_;generalize evC (Ad3 L) d=Q;unfold B68;kernel_rfl
noncomputable def Ac8(L:Nat):Cfg:=D1 L [36] (A3 []) [(66,LU)] (A3 [(1,[4]),(0,[0,0])]) [66] (A3 []) (some [4]) [] [] []
noncomputable def Zg{R:Type}(L:Nat)(b a:By)(c:Bool->Option R):Option R:=cond (A2 b.length) (c (o0 a b)) none
theorem B43(d:Nat)(s0 prefix1):evC (Ac8 L) (d+1) W Y 36 [pS s0,pS prefix1] [] s=Zg L s0 prefix1 (λa=>some (pB a,[],s)):=by refine(evE (fn:=Tryz.f36) (by kernel_rfl)).trans ?_;generalize evC (Ac8 L) d=Q;unfold Zg;kernel_rfl
noncomputable def Ad4(L:Nat):Cfg:=D1 L [105] (A3 []) [] (A3 [(1,[4]),(0,[0,0])]) [] (A3 []) (some [4]) [] [] []
noncomputable def B70{R:Type}(L:Nat)(b a:By)(e:Bool->Option R):Option R:=cond (not (ltI (b.length:Int) (a.length:Int))) (vl (A4 ((b.length:Int)-(a.length:Int))) λc=>cond (O6 c (b.length:Int) b.length) (vl (cut b c (b.length:Int)) λd=>e (d==a)) none) (e false)
theorem B71(d:Nat)(s0 suffix1):evC (Ad4 L) (d+1) W Y 105 [pS s0,pS suffix1] [] s=B70 L s0 suffix1 (λa=>some (pB a,[],s)):=by refine(evE (fn:=Tryz.f105) (by kernel_rfl)).trans ?_;generalize evC (Ad4 L) d=Q;unfold B70;kernel_rfl
noncomputable def Ac9(L:Nat):Cfg:=D1 L [73] (A3 []) [(105,ZY)] (A3 [(1,[4]),(0,[0,0])]) [105] (A3 []) (some [4]) [] [] []
noncomputable def B44{R:Type}(L:Nat)(b a:By)(c:Bool->Option R):Option R:=cond (A2 b.length) (c (ai0 a b)) none
theorem B45(d:Nat)(s0 suffix1):evC (Ac9 L) (d+1) W Y 73 [pS s0,pS suffix1] [] s=B44 L s0 suffix1 (λa=>some (pB a,[],s)):=by refine(evE (fn:=Tryz.f73) (by kernel_rfl)).trans ?_;generalize evC (Ac9 L) d=Q;unfold B44;kernel_rfl
noncomputable def NQ(L:Nat):Cfg:=D1 L [118] (A3 []) [(105,ZY)] (A3 [(3,[4]),(2,[4]),(1,[0,0,5]),(0,[0,0])]) [105] (A3 []) (some [4]) [] [] []
noncomputable def Aw7{R:Type}(L:Nat)(b a:By)(d:By->Option R):Option R:=cond (A2 b.length) (cond (ai0 a b) (vl (A4 ((b.length:Int)-(a.length:Int))) λc=>cond (O6 0 c b.length) (d (cut b 0 c)) none) (d b)) none
theorem Bo2(d:Nat)(s0 suffix1):evC (NQ L) (d+1) W Y 118 [pS s0,pS suffix1] [] s=Aw7 L s0 suffix1 (λa=>some (pS a,[],s)):=by refine(evE (fn:=Tryz.f118) (by kernel_rfl)).trans ?_;generalize evC (NQ L) d=Q;unfold Aw7;kernel_rfl
noncomputable def NV(L:Nat):Cfg:=D1 L [96] (A3 []) [(118,At6)] (A3 [(1,[4]),(0,[0,0])]) [118] (A3 []) (some [4]) [] [] []
noncomputable def Ay8{R:Type}(L:Nat)(b a:By)(c:By->Option R):Option R:=cond (A2 b.length) (c (RY b a)) none
theorem Bs9(d:Nat)(s0 suffix1):evC (NV L) (d+1) W Y 96 [pS s0,pS suffix1] [] s=Ay8 L s0 suffix1 (λa=>some (pS a,[],s)):=by refine(evE (fn:=Tryz.f96) (by kernel_rfl)).trans ?_;generalize evC (NV L) d=Q;unfold Ay8;kernel_rfl
noncomputable def NN(L:Nat):Cfg:=D1 L [61] (A3 []) [(66,LU)] (A3 [(3,[4,0]),(2,[4,0]),(1,[0,0,7]),(0,[0,0])]) [66] (A3 []) (some [4,0]) [] [] []
noncomputable def Aw3{R:Type}(L:Nat)(b a:By)(d:By->Bool->Option R):Option R:=cond (A2 b.length) (cond (not (o0 a b)) (d b false) (cond (O6 (a.length:Int) (b.length:Int) b.length) (vl (cut b (a.length:Int) (b.length:Int)) λc=>d c true) none)) none
theorem Bn6(d:Nat)(s0 prefix1):evC (NN L) (d+1) W Y 61 [pS s0,pS prefix1] [] s=Aw3 L s0 prefix1 (λa b=>some (.tup [pS a,pB b],[],s)):=by refine(evE (fn:=Tryz.f61) (by kernel_rfl)).trans ?_;generalize evC (NN L) d=Q;unfold Aw3;kernel_rfl
noncomputable def Ac3(L:Nat):Cfg:=D1 L [34] (A3 []) [(61,At3)] (A3 [(1,[4,0]),(0,[0,0])]) [61] (A3 []) (some [4,0]) [] [] []
noncomputable def B03{R:Type}(L:Nat)(b a:By)(c:By->Bool->Option R):Option R:=cond (A2 b.length) (c (Fh b a) (o0 a b)) none
theorem B04(d:Nat)(s0 prefix1):evC (Ac3 L) (d+1) W Y 34 [pS s0,pS prefix1] [] s=B03 L s0 prefix1 (λa b=>some (.tup [pS a,pB b],[],s)):=by refine(evE (fn:=Tryz.f34) (by kernel_rfl)).trans ?_;generalize evC (Ac3 L) d=Q;unfold B03;kernel_rfl
noncomputable abbrev TW:Code:=E5 ao0
noncomputable def Cf(L:Nat):Cfg:=D1 L [119] (A3 [(11,[0,0,0,0,4,0,0])]) [(135,Hy),(136,Aa3),(103,BG)] (A3 [(18,[8]),(17,[9,0]),(16,[0,0,0,0,5,0]),(15,[0,0,0,0,5,0]),(14,[0,0,0,0,5,0,0]),(13,[0,0,0,0,5,0,0,29]),(12,[0,0,0,0,5,0,0]),(11,[0,0,0,0,5,0,25]),(10,[0,0,0,0,5,0]),(9,[0,0,0,0,5]),(8,[0,0,0,0,5]),(7,[0,0,0,0]),(6,[0,0,0,0]),(5,[0,0,0,0,16]),(4,[8]),(3,[0,0,0,0,11]),(2,[8]),(1,[0,0,0,0,9]),(0,[0,0,0,0])]) [136,103] (A3 [(0,[0,8,0]),(1,[0,0,0,0,5,0])]) (some [8]) [] [] []
noncomputable def Z2{R:Type}(L n:Nat)(c b:By)(a l d:Int)(g:LL)(j:By->Int->LL->Option R):Option R:=match n with|0=>none|n+1=>cond (ltI d l) (cond (A2 c.length) (cond (ltI (ae3 c b) (0:Int)) (j c d g) (vl (A4 ((ae3 c b)+a)) λe=>cond (O6 0 e c.length) (cond (inR d g.length) (cond (decide ((j2 d)<g.length)) (vl (ad7 g (j2 d) (F9 (c8 g (j2 d) []) 0 [(SV.str (cut c 0 e))])) λh=>vl (A4 ((ae3 c b)+(b.length:Int))) λf=>cond (O6 f (c.length:Int) c.length) (vl (cut c f (c.length:Int)) λi=>Z2 L n i b a l (A4 (d+1)) h j) none) none) none) none)) none) (j c d g)
theorem Sc(n a sep1 sepSave2 n3 i4 l5):G1 1 ((Cf L).keep 11) (bd (Cf L) Q Y (cd [1,1,1,1,1,1,1,1,0,0,0] TW)) n ⟨gp [(0,pS a),(0,pS sep1),(0,pI sepSave2),(0,pI n3),(5,.fl 0),(0,pI i4)] 55,[.arr false 9 1 l5],s⟩ k =
 Z2 L n a sep1 sepSave2 n3 i4 l5 (λa b d=>k (.exit 0) ⟨gp [(0,pS a),(8,.fl 0),(0,pI b)] 55,[.arr false 9 1 d],s⟩):=by
 induction n generalizing a sep1 sepSave2 n3 i4 l5 with
 | zero=>rfl
 | succ n c=>rw[Z2];simp only[<-c];kernel_rfl
noncomputable def DN{R:Type}(L:Nat)(t d:By)(a u:Int)(w:Unit->Option R)(v:Nat->LL->Option R):Option R:=cond (u==0) (w ()) (cond (d==[]) none (cond (ltI u 0) (cond (d.length==1) (vl (↑(List.count (c8 d 0 0) t):Int) λn=>vl (A4 ((t.length:Int)+1)) λo=>vl (if (o<(A4 (n+1))) then o else (A4 (n+1))) λg=>cond (((decide ((0:Int)<=g))&&(decide (g<=g)))&&(I4 (j2 g))) (Z2 L L t d a (A4 (g-1)) 0 (j0 (j2 g) [(SV.str ([]:List UInt8))]) (λq b e=>cond (inR b e.length) (cond (decide ((j2 b)<e.length)) (vl (ad7 e (j2 b) (F9 (c8 e (j2 b) []) 0 [(SV.str q)])) λi=>vl (A4 (b+1)) λl=>cond (O6 0 l i.length) (v ((j2 l)-0) i) none) none) none)) none) none) (vl (A4 ((t.length:Int)+1)) λp=>vl (if (p<u) then p else u) λh=>cond (((decide ((0:Int)<=h))&&(decide (h<=h)))&&(I4 (j2 h))) (Z2 L L t d a (A4 (h-1)) 0 (j0 (j2 h) [(SV.str ([]:List UInt8))]) (λr c f=>cond (inR c f.length) (cond (decide ((j2 c)<f.length)) (vl (ad7 f (j2 c) (F9 (c8 f (j2 c) []) 0 [(SV.str r)])) λj=>vl (A4 (c+1)) λm=>cond (O6 0 m j.length) (v ((j2 m)-0) j) none) none) none)) none)))
theorem IR(d:Nat)(s0 sep1 sepSave2 n3):evC (Cf L) (d+1) W Y 119 [pS s0,pS sep1,pI sepSave2,pI n3] [] s=DN L s0 sep1 sepSave2 n3 (λ_=>some (.fl 0,[.arr true 9 1 []],s)) (λc f=>some (.vw 0 0 c,[.arr false 9 1 f],s)):=by refine(evE (fn:=ao0) (by kernel_rfl)).trans ?_;generalize evC (Cf L) d=Q;unfold DN;exact let e:=(I1 0 (J0 (Cf L) Q Y (cd [1,1,1,1,1,1,1,1,1] TW) (I6 (Cf L) ao0)));(j4 (by kernel_rfl) (A0 rfl (A0 rfl (A0 (A0 (A5 λg=>(A5 λh=>(A5 λa=>(A0 ((Sc L Q Y s e L s0 sep1 sepSave2 (A4 (a-1)) 0 (j0 (j2 a) [(SV.str ([]:List UInt8))])).trans (by kernel_rfl)) rfl)))) rfl) (A5 λi=>(A5 λb=>(A0 ((Sc L Q Y s e L s0 sep1 sepSave2 (A4 (b-1)) 0 (j0 (j2 b) [(SV.str ([]:List UInt8))])).trans (by kernel_rfl)) rfl)))))))
noncomputable def CJ(L:Nat):Cfg:=D1 L [98] (A3 []) [(119,TB)] (A3 [(1,[4]),(0,[0,0])]) [] (A3 []) (some [4]) [] [] []
noncomputable def RP{R:Type}(L:Nat)(c a:By)(d:LL->Option R):Option R:=cond (A2 c.length) (cond (a.length==1) (cond ((0:Int)==0) (cond (((-1):Int)==((-1):Int)) (vl (A6 (pcs (c8 a 0 0) c)) λb=>d b) none) none) none) none
theorem Bc1(d:Nat)(s0 sep1):evC (CJ L) (d+1) W Y 98 [pS s0,pS sep1] [] s=RP L s0 sep1 (λa=>some (.s (.sl false false 1 a),[],s)):=by refine(evE (fn:=Tryz.f98) (by kernel_rfl)).trans ?_;generalize evC (CJ L) d=Q;unfold RP;kernel_rfl
noncomputable abbrev Bh7:Code:=E5 aq5
noncomputable def Pk(L:Nat):Cfg:=D1 L [33] (A3 [(3,[0,1,0,6,0])]) [] (A3 [(10,[2]),(9,[0,2,6,0]),(8,[0,2,6,0]),(7,[0,2,1,4,0]),(6,[0,2,1,4,0,10]),(5,[0,2,1,4,0]),(4,[0,2,0,5,0]),(3,[0,2,6,0,0]),(2,[0,2,6,0]),(1,[0,2]),(0,[0])]) [] (A3 [(0,[3]),(1,[0,2,6,0])]) (some [2]) [] [] []
noncomputable def Dk{R:Type}(L n:Nat)(b:By)(e a:Int)(c:LL)(d:LL->Option R):Option R:=match n with|0=>none|n+1=>cond (ltI a e) (cond (inR a b.length) (cond (not (ltI (bAt b a) (65:Int))) (cond (not (ltI 90 (bAt b a))) (vl (wu8 ((bAt b a)+32)) λf=>cond (I4 (c.length+1)) (Dk L n b e (A4 (a+1)) (c++[[(SV.int .u8 f)]]) d) none) (cond (I4 (c.length+1)) (Dk L n b e (A4 (a+1)) (c++[[(SV.int .u8 (bAt b a))]]) d) none)) (cond (I4 (c.length+1)) (Dk L n b e (A4 (a+1)) (c++[[(SV.int .u8 (bAt b a))]]) d) none)) none) (d c)
theorem Aj0(n s0 n1 n2 l3):G1 1 ((Pk L).keep 3) (bd (Pk L) Q Y (cd [1,1,0,1,0,0] Bh7)) n ⟨gp [(0,pS s0),(2,.fl 0),(6,pI n1),(0,pI n2)] 20,[.arr false 5 1 l3],s⟩ k =
 Dk L n s0 n1 n2 l3 (λb=>k (.exit 0) ⟨gp [(3,.fl 0)] 28,[.arr false 5 1 b],s⟩):=by
 induction n generalizing s0 n1 n2 l3 with
 | zero=>rfl
 | succ n a=>rw[Dk];simp only[<-a];kernel_rfl
noncomputable def B66{R:Type}(L:Nat)(b:By)(c:By->LL->Option R):Option R:=cond ((decide ((0:Int)<=(b.length:Int)))&&(I4 (j2 (b.length:Int)))) (Dk L L b (b.length:Int) 0 [] (λa=>cond (ah0 a DY) (c (ad1 Zd a) a) none)) none
theorem B67(d:Nat)(s0):evC (Pk L) (d+1) W Y 33 [pS s0] [] s=B66 L s0 (λb a=>some (pS b,[.arr false 5 1 a],s)):=by refine(evE (fn:=aq5) (by kernel_rfl)).trans ?_;generalize evC (Pk L) d=Q;unfold B66;exact(j4 (by kernel_rfl) (A0 ((Aj0 L Q Y s (I1 0 (J0 (Pk L) Q Y (cd [1,1,1] Bh7) (I6 (Pk L) aq5))) L s0 (s0.length:Int) 0 []).trans (by kernel_rfl)) rfl))
noncomputable def Ac6(L:Nat):Cfg:=D1 L [84] (A3 []) [(36,AQ)] (A3 [(1,[2]),(0,[0])]) [36] (A3 []) (some [2]) [] [] []
noncomputable def B38{R:Type}(L:Nat)(a:By)(b:Bool->Option R):Option R:=cond (A2 a.length) (cond (o0 ([48,120]:List UInt8) a) (b true) (cond (A2 a.length) (b (o0 ([48,88]:List UInt8) a)) none)) none
theorem B39(d:Nat)(s0):evC (Ac6 L) (d+1) W Y 84 [pS s0] [] s=B38 L s0 (λa=>some (pB a,[],s)):=by refine(evE (fn:=Tryz.f84) (by kernel_rfl)).trans ?_;generalize evC (Ac6 L) d=Q;unfold B38;kernel_rfl
noncomputable abbrev Cs:Code:=E5 am9
noncomputable def T6(L:Nat):Cfg:=D1 L [86] (A3 [(3,[0,0,2,0,0,4,0])]) [] (A3 [(18,[4,0]),(17,[0,0,4,4,0]),(16,[0,0,4,4,0]),(15,[4,0]),(14,[0,0,4,1,2,0,39]),(9,[0,0,4,1,2,0]),(11,[0,0,4,1,2,0]),(13,[0,0,4,1,2,0]),(7,[4,0]),(12,[0,0,4,2,1,0,26]),(10,[0,0,4,2,1,0,15]),(8,[0,0,4,2,1,0,5]),(6,[0,0,4,2,1,0]),(5,[0,0,4,0,3,0]),(4,[0,0,4,0,3,0]),(3,[0,0,4,4,0,0]),(2,[0,0,4,4,0]),(1,[0,0,4]),(0,[0,0])]) [] (A3 [(0,[6]),(1,[0,0,4,4,0]),(2,[0,0,4,1,2,0])]) (some [4,0]) [] [] []
noncomputable def Rm{R:Type}(m:By)(a i b j l:Int)(n:Bool)(g:By->Int->Int->Int->Int->Int->Option R)(h:Unit->Option R):Option R:=cond n (vl (A4 (wu8 (b-97))) λc=>vl (A4 (c+10)) λd=>g m a i d j l) (cond (not (ltI b 65)) (cond (not (ltI 70 b)) (vl (A4 (wu8 (b-65))) λe=>vl (A4 (e+10)) λf=>g m a i f j l) (h ())) (h ()))
abbrev IL(b:Code):Prop:=∀(k:Out->St W->Option R) f a c b3 d e b6,A7 (T6 L) Q Y b ⟨gp [(0,pS f),(0,pI a),(4,pI c),(2,p8 b3),(1,pI d),(0,pI e),(15,pB b6)] 32,[],s⟩ k=Rm f a c b3 d e b6 (λf a c g d e=>k .normal ⟨gp [(0,pS f),(0,pI a),(4,pI c),(1,pI g),(2,pI d),(0,pI e)] 48,[],s⟩) (λ_=>k .ret ⟨gp [(4,pI (0:Int)),(0,pB false)] 55,[],s⟩)
theorem Ae7:IL (R:=R) L Q Y s (cd [1,1,0,1,0,0,1,1,0,0,1,1,0,1,0,1,1,1] Cs):=by intro k g a d b e f c;unfold Rm;kernel_rfl
noncomputable def Rn{R:Type}(v:By)(a q d r t:Int)(x:Bool)(m:By->Int->Int->Int->Int->Int->Option R)(w:Unit->Option R):Option R:=cond x (vl (A4 (wu8 (d-48))) λn=>m v a q n r t) (cond (not (ltI d 97)) (Rm v a q d r t (not (ltI 102 d)) (λu c o l p f=>m u c o l p f) (λ_=>w ())) (Rm v a q d r t false (λj b g e h i=>m j b g e h i) (λ_=>w ())))
abbrev No(b:Code):Prop:=∀(k:Out->St W->Option R) f a c b3 d e b6,A7 (T6 L) Q Y b ⟨gp [(0,pS f),(0,pI a),(4,pI c),(2,p8 b3),(1,pI d),(0,pI e),(5,pB b6)] 42,[],s⟩ k=Rn f a c b3 d e b6 (λf a c g d e=>k .normal ⟨gp [(0,pS f),(0,pI a),(4,pI c),(1,pI g),(2,pI d),(0,pI e)] 48,[],s⟩) (λ_=>k .ret ⟨gp [(4,pI (0:Int)),(0,pB false)] 55,[],s⟩)
theorem Ae8(a:Code)(b:IL (R:=R) L Q Y s a):No (R:=R) L Q Y s (cd [1,1,0,1,0,0,1,1,0,0,1,1,0,1,0,1] (K3 [1,1,0,1,0,0,1,1,0,0,1,1,0,1,0,1,1,1] a Cs)):=by intro k i c f d g h e;unfold Rn;simp only[<-b k];kernel_rfl
theorem Ae9:No (R:=R) L Q Y s (cd [1,1,0,1,0,0,1,1,0,0,1,1,0,1,0,1] Cs):=by intro k g a d b e f c;exact j4 (by kernel_rfl) (Ae8 L Q Y s (cd [1,1,0,1,0,0,1,1,0,0,1,1,0,1,0,1,1,1] Cs) (Ae7 L Q Y s) k g a d b e f c)
noncomputable def Rp{R:Type}(j:By)(a g d h i:Int)(e:Unit->Option R)(f:By->Int->Int->Int->Int->Option R):Option R:=cond (not (ltI d a)) (e ()) (vl (A4 ((A4 (g*a))+d)) λb=>vl (if ((1099511627776:Int)<b) then (1099511627776:Int) else b) λc=>f j a c h i)
abbrev Vv(b:Code):Prop:=∀(k:Out->St W->Option R) e a c d3 d n5,A7 (T6 L) Q Y b ⟨gp [(0,pS e),(0,pI a),(4,pI c),(1,pI d3),(2,pI d),(0,pI n5)] 48,[],s⟩ k=Rp e a c d3 d n5 (λ_=>k .ret ⟨gp [(4,pI (0:Int)),(0,pB false)] 55,[],s⟩) (λe a c f d=>k .normal ⟨gp [(0,pS e),(0,pI a),(4,pI c),(4,pI f),(0,pI d)] 48,[],s⟩)
theorem Af0:Vv (R:=R) L Q Y s (cd [1,1,0,1,0,0,1,1,0,0,1,1,1] Cs):=by intro k f a c b d e;unfold Rp;kernel_rfl
noncomputable def Gr{R:Type}(L n:Nat)(g:By)(e H I f:Int)(h:Unit->Option R)(G:Int->Option R):Option R:=match n with|0=>none|n+1=>cond (ltI f I) (cond (inR f g.length) (cond (not (ltI (bAt g f) (48:Int))) (Rn g e H (bAt g f) I f (not (ltI 57 (bAt g f))) (λB a l i m o=>Rp B a l i m o (λ_=>h ()) (λC b p q r=>vl (A4 (r+1)) λt=>Gr L n C b p q t h G)) (λ_=>h ())) (Rn g e H (bAt g f) I f false (λD c u j v w=>Rp D c u j v w (λ_=>h ()) (λF d x y z=>vl (A4 (z+1)) λA=>Gr L n F d x y A h G)) (λ_=>h ()))) none) (G H)
theorem Af1(b:Code)(d:No (R:=R) L Q Y s b)(a:Code)(e:Vv (R:=R) L Q Y s a)(n:Nat)(l:By)(c C D j:Int):G1 0 ((T6 L).keep 3) (bd (T6 L) Q Y (cd [1,1,0,1,0,0] (K3 [1,1,0,1,0,0,1,1,0,0,1,1,1] a (K3 [1,1,0,1,0,0,1,1,0,0,1,1,0,1,0,1] b Cs)))) n ⟨gp [(0,pS l),(0,pI c),(4,pI C),(4,pI D),(0,pI j)] 48,[],s⟩ k =
 Gr L n l c C D j (λ_=>k .ret ⟨gp [(4,pI (0:Int)),(0,pB false)] 55,[],s⟩) (λn0=>k (.exit 0) ⟨gp [(6,pI n0)] 54,[],s⟩):=by
 induction n generalizing l c C D j with
 | zero=>rfl
 | succ n M=>rw[Gr];exact let J:=(I1 1 (J0 (T6 L) Q Y (cd [1,1,0,1,0,0,1,1,1] Cs) (lpK 0 ((T6 L).keep 3) (bd (T6 L) Q Y (cd [1,1,0,1,0,0] (K3 [1,1,0,1,0,0,1,1,0,0,1,1,1] a (K3 [1,1,0,1,0,0,1,1,0,0,1,1,0,1,0,1] b Cs)))) n k)));let K:=(I1 2 (J0 (T6 L) Q Y a J));(j4 (by kernel_rfl) (A0 (A0 (A0 ((d K l c C (bAt l j) D j (not (ltI 57 (bAt l j)))).trans (congr (congr rfl (fx6 λF f p m q r=>(j4 (by kernel_rfl) ((e J F f p m q r).trans (congr (congr rfl (by kernel_rfl)) (fx5 λG g t u N=>(j4 (by kernel_rfl) (A5 λv=>(M G g t u v))))))))) (by kernel_rfl))) ((d K l c C (bAt l j) D j false).trans (congr (congr rfl (fx6 λH h w o x y=>(j4 (by kernel_rfl) ((e J H h w o x y).trans (congr (congr rfl (by kernel_rfl)) (fx5 λI i z A O=>(j4 (by kernel_rfl) (A5 λB=>(M I i z A B))))))))) (by kernel_rfl)))) rfl) rfl))
noncomputable def Bk1{R:Type}(L:Nat)(d:By)(a:Int)(c:Int->Bool->Option R):Option R:=Gr L L d a 0 (d.length:Int) 0 (λ_=>c 0 false) (λb=>c b true)
theorem B17(a:Code)(d:No (R:=PV × List Blk × W) L Q Y s a)(b:Code)(e:Vv (R:=PV × List Blk × W) L Q Y s b)(f:By)(c:Int):A7 (T6 L) Q Y (cd [] (K3 [1,1,0,1,0,0,1,1,0,0,1,1,1] b (K3 [1,1,0,1,0,0,1,1,0,0,1,1,0,1,0,1] a Cs))) ⟨[pS f,pI c]++tps 59,[],s⟩ (I6 (T6 L) am9)=Bk1 L f c (λg h=>some (.tup [pI g,pB h],[],s)):=by unfold Bk1;exact(j4 (by kernel_rfl) ((Af1 L Q Y s (I1 0 (J0 (T6 L) Q Y (cd [1,1,1] Cs) (I6 (T6 L) am9))) a d b e L f c 0 (f.length:Int) 0).trans (by kernel_rfl)))
theorem B18(d:Nat)(s0 base1):evC (T6 L) (d+1) W Y 86 [pS s0,pI base1] [] s=Bk1 L s0 base1 (λa b=>some (.tup [pI a,pB b],[],s)):=
 (evE (fn:=am9) (by kernel_rfl)).trans (j4 (by kernel_rfl) (B17 L (evC (T6 L) d) Y s (cd [1,1,0,1,0,0,1,1,0,0,1,1,0,1,0,1] Cs) (Ae9 L (evC (T6 L) d) Y s) (cd [1,1,0,1,0,0,1,1,0,0,1,1,1] Cs) (Af0 L (evC (T6 L) d) Y s) s0 base1))
noncomputable def Bi6(L:Nat):Cfg:=D1 L [85] (A3 []) [(84,ZT),(86,KR)] (A3 [(7,[2,0]),(2,[2,0]),(4,[2,0]),(6,[2,0]),(5,[0,14]),(3,[0,6]),(1,[0,3]),(0,[0])]) [84,86] (A3 [(0,[0])]) (some [2,0]) [] [] []
noncomputable def num{R:Type}(L:Nat)(a:By)(d:Int->Bool->Option R):Option R:=cond (a==[]) (d 0 false) (cond (A2 a.length) (cond (Gt a) (cond (O6 2 (a.length:Int) a.length) (vl (cut a 2 (a.length:Int)) λb=>cond (A2 b.length) (cond (ltN 16 17) (vl (↑(Cn (J1 16 0 b)):Int) λe=>d e (v7 (J1 16 0 b))) none) none) none) (cond (ltI 1 (a.length:Int)) (cond (inR 0 a.length) (cond ((bAt a (0:Int))==48) (cond (O6 1 (a.length:Int) a.length) (vl (cut a 1 (a.length:Int)) λc=>cond (A2 c.length) (cond (ltN 8 17) (vl (↑(Cn (J1 8 0 c)):Int) λf=>d f (v7 (J1 8 0 c))) none) none) none) (cond (A2 a.length) (cond (ltN 10 17) (vl (↑(Cn (J1 10 0 a)):Int) λg=>d g (v7 (J1 10 0 a))) none) none)) none) (cond (A2 a.length) (cond (ltN 10 17) (vl (↑(Cn (J1 10 0 a)):Int) λh=>d h (v7 (J1 10 0 a))) none) none))) none)
theorem Ck4(d:Nat)(s0):evC (Bi6 L) (d+1) W Y 85 [pS s0] [] s=num L s0 (λa b=>some (.tup [pI a,pB b],[],s)):=by refine(evE (fn:=Tryz.f85) (by kernel_rfl)).trans ?_;generalize evC (Bi6 L) d=Q;unfold num;kernel_rfl
noncomputable def NS(L:Nat):Cfg:=D1 L [83] (A3 []) [(98,Qu)] (A3 [(5,[2]),(4,[3]),(3,[3,0,13]),(2,[3,0]),(1,[3]),(0,[0])]) [] (A3 []) (some [2]) [] [] []
noncomputable def parts{R:Type}(L:Nat)(e:By)(c:LL->Option R):Option R:=cond (A2 e.length) (cond (1==1) (vl (A6 (pcs (c8 ([46]:List UInt8) 0 0) e)) λa=>vl (A4 ((a.length:Int)-1)) λb=>cond (ltI 0 b) (cond (inR b a.length) (cond (okE Jc a (j2 b) 0) (vl (gX a (j2 b) 0) λd=>cond (d==[]) (cond (O6 0 b a.length) (c (cut a 0 b)) none) (c a)) none) none) (c a)) none) none
theorem Bp7(d:Nat)(s0):evC (NS L) (d+1) W Y 83 [pS s0] [] s=parts L s0 (λa=>some (.s (.sl false false 1 a),[],s)):=by refine(evE (fn:=Tryz.f83) (by kernel_rfl)).trans ?_;generalize evC (NS L) d=Q;unfold parts;kernel_rfl
noncomputable def Vi(L:Nat):Cfg:=D1 L [57] (A3 []) [(83,MB),(84,ZT),(85,Bg4),(86,KR)] (A3 [(7,[2]),(6,[4,3]),(5,[2]),(4,[6]),(3,[4,13]),(2,[4]),(1,[3]),(0,[0])]) [84,85,86] (A3 []) (some [2]) [] [] []
noncomputable def Zv{R:Type}(L:Nat)(c:By)(d:Bool->Option R):Option R:=cond (A2 c.length) (vl (A4 ((↑(c9 (A6 (F6 c))):Int)-1)) λb=>cond (inR b (c9 (A6 (F6 c)))) (cond (okE Jc (A6 (F6 c)) (j2 b) 0) (vl (gX (A6 (F6 c)) (j2 b) 0) λa=>cond (A2 a.length) (cond (Gt a) (cond (A2 a.length) (vl (↑(Cn (Og a)):Int) λe=>d (v7 (Og a))) none) (cond (A2 a.length) (cond (ltN 10 17) (vl (↑(Cn (J1 10 0 a)):Int) λf=>cond (v7 (J1 10 0 a)) (d (not (a==[]))) (d false)) none) none)) none) none) none) none
theorem Ak9(d:Nat)(s0):evC (Vi L) (d+1) W Y 57 [pS s0] [] s=Zv L s0 (λa=>some (pB a,[],s)):=by refine(evE (fn:=Tryz.f57) (by kernel_rfl)).trans ?_;generalize evC (Vi L) d=Q;unfold Zv;kernel_rfl
noncomputable abbrev Bh9:Code:=E5 ar2
noncomputable def Pm(L:Nat):Cfg:=D1 L [97] (A3 [(6,[2,0,0,0,10,0,0])]) [(83,MB),(85,Bg4)] (A3 [(20,[2,0]),(19,[4,0,10,0,0]),(18,[4,0,10,0,0]),(17,[2,0]),(16,[4,0,2,1,5,0,0,29]),(15,[4,0,2,1,5,0,0]),(14,[4,0,10,0,0]),(13,[2,0]),(12,[4,0,2,7,0,0,17]),(11,[4,0,2,7,0,0,15]),(10,[2,0]),(9,[4,0,0,1,7,0,0,10]),(8,[4,0,0,1,0,6,0,0]),(7,[4,0,0,0,8,0,0]),(6,[4,0,10,0,0,0]),(5,[4,0,10,0,0]),(4,[4,0]),(3,[2,0]),(2,[4,10]),(1,[4]),(0,[0])]) [85] (A3 [(0,[5]),(1,[4,0,10,0,0])]) (some [2,0]) [] [] []
noncomputable def Gz{R:Type}(L n:Nat)(a:LL)(v1 l d:Int)(e:Unit->Option R)(h:Int->Option R):Option R:=match n with|0=>none|n+1=>cond (ltI d l) (cond (inR d a.length) (cond (okE Jc a (j2 d) 0) (cond (A2 (c9 (gX a (j2 d) 0))) (vl (↑(Cn (Og (gX a (j2 d) 0))):Int) λb=>cond (not (v7 (Og (gX a (j2 d) 0)))) (e ()) (vl (A4 ((a.length:Int)-1)) λi=>cond (ltI d i) (cond (ltI 255 b) (e ()) (vl (bOr .i64 (Th .i64 v1 (8:Int)) b) λj=>Gz L n a j l (A4 (d+1)) e h)) (vl (A4 ((5:Int)-(a.length:Int))) λc=>cond (decide ((0:Int)<=(A4 ((8:Int)*c)))) (vl (Th .i64 (1:Int) (A4 ((8:Int)*c))) λf=>cond (not (ltI b f)) (e ()) (cond (decide ((0:Int)<=(A4 ((8:Int)*c)))) (vl (Th .i64 v1 (A4 ((8:Int)*c))) λg=>Gz L n a (bOr .i64 g b) l (A4 (d+1)) e h) none)) none))) none) none) none) (h v1)
theorem An1(n l0 v1 n2 n3):G1 0 ((Pm L).keep 6) (bd (Pm L) Q Y (cd [1,0,1,1,1,1,0,1,0,0] Bh9)) n ⟨gp [(4,.s (.sl false false 1 l0)),(0,pI v1),(10,.s (.sl false false 1 l0)),(0,pI n2),(0,pI n3)] 38,[],s⟩ k =
 Gz L n l0 v1 n2 n3 (λ_=>k .ret ⟨gp [(2,p32 (0:Int)),(0,pB false)] 53,[],s⟩) (λv0=>k (.exit 0) ⟨gp [(5,pI v0)] 51,[],s⟩):=by
 induction n generalizing l0 v1 n2 n3 with
 | zero=>rfl
 | succ n a=>rw[Gz];simp only[<-a];kernel_rfl
noncomputable def B92{R:Type}(L:Nat)(b:By)(c:Int->Bool->Option R):Option R:=cond (A2 b.length) (cond (ltI 4 (↑(c9 (A6 (F6 b))):Int)) (c 0 false) (Gz L L (A6 (F6 b)) 0 (↑(c9 (A6 (F6 b))):Int) 0 (λ_=>c 0 false) (λa=>c (Bv3 a) true))) none
theorem B93(d:Nat)(s0):evC (Pm L) (d+1) W Y 97 [pS s0] [] s=B92 L s0 (λa b=>some (.tup [p32 a,pB b],[],s)):=by refine(evE (fn:=ar2) (by kernel_rfl)).trans ?_;generalize evC (Pm L) d=Q;unfold B92;exact(j4 (by kernel_rfl) (A0 (A0 rfl ((An1 L Q Y s (I1 0 (J0 (Pm L) Q Y (cd [1,0,1,1,1,1,1] Bh9) (I6 (Pm L) ar2))) L (A6 (F6 s0)) 0 (↑(c9 (A6 (F6 s0))):Int) 0).trans (by kernel_rfl))) rfl))
noncomputable abbrev Cf8:Code:=E5 ao2
noncomputable def CN(L:Nat):Cfg:=D1 L [149] (A3 [(6,[2,0,1,9,0,0])]) [(98,Qu),(86,KR),(43,ZV)] (A3 [(13,[2,0]),(12,[5,9,0,0]),(11,[5,9,0,0]),(10,[2,0]),(9,[5,2,6,0,0,19]),(8,[5,1,0,0,5,0,0]),(7,[5,1,7,0,0]),(6,[5,9,0,0,0]),(5,[5,9,0,0]),(4,[4,0]),(3,[2,0]),(2,[4,9]),(1,[4]),(0,[0])]) [86,43] (A3 [(0,[5]),(1,[5,9,0,0])]) (some [2,0]) [] [] []
noncomputable def Qj{R:Type}(L n:Nat)(v0:Int)(c:LL)(h b:Int)(d:Unit->Option R)(g:Int->Option R):Option R:=match n with|0=>none|n+1=>cond (ltI b h) (cond (inR b c.length) (cond (okE Jc c (j2 b) 0) (cond (A2 (c9 (gX c (j2 b) 0))) (cond (ltN 10 17) (vl (↑(Cn (J1 10 0 (gX c (j2 b) 0))):Int) λa=>cond (not (v7 (J1 10 0 (gX c (j2 b) 0)))) (d ()) (cond (ltI 255 a) (d ()) (cond (ltN a 4294967296) (vl (j8 (j2 a)) λf=>cond (not (f==(gX c (j2 b) 0))) (d ()) (vl (bOr .u32 (Th .u32 v0 (8:Int)) (Bv3 a)) λe=>Qj L n e c h (A4 (b+1)) d g)) none))) none) none) none) none) (g v0)
theorem Be1(n v0 l1 n2 n3):G1 0 ((CN L).keep 6) (bd (CN L) Q Y (cd [1,1,1,1,0,1,0,0] Cf8)) n ⟨gp [(5,p32 v0),(9,.s (.sl false false 1 l1)),(0,pI n2),(0,pI n3)] 27,[],s⟩ k =
 Qj L n v0 l1 n2 n3 (λ_=>k .ret ⟨gp [(2,p32 (0:Int)),(0,pB false)] 41,[],s⟩) (λv0=>k (.exit 0) ⟨gp [(5,p32 v0)] 39,[],s⟩):=by
 induction n generalizing v0 l1 n2 n3 with
 | zero=>rfl
 | succ n a=>rw[Qj];simp only[<-a];kernel_rfl
noncomputable def v4p{R:Type}(L:Nat)(d:By)(b:Int->Bool->Option R):Option R:=cond (A2 d.length) (cond (1==1) (vl (A6 (pcs (c8 ([46]:List UInt8) 0 0) d)) λa=>cond ((a.length:Int)!=4) (b 0 false) (Qj L L 0 a (a.length:Int) 0 (λ_=>b 0 false) (λc=>b c true))) none) none
theorem Cm3(d:Nat)(s0):evC (CN L) (d+1) W Y 149 [pS s0] [] s=v4p L s0 (λb c=>some (.tup [p32 b,pB c],[],s)):=by refine(evE (fn:=ao2) (by kernel_rfl)).trans ?_;generalize evC (CN L) d=Q;unfold v4p;exact(j4 (by kernel_rfl) (A0 (A0 (A5 λa=>(A0 rfl ((Be1 L Q Y s (I1 0 (J0 (CN L) Q Y (cd [1,1,1,1,1] Cf8) (I6 (CN L) ao2))) L 0 a (a.length:Int) 0).trans (by kernel_rfl)))) rfl) rfl))
noncomputable abbrev Cf7:Code:=E5 aq4
noncomputable def CM(L:Nat):Cfg:=D1 L [25] (A3 [(3,[0,1,0,0])]) [(43,ZV)] (A3 [(6,[2]),(4,[0,2,0]),(5,[0,2,0]),(3,[0,2,0,1]),(2,[0,2,0]),(1,[0,2]),(0,[0])]) [43] (A3 [(0,[3]),(1,[0,2,0])]) (some [2]) [] [] []
noncomputable def Gb{R:Type}(L n:Nat)(v0:Int)(a:By)(e:Int)(f:By->Option R):Option R:=match n with|0=>none|n+1=>cond (not (ltI e 0)) (cond (decide ((0:Int)<=e)) (vl (Ab5 .u32 (HG .u32 v0 e) (255:Int)) λb=>cond (ltN (A4 b) 4294967296) (vl (j8 (j2 (A4 b))) λc=>cond (P5 c.length 1) (vl (c++[46]) λd=>cond (P5 a.length d.length) (Gb L n v0 (a++d) (A4 (e-8)) f) none) none) none) none) (f a)
theorem Be0(n v0 out1 i2):G1 0 ((CM L).keep 3) (bd (CM L) Q Y (cd [1,1,0,1,0,0] Cf7)) n ⟨gp [(0,p32 v0),(2,pS out1),(0,pI i2)] 18,[],s⟩ k =
 Gb L n v0 out1 i2 (λa=>k (.exit 0) ⟨gp [(3,pS a)] 19,[],s⟩):=by
 induction n generalizing v0 out1 i2 with
 | zero=>rfl
 | succ n b=>rw[Gb];simp only[<-b];kernel_rfl
noncomputable def v4f{R:Type}(L:Nat)(v0:Int)(d:By->Option R):Option R:=Gb L L v0 ([]:List UInt8) 24 (λa=>vl (A4 ((a.length:Int)-1)) λb=>cond (O6 0 b a.length) (vl (cut a 0 b) λc=>d c) none)
theorem Cm2(d:Nat)(v0):evC (CM L) (d+1) W Y 25 [p32 v0] [] s=v4f L v0 (λa=>some (pS a,[],s)):=by refine(evE (fn:=aq4) (by kernel_rfl)).trans ?_;generalize evC (CM L) d=Q;unfold v4f;exact(j4 (by kernel_rfl) ((Be0 L Q Y s (I1 0 (J0 (CM L) Q Y (cd [1,1,1] Cf7) (I6 (CM L) aq4))) L v0 ([]:List UInt8) 24).trans (by kernel_rfl)))
noncomputable def Vl(L:Nat):Cfg:=D1 L [98] (A3 []) [(119,Ug)] (A3 [(1,[4]),(0,[0,0])]) [] (A3 []) (some [4]) [] [] []
noncomputable def AD{R:Type}(L:Nat)(c a:By)(d:Nat->LL->Option R):Option R:=cond (A2 c.length) (cond (a.length==1) (cond ((0:Int)==0) (cond (((-1):Int)==((-1):Int)) (vl (A6 (pcs (c8 a 0 0) c)) λb=>d (c9 (pcs (c8 a 0 0) c)) b) none) none) none) none
theorem Ap5(d:Nat)(s0 sep1):evC (Vl L) (d+1) W Y 98 [pS s0,pS sep1] [] s=AD L s0 sep1 (λa b=>some (.vw 0 0 a,[.arr false 9 1 b],s)):=by refine(evE (fn:=Tryz.f98) (by kernel_rfl)).trans ?_;generalize evC (Vl L) d=Q;unfold AD;kernel_rfl
end
end
section
open Go
theorem Vu(b:UInt8):(48<=b.toNat/\b.toNat<=57/\dig b=b.toNat-48)\/(97<=b.toNat/\b.toNat<=102/\dig b=b.toNat-87)\/(65<=b.toNat/\b.toNat<=70/\dig b=b.toNat-55)\/(¬(48<=b.toNat/\b.toNat<=57)/\¬(97<=b.toNat/\b.toNat<=102)/\¬(65<=b.toNat/\b.toNat<=70)/\dig b=99):=by
 unfold dig;split
 ·rename_i h;exact .inl ⟨h.1,h.2,rfl⟩
 ·split
  ·rename_i h;exact .inr (.inl ⟨h.1,h.2,rfl⟩)
  ·split
   ·rename_i h;exact .inr (.inr (.inl ⟨h.1,h.2,rfl⟩))
   ·exact .inr (.inr (.inr ⟨by assumption,by assumption,by assumption,rfl⟩))
theorem Cl2(m:Nat):(if (1099511627776:Int)<(m:Int) then (1099511627776:Int) else (m:Int))=((min m Iw:Nat):Int):=by unfold Iw;split<;>omega
theorem DA{base:Nat}:∀{s:By} {n v:Nat},n<=Iw->J1 base n s=some v->v<=Iw
 | [],n,v,h,e=>by simp only[J1,o5] at e;omega
 | b::r,n,v,h,e=>by
  simp only[J1] at e;split at e
  ·exact DA (by omega) e
  ·cases e
theorem B78{s:By}{v:Nat}(h:Og s=some v):v<=Iw:=by
 unfold Og at h
 repeat' split at h
 all_goals first|(cases h;done)|exact DA (by unfold Iw;omega) h
theorem IK(base:Nat):∀(x y:By) (n:Nat),J1 base n (x++y)=(J1 base n x).bind λm=>J1 base m y
 | [],y,n=>rfl
 | b::r,y,n=>by
  simp only[ah1,J1];split
  ·exact IK base r y _
  ·rfl
theorem Oj(u:Nat)(h:¬u<10):j8 u=j8 (u / 10)++[ag7 (48+u % 10)]:=by rw[j8,dif_neg h]
theorem Cg2(d:Nat)(h:d<10):dig (ag7 (48+d))=d:=by
 unfold dig;have:(ag7 (48+d)).toNat=48+d:=by simp;omega
 rw[this,Fo];omega
theorem A24:∀u:Nat,u<=Iw->J1 10 0 (j8 u)=some u:=by
 intro u
 induction u using ai2 with
 | _ u a=>
  intro b;by_cases h:u<10
  ·rw[ak0 h];simp only[J1,Cg2 u h];rw[if_pos h];unfold Iw;simp;omega
  ·rw[Oj u h,IK,a (u / 10) (by omega) (by omega)];simp only[al4,J1,Cg2 (u % 10) (by omega)];rw[Fo];unfold Iw at *;simp;omega
theorem Nn:∀(k u:Nat),0<k->u<10 ^ k->(j8 u).length<=k
 | 0,u,h,_=>by omega
 | k+1,u,_,h=>by
  by_cases b:u<10
  ·rw[ak0 b];simp
  ·rw[Oj u b,ad4,aa8];have a:0<k:=by
    rcases Nat.eq_zero_or_pos k with rfl|a
    ·rw[ah5,Nat.pow_one] at h;omega
    ·exact a
   have:=Nn k (u / 10) a (by rw[ac4] at h;omega);omega
theorem G8(u:Nat)(h:u<4294967296):(j8 u).length<=10:=Nn 10 u (by omega) (by omega)
theorem B79{s:By}{n:Nat}:oct s=some n↔n<256/\j8 n=s:=by
 unfold oct;constructor
 ·intro h;split at h
  ·rename_i m c;split at h
   ·rename_i a;cases h;exact⟨by omega,a.2⟩
   ·cases h
  ·cases h
 ·rintro⟨b,rfl⟩;rw[A24 n (by unfold Iw;omega)];exact if_pos ⟨by omega,rfl⟩
theorem Cf6(a b:Nat)(c:a<9223372036854775808)(d:b<9223372036854775808):bOr .i64 (a:Int) (b:Int)=((a ||| b:Nat):Int):=by
 unfold bOr;rw[show ac3 .i64=64 from rfl,Ci1 64 a b (by omega) (by omega)];have:a ||| b<2 ^ 63:=ag3 (by omega) (by omega)
 exact C0
theorem Cq5(a b:Nat)(c:a<4294967296)(d:b<4294967296):bOr .u32 (a:Int) (b:Int)=((a ||| b:Nat):Int):=by
 unfold bOr;rw[show ac3 .u32=32 from rfl,Ci1 32 a b (by omega) (by omega)];have:a ||| b<2 ^ 32:=ag3 (by omega) (by omega)
 exact GL
theorem Ch5(a b:Nat)(c:a<4294967296)(d:b<4294967296):Ab5 .u32 (a:Int) (b:Int)=((a &&& b:Nat):Int):=by unfold Ab5;rw[show ac3 .u32=32 from rfl,Cg0 32 a b (by omega) (by omega)];have:a &&& b<2 ^ 32:=Nat.and_lt_two_pow _ (by omega);exact GL
theorem Ch4(x:Nat):x &&& 255=x % 256:=ae6 x 8
theorem Br2(a m:Nat)(h:a*2 ^ m<9223372036854775808)(b:m<=64):Th .i64 (a:Int) (m:Int)=((a*2 ^ m:Nat):Int):=by
 unfold Th;rw[j1,show ac3 .i64=64 from rfl,af5 b];have:(a:Int)*2 ^ m=((a*2 ^ m:Nat):Int):=by simp
 rw[this];exact C0
theorem Cs3(a m:Nat)(h:a*2 ^ m<4294967296)(b:m<=32):Th .u32 (a:Int) (m:Int)=((a*2 ^ m:Nat):Int):=by
 unfold Th;rw[j1,show ac3 .u32=32 from rfl,af5 b];have:(a:Int)*2 ^ m=((a*2 ^ m:Nat):Int):=by simp
 rw[this];exact GL
theorem Zx(v n m:Nat)(h:n<2 ^ m):v*2 ^ m ||| n=v*2 ^ m+n:=by rw[Nat.or_comm,Ck6 n v m h,Nat.add_comm]
theorem Sy{c:UInt8}{s:By}(h:c∉s):pcs c s=[s]:=by unfold pcs;rw[Tm c s [] h];rfl
theorem QU{c:UInt8}{p r:By}(h:c∉p):pcs c (p++c::r)=p::pcs c r:=by unfold pcs;rw[Ys c p [] r h];rfl
theorem Nz(c:UInt8)(s:By):(pcs c s).length=s.count c+1:=Hb c s []
theorem Bp8(c:UInt8)(s:By):pcs c s≠[]:=Ao8 c s []
theorem Gw{c:UInt8}{s x:By}(h:x∈pcs c s):c∉x/\x.length<=s.length:=by have:=Mw c s [] (by simp) x h;simpa using this
theorem Mb(c:UInt8)(s:By):s.count c<=s.length:=List.count_le_length
theorem Z7(c:UInt8):∀s:By,c∉s\/∃p r,s=p++c::r/\c∉p
 | []=>.inl (by simp)
 | b::s=>by
  by_cases h:b=c
  ·subst h;exact .inr ⟨[],s,rfl,by simp⟩
  ·rcases Z7 c s with a|⟨p,r,rfl,d⟩
   ·exact .inl (by simp[a,am1 h])
   ·exact .inr ⟨b::p,r,rfl,by simp[d,am1 h]⟩
theorem Pw{c:UInt8}{s:By}(h:c∉s):ae3 s [c]=-1:=by
 rcases am2 s [c] with a|⟨i,a,e,b,f⟩
 ·exact a.1
 ·exfalso;simp only[al2,af9] at b;obtain⟨t,d⟩:=b;have:c∈s.drop i:=by rw[<-d];simp
  exact h (x9 this)
theorem We{c:UInt8}{p r:By}(h:c∉p):ae3 (p++c::r) [c]=(p.length:Int):=by
 rcases am2 (p++c::r) [c] with d|⟨i,d,m,f,g⟩
 ·exfalso;have:=d.2 p.length (by simp);simp[al2] at this
 ·rw[d];have n:¬p.length<i:=by
   intro a;have:=g p.length a;simp[al2] at this
  have k:¬i<p.length:=by
   intro a;simp only[al2,af9] at f;obtain⟨t,b⟩:=f;have j:(p++c::r).drop i=p.drop i++c::r:=by rw[ae9 (by omega)]
   rw[j] at b;cases e:p.drop i with
   | nil=>have:=ac8 (i:=i) (l:=p);rw[e] at this;simp at this;omega
   | cons x y=>
    rw[e] at b;simp at b;have:x∈p:=x9 (i:=i) (by rw[e];simp);rw[<-b.1] at this;exact h this
  omega
theorem A93(s:By):F6 s≠[]:=by
 unfold F6;split
 ·rename_i h;intro e;have:=congrArg c9 e;simp at this;omega
 ·exact Bp8 _ _
theorem EY{s x:By}(h:x∈F6 s):x.length<=s.length:=by
 unfold F6 at h;split at h
 ·exact(Gw ((List.dropLast_sublist _).subset h)).2
 ·exact(Gw h).2
theorem Fs(s:By):1<=(F6 s).length/\(F6 s).length<=s.length+1:=by
 have a:=ai8.2 (A93 s);have b:=Nz 46 s;have c:=Mb 46 s;refine⟨a,?_⟩;unfold F6;split
 ·rw[List.length_dropLast];omega
 ·omega
theorem JD(s:By):(F6 s).getD ((F6 s).length-1) []=Kv s:=by unfold Kv;rw[List.getLastD_eq_getLast?,List.getLast?_eq_getElem?,j7]
theorem A63(s:By):Kv s∈F6 s:=by have h:=(Fs s).1;rw[<-JD,j7,k9 (by omega)];exact al3 _
theorem A52(s:By):Gt s=true↔s.getD 0 0=48/\(s.getD 1 0=120\/s.getD 1 0=88):=by simp[Gt]
theorem IZ{s:By}(h:Gt s=true):2<=s.length:=by
 rw[A52] at h
 match s with
 | []=>simp at h
 | [a]=>simp at h
 | a::b::r=>simp
end
section
open Go Go.Proofs
theorem A75{R:Type}{a:Bool->Option R}(s p:By)(b:A2 s.length=true):B68 LF s p a=a (p.isPrefixOf s):=by
 have:=N7 b;unfold B68;rw[Cv];by_cases h:p.length<=s.length
 ·simp_all
 ·simp (disch:=omega) [h]
theorem A44{R:Type}{a:Bool->Option R}(s p:By)(b:A2 s.length=true):Zg LF s p a=a (p.isPrefixOf s):=by unfold Zg;rw[b];rfl
theorem A76{R:Type}{a:Bool->Option R}(s p:By)(b:A2 s.length=true):B70 LF s p a=a (p.isSuffixOf s):=by
 have:=N7 b;unfold B70;rw[Kt];by_cases h:p.length<=s.length
 ·have e:((s.length:Int)-(p.length:Int)).toNat=s.length-p.length:=by omega
  simp (disch:=omega) [h,e]
 ·simp (disch:=omega) [h]
theorem A45{R:Type}{a:Bool->Option R}(s p:By)(b:A2 s.length=true):B44 LF s p a=a (p.isSuffixOf s):=by unfold B44;rw[b];rfl
theorem Aj8{R:Type}{b:By->Option R}(s p:By)(a:A2 s.length=true):Aw7 LF s p b=b (RY s p):=by
 have:=N7 a;unfold Aw7 RY;rw[a];cases h:p.isSuffixOf s with
 | false=>simp
 | true=>
  have:p.length<=s.length:=by rw[Kt] at h;simp at h;exact h.1
  have e:((s.length:Int)-(p.length:Int)).toNat=s.length-p.length:=by omega
  simp (disch:=omega) [e]
theorem Ap9{R:Type}{a:By->Option R}(s p:By)(b:A2 s.length=true):Ay8 LF s p a=a (RY s p):=by unfold Ay8;rw[b];rfl
theorem Ai6{R:Type}{b:By->Bool->Option R}(s p:By)(a:A2 s.length=true):Aw3 LF s p b=b (Fh s p) (p.isPrefixOf s):=by
 have:=N7 a;unfold Aw3 Fh;rw[a];cases h:p.isPrefixOf s with
 | false=>simp
 | true=>
  have:p.length<=s.length:=by rw[Cv] at h;simp at h;exact h.1
  simp_all
theorem A21{R:Type}{a:By->Bool->Option R}(s p:By)(b:A2 s.length=true):B03 LF s p a=a (Fh s p) (p.isPrefixOf s):=by unfold B03;rw[b];rfl
theorem YO{R:Type}{a:LL->Option R}(s p:By)(b:A2 s.length=true)(c:(p.length==1)=true):RP LF s p a=a (A6 (pcs (p.getD 0 0) s)):=by unfold RP;rw[b,c];rfl
theorem A72{R:Type}{k0:LL->Option R}(s:By)(o:s.length<=1000000000):∀(r i n:Nat),i+r=s.length->r<n->Dk LF n s (s.length:Int) (i:Int) ((D0 (s.take i)).map H7) k0=k0 ((D0 s).map H7):=by
 intro r
 induction r with
 | zero=>
  intro i n g j;obtain⟨n,rfl⟩:∃m,n=m+1:=⟨n-1,by omega⟩
  rw[Dk];rw[A8,w8 (by omega)];rfl
 | succ r a=>
  intro i n g j;obtain⟨n,rfl⟩:∃m,n=m+1:=⟨n-1,by omega⟩
  rw[Dk];have h:(D0 (s.take i)).length=i:=by simp[D0];omega
  have a:=a (i+1) n (by omega) (by omega);rw[Aj3 s i (by omega)] at a;rw[L4];have l:=(s.getD i 0).toNat_lt;generalize s.getD i 0=b at *;have c:((i:Int)+1)=((i+1:Nat):Int):=by omega
  simp (disch:=omega) only[F1,O8,cond_true,vl,af3,h,I7,O5];rw[c];rcases U9 b with⟨d,e⟩|⟨d,e⟩|⟨d,k,e⟩
  ·simp (disch:=omega) only[F1,j5,cond_false];rw[e] at a;exact a
  ·simp (disch:=omega) only[I2,F1,j5,j6,cond_false,cond_true];rw[e] at a;exact a
  ·have f:wu8 ((b.toNat:Int)+32)=((Aw b).toNat:Int):=by
    rw[Z9];omega
   simp (disch:=omega) only[I2,j6,cond_true,f];exact a
theorem A73{R:Type}{k0:By->LL->Option R}(s:By)(b:A2 s.length=true):B66 LF s k0=k0 (D0 s) ((D0 s).map H7):=by have c:=N7 b;have:=G3;unfold B66;simp (disch:=omega) only[j1,I7,ag8];rw[show(decide ((0:Int)<=(s.length:Int)))=true by simp];have:=A72 (k0:=λa=>cond (ah0 a DY) (k0 (ad1 Zd a) a) none) s c s.length 0 LF (by omega) (by omega);simp only[am4,D0,ao5] at this;rw[cond_true];refine j4 this ?_;rw[show(ad1 Aw s).map H7=(D0 s).map H7 from rfl,Lk,Mo];rfl
theorem A41{R:Type}{c:Bool->Option R}(s:By)(d:A2 s.length=true):B38 LF s c=c (Gt s):=by
 unfold B38;have key:Gt s=(([48,120]:By).isPrefixOf s||([48,88]:By).isPrefixOf s):=by
  match s with
  | []=>rfl
  | [a]=>simp[Gt,o0]
  | a::b::r=>
   simp only[Gt,o0,ab7,List.getD_cons_succ,ag8];rw[ap7 (a:=(48:UInt8)),ap7 (a:=(120:UInt8)),ap7 (a:=(88:UInt8))];cases (a==48)<;>simp
 grind
theorem A25{R:Type}{k0:Unit->Option R}{k1:Int->Option R}(s:By)(C:s.length<=1000000000)(base:Nat)(B:base<=16):∀(r i a n:Nat),i+r=s.length->r<n->a<=Iw->
  Gr LF n s (base:Int) (a:Int) (s.length:Int) (i:Int) k0 k1=match J1 base a (s.drop i) with|some v=>k1 (v:Int)|none=>k0 ():=by
 intro r
 induction r with
 | zero=>
  intro i a n u w q;obtain⟨n,rfl⟩:∃m,n=m+1:=⟨n-1,by omega⟩
  rw[Gr];rw[A8,j9 (by omega)];rfl
 | succ r l=>
  intro i a n u w q;obtain⟨n,rfl⟩:∃m,n=m+1:=⟨n-1,by omega⟩
  rw[Gr,N0 s i (by omega)];rw[L4];have t:=(s.getD i 0).toNat_lt;generalize s.getD i 0=b at *;have k:((i:Int)+1)=((i+1:Nat):Int):=by omega
  have o:Iw=1099511627776:=rfl;have step:∀d:Nat,d<base->(a*base+d<100000000000000/\A4 (A4 ((a:Int)*(base:Int))+(d:Int))=((a*base+d:Nat):Int)):=by
   intro d c;have h:a*base<=1099511627776*16:=Nat.mul_le_mul (by omega) (by omega);refine⟨by omega,?_⟩;have p:A4 ((a*base:Nat):Int)=((a*base:Nat):Int):=C0;rw[<-Int.natCast_mul,p,C0];rfl
  simp (disch:=omega) only[F1,O8,cond_true,vl,O5,Rp,Rn,Rm];rw[k];simp only[J1];rcases Vu b with⟨h,j,e⟩|⟨h,j,e⟩|⟨h,j,e⟩|⟨h,j,A,e⟩
  ·have f:wu8 ((b.toNat:Int)-48)=((dig b:Nat):Int):=by rw[Z9];omega
   simp (disch:=omega) only[F1,I2,j5,j6,cond_false,cond_true,f,O5];by_cases c:dig b<base
   ·rw[if_pos c,C7,(step _ c).2,Cl2];exact l (i+1) _ n (by omega) (by omega) (by omega)
   ·rw[if_neg c,A8];rfl
  ·have f:wu8 ((b.toNat:Int)-97)+10=((dig b:Nat):Int):=by rw[Z9];omega
   have g:wu8 ((b.toNat:Int)-97)=((b.toNat:Int)-97):=Z9;rw[g] at f;simp (disch:=omega) only[F1,I2,j5,j6,cond_false,cond_true,g,O5,f];by_cases c:dig b<base
   ·rw[if_pos c,C7,(step _ c).2,Cl2];exact l (i+1) _ n (by omega) (by omega) (by omega)
   ·rw[if_neg c,A8];rfl
  ·have f:wu8 ((b.toNat:Int)-65)+10=((dig b:Nat):Int):=by rw[Z9];omega
   have g:wu8 ((b.toNat:Int)-65)=((b.toNat:Int)-65):=Z9;rw[g] at f;simp (disch:=omega) only[F1,I2,j5,j6,cond_false,cond_true,g,O5,f];by_cases c:dig b<base
   ·rw[if_pos c,C7,(step _ c).2,Cl2];exact l (i+1) _ n (by omega) (by omega) (by omega)
   ·rw[if_neg c,A8];rfl
  ·rw[if_neg (show ¬dig b<base by omega)];by_cases x:b.toNat<48
   ·simp (disch:=omega) only[F1,I2,j5,j6,cond_false,cond_true]
   ·by_cases y:b.toNat<65
    ·simp (disch:=omega) only[F1,I2,j5,j6,cond_false,cond_true]
    ·by_cases z:b.toNat<97
     ·simp (disch:=omega) only[F1,I2,j5,j6,cond_false,cond_true]
     ·simp (disch:=omega) only[F1,I2,j5,j6,cond_false,cond_true]
theorem A26{R:Type}{k0:Int->Bool->Option R}(s:By)(base:Int)(c:A2 s.length=true)(d:ltN base 17=true):Bk1 LF s base k0=k0 (Cn (J1 base.toNat 0 s):Int) (J1 base.toNat 0 s).isSome:=by have f:=N7 c;have:=G3;obtain⟨a,e⟩:=E8.1 d;obtain⟨b,rfl⟩:=p9 a;unfold Bk1;have:=A25 (k0:=λ_=>k0 0 false) (k1:=λn=>k0 n true) s f b (by omega) s.length 0 0 LF (by omega) (by omega) (by unfold Iw;omega);refine j4 this ?_;rw[ac7,j1];cases J1 b 0 s<;>rfl
theorem Bp0{R:Type}{f:Int->Bool->Option R}(s:By)(d:A2 s.length=true):num LF s f=f (Cn (Og s):Int) (Og s).isSome:=by
 have k:=N7 d;unfold num Og;rw[d];by_cases a:s=[]
 ·subst a;rfl
 have c:(s==([]:By))=false:=by simpa using a
 have j:0<s.length:=ai8.2 a;rw[if_neg a,c];simp only[cond_true,cond_false,vl];cases h:Gt s with
 | true=>
  have:=IZ h;simp (disch:=first|omega|(simp;omega)) only[cond_true,if_true,Fz,Bw,D9,EI];rfl
 | false=>
  simp only[cond_false,o6,if_false];have i:(J1 10 0 s)=J1 10 0 s:=rfl;by_cases g:1<s.length
  ·simp (disch:=omega) only[F1,O8,cond_true,Qx,g,true_and];have e:=Qh (s.getD 0 0) 48 (by omega);rw[show((48:Nat):Int)=48 from rfl] at e;rw[e];by_cases b:s.getD 0 0=48
   ·rw[if_pos b,b,show((48:UInt8)==ag7 48)=true from rfl];simp (disch:=first|omega|(simp;omega)) only[Fz,Bw,D9,EI,cond_true];rfl
   ·rw[if_neg b,show(s.getD 0 0==ag7 48)=false from beq_eq_false_iff_ne.2 b];rfl
  ·rw[A8,T1];rfl
theorem QK{R:Type}{b:Bool->Option R}(s:By)(a:A2 s.length=true):Zv LF s b=b (N9 s):=by
 have i:=N7 a;have h:=Fs s;have g:=EY (A63 s);have d:=JD s;have c:((F6 s).length:Int)-1=(((F6 s).length-1:Nat):Int):=by omega
 unfold Zv N9;rw[a];simp (disch:=omega) only[cond_true,vl,C2,c,O5,O8,j1,R0,W3,d,D9];cases f:Gt (Kv s) with
 | true=>
  have:=IZ f;have e:Og (Kv s)=J1 16 0 ((Kv s).drop 2):=by
   unfold Og;grind
  simp[e]
 | false=>
  simp only[cond_false,o6,if_false];cases J1 10 0 (Kv s) with
  | none=>simp
  | some v=>cases Kv s<;>rfl
theorem Cq8(s:By)(a b:Nat)(h:a<=b)(c:b<s.length):cut s (a:Int) ((b+1:Nat):Int)=cut s (a:Int) (b:Int)++[s.getD b 0]:=by rw[Gq,Gq,KG s b c,ae9 (by rw[ae5];omega)]
theorem CX(s:By)(a:Nat):cut s (a:Int) (a:Int)=[]:=by rw[Gq];grind
theorem Br1(d:List By)(x:By)(m:Nat):ad7 (A6 (d++j0 (m+1) [])) d.length (F9 (c8 (A6 (d++j0 (m+1) [])) d.length []) 0 [SV.str x])=A6 ((d++[x])++j0 m []):=by
 have a:c8 (A6 (d++j0 (m+1) [])) d.length []=[SV.str []]:=by
  unfold A6;grind
 rw[a];simp only[F9,List.set_cons_zero,Jb];rw[show d.length=(A6 d).length by simp,ai3 _ _ (by omega),ak5,List.replicate_succ];simp[A6]
theorem WA{R:Type}{k0:By->Int->LL->Option R}(c:UInt8):∀(m n:Nat) (s:By) (d:List By),s.length<=1000000000->m=s.count c->d.length+m<=1000000000->m<n->
  ∃(f:List By) (e:By),pcs c s=f++[e]/\e.length<=s.length/\Z2 LF n s [c] 0 ((d.length+m:Nat):Int) (d.length:Int) (A6 (d++j0 (m+1) [])) k0=k0 e ((d.length+m:Nat):Int) (A6 ((d++f)++[[]])):=by
 intro m
 induction m with
 | zero=>
  intro n s d k b x y;obtain⟨n,rfl⟩:∃m,n=m+1:=⟨n-1,by omega⟩
  have a:c∉s:=af8.1 b.symm;refine⟨[],s,Sy a,af0 _,?_⟩;rw[Z2];rw[A8];simp
 | succ m z=>
  intro n s d k b x y;obtain⟨n,rfl⟩:∃m,n=m+1:=⟨n-1,by omega⟩
  rcases Z7 c s with a|⟨p,r,rfl,a⟩
  ·rw[af8.2 a] at b;omega
  ·have i:m=r.count c:=by
    rw[List.count_append,List.count_cons,af8.2 a] at b;simp at b;omega
   simp only[ad4,o8] at k;obtain⟨f,e,w,B,j⟩:=z n r (d++[p]) (by omega) i (by simp<;>omega) (by omega);refine⟨p::f,e,by rw[QU a,w];rfl,by simp<;>omega,?_⟩;rw[Z2];have l:((p.length:Int)+1)=((p.length+1:Nat):Int):=by omega
   have o:(d.length:Int)+1=((d.length+1:Nat):Int):=by omega
   have q:((p.length+1:Nat):Int).toNat=p.length+1:=by omega
   have A:(((p++c::r).length:Nat):Int)=((p.length+(r.length+1):Nat):Int):=by simp
   have t:(p++c::r).take p.length=p:=List.take_left' rfl;have u:(p++c::r).drop (p.length+1)=r:=by
    rw[show p++c::r=(p++[c])++r by simp,ah9 (by simp)]
   rw[We a];have v:(A6 (d++j0 (m+1+1) [])).length=d.length+(m+2):=by simp<;>omega
   simp (disch:=first|omega|(simp;omega)) only[F1,I2,D9,cond_true,cond_false,vl,Int.add_zero,O5,Fz,O8,v,j1,aa8,Bw,Ch,t,Br1];rw[decide_eq_true (show d.length<d.length+(m+2) by omega),cond_true,show((1:Nat):Int)=1 from rfl,l];simp (disch:=first|omega|(simp;omega)) only[O5,Fz,cond_true,Bw,q,u,o];have g:((((d++[p]).length+m:Nat):Int))=((d.length+(m+1):Nat):Int):=by simp<;>omega
   have h:(((d++[p]).length:Nat):Int)=((d.length+1:Nat):Int):=by simp
   rw[g,h] at j;rw[j];simp
theorem DO{R:Type}{k0:Unit->Option R}{g:Nat->LL->Option R}(s p:By)(v n:Int)(w:A2 s.length=true)(x:(p.length==1)=true)(y:(v==0)=true)(z:(n==(-1))=true) :
  DN LF s p v n k0 g=g (pcs (p.getD 0 0) s).length (A6 (pcs (p.getD 0 0) s)):=by
 have C:=N7 w;have:=G3;obtain⟨c,rfl⟩:∃c,p=[c]:=by
  match p,x with
  | [c],_=>exact⟨c,rfl⟩
 have:v=0:=by simpa using y
 subst this;have:n=-1:=by simpa using z
 subst this;have G:=Mb c s;have B:=Nz c s;obtain⟨d,D,u,F,h⟩:=WA (R:=R) (k0:=λf a b=>cond (inR a (c9 b))
     (cond (decide ((j2 a)<(c9 b)))
      (vl (A4 (a+(1))) λe=>
      cond (O6 (0) e (c9 (ad7 b (j2 a) (F9 (c8 b (j2 a) []) 0 [(SV.str f)]))))
       (g ((j2 e)-0) (ad7 b (j2 a) (F9 (c8 b (j2 a) []) 0 [(SV.str f)])))
       (none))
      (none))
     (none)) c (s.count c) LF s [] C rfl (by simp<;>omega) (by omega)
 unfold DN;have i:A4 ((s.count c:Int)+1)=((s.count c+1:Nat):Int):=C0;have j:A4 ((s.length:Int)+1)=((s.length+1:Nat):Int):=C0;have k:(if ((s.length+1:Nat):Int)<((s.count c+1:Nat):Int) then ((s.length+1:Nat):Int) else ((s.count c+1:Nat):Int))=((s.count c+1:Nat):Int):=T1;have l:((s.count c+1:Nat):Int)-1=(s.count c:Int):=by omega
 have m:(j0 (s.count c+1) [SV.str ([]:By)])=A6 ([]++j0 (s.count c+1) []):=by simp[A6]
 simp only[ab7,vl,aa8,i,j,k,j1,m];rw[show((-1:Int)==0)=false from rfl,show([c]==([]:By))=false from rfl,show ltI (-1) 0=true from rfl,decide_eq_true (show(0:Int)<=((s.count c+1:Nat):Int) by omega),decide_eq_true (show((s.count c+1:Nat):Int)<=((s.count c+1:Nat):Int) by omega),I7 (by omega),l,C0];simp only[cond_true,cond_false,beq_self_eq_true,Bool.and_self];simp only[ac6,ah5] at h;refine j4 h ?_;have o:(A6 ((([]:List By)++d)++[[]]))=A6 (d++j0 (0+1) []):=by simp
 have A:d.length=s.count c:=by grind
 have q:=Br1 d D 0;rw[<-A,o];have t:(A6 (d++j0 (0+1) ([]:By))).length=d.length+1:=by simp
 have r:A4 ((d.length:Int)+1)=((d.length+1:Nat):Int):=C0;simp only[j1,q,t,vl,r];rw[K8,decide_eq_true (show d.length<d.length+1 by omega),Fz (by omega) (by omega) (by simp),u];simp
theorem WB(s p:By)(v n:Int)(a:A2 s.length=true)(b:(p.length==1)=true)(c:(v==0)=true)(d:(n==(-1))=true) :
  ∃r H,DN LF s p v n (λ_=>rv (.fl 0) [.arr true 9 1 []]) (λi l=>rv (.vw 0 0 i) [.arr false 9 1 l])=rv r H/\r.stab [1] H = .s (.sl false false 1 (A6 (pcs (p.getD 0 0) s))):=by
 refine⟨_,_,DO s p v n a b c d,?_⟩;simp[PV.stab,Rt,PV.snap,w8]
theorem RR{R:Type}{a:Nat->LL->Option R}(s p:By)(b:A2 s.length=true)(c:(p.length==1)=true):AD LF s p a=a (pcs (p.getD 0 0) s).length (A6 (pcs (p.getD 0 0) s)):=by unfold AD;rw[b,c];rfl
theorem Bp1{l:List By}{i:Nat}(h:i<l.length):l.getD i []∈l:=by grind
theorem Al6{R:Type}{d:LL->Option R}(s:By)(b:A2 s.length=true):parts LF s d=d (A6 (F6 s)):=by
 have j:=N7 b;have g:=Nz 46 s;have i:=Mb 46 s;unfold parts;rw[b];have e:A4 (((pcs 46 s).length:Int)-1)=(((pcs 46 s).length-1:Nat):Int):=by rw[C0];omega
 simp only[cond_true,vl,ab7,show((1:Nat)==1)=true from rfl,C2,e,j1];by_cases c:1<(pcs 46 s).length
 ·rw[C7,K8,R0 (by omega),W3];have f:(pcs 46 s).getD ((pcs 46 s).length-1) []=(pcs 46 s).getLastD []:=by grind
  rw[f];by_cases a:(pcs 46 s).getLastD []=[]
  ·rw[a,show(([]:By)==[])=true from rfl,T0];have:F6 s=(pcs 46 s).dropLast:=by unfold F6;rw[if_pos ⟨c,a⟩]
   rw[this,List.dropLast_eq_take,Ch,j1];simp[A6]
  ·rw[show((pcs 46 s).getLastD []==[])=false from beq_eq_false_iff_ne.2 a];have:F6 s=pcs 46 s:=by unfold F6;rw[if_neg (λh=>a h.2)]
   grind
 ·rw[A8];have:F6 s=pcs 46 s:=by unfold F6;rw[if_neg (λh=>c h.1)]
  grind
theorem FE(l:List By)(i:Nat)(h:i<l.length):l.drop i=l.getD i []::l.drop (i+1):=by simp_all
theorem A98{R:Type}{g:Unit->Option R}{j:Int->Option R}(l:List By)(B:1<=l.length)(L:l.length<=4)(A:∀x∈l,x.length<=1000000000):∀(r i v n:Nat),i+r=l.length->0<r->r<n->v<256 ^ i->
  Gz LF n (A6 l) (v:Int) (l.length:Int) (i:Int) g j=match FD (8*(5-l.length)) v (l.drop i) with|some w=>j (w:Int)|none=>g ():=by
 intro r
 induction r with
 | zero=>intro i v n _ h;omega
 | succ r J=>
  intro i v n K _ M H;obtain⟨n,rfl⟩:∃m,n=m+1:=⟨n-1,by omega⟩
  rw[Gz,FE l i (by omega)];have N:=A _ (Bp1 (show i<l.length by omega));have f:Iw=1099511627776:=rfl;have C:256 ^ i<=16777216:=by
   have:i=0\/i=1\/i=2\/i=3:=by omega
   rcases this with rfl|rfl|rfl|rfl<;>decide
  simp (disch:=omega) only[F1,C2,O8,cond_true,j1,R0,W3,D9,vl];simp only[FD];have c:((i:Int)+1)=((i+1:Nat):Int):=by omega
  cases D:Og (l.getD i []) with
  | none=>rfl
  | some q=>
   have F:=B78 D;have p:A4 ((l.length:Int)-1)=((l.length-1:Nat):Int):=by rw[C0];omega
   simp only[aa7,j5,cond_false,Cn,y5,p];by_cases G:r=0
   ·subst G;have t:l.drop (i+1)=[]:=j9 (by omega);have o:A4 (8*A4 (5-(l.length:Int)))=((8*(5-l.length):Nat):Int):=by
     rw[O5 (n:=5-(l.length:Int)) (by omega) (by omega),C0];omega
    have b:2 ^ (8*(5-l.length))*256 ^ i=4294967296:=by
     have:l.length=1\/l.length=2\/l.length=3\/l.length=4:=by omega
     grind
    have u:1*2 ^ (8*(5-l.length))<=4294967296:=by
     rw[<-b,Nat.one_mul];exact Nat.le_mul_of_pos_right _ (Nat.pow_pos (by omega))
    rw[t,A8,o,decide_eq_true (show(0:Int)<=((8*(5-l.length):Nat):Int) by omega)];simp only[cond_false,cond_true];have k:=Br2 1 (8*(5-l.length)) (by omega) (by omega);have I:v*2 ^ (8*(5-l.length))<4294967296:=by
     rw[<-b,ao8];exact Nat.mul_lt_mul_of_pos_left H (Nat.pow_pos (by omega))
    have e:=Br2 v (8*(5-l.length)) (by omega) (by omega);rw[show((1:Nat):Int)=1 from rfl] at k;rw[k,e,Nat.one_mul];by_cases a:q<2 ^ (8*(5-l.length))
    ·rw[C7,if_pos a,Cf6 _ _ (by omega) (by omega),Zx v q _ a];simp only[j5,cond_false];obtain⟨n,rfl⟩:∃m,n=m+1:=⟨n-1,by omega⟩
     rw[Gz];rw[c,C0,A8];rfl
    ·rw[A8,if_neg a];rfl
   ·obtain⟨y,z,d⟩:∃y z,l.drop (i+1)=y::z:=⟨_,_,FE l (i+1) (by omega)⟩
    rw[d,C7];simp only[cond_true];by_cases a:q<=255
    ·have e:=Br2 v 8 (by omega) (by omega);rw[show((8:Nat):Int)=8 from rfl] at e;rw[A8,if_pos a,e,Cf6 _ _ (by omega) (by omega),Zx v q 8 (by omega),c,C0];rw[<-d];exact J (i+1) _ n (by omega) (by omega) (by omega) (by rw[ac4];omega)
    ·rw[C7,if_neg a];rfl
theorem Ax8(free m:Nat):∀(l:List By) (v w:Nat),v<256 ^ m->FD free v l=some w->w<256 ^ (m+(l.length-1))*2 ^ free
 | [],v,w,b,h=>by cases h
 | p::r,v,w,b,h=>by
  simp only[FD] at h;cases a:Og p with
  | none=>simp[a] at h
  | some q=>
   simp only[a] at h;cases r with
   | nil=>
    simp only at h;split at h
    ·rename_i c;cases h;simp only[o8,ac6,aj3,ao7];have:(v+1)*2 ^ free<=256 ^ m*2 ^ free:=af1 _ b;grind
    grind
   | cons y z=>
    simp only at h;split at h
    ·rename_i c;have:=Ax8 free (m+1) (y::z) (v*256+q) w (by rw[ac4];omega) h;grind
    grind
theorem Ck8{s:By}{w:Nat}(h:pnB s=some w):w<4294967296:=by
 unfold pnB at h;split at h
 ·cases h
 ·rename_i a;have b:=Fs s;have:=Ax8 _ 0 (F6 s) 0 w (by decide) h;have e:(F6 s).length=1\/(F6 s).length=2\/(F6 s).length=3\/(F6 s).length=4:=by omega
  grind
theorem A99{R:Type}{b:Int->Bool->Option R}(s:By)(a:A2 s.length=true):B92 LF s b=b (Cn (pnB s):Int) (pnB s).isSome:=by
 have f:=N7 a;have:=G3;have c:=Fs s;unfold B92;rw[a,C2];by_cases h:4<(F6 s).length
 ·rw[C7];unfold pnB;rw[if_pos h];rfl
 ·rw[A8];simp only[cond_true,cond_false];refine j4 (A98 (F6 s) c.1 (by omega) (λx g=>ak4 (EY g) f) (F6 s).length 0 0 LF (by omega) (by omega) (by omega) (by decide)) ?_;have e:pnB s=FD (8*(5-(F6 s).length)) 0 (F6 s):=by unfold pnB;rw[if_neg h]
  rw[ac7,<-e];cases d:pnB s with
  | none=>rfl
  | some w=>
   have:=Ck8 d;simp only[Cn,y5,aa7];rw[GL]
theorem Ax2:∀(l:List By) (v w m:Nat),v<256 ^ m->XF v l=some w->w<256 ^ (m+l.length)
 | [],v,w,m,b,h=>by simp only[XF,o5] at h;subst h;simpa using b
 | p::r,v,w,m,b,h=>by
  simp only[XF] at h;cases a:oct p with
  | none=>simp[a] at h
  | some q=>
   simp only[a] at h;have c:=(B79.1 a).1;have:=Ax2 r (v*256+q) w (m+1) (by rw[ac4];omega) h;grind
theorem B80(s:By):oct s=match J1 10 0 s with|some n=>(if n<=255 then (if j8 n=s then some n else none) else none)|none=>none:=by unfold oct;grind
theorem Bu0{R:Type}{e:Unit->Option R}{f:Int->Option R}(l:List By)(z:l.length=4)(j:∀x∈l,x.length<=1000000000):∀(r i v n:Nat),i+r=4->r<n->v<256 ^ i->
  Qj LF n (v:Int) (A6 l) 4 (i:Int) e f=match XF v (l.drop i) with|some w=>f (w:Int)|none=>e ():=by
 intro r
 induction r with
 | zero=>
  intro i v n h k u;obtain⟨n,rfl⟩:∃m,n=m+1:=⟨n-1,by omega⟩
  rw[Qj];rw[A8,j9 (by omega)];rfl
 | succ r y=>
  intro i v n h k u;obtain⟨n,rfl⟩:∃m,n=m+1:=⟨n-1,by omega⟩
  rw[Qj,FE l i (by omega)];have A:=j _ (Bp1 (show i<l.length by omega));have o:256 ^ i<=16777216:=by
   have:i=0\/i=1\/i=2\/i=3:=by omega
   grind
  simp (disch:=omega) only[F1,C2,O8,cond_true,j1,R0,W3,D9,EI,vl];simp only[XF];have b:((i:Int)+1)=((i+1:Nat):Int):=by omega
  rw[B80];cases p:J1 10 0 (l.getD i []) with
  | none=>rfl
  | some q=>
   have t:=DA (by unfold Iw;omega) p;have d:Iw=1099511627776:=rfl;simp only[aa7,j5,cond_false,Cn,y5,j1];by_cases c:q<=255
   ·rw[A8,if_pos c,Ay];simp only[cond_false,cond_true];by_cases a:j8 q=l.getD i []
    ·have g:=Cs3 v 8 (by omega) (by omega);rw[show((8:Nat):Int)=8 from rfl] at g;rw[show(j8 q==l.getD i [])=true by simpa using a,if_pos a,g,GL,Cq5 _ _ (by omega) (by omega),Zx v q 8 (by omega),b,C0];exact y (i+1) _ n (by omega) (by omega) (by rw[ac4];omega)
    ·rw[show(j8 q==l.getD i [])=false from beq_eq_false_iff_ne.2 a,if_neg a];rfl
   ·rw[C7,if_neg c];rfl
theorem Bu1{R:Type}{b:Int->Bool->Option R}(s:By)(a:A2 s.length=true):v4p LF s b=b (Cn (v4B s):Int) (v4B s).isSome:=by
 have c:=N7 a;have:=G3;unfold v4p v4B;rw[a];simp only[cond_true,vl,ab7,C2,show((1:Nat)==1)=true from rfl];by_cases h:(pcs 46 s).length=4
 ·rw[if_pos h,h,show(((4:Nat):Int)!=4)=false from rfl,cond_false];refine j4 (Bu0 (pcs 46 s) h (λx d=>ak4 (Gw d).2 c) 4 0 0 LF (by omega) (by omega) (by decide)) ?_;rw[ac7];cases XF 0 (pcs 46 s)<;>rfl
 ·rw[if_neg h,show(((pcs 46 s).length:Int)!=4)=true by simp<;>omega];rfl
theorem Bt9{R:Type}{j:By->Option R}(v:Int)(o:ltN v 4294967296=true):v4f LF v j=j (Na v.toNat):=by
 obtain⟨c,p⟩:=E8.1 o;obtain⟨m,rfl⟩:=p9 c;have:=G3;obtain⟨f,q⟩:∃f,LF=f+1+1+1+1+1:=⟨LF-5,by omega⟩
 have step:∀(n:Nat) (i:Nat) (out:By) (K:By->Option R),i<=24->out.length<=1000->Gb LF (n+1) (m:Int) out (i:Int) K=Gb LF n (m:Int) (out++(j8 (m / 2 ^ i % 256)++[46])) ((i:Int)-8) K:=by
  intro n i out K y A;rw[Gb];have g:m / 2 ^ i<4294967296:=Nat.lt_of_le_of_lt (ai1 _ _) (by omega);have k:Ab5 .u32 (HG .u32 (m:Int) (i:Int)) 255=((m / 2 ^ i % 256:Nat):Int):=by
   rw[Ay3 .u32 m i (by show i<=32;omega),show(255:Int)=((255:Nat):Int) from rfl,Ch5 _ _ g (by omega),Ch4]
  have z:=G8 (m / 2 ^ i % 256) (by omega);have l:A4 ((m / 2 ^ i % 256:Nat):Int)=((m / 2 ^ i % 256:Nat):Int):=C0;rw[A8,decide_eq_true (show(0:Int)<=(i:Int) by omega),k];simp only[vl,l,j1,j6,cond_true];rw[Ay,R7 (by omega),R7 (by simp<;>omega),C0];rfl
 have b:∀(n:Nat) (out:By) (K:By->Option R),Gb LF (n+1) (m:Int) out (-8) K=K out:=by
  intro n out K;rw[Gb];simp_all
 have x:=G8 (m / 2 ^ 24 % 256) (by omega);have w:=G8 (m / 2 ^ 16 % 256) (by omega);have D:=G8 (m / 2 ^ 8 % 256) (by omega);have C:=G8 (m / 2 ^ 0 % 256) (by omega);have u:=G8 (m / 16777216 % 256) (by omega);have t:=G8 (m / 65536 % 256) (by omega);have B:=G8 (m / 256 % 256) (by omega);have r:=G8 (m % 256) (by omega);unfold v4f;rw[show Gb LF LF=Gb LF (f+1+1+1+1+1) by rw[<-q]];rw[show(24:Int)=((24:Nat):Int) from rfl,step _ 24 _ _ (by omega) (by simp)];rw[show((24:Nat):Int)-8=((16:Nat):Int) from rfl,step _ 16 _ _ (by omega) (by simp<;>omega)];rw[show((16:Nat):Int)-8=((8:Nat):Int) from rfl,step _ 8 _ _ (by omega) (by simp<;>omega)];rw[show((8:Nat):Int)-8=((0:Nat):Int) from rfl,step _ 0 _ _ (by omega) (by simp<;>omega)];rw[show((0:Nat):Int)-8=-8 from rfl,b];have h:m / 2 ^ 24 % 256=m / 16777216:=by omega
 have e:(([]:By)++(j8 (m / 2 ^ 24 % 256)++[46])++(j8 (m / 2 ^ 16 % 256)++[46])++(j8 (m / 2 ^ 8 % 256)++[46])++(j8 (m / 2 ^ 0 % 256)++[46]))=Na m++[46]:=by
  unfold Na;grind
 have a:(Na m++[46]).length<=1000:=by rw[<-e];simp;omega
 rw[e];have d:((Na m++[46]).length:Int)-1=((Na m).length:Int):=by simp<;>omega
 simp only[vl,d];simp only[ad4,aa8] at a;rw[C0,Fz (by omega) (by omega) (by simp<;>omega),Ch,j1,j1];grind
theorem Cq4(a b:Nat)(c:a<65536)(d:b<65536):bOr .u16 (a:Int) (b:Int)=((a ||| b:Nat):Int):=by
 unfold bOr;rw[show ac3 .u16=16 from rfl,Ci1 16 a b (by omega) (by omega)];have:a ||| b<2 ^ 16:=ag3 (by omega) (by omega)
 exact Xe
theorem Cs2(a m:Nat)(h:a*2 ^ m<65536)(b:m<=16):Th .u16 (a:Int) (m:Int)=((a*2 ^ m:Nat):Int):=by
 unfold Th;rw[j1,show ac3 .u16=16 from rfl,af5 b];have:(a:Int)*2 ^ m=((a*2 ^ m:Nat):Int):=by simp
 rw[this];exact Xe
theorem Ap6(v d:Nat)(b:v<4096)(a:d<16):bOr .u16 (Th .u16 (v:Int) 4) (d:Int)=((v*16+d:Nat):Int):=by have:=Cs2 v 4 (by omega) (by omega);rw[show((4:Nat):Int)=4 from rfl] at this;rw[this,Cq4 _ _ (by omega) (by omega),Zx v d 4 (by omega)]
theorem Bl8{R:Type}{c:Unit->Option R}{f:Int->Option R}(s:By)(B:s.length<=4):∀(r i v n:Nat),i+r=s.length->r<n->v<16 ^ i->
  Di LF n s (v:Int) (s.length:Int) (i:Int) c f=match Rx v (s.drop i) with|some w=>f (w:Int)|none=>c ():=by
 intro r
 induction r with
 | zero=>
  intro i v n l o p;obtain⟨n,rfl⟩:∃m,n=m+1:=⟨n-1,by omega⟩
  rw[Di];rw[A8,j9 (by omega)];rfl
 | succ r q=>
  intro i v n l o p;obtain⟨n,rfl⟩:∃m,n=m+1:=⟨n-1,by omega⟩
  rw[Di,N0 s i (by omega)];rw[L4];have k:=(s.getD i 0).toNat_lt;generalize s.getD i 0=b at *;have j:((i:Int)+1)=((i+1:Nat):Int):=by omega
  have A:16 ^ i<=4096:=by
   have:i=0\/i=1\/i=2\/i=3:=by omega
   rcases this with rfl|rfl|rfl|rfl<;>decide
  simp (disch:=omega) only[F1,O8,cond_true,vl,O5,Sa,Rz,Ry];rw[j];simp only[Rx];have go:∀d:Nat,d<16->Di LF n s ((v*16+d:Nat):Int) (s.length:Int) ((i+1:Nat):Int) c f=match Rx (v*16+d) (s.drop (i+1)) with|some w=>f (w:Int)|none=>c ():=
   λd z=>q (i+1) _ n (by omega) (by omega) (by rw[ac4];omega)
  rcases Vu b with⟨g,h,e⟩|⟨g,h,e⟩|⟨g,h,e⟩|⟨g,h,y,e⟩
  ·have a:Ua (wu8 ((b.toNat:Int)-48))=((dig b:Nat):Int):=by rw[Z9,Xe];omega
   simp (disch:=omega) only[F1,I2,j5,j6,cond_false,cond_true,a,Ap6,if_pos (show dig b<16 by omega)];exact go _ (by omega)
  ·have a:Ua (wu8 (wu8 ((b.toNat:Int)-97)+10))=((dig b:Nat):Int):=by rw[SO (n:=(b.toNat:Int)-97) (by omega) (by omega),Z9,Xe];omega
   simp (disch:=omega) only[F1,I2,j5,j6,cond_false,cond_true,a,Ap6,if_pos (show dig b<16 by omega)];exact go _ (by omega)
  ·have a:Ua (wu8 (wu8 ((b.toNat:Int)-65)+10))=((dig b:Nat):Int):=by rw[SO (n:=(b.toNat:Int)-65) (by omega) (by omega),Z9,Xe];omega
   simp (disch:=omega) only[F1,I2,j5,j6,cond_false,cond_true,a,Ap6,if_pos (show dig b<16 by omega)];exact go _ (by omega)
  ·rw[if_neg (show ¬dig b<16 by omega)];by_cases t:b.toNat<48
   ·simp (disch:=omega) only[F1,I2,j5,j6,cond_false,cond_true]
   ·by_cases u:b.toNat<65
    ·simp (disch:=omega) only[F1,I2,j5,j6,cond_false,cond_true]
    ·by_cases x:b.toNat<97
     ·simp (disch:=omega) only[F1,I2,j5,j6,cond_false,cond_true]
     ·simp (disch:=omega) only[F1,I2,j5,j6,cond_false,cond_true]
theorem A37{R:Type}{c:Int->Bool->Option R}(s:By)(d:A2 s.length=true):Bl9 LF s c=c (Cn (grp s):Int) (grp s).isSome:=by
 have:=G3;unfold Bl9 grp;by_cases a:s=[]
 ·subst a;rfl
 ·rw[show(s==([]:By))=false from beq_eq_false_iff_ne.2 a];by_cases b:4<s.length
  ·rw[C7,if_pos (.inr b)];rfl
  ·rw[A8,if_neg (by intro h;rcases h with h|h;exact a h;exact b h)];refine j4 (Bl8 s (by omega) s.length 0 0 LF (by omega) (by omega) (by decide)) ?_;rw[ac7];cases Rx 0 s<;>rfl
theorem VX:∀(s:By) (v w m:Nat),v<16 ^ m->Rx v s=some w->w<16 ^ (m+s.length)
 | [],v,w,m,a,h=>by simp only[Rx,o5] at h;subst h;simpa using a
 | b::r,v,w,m,a,h=>by
  simp only[Rx] at h;split at h
  ·have:=VX r (v*16+dig b) w (m+1) (by rw[ac4];omega) h;grind
  ·cases h
theorem Cj1{s:By}{v:Nat}(h:grp s=some v):v<65536:=by
 unfold grp at h;split at h
 ·cases h
 ·rename_i a;have:=VX s 0 v 0 (by decide) h;have b:s.length<=4:=by omega
  have:16 ^ (0+s.length)<=16 ^ 4:=Nat.pow_le_pow_right (by omega) (by omega);omega
theorem O4(l:List Nat):(G4 l).length=l.length:=by simp[G4]
theorem Tq(a b:List Nat):G4 (a++b)=G4 a++G4 b:=by simp[G4]
theorem RZ(l:List Nat):(G4 l).isEmpty=l.isEmpty:=by cases l<;>rfl
theorem Ax4{l:List Nat}{i:Nat}(h:i<l.length):okE ⟨true,false,[.int .u16]⟩ (G4 l) i 0=true:=by unfold okE G4;simp[j7,h,okS,SV.has]
theorem Bl5(l:List Nat)(i:Nat):gE (G4 l) i 0=(l.getD i 0:Int):=by
 unfold gE gC G4;by_cases h:i<l.length
 ·simp[j7,k9 h,SV.gI]
 ·simp[j7,List.getElem?_eq_none (show l.length<=i by omega),SV.gI]
theorem DM:∀(last:Bool) (l:List By) (r:List Nat),Mg last l=some r->r.length<=2*l.length
 | last,[],r,h=>by simp only[Mg,o5] at h;subst h;simp
 | last,x::l,r,h=>by
  simp only[Mg] at h;split at h
  ·cases a:Mg last l with
   | none=>simp[a] at h
   | some q=>
    simp only[a,ad3,o5] at h;subst h;have:=DM last l q a;grind
  grind
theorem Bt8{s:By}{v:Nat}(h:v4B s=some v):v<4294967296:=by
 unfold v4B at h;split at h
 ·rename_i a;have:=Ax2 (pcs 46 s) 0 v 0 (by decide) h;grind
 ·cases h
theorem Av3:∀(last:Bool) (l:List By) (r:List Nat),Mg last l=some r->∀x∈r,x<65536
 | last,[],r,h,x,a=>by simp only[Mg,o5] at h;subst h;simp at a
 | last,y::l,r,h,x,a=>by
  simp only[Mg] at h;split at h
  ·rename_i v c;cases b:Mg last l with
   | none=>simp[b] at h
   | some q=>
    simp only[b,ad3,o5] at h;subst h;rcases ab5.1 a with rfl|a
    ·exact Cj1 c
    ·exact Av3 last l q b x a
  ·split at h
   ·rename_i v c;split at h
    ·simp only[o5] at h;subst h;have:=Bt8 c;grind
    grind
   ·cases h
theorem Ag8{R:Type}{k0:LL->Option R}{k1:LL->Option R}(last:Bool)(l:List By)(C:l.length<=1000000001)(w:∀x∈l,x.length<=1000000000):∀(r i n:Nat) (d:List Nat),i+r=l.length->r<n->d.length<=2*i->
  (∀q,Mg last (l.drop i)=some q->Cl LF n last (A6 l) (l.length:Int) (i:Int) (G4 d) k0 k1=k1 (G4 (d++q)))/\
  (Mg last (l.drop i)=none->∃k,Cl LF n last (A6 l) (l.length:Int) (i:Int) (G4 d) k0 k1=k0 k):=by
 intro r
 induction r with
 | zero=>
  intro i n d u y t;obtain⟨n,rfl⟩:∃m,n=m+1:=⟨n-1,by omega⟩
  rw[Cl,j9 (by omega)];rw[A8];refine⟨λq a=>?_,λh=>(by cases h)⟩;simp only[Mg,o5] at a;subst a;simp
 | succ r B=>
  intro i n d u y t;obtain⟨n,rfl⟩:∃m,n=m+1:=⟨n-1,by omega⟩
  rw[Cl,FE l i (by omega)];have G:=w _ (Bp1 (show i<l.length by omega));have f:((i:Int)+1)=((i+1:Nat):Int):=by omega
  simp (disch:=omega) only[F1,C2,O8,cond_true,j1,R0,W3,D9,vl,O4,I7,O5];rw[f];simp only[Mg];cases D:grp (l.getD i []) with
  | some v=>
   simp only[aa7,cond_true,Cn,y5];have c:G4 d++[[SV.int .u16 (v:Int)]]=G4 (d++[v]):=by rw[Tq];rfl
   rw[c];have:=B (i+1) n (d++[v]) (by omega) (by omega) (by simp<;>omega);refine⟨λq a=>?_,λh=>?_⟩
   ·cases b:Mg last (l.drop (i+1)) with
    | none=>simp[b] at a
    | some j=>
     simp only[b,ad3,o5] at a;subst a;rw[this.1 j b];simp
   ·cases b:Mg last (l.drop (i+1)) with
    | none=>exact this.2 b
    | some j=>simp[b] at h
  | none=>
   simp only[aj4,cond_false];cases z:v4B (l.getD i []) with
   | none=>
    simp only[aj4,j6,cond_true];exact⟨λq a=>(by cases a),λ_=>⟨_,rfl⟩⟩
   | some v=>
    have A:=Bt8 z;simp only[aa7,j5,cond_false,Cn,y5];cases last with
    | false=>
     simp only[j6,cond_true,o6,false_and,if_false];exact⟨λq a=>(by cases a),λ_=>⟨_,rfl⟩⟩
    | true=>
     simp only[j5,cond_false,true_and];by_cases F:r=0
     ·have e:l.drop (i+1)=[]:=j9 (by omega);rw[A8,e,if_pos rfl,show(16:Int)=((16:Nat):Int) from rfl,Ay3 .u32 v 16 (by decide)];refine⟨λq a=>?_,λh=>(by cases h)⟩;simp only[o5] at a;subst a;have o:Ua ((v / 2 ^ 16:Nat):Int)=((v / 65536:Nat):Int):=Xe;have p:Ua (v:Int)=((v % 65536:Nat):Int):=Bv2 v;rw[o,p,Tq];rfl
     ·have g:l.drop (i+1)≠[]:=by
       rw[FE l (i+1) (by omega)];simp
      rw[C7,if_neg g];exact⟨λq a=>(by cases a),λ_=>⟨_,rfl⟩⟩
theorem Ny(c:UInt8){s:By}(a:s.length<=1000000000):(pcs c s).length<=1000000001:=by have:=Nz c s;grind
theorem Ag9(s:By)(last:Bool)(f:A2 s.length=true):∃r H,Av4 LF s last (λl=>rv (.tup [.fl 0,.s (.bool true)]) [.arr true 38 1 l]) (λl=>rv (.tup [.fl 1,.s (.bool false)]) [.arr true 38 1 l,.arr true 38 1 []])=rv r H/\
  r.stab [1,0] H = .tup [.s (.sl (gvs s last).isEmpty (gvs s last).isEmpty 1 (G4 (gvs s last))),.s (.bool (Ck s last).isSome)]:=by
 have d:=N7 f;have:=G3;unfold Av4 gvs Ck;by_cases c:s=[]
 ·subst c;exact⟨_,_,rfl,rfl⟩
 ·rw[show(s==([]:By))=false from beq_eq_false_iff_ne.2 c,f,if_neg c];simp only[cond_false,cond_true,vl,ab7,C2,show((1:Nat)==1)=true from rfl];obtain⟨a,b⟩:=Ag8 (k0:=λl=>rv (.tup [.fl 1,.s (.bool false)]) [.arr true 38 1 l,.arr true 38 1 []]) (k1:=λl=>rv (.tup [.fl 0,.s (.bool true)]) [.arr true 38 1 l]) last (pcs 58 s) (Ny 58 d) (λx h=>ak4 (Gw h).2 d) (pcs 58 s).length 0 LF [] (by omega) (by have:=Ny 58 d;omega) (by simp);rw[ac7] at a b;cases g:Mg last (pcs 58 s) with
  | some q=>
   refine⟨_,_,a q g,?_⟩;simp[PV.stab,Pu,Rt,PV.snap,O2,RZ]
  | none=>
   obtain⟨i,e⟩:=b g;refine⟨_,_,e,?_⟩;simp[PV.stab,Pu,Rt,PV.snap,O2,G4]
theorem Cr7{j:Type}{W:List j}(h:W.length=8):∃a b c d e f g i,W=[a,b,c,d,e,f,g,i]:=by
 match W,h with
 | [a,b,c,d,e,f,g,i],_=>exact⟨a,b,c,d,e,f,g,i,rfl⟩
def r8(n:Nat):LL:=j0 n [SV.int .u16 0]
theorem Cl1(n:Nat):r8 n=G4 (j0 n 0):=by simp[r8,G4]
theorem Bm1{s:By}{last:Bool}{q:List Nat}(h:Ck s last=some q):gvs s last=q:=by unfold gvs;rw[h];rfl
theorem B07(s:By):(w7 s [58,58]).1.length<=s.length/\(w7 s [58,58]).2.1.length<=s.length:=by unfold w7;grind
theorem Az1{R:Type}{K:LL->LL->Option R}(X Y:List Nat)(h:X.length+Y.length<=8) :
  Nb (G4 X) (G4 Y) (r8 8) K=K (G4 (X++j0 (8-X.length-Y.length) 0++Y)) (G4 (X++j0 (8-X.length-Y.length) 0++Y)):=by
 unfold Nb;have n:(ac9 0 (r8 8)++(ac9 8 (G4 X)++ae4 (0+min (G4 X).length 8) (r8 8)))=G4 (X++j0 (8-X.length) 0):=by
  rw[O4,af5 (show X.length<=8 by omega),w8 (l:=G4 X) (i:=8) (by rw[O4];omega),Tq,ah5,Cl1,am4,af4];unfold G4;rw[<-aj0,List.drop_replicate]
 have m:A4 (8-(Y.length:Int))=((8-Y.length:Nat):Int):=by rw[C0];omega
 have o:(G4 (X++j0 (8-X.length) 0)).length=8:=by simp[O4]<;>omega
 have j:(ac9 (8-Y.length) (G4 (X++j0 (8-X.length) 0))++(ac9 (8-(8-Y.length)) (G4 Y)++ae4 (8-Y.length+min Y.length (8-(8-Y.length))) (G4 (X++j0 (8-X.length) 0))))=G4 (X++j0 (8-X.length-Y.length) 0++Y):=by
  rw[j9 (by rw[o];omega),w8 (l:=G4 Y) (by rw[O4];omega),Tq (X++_) Y,af2]
  congr 1
  unfold G4;rw[<-an5,List.take_append,w8 (by omega),List.take_replicate];grind
 have k:(X++j0 (8-X.length-Y.length) 0++Y).length=8:=by simp<;>omega
 simp only[vl];rw[n];simp only[O4,m,j1];rw[j];simp only[O4];rw[show(r8 8).length=8 from rfl,show c9 (X++j0 (8-X.length) (0:Nat))=8 by simp<;>omega,T0,decide_eq_true (show 8-Y.length+(8-(8-Y.length))<=8 by omega)];simp only[decide_true,cond_true,af0,k];generalize (X++j0 (8-X.length-Y.length) 0++Y)=W at *;obtain⟨a,b,c,d,e,f,g,i,rfl⟩:=Cr7 k;rfl
theorem Bu6{R:Type}{k0:Int->Int->Int->Int->Int->Int->Int->Int->Bool->LL->LL->Option R}(s:By)(r:A2 s.length=true) :
  ∃l q,v6p LF s k0=k0 (v6c 0 s) (v6c 1 s) (v6c 2 s) (v6c 3 s) (v6c 4 s) (v6c 5 s) (v6c 6 s) (v6c 7 s) (v6B s).isSome l q:=by
 have C:=N7 r;have w:=B07 s;unfold v6p v6c;rw[r];have bad:∀(h:v6B s=none),k0 0 0 0 0 0 0 0 0 false (r8 8) (r8 8)=k0 ((((v6B s).getD z8).getD 0 0:Nat):Int) ((((v6B s).getD z8).getD 1 0:Nat):Int) ((((v6B s).getD z8).getD 2 0:Nat):Int) ((((v6B s).getD z8).getD 3 0:Nat):Int) ((((v6B s).getD z8).getD 4 0:Nat):Int) ((((v6B s).getD z8).getD 5 0:Nat):Int) ((((v6B s).getD z8).getD 6 0:Nat):Int) ((((v6B s).getD z8).getD 7 0:Nat):Int) (v6B s).isSome (r8 8) (r8 8):=by
  intro h;rw[h];rfl
 simp (disch:=omega) only[cond_true,vl,D9];have j:v6B s=match Ck (w7 s [58,58]).1 (!(w7 s [58,58]).2.2),Ck (w7 s [58,58]).2.1 true with
  | some x,some y=>if (w7 s [58,58]).2.2 then (if x.length+y.length<=7 then some (x++j0 (8-x.length-y.length) 0++y) else none)
   else if x.length+y.length=8 then some (x++y) else none
  | _,_=>none:=rfl
 generalize (w7 s [58,58]).1=A at *;generalize (w7 s [58,58]).2.1=B at *;generalize (w7 s [58,58]).2.2=o at *;cases k:Ck A (!o) with
 | none=>exact⟨_,_,bad (by rw[j,k])⟩
 | some X=>
  cases m:Ck B true with
  | none=>exact⟨_,_,bad (by rw[j,k,m])⟩
  | some Y=>
   have u:X.length<=2000000002:=by
    unfold Ck at k;split at k
    ·grind
    ·have:=DM _ _ _ k;have:=Ny 58 (s:=A) (by omega);omega
   have v:Y.length<=2000000002:=by
    unfold Ck at m;split at m
    ·grind
    ·have:=DM _ _ _ m;have:=Ny 58 (s:=B) (by omega);omega
   rw[k,m] at j;simp only[Bm1 k,Bm1 m,O4,aa7,j5,cond_false];rw[C0];have n:∀(W:List Nat),W.length=8->v6B s=some W->∃l q,(cond ((decide (8=(G4 W).length*1))&&(okS ⟨true,true,[.int .u16,.int .u16,.int .u16,.int .u16,.int .u16,.int .u16,.int .u16,.int .u16]⟩ (aa9 (G4 W)) 0))
     (k0 (SV.gI (c8 (aa9 (G4 W)) 0 SV.nilp)) (SV.gI (c8 (aa9 (G4 W)) 1 SV.nilp)) (SV.gI (c8 (aa9 (G4 W)) 2 SV.nilp)) (SV.gI (c8 (aa9 (G4 W)) 3 SV.nilp)) (SV.gI (c8 (aa9 (G4 W)) 4 SV.nilp)) (SV.gI (c8 (aa9 (G4 W)) 5 SV.nilp)) (SV.gI (c8 (aa9 (G4 W)) 6 SV.nilp)) (SV.gI (c8 (aa9 (G4 W)) 7 SV.nilp)) true (G4 W) (G4 W)) none) =
     k0 ((((v6B s).getD z8).getD 0 0:Nat):Int) ((((v6B s).getD z8).getD 1 0:Nat):Int) ((((v6B s).getD z8).getD 2 0:Nat):Int) ((((v6B s).getD z8).getD 3 0:Nat):Int) ((((v6B s).getD z8).getD 4 0:Nat):Int) ((((v6B s).getD z8).getD 5 0:Nat):Int) ((((v6B s).getD z8).getD 6 0:Nat):Int) ((((v6B s).getD z8).getD 7 0:Nat):Int) (v6B s).isSome l q:=by
    intro W t h;rw[h];obtain⟨a,b,c,d,e,f,g,i,rfl⟩:=Cr7 t;exact⟨_,_,rfl⟩
   cases o with
   | false=>
    simp only[j6,cond_true,o6,if_false] at j ⊢;by_cases p:X.length+Y.length=8
    ·rw[if_pos p] at j;rw[show((X.length:Int)+(Y.length:Int)!=8)=false by simp;omega];simp only[cond_false];rw[show(j0 8 [SV.int ap9 0])=r8 8 from rfl,Az1 X Y (by omega)];have z:8-X.length-Y.length=0:=by omega
     rw[z];simp only[List.replicate_zero,af2];exact n (X++Y) (by simp<;>omega) j
    ·rw[if_neg p] at j;rw[show((X.length:Int)+(Y.length:Int)!=8)=true by simp;omega];exact⟨_,_,bad j⟩
   | true=>
    simp only[j5,cond_false,cond_true,if_true] at j ⊢;by_cases p:X.length+Y.length<=7
    ·rw[if_pos p] at j;rw[A8];simp only[cond_false];rw[show(j0 8 [SV.int ap9 0])=r8 8 from rfl,Az1 X Y (by omega)];exact n _ (by simp<;>omega) j
    ·rw[if_neg p] at j;rw[C7];exact⟨_,_,bad j⟩
theorem Br0{x:Nat}{r:List Nat}:Wr (x::r)=if x=0 then Wr r+1 else 0:=by unfold Wr;by_cases h:x=0<;>simp[h]
theorem Ay2(l:List Nat):Wr l<=l.length:=by unfold Wr;exact(List.takeWhile_sublist _).length_le
theorem By7{R:Type}{k0:Int->Int->Int->Int->LL->Option R}(W:List Nat)(l:W.length=8)(b a:Int)(i:Nat):∀(r j n:Nat),i+j+r=8->r<n->
  Gc LF n b a (i:Int) (j:Int) (G4 W) k0=k0 b a (i:Int) ((j+Wr (W.drop (i+j)):Nat):Int) (G4 W):=by
 intro r
 induction r with
 | zero=>
  intro j n f g;obtain⟨n,rfl⟩:∃m,n=m+1:=⟨n-1,by omega⟩
  rw[Gc];rw[C0,A8,j9 (by omega)];rfl
 | succ r k=>
  intro j n f g;obtain⟨n,rfl⟩:∃m,n=m+1:=⟨n-1,by omega⟩
  rw[Gc];have c:A4 ((i:Int)+(j:Int))=((i+j:Nat):Int):=by rw[C0];rfl
  have d:A4 ((j:Int)+1)=((j+1:Nat):Int):=by rw[C0];rfl
  have e:W.drop (i+j)=W.getD (i+j) 0::W.drop (i+(j+1)):=by
   rw[j7,k9 (by omega),y5,<-Nat.add_assoc,ad6]
  simp (disch:=first|omega|(simp[O4];omega)) only[c,d,F1,O8,cond_true,j1,Ax4,Bl5,vl];rw[e,Br0];by_cases h:W.getD (i+j) 0=0
  ·rw[h,if_pos rfl,show(((0:Nat):Int)==0)=true from rfl,cond_true,k (j+1) n (by omega) (by omega)]
   congr 2
   omega
  ·rw[if_neg h,show(((W.getD (i+j) 0:Nat):Int)==0)=false by rw[beq_eq_false_iff_ne];omega];rfl
theorem Bf1{R:Type}{k0:Int->Int->LL->Option R}(W:List Nat)(f:W.length=8):∀(r i n z m:Nat),i+r=8->r<n->z<=8->m<=8->
  Cq LF n (z:Int) (m:Int) (i:Int) (G4 W) k0=k0 ((zGo (W.drop i) i z m).1:Nat) ((zGo (W.drop i) i z m).2:Nat) (G4 W):=by
 intro r
 induction r with
 | zero=>
  intro i n z m j o c l;obtain⟨n,rfl⟩:∃m,n=m+1:=⟨n-1,by omega⟩
  rw[Cq];rw[A8,j9 (by omega)];rfl
 | succ r d=>
  intro i n z m j o c l;obtain⟨n,rfl⟩:∃m,n=m+1:=⟨n-1,by omega⟩
  have e:=G3;rw[Cq];have a:=λK=>By7 (R:=R) (k0:=K) W f (z:Int) (m:Int) i r.succ 0 LF (by omega) (by omega)
  rw[show((0:Nat):Int)=0 from rfl] at a;simp only[ah5,ao7] at a;rw[C7,cond_true,a];have g:W.drop i=W.getD i 0::W.drop (i+1):=by
   rw[j7,k9 (by omega),y5,ad6]
  have k:=Ay2 (W.drop i);rw[ac8] at k;have b:A4 ((i:Int)+1)=((i+1:Nat):Int):=by rw[C0];rfl
  rw[b];have c:zGo (W.drop i) i z m=if m<Wr (W.drop i) then zGo (W.drop (i+1)) (i+1) i (Wr (W.drop i)) else zGo (W.drop (i+1)) (i+1) z m:=by
   rw[g];rfl
  rw[c];by_cases h:m<Wr (W.drop i)
  ·rw[if_pos h,C7,cond_true];exact d (i+1) n i (Wr (W.drop i)) (by omega) (by omega) (by omega) (by omega)
  ·rw[if_neg h,A8,cond_false];exact d (i+1) n z m (by omega) (by omega) (by omega) (by omega)
theorem Sv{a b c d e f g i:Int}(h:ok8 a b c d e f g i=true):∃j k l m n o p q:Nat,a=j/\b=k/\c=l/\d=m/\e=n/\f=o/\g=p/\i=q/\j<65536/\k<65536/\l<65536/\m<65536/\n<65536/\o<65536/\p<65536/\q<65536:=by simp only[ok8,an4,List.all_nil,ag8,ab9,E8] at h;exact⟨a.toNat,b.toNat,c.toNat,d.toNat,e.toNat,f.toNat,g.toNat,i.toNat,by omega,by omega,by omega,by omega,by omega,by omega,by omega,by omega,by omega,by omega,by omega,by omega,by omega,by omega,by omega,by omega⟩
theorem As8{R:Type}{j:Int->Int->LL->Option R}(a b c d e f g i:Int)(t:ok8 a b c d e f g i=true):A04 LF a b c d e f g i j=j ((zGo (n8 a b c d e f g i) 0 0 0).1:Nat) ((zGo (n8 a b c d e f g i) 0 0 0).2:Nat) (G4 (n8 a b c d e f g i)):=by obtain⟨k,l,m,n,o,p,q,r,rfl,rfl,rfl,rfl,rfl,rfl,rfl,rfl,h⟩:=Sv t;have:=G3;unfold A04;exact Bf1 [k,l,m,n,o,p,q,r] rfl 8 0 LF 0 0 rfl (by omega) (by omega) (by omega)
theorem Mh{n:Nat}(h:n<16):Af n=[Zf n]:=by rw[Af,dif_pos h]
theorem Nq{n:Nat}(h:¬n<16):Af n=Af (n / 16)++[Zf (n % 16)]:=by rw[Af,dif_neg h]
theorem WC:∀n:Nat,n<65536->1<=(Af n).length/\(Af n).length<=4:=by
 intro n d;by_cases a:n<16
 ·rw[Mh a];simp
 rw[Nq a];by_cases b:n / 16<16
 ·rw[Mh b];simp
 rw[Nq b];by_cases c:n / 16 / 16<16
 ·rw[Mh c];simp
 rw[Nq c,Mh (show n / 16 / 16 / 16<16 by omega)];simp
theorem Zy(n:Nat):ptI (n:Int)=Ld n:=rfl
theorem XS{R:Type}{a:Bool->Option R}(n:Int):QZ LF n a=a (ptI n):=by
 unfold QZ;by_cases h:n<0
 ·rw[F1 h];have:ptI n=false:=by
   cases n with
   | ofNat m=>exact absurd h (by simp)
   | negSucc m=>rfl
  grind
 ·obtain⟨m,rfl⟩:=p9 (show 0<=n by omega);rw[A8,Zy];unfold Ld;by_cases b:1114111<m
  ·rw[C7];have:ab8 m 1114111=false:=by rw[aj7,ne_eq,ah4];omega
   grind
  ·rw[A8];have:ab8 m 1114111=true:=by rw[ah4];omega
   rw[this];by_cases c:m<55296
   ·rw[C7];have:Nat.blt m 55296=true:=by rw[Nat.blt_eq];omega
    grind
   ·rw[A8];have e:Nat.blt m 55296=false:=by rw[aj7,ne_eq,Nat.blt_eq];omega
    rw[e];simp only[j6,cond_true,cond_false,Bool.false_or,Bool.true_and]
    congr 1
theorem TO{d k:Nat}(h:455<d):BY d k=BY (d / 35) (k+36):=by rw[BY,dif_pos h]
theorem BZ{d k:Nat}(h:¬ 455<d):BY d k=k+36*d / (d+38):=by rw[BY,dif_neg h]
theorem XJ{R:Type}{k0:Int->Int->Option R}:∀(d n k:Nat),d<2305843009213693952->d<n->k+d<=4611686018427387904->
  ∃a b,a<=455/\b<=k+d/\BY d k=b+36*a / (a+38)/\Es LF n (d:Int) (k:Int) k0=k0 (a:Int) (b:Int):=by
 intro d
 induction d using ai2 with
 | _ d l=>
  intro n k p r q;obtain⟨n,rfl⟩:∃m,n=m+1:=⟨n-1,by omega⟩
  rw[Es];by_cases h:455<d
  ·obtain⟨a,b,g,o,i,j⟩:=l (d / 35) (by omega) n (k+36) (by omega) (by omega) (by omega);refine⟨a,b,g,by omega,by rw[TO h];exact i,?_⟩;have e:ai4 (d:Int) 35=((d / 35:Nat):Int):=Ar d 35;have c:A4 ((d / 35:Nat):Int)=((d / 35:Nat):Int):=C0;have f:A4 ((k:Int)+36)=((k+36:Nat):Int):=by rw[C0];rfl
   rw[C7];simp only[cond_true,vl,e,c,f];exact j
  ·refine⟨d,k,by omega,by omega,BZ h,?_⟩;rw[A8];rfl
theorem XK{R:Type}{k0:Int->Option R}(d c:Int)(f:Bool)(z:ltN d 1152921504606846976=true)(A:ltN c 1000000=true)(B:ltI 0 c=true):EW LF d c f k0=k0 (Ex d.toNat c.toNat f:Nat):=by
 obtain⟨k,F⟩:=E8.1 z;obtain⟨j,D⟩:=E8.1 A;obtain⟨d,rfl⟩:=p9 k;obtain⟨c,rfl⟩:=p9 j;have J:=Sk.1 B;have C:=G3;have key:∀x:Nat,x<1152921504606846976->Er LF (x:Int) (c:Int) k0=k0 ((BY (x+x / c) 0:Nat):Int):=by
  intro x L;have G:x / c<=x:=ai1 _ _;unfold Er;have g:ai4 (x:Int) (c:Int)=((x / c:Nat):Int):=Ar x c;generalize x / c=q at *;have h:A4 (q:Int)=(q:Int):=C0;have o:A4 ((x:Int)+(q:Int))=((x+q:Nat):Int):=by rw[C0];rfl
  rw[show((c:Int)!=0)=true by simp;omega];simp only[cond_true,vl,g,h,o];obtain⟨a,n,H,I,w,y⟩:=XJ (R:=R) (k0:=λb l=>vl (A4 ((36)*b)) λm=>vl (A4 (b+(38))) λe=>cond (e !=(0)) (vl (A4 (ai4 m e)) λi=>k0 (A4 (l+i))) none) (x+q) LF 0 (by omega) (by omega) (by omega);refine j4 y ?_;have K:36*a / (a+38)<=36*a:=ai1 _ _;have p:A4 (36*(a:Int))=((36*a:Nat):Int):=by rw[C0];rfl
  have r:A4 ((a:Int)+38)=((a+38:Nat):Int):=by rw[C0];rfl
  have t:ai4 ((36*a:Nat):Int) ((a+38:Nat):Int)=((36*a / (a+38):Nat):Int):=Ar _ _;have u:A4 ((36*a / (a+38):Nat):Int)=((36*a / (a+38):Nat):Int):=C0;have v:A4 ((n:Int)+((36*a / (a+38):Nat):Int))=((n+36*a / (a+38):Nat):Int):=by rw[C0];rfl
  simp only[vl,p,r,t,u,v];rw[show(((a+38:Nat):Int)!=0)=true by simp;omega,w];rfl
 unfold EW Ex;rw[j1,j1];cases f with
 | true=>
  have g:ai4 (d:Int) 700=((d / 700:Nat):Int):=Ar d 700;have h:A4 ((d / 700:Nat):Int)=((d / 700:Nat):Int):=C0;simp only[cond_true,vl,g,h,if_true];exact key _ (by omega)
 | false=>
  have g:ai4 (d:Int) 2=((d / 2:Nat):Int):=Ar d 2;have h:A4 ((d / 2:Nat):Int)=((d / 2:Nat):Int):=C0;simp only[cond_false,vl,g,h,o6,if_false];exact key _ (by omega)
theorem A23{d:Nat}(h:d<36):(Mc d).toNat=if d<26 then 97+d else 22+d:=by unfold Mc;split<;>simp<;>omega
theorem A96{R:Type}{b:Int->Option R}(d:Int)(c:ltN d 36=true):B87 LF d b=b ((Mc d.toNat).toNat:Nat):=by
 obtain⟨a,e⟩:=E8.1 c;obtain⟨d,rfl⟩:=p9 a;unfold B87;rw[j1,A23 (by omega)];by_cases h:d<26
 ·rw[C7,if_pos h];simp only[cond_true,vl]
  congr 1
  rw[C0,Z9];rfl
 ·rw[A8,if_neg h];simp only[cond_false,vl]
  congr 1
  rw[O5 (n:=48+(d:Int)) (by omega) (by omega),C0,Z9];omega
theorem ZD(b:UInt8):(97<=b.toNat/\b.toNat<=122/\La b=some (b.toNat-97))\/(65<=b.toNat/\b.toNat<=90/\La b=some (b.toNat-65))\/(48<=b.toNat/\b.toNat<=57/\La b=some (b.toNat-22))\/(¬(97<=b.toNat/\b.toNat<=122)/\¬(65<=b.toNat/\b.toNat<=90)/\¬(48<=b.toNat/\b.toNat<=57)/\La b=none):=by unfold La;grind
theorem Ba4{R:Type}{g:Int->Option R}(b:Int)(h:inR b 256=true):Bq3 LF b g=g (J7 (u8n b)):=by
 simp only[inR,ab9,decide_eq_true_eq] at h;have j:b=((u8n b).toNat:Int):=by
  unfold u8n;simp;omega
 generalize u8n b=c at *;subst j;have i:=c.toNat_lt;unfold Bq3 J7;simp only[Tb,Ta,vl];rcases ZD c with⟨d,f,e⟩|⟨d,f,e⟩|⟨d,f,e⟩|⟨d,f,o,e⟩
 ·have a:A4 (wu8 ((c.toNat:Int)-97))=((c.toNat-97:Nat):Int):=by
   rw[Z9,C0];omega
  simp (disch:=omega) only[F1,I2,j5,j6,cond_false,cond_true,a,e]
 ·have a:A4 (wu8 ((c.toNat:Int)-65))=((c.toNat-65:Nat):Int):=by
   rw[Z9,C0];omega
  simp (disch:=omega) only[F1,I2,j5,j6,cond_false,cond_true,a,e]
 ·have a:A4 (A4 (wu8 ((c.toNat:Int)-48))+26)=((c.toNat-22:Nat):Int):=by
   rw[Z9,O5 (n:=(c.toNat:Int)-48) (by omega) (by omega),C0];omega
  simp (disch:=omega) only[F1,I2,j5,j6,cond_false,cond_true,a,e]
 ·rw[e];by_cases k:c.toNat<48
  ·simp (disch:=omega) only[F1,I2,j5,j6,cond_false,cond_true]
  ·by_cases l:c.toNat<65
   ·simp (disch:=omega) only[F1,I2,j5,j6,cond_false,cond_true]
   ·by_cases m:c.toNat<97
    ·simp (disch:=omega) only[F1,I2,j5,j6,cond_false,cond_true]
    ·simp (disch:=omega) only[F1,I2,j5,j6,cond_false,cond_true]
theorem Cb3{l:LL}(h:l.all Si=true):∃W:List Nat,l=G4 W/\(∀x∈W,x<65536):=by
 induction l with
 | nil=>exact⟨[],rfl,by simp⟩
 | cons x r c=>
  simp only[an4,ab9] at h;obtain⟨W,rfl,e⟩:=c h.2;have a:=h.1;unfold Si at a;split at a
  ·rename_i n;obtain⟨b,d⟩:=E8.1 a;obtain⟨m,rfl⟩:=p9 b;refine⟨m::W,rfl,?_⟩;grind
  ·cases a
theorem SC{W:List Nat}(h:∀x∈W,x<65536):(G4 W).all Si=true:=by rw[ac0];intro x a;simp only[G4,ao6] at a;obtain⟨n,b,rfl⟩:=a;have:=h n b;exact EI (v:=(n:Int)) (n:=65536) (by omega) (by omega)
theorem Rq(W:List Nat):(G4 W).map elN=W:=by
 unfold G4;rw[ah3]
 conv=>rhs;rw[<-aq0 W]
 apply ad0;intro x _;simp[elN,SV.gI]
theorem VF(l:List By):(A6 l).map elS=l:=by
 unfold A6;rw[ah3]
 conv=>rhs;rw[<-aq0 l]
 apply ad0;intro x _;simp[elS,SV.gS]
theorem Fy(l:List By):(A6 l).all isS=true:=by rw[ac0];intro x a;simp only[A6,ao6] at a;obtain⟨n,b,rfl⟩:=a;rfl
theorem Br5{P:List Nat->Prop}(a:P [])(b:∀l x,P l->P (l++[x]))(l:List Nat):P l:=by
 have:∀r:List Nat,P r.reverse:=by
  intro r
  induction r with
  | nil=>exact a
  | cons x r c=>rw[List.reverse_cons];exact b _ _ c
 have:=this l.reverse;grind
theorem A57(l:List By)(x p:By)(h:l≠[]):ae8 (l++[x]) p=ae8 l p++p++x:=by
 cases l with
 | nil=>exact absurd rfl h
 | cons y r=>
  rw[ah1,an3,an3];unfold Lib.joinTail;simp
theorem A55:Cm []=[]:=rfl
theorem A56(n:Nat):Cm [n]=Af n:=by unfold Cm;exact ao3 _ _
theorem Ah7(l:List Nat)(n:Nat)(h:l≠[]):Cm (l++[n])=Cm l++[58]++Af n:=by unfold Cm;rw[List.map_append,List.map_singleton,A57 _ _ _ (by simpa using h)]
theorem En:∀l:List Nat,(∀x∈l,x<65536)->(Cm l).length<=5*l.length:=by
 refine Br5 ?_ ?_
 ·intro _;simp[A55]
 ·intro l n c h;have d:=c (λx b=>h x (by simp[b]));have e:=WC n (h n (by simp));by_cases a:l=[]
  ·subst a;rw[af4,A56];simp;omega
  ·rw[Ah7 l n a];simp;omega
theorem Bu4{R:Type}{c:LL->Option R}(z t:Bool)(W:List Nat)(l:∀x∈W,x<65536)(p:W.length<=8):∀(r i n:Nat) (d:List By),i+r=W.length->r<n->d.length=i->
  Qk LF n z t (G4 W) (W.length:Int) (i:Int) (A6 d) c=c (A6 (d++(W.drop i).map Af)):=by
 intro r
 induction r with
 | zero=>
  intro i n d h j f;obtain⟨n,rfl⟩:∃m,n=m+1:=⟨n-1,by omega⟩
  rw[Qk];rw[A8,j9 (by omega)];simp
 | succ r k=>
  intro i n d h j f;obtain⟨n,rfl⟩:∃m,n=m+1:=⟨n-1,by omega⟩
  rw[Qk];have b:W.drop i=W.getD i 0::W.drop (i+1):=by
   rw[j7,k9 (by omega),y5,ad6]
  have o:W.getD i 0<65536:=by
   rw[j7,k9 (by omega),y5];simp_all
  have e:A4 ((i:Int)+1)=((i+1:Nat):Int):=by rw[C0];rfl
  rw[b];generalize g:W.getD i 0=x at *;simp (disch:=omega) only[F1,O8,cond_true,O4,j1,Ax4,Bl5,vl,e,g,SN,EI,C2,I7,show((16:Int)==16)=true from rfl];have a:A6 d++[[SV.str (Af x)]]=A6 (d++[Af x]):=by rw[Jb];rfl
  rw[a,k (i+1) n _ (by omega) (by omega) (by simp;omega)];simp
theorem Bu5{R:Type}{k0:By->LL->Option R}(z t:Bool)(l:LL)(c:l.all Si=true)(a:ab8 l.length 8=true):∃g,v6j LF z t l k0=k0 (Cm (l.map elN)) g:=by
 obtain⟨W,rfl,b⟩:=Cb3 c;have f:W.length<=8:=by rw[O4] at a;exact ae2 a
 have d:=G3;refine⟨A6 (W.map Af),?_⟩;unfold v6j;rw[O4];refine j4 (Bu4 z t W b f W.length 0 LF [] (by omega) (by omega) rfl) ?_;have e:=En W b;unfold Cm at e;rw[af4,ac7,Fy,VF,Rq,C2,S9,D9 (by simp;omega)];rfl
theorem As6:∀(l:List Nat) (i z m:Nat),z+m<=i+l.length->(zGo l i z m).1+(zGo l i z m).2<=i+l.length
 | [],i,z,m,h=>by simpa[zGo] using h
 | x::r,i,z,m,h=>by
  have a:=Ay2 (x::r);simp only[zGo];simp only[o8] at h a ⊢;split
  ·have:=As6 r (i+1) i (Wr (x::r)) (by omega);omega
  ·have:=As6 r (i+1) z m (by omega);omega
theorem Bu3{R:Type}{k0:By->LL->Option R}(p r t u v w y A:Int)(G:ok8 p r t u v w y A=true):∃l,v6f LF p r t u v w y A k0=k0 (Yx (n8 p r t u v w y A)) l:=by
 obtain⟨a,b,c,d,e,f,g,j,rfl,rfl,rfl,rfl,rfl,rfl,rfl,rfl,h⟩:=Sv G;have C:n8 a b c d e f g j=[a,b,c,d,e,f,g,j]:=rfl;refine⟨G4 [a,b,c,d,e,f,g,j],?_⟩;unfold v6f;rw[G,C,cond_true];have o:([[SV.int .u16 (a:Int)],[SV.int .u16 (b:Int)],[SV.int .u16 (c:Int)],[SV.int .u16 (d:Int)],[SV.int .u16 (e:Int)],[SV.int .u16 (f:Int)],[SV.int .u16 (g:Int)],[SV.int .u16 (j:Int)]]:LL)=G4 [a,b,c,d,e,f,g,j]:=rfl;rw[o];have B:∀x∈[a,b,c,d,e,f,g,j],x<65536:=by simp_all
 have n:[a,b,c,d,e,f,g,j].length=8:=rfl;have k:=As6 [a,b,c,d,e,f,g,j] 0 0 0 (by simp);unfold Yx;generalize [a,b,c,d,e,f,g,j]=W at *;generalize zGo W 0 0 0=q at *;obtain⟨z,m⟩:=q;rw[n] at k;simp only[vl] at k ⊢;have N:∀i,(G4 W).take i=G4 (W.take i):=λi=>by unfold G4;rw[an5]
 have J:∀i,(G4 W).drop i=G4 (W.drop i):=λi=>by unfold G4;rw[aj0]
 by_cases I:m<2
 ·rw[if_pos I,C7,cond_true,SC B,Rq];rfl
 ·have K:A4 ((z:Int)+(m:Int))=((z+m:Nat):Int):=by rw[C0];rfl
  have hA:∀x∈W.take z,x<65536:=λx D=>B x (ab0 D)
  have H:∀x∈W.drop (z+m),x<65536:=λx D=>B x (x9 D)
  have O:=En _ hA;have P:=En _ H;have L:(W.take z).length<=8:=by rw[ae5];omega
  have M:(W.drop (z+m)).length<=8:=by rw[ac8];omega
  rw[if_neg I,A8,cond_false,T0,K];simp only[j1,Nat.sub_zero];rw[N,J,SC hA,Rq,O4,ae1 L,R7 (by omega),T0];have F:(G4 (W.drop (z+m))).take (8-(z+m))=G4 (W.drop (z+m)):=w8 (by rw[O4,ac8];omega);rw[F,SC H,Rq,O4,ae1 M,R7 (by simp;omega)];simp
end
section
open Go
theorem DZ(x y:By)(r:List By)(p:By):ae8 (x::y::r) p=x++(p++ae8 (y::r) p):=by simp[ae8,List.intercalate]
theorem XO(c:UInt8):∀l:List By,l≠[]->(∀x∈l,c∉x)->pcs c (ae8 l [c])=l
 | [],h,_=>absurd rfl h
 | [x],_,h=>by rw[ao3,Sy (h x (by simp))]
 | x::y::r,_,h=>by
  rw[DZ,List.singleton_append,QU (h x (by simp)),XO c (y::r) (by simp) (λz a=>h z (by simp[a]))]
theorem Bk(s:By):(D0 s).length=s.length:=af3 _
theorem Kg(s:By)(i:Nat):(D0 s).getD i 0=Aw (s.getD i 0):=by unfold D0;simp only[j7,ak2];cases s[i]?<;>rfl
theorem A74{s:By}:D0 s=[]↔s=[]:=by unfold D0;simp
theorem Aj1(s:By)(i:Nat):(D0 s).drop i=D0 (s.drop i):=by unfold D0;rw[aj0]
theorem Ya(b:UInt8):X8 b=true↔(97<=b.toNat/\b.toNat<=122)\/(48<=b.toNat/\b.toNat<=57)\/b=45\/b=95:=by simp[X8,or_assoc]
theorem Ai4{b:UInt8}(h:X8 b=true):b.toNat<128/\(b.toNat<65\/90<b.toNat)/\b≠46/\b≠37/\b≠91:=by
 rw[Ya] at h;have key:∀c:UInt8,b=c->b.toNat=c.toNat:=λc e=>by rw[e]
 rcases h with h|h|h|h
 ·refine⟨by omega,by omega,?_,?_,?_⟩<;>intro e<;>have:=key _ e<;>simp at this<;>omega
 ·refine⟨by omega,by omega,?_,?_,?_⟩<;>intro e<;>have:=key _ e<;>simp at this<;>omega
 all_goals simp_all
structure VL (s:By):Prop where
 ne:s≠[]
 le:s.length<=63
 byt:∀b∈s,X8 b=true
theorem KI{s:By}(h:R3 s=true):VL s:=by unfold R3 at h;simp only[ab9,aj8,ac0] at h;obtain⟨⟨⟨⟨⟨a,c⟩,g⟩,i⟩,d⟩,j⟩:=h;refine⟨by intro e;subst e;simp at a,ae2 c,λb f=>d b f⟩
structure VN (s:By):Prop where
 le:s.length<=253
 num:N9 s=false
 all:∀x∈pcs 46 s,R3 x=true
theorem GI{s:By}:Cy s=true↔VN s:=by unfold Cy;simp only[ab9,aj8,ac0];exact⟨λh=>⟨ae2 h.1.1,h.1.2,h.2⟩,λh=>⟨⟨ae1 h.le,h.num⟩,h.all⟩⟩
theorem Cm1(v:Nat)(h:v<4294967296):(Na v).length<=43:=by unfold Na;have a:=G8 (v / 16777216) (by omega);have b:=G8 (v / 65536 % 256) (by omega);have c:=G8 (v / 256 % 256) (by omega);have d:=G8 (v % 256) (by omega);grind
theorem XR(free:Nat):∀(l:List By) (v x:Nat),FD free v l=some x->x<(v+1)*256 ^ (l.length-1)*2 ^ free
 | [],v,x,h=>by simp[FD] at h
 | [p],v,x,h=>by
  simp only[FD] at h;split at h
  ·cases h
  ·split at h
   ·rename_i n c b;simp only[o5] at h;subst h;simp only[o8,ac6,ak5,Nat.pow_zero,Nat.mul_one,Nat.add_mul];omega
   ·cases h
 | p::q::r,v,x,h=>by
  rw[FD] at h;split at h
  ·cases h
  ·simp only at h;split at h
   ·rename_i n c a;have d:=XR free (q::r) _ x h;refine Nat.lt_of_lt_of_le d (af1 _ ?_);simp only[o8,aj3];rw[ac4,ao8 (256 ^ r.length) 256,<-Nat.mul_assoc];exact af1 _ (by omega)
   ·cases h
theorem B91{s:By}{v:Nat}(h:pnB s=some v):v<4294967296:=by
 unfold pnB at h;split at h
 ·cases h
 ·rename_i b;have a:=(Fs s).1;have:=XR _ _ _ _ h;generalize (F6 s).length=n at *;have:n=1\/n=2\/n=3\/n=4:=by omega
  grind
def sh(n:Nat)(i:Int):Int:=if i=-1 then -1 else i+n
theorem Bu2(a:List Nat)(e:a.length=8)(h:∀x∈a,x<65536):(Yx a).length<=90:=by
 unfold Yx;split
 ·have:=En a h;omega
 ·have c:=En (a.take (zGo a 0 0 0).1) (λx b=>h x (ab0 b));have d:=En (a.drop ((zGo a 0 0 0).1+(zGo a 0 0 0).2)) (λx b=>h x (x9 b));grind
theorem VY{s:By}{last:Bool}{r:List Nat}(h:Ck s last=some r):∀x∈r,x<65536:=by
 unfold Ck at h;split at h
 ·grind
 ·exact Av3 _ _ _ h
theorem Cm4{s:By}{a:List Nat}(h:v6B s=some a):a.length=8/\∀x∈a,x<65536:=by
 unfold v6B at h;split at h
 ·rename_i x y b c;have d:=VY b;have e:=VY c;grind
 ·cases h
theorem Bs5{s:By}(h:(R4 s).2=0):R3 (R4 s).1=true:=by unfold R4 at h ⊢;grind
theorem Uy:∀l:List By,(K5 l).2=0->(∀x∈(K5 l).1,R3 x=true)/\(K5 l).1.length=l.length
 | [],_=>⟨by simp[K5],rfl⟩
 | x::r,h=>by
  unfold K5 at h ⊢;by_cases a:(R4 x).2=0
  ·rw[if_pos a] at h ⊢;obtain⟨d,c⟩:=Uy r h;refine⟨λy b=>?_,by simp[c]⟩;rcases ab5.1 b with rfl|b
   ·exact Bs5 a
   grind
  grind
structure Le (h:C1):Prop where
 v4:h.v4<4294967296
 v6:h.v6.length=8/\∀x∈h.v6,x<65536
 kd:h.kind<4
theorem A02:z8.length=8/\∀x∈z8,x<65536:=by decide
theorem A89(s:By):Le (H4 s).1/\((H4 s).2=0->P2 (H4 s).1=true):=by
 have no:Le M6:=⟨by decide,A02,by decide⟩
 unfold H4;split
 ·grind
 split
 ·split
  ·cases d:v6B ((s.take (s.length-1)).drop 1) with
   | none=>exact⟨no,by simp⟩
   | some a=>exact⟨⟨show 0<4294967296 by decide,Cm4 d,show 3<4 by decide⟩,λ_=>by simp[P2]⟩
  grind
 cases l:Ak s with
 | none=>exact⟨no,by simp⟩
 | some t=>
  simp only;split
  ·cases d:pnB (M8 t) with
   | none=>exact⟨no,by simp⟩
   | some v=>exact⟨⟨B91 d,A02,show 2<4 by decide⟩,λ_=>by simp[P2]⟩
  split
  ·rename_i g;split
   ·grind
   split
   ·grind
   ·rename_i k h;refine⟨⟨show 0<4294967296 by decide,A02,show 1<4 by decide⟩,λ_=>?_⟩;obtain⟨f,i⟩:=Uy _ g;have b:(K5 (pcs 46 (M8 t))).1≠[]:=by
     intro e;rw[e] at i;have:=Bp8 46 (M8 t);grind
    have c:=XO 46 (K5 (pcs 46 (M8 t))).1 b (λx j e=>(Ai4 ((KI (f x j)).byt 46 e)).2.2.1 rfl);unfold P2;simp only[if_true,beq_self_eq_true,ag8];rw[GI];exact⟨by omega,by simpa using h,by rw[c];exact f⟩
  grind
theorem DL{h:C1}(a:P2 h=false):Fm h=[]:=by unfold Fm;rw[a];rfl
structure U3 where
 sch:By
 user:By
 host:C1
 port:Int
 rest:By
def Ai:U3:=⟨[],[],M6,0,[]⟩
def HW:By:=[104,116,116,112]
def Ll:By:=[104,116,116,112,115]
def bWs:By:=[119,115]
def TV:By:=[119,115,115]
def Fi(s:By):Int:=if s==HW||s==bWs then 80 else if s==Ll||s==TV then 443 else -1
def E9(s:By):Bool:=s==HW||s==bWs||(s==Ll||s==TV)
def Cr5(s:By):Bool:=s==HW||s==bWs
def ctl(b:UInt8):Bool:=ab8 b.toNat 32||b==127
def T8(b:UInt8):Bool:=(ab8 97 b.toNat&&ab8 b.toNat 122)||(ab8 65 b.toNat&&ab8 b.toNat 90)
def X9(b:UInt8):Bool:=T8 b||(ab8 48 b.toNat&&ab8 b.toNat 57)||b==43||b==45||b==46
def Ca:By->Bool
 | []=>false
 | b::r=>T8 b&&r.all X9
def V5(b:UInt8):Bool:=b==47||b==63||b==35
def K4(s:By):Nat:=(s.takeWhile λb=>!V5 b).length
def Pv(c:UInt8):By->Option Nat
 | []=>none
 | b::r=>if b=c then some 0 else (Pv c r).map (· + 1)
def Su:Int->By->Option Int
 | n,[]=>if n<65536 then some n else none
 | n,b::r=>if 48<=b.toNat/\b.toNat<=57 then Su (min (10*max n 0+((b.toNat-48:Nat):Int)) 65536) r else none
def Mq(a:By):Option (By × By):=
 if a.head? = some 91 then (match Pv 93 a with
  | some k=>some (a.take (k+1),a.drop (k+1))
  | none=>none)
 else match Pv 58 a with
  | some k=>some (a.take k,a.drop k)
  | none=>some (a,[])
def N6(c user b:By)(a:By):U3 × Nat:=
 match Mq a with
 | none=>(Ai,4)
 | some (name,tail)=>
  if tail≠[]/\tail.head?≠some 58 then (Ai,4)
  else if (H4 name).2≠0 then (Ai,(H4 name).2)
  else match Su (-1) (tail.drop 1) with
   | none=>(Ai,16)
   | some p=>(⟨c,user,(H4 name).1,if p=Fi c then -1 else p,b⟩,0)
def G2(c b a:By):U3 × Nat:=
 if 0<=J8 64 a then N6 c (a.take (J8 64 a).toNat) b (a.drop ((J8 64 a).toNat+1)) else N6 c [] b a
def U2(r:By):By:=if r.head? = some 47 then r else 47::r
def F2(s:By):U3 × Nat:=
 if s.any ctl then (Ai,4)
 else if !(w7 s [58]).2.2||!Ca (w7 s [58]).1 then (Ai,15)
 else if !E9 (D0 (w7 s [58]).1) then (⟨D0 (w7 s [58]).1,[],M6,-1,(w7 s [58]).2.1⟩,0)
 else if !([47,47]:By).isPrefixOf (w7 s [58]).2.1 then (Ai,4)
 else G2 (D0 (w7 s [58]).1) (U2 (((w7 s [58]).2.1.drop 2).drop (K4 ((w7 s [58]).2.1.drop 2)))) (((w7 s [58]).2.1.drop 2).take (K4 ((w7 s [58]).2.1.drop 2)))
def C5(s:By):U3 × Nat:=if 2048<s.length then (Ai,3) else F2 s
def Ku(p:Int):By:=if p<0 then 45::j8 (-p).toNat else j8 p.toNat
def HV(u:U3):By:=(if u.user=[] then [] else u.user++[64])++(Fm u.host++(if u.port=-1 then [] else 58::Ku u.port))
def Df(u:U3):By:=if E9 u.sch then u.sch++58::47::47::(HV u++u.rest) else u.sch++58::u.rest
def Bo5(b:Int)(c:By)(v4:Int)(a:List Nat):C1:=⟨if ltN b 4 then b.toNat else 4,c,v4.toNat,a⟩
def mkU(f g:By)(b:Int)(c:By)(v4:Int)(a:List Nat)(d:Int)(e:By):U3:=⟨f,g,Bo5 b c v4 a,d,e⟩
def smU(c d a b:By):Bool:=ab8 c.length 100000000&&ab8 d.length 100000000&&ab8 a.length 100000000&&ab8 b.length 100000000
def eqH(a b:C1):Bool:=a.kind==b.kind&&a.name==b.name&&a.v4==b.v4&&a.v6==b.v6
def eqU(a b:U3):Bool:=a.sch==b.sch&&a.user==b.user&&eqH a.host b.host&&a.port==b.port&&a.rest==b.rest
def Ql(u:U3):Bool:=(F2 (Df u)).2==0&&eqU (F2 (Df u)).1 u
def prt(b:By)(a:Int):Int:=if a==-1 then Fi b else a
def Zh:By->Int
 | s=>let rec go:Int->By->Int
   | n,[]=>n
   | n,b::r=>if 48<=b.toNat/\b.toNat<=57 then go (min (10*max n 0+((b.toNat-48:Nat):Int)) 65536) r else 0
  go (-1) s
def B23(s t:By):Nat:=(s.takeWhile λb=>!t.contains b).length
def isl:By:=[47,63,35]
def Wf(p:By):Bool:=p==isl
def GJ(r:Int):Bool:=ltN r 55296||(ltI 57343 r&&ltN r 1114112)
def irn(r:Int):Int:=if r=47 then 0 else if r=63 then 1 else if r=35 then 2 else -1
abbrev uS(p:U3 × Nat):By:=p.1.sch
abbrev uU(p:U3 × Nat):By:=p.1.user
abbrev uK(p:U3 × Nat):Int:=p.1.host.kind
abbrev uN(p:U3 × Nat):By:=p.1.host.name
abbrev uV(p:U3 × Nat):Int:=p.1.host.v4
abbrev uA(p:U3 × Nat)(i:Nat):Int:=(p.1.host.v6.getD i 0:Nat)
abbrev uP(p:U3 × Nat):Int:=p.1.port
abbrev uR(p:U3 × Nat):By:=p.1.rest
abbrev uE(p:U3 × Nat):Int:=p.2
theorem GR(s:By):decide (0<Fi s)=E9 s:=by
 unfold Fi E9;cases (s==HW||s==bWs) with
 | true=>rfl
 | false=>cases (s==Ll||s==TV)<;>rfl
theorem By9{s:By}(h:E9 s=true):s=HW\/s=bWs\/s=Ll\/s=TV:=by simp only[E9,ah8,beq_iff_eq] at h;rcases h with(h|h)|(h|h)<;>simp[h]
theorem A48{c:UInt8}:∀{s:By},c∉s->Pv c s=none
 | [],_=>rfl
 | b::r,h=>by
  simp only[ab5,not_or] at h;rw[Pv,if_neg (am1 h.1),A48 h.2];rfl
theorem IW{c:UInt8}:∀{s:By} {k:Nat},Pv c s=some k->∃p r,s=p++c::r/\c∉p/\p.length=k
 | [],k,h=>by cases h
 | b::s,k,h=>by
  rw[Pv] at h;split at h
  ·rename_i a;obtain rfl:=af6 h;exact⟨[],s,by rw[a];rfl,by simp,rfl⟩
  ·rename_i a;cases d:Pv c s with
   | none=>rw[d] at h;cases h
   | some j=>
    rw[d] at h;obtain rfl:=af6 h;obtain⟨p,r,rfl,e,rfl⟩:=IW d;exact⟨b::p,r,rfl,by simp only[ab5,not_or];exact⟨am1 a,e⟩,rfl⟩
theorem Px{c:UInt8}:∀{s:By},c∉s->J8 c s=-1
 | [],_=>rfl
 | b::r,h=>by
  simp only[ab5,not_or] at h;rw[J8,Px h.2,if_pos (by decide),if_neg (am1 h.1)]
theorem JE{c:UInt8}:∀(p:By) {r:By},c∉r->J8 c (p++c::r)=(p.length:Int)
 | [],r,h=>by rw[af4,J8,Px h,if_pos (by decide),if_pos rfl];rfl
 | b::p,r,h=>by
  rw[ah1,J8,JE p h,T1,o8];omega
theorem JF{c:UInt8}:∀{s:By},c∈s->∃p r,s=p++c::r/\c∉r
 | [],h=>by cases h
 | b::s,h=>by
  by_cases a:c∈s
  ·obtain⟨p,r,rfl,d⟩:=JF a;exact⟨b::p,r,rfl,d⟩
  ·simp only[ab5,a,or_false] at h;subst h;exact⟨[],s,rfl,a⟩
theorem Ai1{c:UInt8}{s:By}(h:0<=J8 c s):∃p r,s=p++c::r/\c∉r/\J8 c s=(p.length:Int):=by
 by_cases b:c∈s
 ·obtain⟨p,r,rfl,a⟩:=JF b;exact⟨p,r,rfl,a,JE p a⟩
 ·rw[Px b] at h;omega
theorem Ao6(s:By):∀b∈s.take (K4 s),V5 b=false:=by
 intro b a;have h:s.take (K4 s)=s.takeWhile λb=>!V5 b:=by
  unfold K4;exact(List.prefix_iff_eq_take.1 (List.takeWhile_prefix _)).symm
 rw[h] at a;have:∀l:By,b∈l.takeWhile (λb=>!V5 b)->V5 b=false:=by
  intro l
  induction l with
  | nil=>intro h;cases h
  | cons x l d=>
   intro h;rw[ai9] at h;split at h
   ·rename_i c;rcases ab5.1 h with rfl|h
    ·simpa using c
    ·exact d h
   ·cases h
 exact this s a
theorem Y4{b:UInt8}:T8 b=true↔(97<=b.toNat/\b.toNat<=122)\/(65<=b.toNat/\b.toNat<=90):=by simp[T8,ah4]
theorem B05{b:UInt8}:ctl b=true↔b.toNat<=32\/b.toNat=127:=by
 unfold ctl;rw[ah8,ah4,beq_iff_eq];have:b=127↔b.toNat=127:=⟨λh=>by rw[h];rfl,λh=>am0.1 h⟩
 rw[this]
theorem Yo{b:UInt8}:X9 b=true↔(97<=b.toNat/\b.toNat<=122)\/(65<=b.toNat/\b.toNat<=90)\/(48<=b.toNat/\b.toNat<=57)\/b=43\/b=45\/b=46:=by simp only[X9,ah8,Y4,ab9,ah4,beq_iff_eq,or_assoc]
abbrev clU(a b:By)(k:Int)(n:By)(v c d e f g h i j p:Int)(r:By):List PV:=[.s (.str a),.s (.str b),.s (.int .i64 k),.s (.str n),.s (.int .u32 v),.s (.int .u16 c),.s (.int .u16 d),.s (.int .u16 e),.s (.int .u16 f),.s (.int .u16 g),.s (.int .u16 h),.s (.int .u16 i),.s (.int .u16 j),.s (.int .i64 p),.s (.str r)]
abbrev clH(k:Int)(n:By)(v c d e f g h i j:Int):List PV:=[.s (.int .i64 k),.s (.str n),.s (.int .u32 v),.s (.int .u16 c),.s (.int .u16 d),.s (.int .u16 e),.s (.int .u16 f),.s (.int .u16 g),.s (.int .u16 h),.s (.int .u16 i),.s (.int .u16 j)]
abbrev bU(a b:By)(k:Int)(n:By)(v c d e f g h i j p:Int)(r:By):Blk:=.box (clU a b k n v c d e f g h i j p r)
abbrev gU(a b:By)(k:Int)(n:By)(v c d e f g h i j p:Int)(r:By):PV:=.agg (clU a b k n v c d e f g h i j p r)
abbrev bH(k:Int)(n:By)(v c d e f g h i j:Int):Blk:=.box (clH k n v c d e f g h i j)
abbrev gH(k:Int)(n:By)(v c d e f g h i j:Int):PV:=.agg (clH k n v c d e f g h i j)
abbrev bCx(a b c d z t:Bool)(l:LL):Blk:=.box [.s (.bool a),.s (.bool b),.s (.bool c),.s (.bool d),.s (.sl z t 1 l)]
abbrev gCx(a b c d z t:Bool)(l:LL):PV:=.agg [.s (.bool a),.s (.bool b),.s (.bool c),.s (.bool d),.s (.sl z t 1 l)]
abbrev bU0:Blk:=bU [] [] 0 [] 0 0 0 0 0 0 0 0 0 0 []
abbrev bQ(p:U3 × Nat):Blk:=bU (uS p) (uU p) (uK p) (uN p) (uV p) (uA p 0) (uA p 1) (uA p 2) (uA p 3) (uA p 4) (uA p 5) (uA p 6) (uA p 7) (uP p) (uR p)
abbrev okQ(p:U3 × Nat):Bool:=ok8 (uA p 0) (uA p 1) (uA p 2) (uA p 3) (uA p 4) (uA p 5) (uA p 6) (uA p 7)
abbrev mkQ(b:By)(p:U3 × Nat)(a:Int):U3:=mkU b (uU p) (uK p) (uN p) (uV p) (n8 (uA p 0) (uA p 1) (uA p 2) (uA p 3) (uA p 4) (uA p 5) (uA p 6) (uA p 7)) a (uR p)
end
section
open Go Go.Proofs
set_option maxRecDepth 100000
section
def BP:List PV->Tr
 | [.s (.str s)]=>.ret (.s (.int .i64 (Fi s))) []
 | _=>.fail
def MT(args:List PV):Tr:=BP (E0 [[0]] args)
def BQ:List PV->Tr
 | [.s (.str s)]=>.ret (.s (.bool (E9 s))) []
 | _=>.fail
def Nj(args:List PV):Tr:=BQ (E0 [[0]] args)
def Ct5:List PV->Tr
 | [.agg [.s (.str a),.s (.str n),.s (.int .i64 j),.s (.str k),.s (.int .u32 v4),.s (.int .u16 b),.s (.int .u16 c),.s (.int .u16 d),.s (.int .u16 e),.s (.int .u16 f),.s (.int .u16 g),.s (.int .u16 h),.s (.int .u16 i),.s (.int .i64 l),.s (.str m)]]=>.ret (.s (.bool (Cr5 a))) []
 | _=>.fail
def MV:List PV->Tr
 | [.s (.str s)]=>.need (A2 (c9 s)) (.ret (.s (.bool (Ca s))) [])
 | _=>.fail
def Bh0(args:List PV):Tr:=MV (E0 [[0]] args)
def MQ:List PV->Tr
 | [.s (.str s)]=>.need (A2 (c9 s)) (.ret (.tup [.s (.int .i64 (Zh s)),.s (.bool (v7 (Su ((-1):Int) s)))]) [])
 | _=>.fail
def Bg9(args:List PV):Tr:=MQ (E0 [[0]] args)
def Uu:List PV->Tr
 | [.agg [.s (.str c),.s (.str e),.s (.int .i64 n),.s (.str o),.s (.int .u32 v4),.s (.int .u16 f),.s (.int .u16 g),.s (.int .u16 h),.s (.int .u16 i),.s (.int .u16 j),.s (.int .u16 k),.s (.int .u16 l),.s (.int .u16 m),.s (.int .i64 d),.s (.str b)],.s (.str a)]=>.need (A2 (c9 c)) (.need (A2 (c9 b)) (.need (A2 (c9 a)) (.need (ak3 e) (.need (d==((-1):Int)) (.ret (.tup [.agg [.s (.str (uS (G2 c b a))),.s (.str (uU (G2 c b a))),.s (.int .i64 (uK (G2 c b a))),.s (.str (uN (G2 c b a))),.s (.int .u32 (uV (G2 c b a))),.s (.int .u16 (uA (G2 c b a) 0)),.s (.int .u16 (uA (G2 c b a) 1)),.s (.int .u16 (uA (G2 c b a) 2)),.s (.int .u16 (uA (G2 c b a) 3)),.s (.int .u16 (uA (G2 c b a) 4)),.s (.int .u16 (uA (G2 c b a) 5)),.s (.int .u16 (uA (G2 c b a) 6)),.s (.int .u16 (uA (G2 c b a) 7)),.s (.int .i64 (uP (G2 c b a))),.s (.str (uR (G2 c b a)))],.s (.int .i64 (uE (G2 c b a)))]) [])))))
 | _=>.fail
def TL(args:List PV):Tr:=Uu (E0 [[0,0,0,0,0,0,0,0,0,0,0,0,0,0,0],[0]] args)
def MU:List PV->Tr
 | [.s (.str s)]=>.need (A2 (c9 s)) (.ret (.tup [.agg [.s (.str (uS (F2 s))),.s (.str (uU (F2 s))),.s (.int .i64 (uK (F2 s))),.s (.str (uN (F2 s))),.s (.int .u32 (uV (F2 s))),.s (.int .u16 (uA (F2 s) 0)),.s (.int .u16 (uA (F2 s) 1)),.s (.int .u16 (uA (F2 s) 2)),.s (.int .u16 (uA (F2 s) 3)),.s (.int .u16 (uA (F2 s) 4)),.s (.int .u16 (uA (F2 s) 5)),.s (.int .u16 (uA (F2 s) 6)),.s (.int .u16 (uA (F2 s) 7)),.s (.int .i64 (uP (F2 s))),.s (.str (uR (F2 s)))],.s (.int .i64 (uE (F2 s)))]) [])
 | _=>.fail
def Aa5(args:List PV):Tr:=MU (E0 [[0]] args)
def Ut:List PV->Tr
 | [.s (.str s)]=>.need (A2 (c9 s)) (.ret (.tup [.agg [.s (.str (uS (C5 s))),.s (.str (uU (C5 s))),.s (.int .i64 (uK (C5 s))),.s (.str (uN (C5 s))),.s (.int .u32 (uV (C5 s))),.s (.int .u16 (uA (C5 s) 0)),.s (.int .u16 (uA (C5 s) 1)),.s (.int .u16 (uA (C5 s) 2)),.s (.int .u16 (uA (C5 s) 3)),.s (.int .u16 (uA (C5 s) 4)),.s (.int .u16 (uA (C5 s) 5)),.s (.int .u16 (uA (C5 s) 6)),.s (.int .u16 (uA (C5 s) 7)),.s (.int .i64 (uP (C5 s))),.s (.str (uR (C5 s)))],.s (.int .i64 (uE (C5 s)))]) [])
 | _=>.fail
def BO(args:List PV):Tr:=Ut (E0 [[0]] args)
def BS:List PV->Tr
 | [.agg [.s (.str l),.s (.str m),.s (.int .i64 n),.s (.str i),.s (.int .u32 v4),.s (.int .u16 a),.s (.int .u16 b),.s (.int .u16 c),.s (.int .u16 d),.s (.int .u16 e),.s (.int .u16 f),.s (.int .u16 g),.s (.int .u16 h),.s (.int .i64 j),.s (.str k)]]=>.need (smU l m i k) (.need (ltN v4 4294967296) (.need (ok8 a b c d e f g h) (.need (Lc j) (.ret (.s (.str (Df (mkU l m n i v4 (n8 a b c d e f g h) j k)))) []))))
 | _=>.fail
def Au0(args:List PV):Tr:=BS (E0 [[0,0,0,0,0,0,0,0,0,0,0,0,0,0,0]] args)
def Pb:List PV->Tr
 | [.agg [.s (.str l),.s (.str m),.s (.int .i64 n),.s (.str i),.s (.int .u32 v4),.s (.int .u16 a),.s (.int .u16 b),.s (.int .u16 c),.s (.int .u16 d),.s (.int .u16 e),.s (.int .u16 f),.s (.int .u16 g),.s (.int .u16 h),.s (.int .i64 j),.s (.str k)]]=>.need (smU l m i k) (.need (ltN v4 4294967296) (.need (ok8 a b c d e f g h) (.need (Lc j) (.ret (.s (.bool (Ql (mkU l m n i v4 (n8 a b c d e f g h) j k)))) []))))
 | _=>.fail
def HP(args:List PV):Tr:=Pb (E0 [[0,0,0,0,0,0,0,0,0,0,0,0,0,0,0]] args)
def Cq2:List PV->Tr
 | [.s (.str s),.s (.str t)]=>.need (A2 (c9 s)) (.need (A2 (c9 t)) (.ret (.s (.int .i64 (↑(B23 s t):Int))) []))
 | _=>.fail
def Ce9:List PV->Tr
 | [.s (.int .i64 n)]=>.need (ltN n 9223372036854775808) (.ret (.s (.str (j8 (j2 n)))) [])
 | _=>.fail
def AU:List PV->Tr
 | [.s (.int .i64 n)]=>.need (Lc n) (.ret (.s (.str (Ku n))) [])
 | _=>.fail
def At2(args:List PV):Tr:=AU (E0 [[0]] args)
def BH:List PV->Tr
 | [.s (.str s),.s (.int .u8 c)]=>.need (A2 (c9 s)) (.need (inR c 256) (.ret (.s (.int .i64 (aa0 s (u8n c)))) []))
 | _=>.fail
def Qs(args:List PV):Tr:=BH (E0 [[0],[0]] args)
def BA:List PV->Tr
 | [.s (.str s),.s (.str p)]=>.need (A2 (c9 s)) (.ret (.s (.str (Fh s p))) [])
 | _=>.fail
def At5(args:List PV):Tr:=BA (E0 [[0],[0]] args)
def MP:List PV->Tr
 | [.s (.str s),.s (.str p)]=>.need (A2 (c9 s)) (.ret (.s (.str (Fh s p))) [])
 | _=>.fail
def Bg7(args:List PV):Tr:=MP (E0 [[0],[0]] args)
def TG:List PV->Tr
 | [.s (.str s),.s (.str p)]=>.need (A2 (c9 s)) (.need (Wf p) (.ret (.s (.int .i64 (ad5 s p))) []))
 | _=>.fail
def ML(args:List PV):Tr:=TG (E0 [[0],[0]] args)
def Ng:List PV->Tr
 | [.s (.str s),.s (.str p)]=>.need (A2 (c9 s)) (.need (Wf p) (.need (ab8 9 (c9 s)) (.ret (.s (.int .i64 (ad5 s p))) [])))
 | _=>.fail
def TH(args:List PV):Tr:=Ng (E0 [[0],[0]] args)
def Nh:List PV->Tr
 | [.s (.str s),.s (.str p)]=>.need (Wf p) (.need (ab8 (c9 s) 8) (.ret (.s (.int .i64 (ad5 s p))) []))
 | _=>.fail
def TJ(args:List PV):Tr:=Nh (E0 [[0],[0]] args)
def Oz:List PV->Tr
 | [.s (.int .i64 n)]=>.ret (.s (.bool (ltI (8:Int) n))) []
 | _=>.fail
def Up(args:List PV):Tr:=Oz (E0 [[0]] args)
def Uo:List PV->Tr
 | [.s (.str p),.s (.int .i32 r)]=>.need (Wf p) (.need (ltN r 1114112) (.ret (.s (.int .i64 (irn r))) []))
 | _=>.fail
def BI(args:List PV):Tr:=Uo (E0 [[0],[0]] args)
def HN:List PV->Tr
 | [.s (.str s)]=>.fail
 | _=>.fail
def Lj(args:List PV):Tr:=HN (E0 [[0]] args)
def Uw:List PV->Tr
 | [.s (.int .i32 r)]=>.ret (.s (.bool (GJ r))) []
 | _=>.fail
def BT(args:List PV):Tr:=Uw (E0 [[0]] args)
end
section
variable {W R : Type} (L : Nat) (Q : E3) (Y : Yh W) (s : W) (k : Out -> St W -> Option R)
noncomputable def NP(L:Nat):Cfg:=D1 L [100] (A3 []) [(66,LU)] (A3 [(3,[4]),(2,[4]),(1,[0,0,5]),(0,[0,0])]) [66] (A3 []) (some [4]) [] [] []
noncomputable def Aw6{R:Type}(L:Nat)(b a:By)(d:By->Option R):Option R:=cond (A2 b.length) (cond (o0 a b) (cond (O6 (a.length:Int) (b.length:Int) b.length) (vl (cut b (a.length:Int) (b.length:Int)) λc=>d c) none) (d b)) none
theorem Bo1(d:Nat)(s0 prefix1):evC (NP L) (d+1) W Y 100 [pS s0,pS prefix1] [] s=Aw6 L s0 prefix1 (λa=>some (pS a,[],s)):=by refine(evE (fn:=Tryz.f100) (by kernel_rfl)).trans ?_;generalize evC (NP L) d=Q;unfold Aw6;kernel_rfl
noncomputable def Ad8(L:Nat):Cfg:=D1 L [70] (A3 []) [(100,At5)] (A3 [(1,[4]),(0,[0,0])]) [100] (A3 []) (some [4]) [] [] []
noncomputable def Cb1{R:Type}(L:Nat)(b a:By)(c:By->Option R):Option R:=cond (A2 b.length) (c (Fh b a)) none
theorem Cb2(d:Nat)(s0 prefix1):evC (Ad8 L) (d+1) W Y 70 [pS s0,pS prefix1] [] s=Cb1 L s0 prefix1 (λa=>some (pS a,[],s)):=by refine(evE (fn:=Tryz.f70) (by kernel_rfl)).trans ?_;generalize evC (Ad8 L) d=Q;unfold Cb1;kernel_rfl
noncomputable def NW(L:Nat):Cfg:=D1 L [22] (A3 []) [] (A3 [(8,[2]),(4,[2]),(7,[2]),(6,[7]),(5,[3,3]),(3,[3,0]),(2,[3,0]),(1,[3]),(0,[0])]) [] (A3 [(0,[])]) (some [2]) [] [] []
noncomputable def Ay9{R:Type}(L:Nat)(a:By)(b:Int->Option R):Option R:=cond (a==[104,116,116,112]) (cond (a==[104,116,116,112]) (b 80) (cond (a==[104,116,116,112,115]) (cond (a==[104,116,116,112,115]) (b 443) (b (-1))) (cond (a==[119,115,115]) (b 443) (b (-1))))) (cond (a==[119,115]) (b 80) (cond (a==[104,116,116,112,115]) (cond (a==[104,116,116,112,115]) (b 443) (b (-1))) (cond (a==[119,115,115]) (b 443) (b (-1)))))
theorem Bt2(d:Nat)(scheme0):evC (NW L) (d+1) W Y 22 [pS scheme0] [] s=Ay9 L scheme0 (λa=>some (pI a,[],s)):=by refine(evE (fn:=Tryz.f22) (by kernel_rfl)).trans ?_;generalize evC (NW L) d=Q;unfold Ay9;kernel_rfl
noncomputable def NX(L:Nat):Cfg:=D1 L [12] (A3 []) [(22,MT)] (A3 [(1,[2]),(0,[0])]) [22] (A3 []) (some [2]) [] [] []
noncomputable def Az0{R:Type}(L:Nat)(a:By)(b:Bool->Option R):Option R:=b (ltI 0 (Fi a))
theorem Bt5(d:Nat)(scheme0):evC (NX L) (d+1) W Y 12 [pS scheme0] [] s=Az0 L scheme0 (λa=>some (pB a,[],s)):=by refine(evE (fn:=Tryz.f12) (by kernel_rfl)).trans ?_;generalize evC (NX L) d=Q;unfold Az0;kernel_rfl
noncomputable abbrev Lo:Code:=E5 am6
noncomputable def X1(L:Nat):Cfg:=D1 L [32] (A3 [(2,[0,1,4,0])]) [(60,Qs)] (A3 [(9,[2]),(8,[0,6,0]),(7,[2]),(6,[0,6,0,29]),(5,[0,2,0,0,1,0]),(4,[0,2,0,2,0]),(3,[0,2,3,0]),(2,[0,6,0,0]),(1,[0,6,0]),(0,[0])]) [60] (A3 [(0,[0]),(1,[0,6,0])]) (some [2]) [] [] []
noncomputable def AF{R:Type}(d:By)(a c:Int)(b:By->Int->Int->Option R):Option R:=b d c a
abbrev Xa(b:Code):Prop:=∀(k:Out->St W->Option R) a i1 b2 n3,A7 (X1 L) Q Y b ⟨gp [(0,pS a),(2,pI i1),(0,p8 b2),(0,pB true),(1,pI n3),(0,pI i1)] 33,[],s⟩ k=AF a i1 n3 (λa c d=>k .normal ⟨gp [(0,pS a),(6,pI c),(0,pI d),(29,pB false)] 3,[],s⟩)
theorem Aq6:Xa (R:=R) L Q Y s (cd [1,0,1,0,0,1,1,0,0,1,1,1] Lo):=by intro k d b a c;unfold AF;kernel_rfl
noncomputable def Dx{R:Type}(h:By)(c d:Int)(a:Bool)(g:Int)(e:Unit->Option R)(f:By->Int->Int->Bool->Option R):Option R:=cond (not a) (cond (c==0) (e ()) (cond (inR d 256) (vl (aa0 ([48,49,50,51,52,53,54,55,56,57,43,45,46]:List UInt8) (u8n d)) λb=>cond (ltI b 0) (e ()) (f h g c (ltI b 0))) none)) (f h g c false)
abbrev Xb(b:Code):Prop:=∀(k:Out->St W->Option R) a i1 b2 letter3 n4,A7 (X1 L) Q Y b ⟨gp [(0,pS a),(2,pI i1),(0,p8 b2),(0,pB letter3),(1,pI n4),(0,pI i1)] 33,[],s⟩ k=Dx a i1 b2 letter3 n4 (λ_=>k .ret ⟨gp [(2,pB false)] 39,[],s⟩) (λa d e c=>k .normal ⟨gp [(0,pS a),(6,pI d),(0,pI e),(29,pB c)] 3,[],s⟩)
theorem Aq7:Xb (R:=R) L Q Y s (cd [1,0,1,0,0,1,1,0,0,1,1,1] Lo):=by intro k e c b a d;unfold Dx;kernel_rfl
noncomputable def L1{R:Type}(L n:Nat)(b:By)(e a:Int)(c:Unit->Option R)(d:By->Option R):Option R:=match n with|0=>none|n+1=>cond (ltI a e) (cond (inR a b.length) (cond (not (ltI (bAt b a) (97:Int))) (cond (not (ltI 122 (bAt b a))) (AF b a e (λx r t=>L1 L n x r (A4 (t+1)) c d)) (cond (not (ltI (bAt b a) (65:Int))) (Dx b a (bAt b a) (not (ltI 90 (bAt b a))) e (λ_=>c ()) (λy u v D=>L1 L n y u (A4 (v+1)) c d)) (Dx b a (bAt b a) false e (λ_=>c ()) (λz w f A=>vl (A4 (f+1)) λg=>L1 L n z w g c d)))) (cond (not (ltI (bAt b a) (65:Int))) (Dx b a (bAt b a) (not (ltI 90 (bAt b a))) e (λ_=>c ()) (λp h i B=>vl (A4 (i+1)) λj=>L1 L n p h j c d)) (Dx b a (bAt b a) false e (λ_=>c ()) (λq l m C=>vl (A4 (m+1)) λo=>L1 L n q l o c d)))) none) (d b)
theorem Aq8(a:Code)(d:Xa (R:=R) L Q Y s a)(b:Xb (R:=R) L Q Y s a)(n:Nat)(c:By)(f e:Int):G1 0 ((X1 L).keep 2) (bd (X1 L) Q Y (cd [1,0,1,0,0] (K3 [1,0,1,0,0,1,1,0,0,1,1,1] a Lo))) n ⟨gp [(0,pS c),(6,pI f),(0,pI e)] 33,[],s⟩ k =
 L1 L n c f e (λ_=>k .ret ⟨gp [(2,pB false)] 39,[],s⟩) (λc=>k (.exit 0) ⟨gp [(0,pS c)] 41,[],s⟩):=by
 induction n generalizing c f e with
 | zero=>rfl
 | succ n h=>rw[L1];exact let g:=(I1 1 (J0 (X1 L) Q Y (cd [1,0,1,0,0,1,1,1] Lo) (lpK 0 ((X1 L).keep 2) (bd (X1 L) Q Y (cd [1,0,1,0,0] (K3 [1,0,1,0,0,1,1,0,0,1,1,1] a Lo))) n k)));(j4 (by kernel_rfl) (A0 (A0 (A0 (A0 ((d g c e (bAt c e) f).trans (congr rfl (fx3 λx r t=>(j4 (by kernel_rfl) (h x r (A4 (t+1))))))) (A0 ((b g c e (bAt c e) (not (ltI 90 (bAt c e))) f).trans (congr (congr rfl (by kernel_rfl)) (fx4 λy u v H=>(j4 (by kernel_rfl) (h y u (A4 (v+1))))))) ((b g c e (bAt c e) false f).trans (congr (congr rfl (by kernel_rfl)) (fx4 λz w D A=>(j4 (by kernel_rfl) (A5 λi=>(h z w i)))))))) (A0 ((b g c e (bAt c e) (not (ltI 90 (bAt c e))) f).trans (congr (congr rfl (by kernel_rfl)) (fx4 λp j F B=>(j4 (by kernel_rfl) (A5 λl=>(h p j l)))))) ((b g c e (bAt c e) false f).trans (congr (congr rfl (by kernel_rfl)) (fx4 λq m G C=>(j4 (by kernel_rfl) (A5 λo=>(h q m o)))))))) rfl) rfl))
noncomputable def Bt4{R:Type}(L:Nat)(c:By)(b:Bool->Option R):Option R:=L1 L L c (c.length:Int) 0 (λ_=>b false) (λa=>b (not (a==[])))
theorem Cb8(a:Code)(b:Xa (R:=PV × List Blk × W) L Q Y s a)(c:Xb (R:=PV × List Blk × W) L Q Y s a)(d:By):A7 (X1 L) Q Y (cd [] (K3 [1,0,1,0,0,1,1,0,0,1,1,1] a Lo)) ⟨[pS d]++tps 41,[],s⟩ (I6 (X1 L) am6)=Bt4 L d (λe=>some (pB e,[],s)):=by unfold Bt4;exact(j4 (by kernel_rfl) ((Aq8 L Q Y s (I1 0 (J0 (X1 L) Q Y (cd [1,1] Lo) (I6 (X1 L) am6))) a b c L d (d.length:Int) 0).trans (by kernel_rfl)))
theorem Cb9(d:Nat)(s0):evC (X1 L) (d+1) W Y 32 [pS s0] [] s=Bt4 L s0 (λa=>some (pB a,[],s)):=
 (evE (fn:=am6) (by kernel_rfl)).trans (j4 (by kernel_rfl) (Cb8 L (evC (X1 L) d) Y s (cd [1,0,1,0,0,1,1,0,0,1,1,1] Lo) (Aq6 L (evC (X1 L) d) Y s) (Aq7 L (evC (X1 L) d) Y s) s0))
noncomputable abbrev Bi0:Code:=E5 aq9
noncomputable def Pn(L:Nat):Cfg:=D1 L [69] (A3 [(3,[0,1,0,0,2,0])]) [] (A3 [(9,[2,0]),(8,[0,3,2,0]),(7,[0,3,2,0]),(6,[2,0]),(5,[0,3,0,1,0,11]),(4,[0,3,0,1,0]),(3,[0,3,2,0,0]),(2,[0,3,2,0]),(1,[0,3]),(0,[0])]) [] (A3 [(0,[4]),(1,[0,3,2,0])]) (some [2,0]) [] [] []
noncomputable def Ko{R:Type}(L n:Nat)(b:By)(h j a:Int)(d:Unit->Option R)(i:Int->Option R):Option R:=match n with|0=>none|n+1=>cond (ltI a j) (cond (inR a b.length) (cond (ltI (bAt b a) (48:Int)) (d ()) (cond (inR a b.length) (cond (ltI 57 (bAt b a)) (d ()) (vl (A4 ((10:Int)*(if ((0:Int) > h) then (0:Int) else h))) λe=>cond (inR a b.length) (vl (wu8 ((bAt b a)-48)) λf=>vl (A4 (e+(A4 f))) λc=>vl (if ((65536:Int)<c) then (65536:Int) else c) λg=>Ko L n b g j (A4 (a+1)) d i) none)) none)) none) (i h)
theorem Aq1(n s0 n1 n2 n3):G1 0 ((Pn L).keep 3) (bd (Pn L) Q Y (cd [1,1,0,1,0,0] Bi0)) n ⟨gp [(0,pS s0),(3,pI n1),(2,pI n2),(0,pI n3)] 26,[],s⟩ k =
 Ko L n s0 n1 n2 n3 (λ_=>k .ret ⟨gp [(2,pI (0:Int)),(0,pB false)] 31,[],s⟩) (λn0=>k (.exit 0) ⟨gp [(4,pI n0)] 30,[],s⟩):=by
 induction n generalizing s0 n1 n2 n3 with
 | zero=>rfl
 | succ n a=>rw[Ko];simp only[<-a];kernel_rfl
noncomputable def Cb4{R:Type}(L:Nat)(c:By)(b:Int->Bool->Option R):Option R:=Ko L L c (-1) (c.length:Int) 0 (λ_=>b 0 false) (λa=>b a (ltI a 65536))
theorem Cb5(d:Nat)(s0):evC (Pn L) (d+1) W Y 69 [pS s0] [] s=Cb4 L s0 (λa b=>some (.tup [pI a,pB b],[],s)):=by refine(evE (fn:=aq9) (by kernel_rfl)).trans ?_;generalize evC (Pn L) d=Q;unfold Cb4;exact(j4 (by kernel_rfl) ((Aq1 L Q Y s (I1 0 (J0 (Pn L) Q Y (cd [1,1,1] Bi0) (I6 (Pn L) aq9))) L s0 (-1) (s0.length:Int) 0).trans (by kernel_rfl)))
noncomputable abbrev Ac:Code:=E5 am7
noncomputable def U6(L:Nat):Cfg:=D1 L [37] (A3 []) [(67,Zo),(36,AQ),(60,Qs),(68,TC),(70,Bg7),(69,Bg9),(22,MT)] (A3 [(24,[4,0]),(23,[2,1]),(22,[2,1,8,71]),(21,[2,1,8]),(20,[4,0]),(19,[2,1,6,1,63]),(18,[2,1,6,1,0]),(17,[4,0]),(16,[2,1,3,2,0,54]),(15,[2,1,3,2,0]),(14,[4,0]),(13,[2,1,2,0,50]),(9,[2,1,2,0]),(8,[4,0]),(7,[1,0,1,4,23]),(6,[1,0,1,4]),(12,[2,1,2,0]),(11,[1,0,1,2,0,1,35]),(10,[1,0,1,2,0,1]),(5,[1,0,1,2,0,20]),(4,[1,0,1,2,0]),(3,[1,0,1]),(2,[1,0,1,1,11]),(1,[1,0,1,1]),(0,[1,0,1])]) [67,36,60,70,69,22] (A3 []) (some [4,0]) [] [] []
noncomputable def T5{R:Type}(d e g h:By)(r:Int)(v:By)(t p u i j l m n o f:Int)(c:By)(q:Int->Blk->By->By->Int->By->Int->Int->Int->Int->Int->Int->Int->Int->Int->Int->By->(List Blk)->Option R):Option R:=cond (A2 d.length) (vl (H4 d) λa=>cond ((↑(a).2:Int)!=0) (q (↑(a).2:Int) (bU g h r v t p u i j l m n o f c) ([]:List UInt8) ([]:List UInt8) 0 ([]:List UInt8) 0 0 0 0 0 0 0 0 0 0 ([]:List UInt8) [(bH (↑(C1.kind (a).1):Int) (C1.name (a).1) (↑(C1.v4 (a).1):Int) (↑(c8 (C1.v6 (a).1) 0 0):Int) (↑(c8 (C1.v6 (a).1) 1 0):Int) (↑(c8 (C1.v6 (a).1) 2 0):Int) (↑(c8 (C1.v6 (a).1) 3 0):Int) (↑(c8 (C1.v6 (a).1) 4 0):Int) (↑(c8 (C1.v6 (a).1) 5 0):Int) (↑(c8 (C1.v6 (a).1) 6 0):Int) (↑(c8 (C1.v6 (a).1) 7 0):Int))]) (cond (A2 e.length) (vl (Fh e ([58]:List UInt8)) λb=>cond (A2 b.length) (cond (not (v7 (Su ((-1):Int) b))) (q 16 (bU g h r v t p u i j l m n o f c) ([]:List UInt8) ([]:List UInt8) 0 ([]:List UInt8) 0 0 0 0 0 0 0 0 0 0 ([]:List UInt8) [(bH (↑(C1.kind (a).1):Int) (C1.name (a).1) (↑(C1.v4 (a).1):Int) (↑(c8 (C1.v6 (a).1) 0 0):Int) (↑(c8 (C1.v6 (a).1) 1 0):Int) (↑(c8 (C1.v6 (a).1) 2 0):Int) (↑(c8 (C1.v6 (a).1) 3 0):Int) (↑(c8 (C1.v6 (a).1) 4 0):Int) (↑(c8 (C1.v6 (a).1) 5 0):Int) (↑(c8 (C1.v6 (a).1) 6 0):Int) (↑(c8 (C1.v6 (a).1) 7 0):Int))]) (cond ((Zh b)!=(Fi g)) (q 0 (bU g h (↑(C1.kind (a).1):Int) (C1.name (a).1) (↑(C1.v4 (a).1):Int) (↑(c8 (C1.v6 (a).1) 0 0):Int) (↑(c8 (C1.v6 (a).1) 1 0):Int) (↑(c8 (C1.v6 (a).1) 2 0):Int) (↑(c8 (C1.v6 (a).1) 3 0):Int) (↑(c8 (C1.v6 (a).1) 4 0):Int) (↑(c8 (C1.v6 (a).1) 5 0):Int) (↑(c8 (C1.v6 (a).1) 6 0):Int) (↑(c8 (C1.v6 (a).1) 7 0):Int) (Zh b) c) g h (↑(C1.kind (a).1):Int) (C1.name (a).1) (↑(C1.v4 (a).1):Int) (↑(c8 (C1.v6 (a).1) 0 0):Int) (↑(c8 (C1.v6 (a).1) 1 0):Int) (↑(c8 (C1.v6 (a).1) 2 0):Int) (↑(c8 (C1.v6 (a).1) 3 0):Int) (↑(c8 (C1.v6 (a).1) 4 0):Int) (↑(c8 (C1.v6 (a).1) 5 0):Int) (↑(c8 (C1.v6 (a).1) 6 0):Int) (↑(c8 (C1.v6 (a).1) 7 0):Int) (Zh b) c [(bH (↑(C1.kind (a).1):Int) (C1.name (a).1) (↑(C1.v4 (a).1):Int) (↑(c8 (C1.v6 (a).1) 0 0):Int) (↑(c8 (C1.v6 (a).1) 1 0):Int) (↑(c8 (C1.v6 (a).1) 2 0):Int) (↑(c8 (C1.v6 (a).1) 3 0):Int) (↑(c8 (C1.v6 (a).1) 4 0):Int) (↑(c8 (C1.v6 (a).1) 5 0):Int) (↑(c8 (C1.v6 (a).1) 6 0):Int) (↑(c8 (C1.v6 (a).1) 7 0):Int))]) (q 0 (bU g h (↑(C1.kind (a).1):Int) (C1.name (a).1) (↑(C1.v4 (a).1):Int) (↑(c8 (C1.v6 (a).1) 0 0):Int) (↑(c8 (C1.v6 (a).1) 1 0):Int) (↑(c8 (C1.v6 (a).1) 2 0):Int) (↑(c8 (C1.v6 (a).1) 3 0):Int) (↑(c8 (C1.v6 (a).1) 4 0):Int) (↑(c8 (C1.v6 (a).1) 5 0):Int) (↑(c8 (C1.v6 (a).1) 6 0):Int) (↑(c8 (C1.v6 (a).1) 7 0):Int) f c) g h (↑(C1.kind (a).1):Int) (C1.name (a).1) (↑(C1.v4 (a).1):Int) (↑(c8 (C1.v6 (a).1) 0 0):Int) (↑(c8 (C1.v6 (a).1) 1 0):Int) (↑(c8 (C1.v6 (a).1) 2 0):Int) (↑(c8 (C1.v6 (a).1) 3 0):Int) (↑(c8 (C1.v6 (a).1) 4 0):Int) (↑(c8 (C1.v6 (a).1) 5 0):Int) (↑(c8 (C1.v6 (a).1) 6 0):Int) (↑(c8 (C1.v6 (a).1) 7 0):Int) f c [(bH (↑(C1.kind (a).1):Int) (C1.name (a).1) (↑(C1.v4 (a).1):Int) (↑(c8 (C1.v6 (a).1) 0 0):Int) (↑(c8 (C1.v6 (a).1) 1 0):Int) (↑(c8 (C1.v6 (a).1) 2 0):Int) (↑(c8 (C1.v6 (a).1) 3 0):Int) (↑(c8 (C1.v6 (a).1) 4 0):Int) (↑(c8 (C1.v6 (a).1) 5 0):Int) (↑(c8 (C1.v6 (a).1) 6 0):Int) (↑(c8 (C1.v6 (a).1) 7 0):Int))]))) none) none)) none
abbrev Mx(b:Code):Prop:=∀(k:Out->St W->Option R) name0 tail1 b2 l s4 n5 s6 i h j a c d e f g n16 s17,A7 (U6 L) Q Y b ⟨gp [(2,.ptr 0 0 0),(1,.ptr 1 0 0),(2,pS name0),(0,pS tail1),(50,pB b2)] 29,[(bU l s4 n5 s6 i h j a c d e f g n16 s17),bU0],s⟩ k=T5 name0 tail1 l s4 n5 s6 i h j a c d e f g n16 s17 (λn0 o r l p t q i h j a c d e f g n m=>k .ret ⟨gp [(4,.ptr 1 0 0),(0,pI n0)] 83,(o::(bU r l p t q i h j a c d e f g n)::m),s⟩)
theorem Tt:Mx (R:=R) L Q Y s (cd [1,1,1,1,1] Ac):=by intro k a b m q r n t o j p c d e f g h i l;unfold T5;kernel_rfl
noncomputable def N1{R:Type}(b a s2 s3:By)(n4:Int)(s5:By)(n6 n7 i n9 c d e f g h:Int)(j:By)(k0:Int->Blk->By->By->Int->By->Int->Int->Int->Int->Int->Int->Int->Int->Int->Int->By->(List Blk)->Option R):Option R:=cond (not (a==[])) (cond (inR 0 a.length) (cond ((bAt a (0:Int))!=58) (k0 4 (bU s2 s3 n4 s5 n6 n7 i n9 c d e f g h j) ([]:List UInt8) ([]:List UInt8) 0 ([]:List UInt8) 0 0 0 0 0 0 0 0 0 0 ([]:List UInt8) []) (T5 b a s2 s3 n4 s5 n6 n7 i n9 c d e f g h j (λp l S T q U r t u v w x y z A B V n=>k0 p l S T q U r t u v w x y z A B V n))) none) (T5 b a s2 s3 n4 s5 n6 n7 i n9 c d e f g h j (λC m X Z D a0 F G H I J K M N O P a1 o=>k0 C m X Z D a0 F G H I J K M N O P a1 o))
abbrev My(b:Code):Prop:=∀(k:Out->St W->Option R) name0 tail1 o p j q l m h n a c d e f g i,A7 (U6 L) Q Y b ⟨gp [(2,.ptr 0 0 0),(1,.ptr 1 0 0),(2,pS name0),(0,pS tail1)] 80,[(bU o p j q l m h n a c d e f g i),bU0],s⟩ k=N1 name0 tail1 o p j q l m h n a c d e f g i (λn0 t o p j q l m h n a c d e f g i r=>k .ret ⟨gp [(4,.ptr 1 0 0),(0,pI n0)] 83,(t::(bU o p j q l m h n a c d e f g i)::r),s⟩)
theorem SG(b:Code)(a:Mx (R:=R) L Q Y s b):My (R:=R) L Q Y s (cd [1,1,1,1] (K3 [1,1,1,1,1] b Ac)):=by intro k d c r t n u o p l q e f g h i j m;unfold N1;exact(j4 (by kernel_rfl) (A0 (A0 (A0 rfl ((a k d c ((bAt c (0:Int))!=58) r t n u o p l q e f g h i j m).trans (by kernel_rfl))) rfl) ((a k d c false r t n u o p l q e f g h i j m).trans (by kernel_rfl))))
theorem SH:My (R:=R) L Q Y s (cd [1,1,1,1] Ac):=by intro k a b p q l r m n i o c d e f g h j;exact j4 (by kernel_rfl) (SG L Q Y s (cd [1,1,1,1,1] Ac) (Tt L Q Y s) k a b p q l r m n i o c d e f g h j)
noncomputable def Oe{R:Type}(a J K:By)(G:Int)(M:By)(H C I v w x y z A B:Int)(D:By)(F:Int->Blk->By->By->Int->By->Int->Int->Int->Int->Int->Int->Int->Int->Int->Int->By->(List Blk)->Option R):Option R:=T5 a ([]:List UInt8) J K G M H C I v w x y z A B D (λd b q r e t f g h i j l m n o p u c=>F d b q r e t f g h i j l m n o p u c)
abbrev Mz(b:Code):Prop:=∀(k:Out->St W->Option R) authority0 kk1 b2 l s4 n5 s6 i h j a c d e f g n16 s17,A7 (U6 L) Q Y b ⟨gp [(1,pS authority0),(0,.ptr 0 0 0),(1,.ptr 1 0 0),(2,pS authority0),(0,pS ([]:List UInt8)),(1,pI kk1),(35,pB b2)] 42,[(bU l s4 n5 s6 i h j a c d e f g n16 s17),bU0],s⟩ k=Oe authority0 l s4 n5 s6 i h j a c d e f g n16 s17 (λn0 o r l p t q i h j a c d e f g n m=>k .ret ⟨gp [(4,.ptr 1 0 0),(0,pI n0)] 83,(o::(bU r l p t q i h j a c d e f g n)::m),s⟩)
theorem SJ(c:Code)(a:Mx (R:=R) L Q Y s c):Mz (R:=R) L Q Y s (cd [1,1,1,1] (K3 [1,1,1,1,1] c Ac)):=by intro k b n v r t o u p l q d e f g h i j m;unfold Oe;exact(j4 (by kernel_rfl) ((a k b ([]:List UInt8) false r t o u p l q d e f g h i j m).trans (by kernel_rfl)))
theorem SK:Mz (R:=R) L Q Y s (cd [1,1,1,1] Ac):=by intro k a b m q r n t o j p c d e f g h i l;exact j4 (by kernel_rfl) (SJ L Q Y s (cd [1,1,1,1,1] Ac) (Tt L Q Y s) k a b m q r n t o j p c d e f g h i l)
noncomputable def Qi{R:Type}(L:Nat)(u0 u1:By)(u2:Int)(u3:By)(u4 u5 u6 u7 u8 u9 e f g h:Int)(i a:By)(k0:By->By->Int->By->Int->Int->Int->Int->Int->Int->Int->Int->Int->Int->By->Int->(List Blk)->Option R):Option R:=cond (A2 a.length) (vl (J8 (u8n (64:Int)) a) λc2=>cond (not (ltI c2 0)) (cond (O6 0 c2 a.length) (vl (cut a 0 c2) λe6=>cond (O6 (A4 (c2+1)) (a.length:Int) a.length) (vl (cut a (A4 (c2+1)) (a.length:Int)) λb=>cond (A2 b.length) (cond (o0 ([91]:List UInt8) b) (cond (A2 b.length) (vl (aa0 b (u8n (93:Int))) λJ=>cond (ltI J 0) (k0 ([]:List UInt8) ([]:List UInt8) 0 ([]:List UInt8) 0 0 0 0 0 0 0 0 0 0 ([]:List UInt8) 4 [(bU u0 e6 u2 u3 u4 u5 u6 u7 u8 u9 e f g h i),bU0]) (vl (A4 (J+1)) λe7=>cond (O6 0 e7 b.length) (vl (A4 (J+1)) λe8=>cond (O6 e8 (b.length:Int) b.length) (vl (cut b e8 (b.length:Int)) λi4=>N1 (cut b 0 e7) i4 u0 e6 u2 u3 u4 u5 u6 u7 u8 u9 e f g h i (λi3 i2 g2 g3 f1 g4 f2 f3 f4 f5 f6 f7 f8 f9 g0 g1 g5 h1=>k0 g2 g3 f1 g4 f2 f3 f4 f5 f6 f7 f8 f9 g0 g1 g5 i3 (i2::((bU g2 g3 f1 g4 f2 f3 f4 f5 f6 f7 f8 f9 g0 g1 g5)::h1)))) none) none)) none) (cond (A2 b.length) (vl (aa0 b (u8n (58:Int))) λc=>cond (not (ltI c 0)) (cond (O6 0 c b.length) (cond (O6 c (b.length:Int) b.length) (vl (cut b c (b.length:Int)) λi5=>N1 (cut b 0 c) i5 u0 e6 u2 u3 u4 u5 u6 u7 u8 u9 e f g h i (λh7 g6 c3 c4 j c5 l m n o p q r t u v c6 h2=>k0 c3 c4 j c5 l m n o p q r t u v c6 h7 (g6::((bU c3 c4 j c5 l m n o p q r t u v c6)::h2)))) none) none) (Oe b u0 e6 u2 u3 u4 u5 u6 u7 u8 u9 e f g h i (λh8 g7 c7 d0 w d1 x y z A B C D F G H d2 h3=>k0 c7 d0 w d1 x y z A B C D F G H d2 h8 (g7::((bU c7 d0 w d1 x y z A B C D F G H d2)::h3))))) none)) none) none) none) (cond (A2 a.length) (cond (o0 ([91]:List UInt8) a) (cond (A2 a.length) (vl (aa0 a (u8n (93:Int))) λc1=>cond (ltI c1 0) (k0 ([]:List UInt8) ([]:List UInt8) 0 ([]:List UInt8) 0 0 0 0 0 0 0 0 0 0 ([]:List UInt8) 4 [(bU u0 u1 u2 u3 u4 u5 u6 u7 u8 u9 e f g h i),bU0]) (vl (A4 (c1+1)) λe9=>cond (O6 0 e9 a.length) (vl (cut a 0 e9) λi6=>vl (A4 (c1+1)) λf0=>cond (O6 f0 (a.length:Int) a.length) (vl (cut a f0 (a.length:Int)) λi7=>N1 i6 i7 u0 u1 u2 u3 u4 u5 u6 u7 u8 u9 e f g h i (λh9 g8 d3 d4 I d5 K M N O P S T U V X d6 h4=>k0 d3 d4 I d5 K M N O P S T U V X d6 h9 (g8::((bU d3 d4 I d5 K M N O P S T U V X d6)::h4)))) none) none)) none) (cond (A2 a.length) (vl (aa0 a (u8n (58:Int))) λd=>cond (not (ltI d 0)) (cond (O6 0 d a.length) (vl (cut a 0 d) λi9=>cond (O6 d (a.length:Int) a.length) (vl (cut a d (a.length:Int)) λj3=>N1 i9 j3 u0 u1 u2 u3 u4 u5 u6 u7 u8 u9 e f g h i (λi0 g9 d7 d8 Z d9 a0 a1 a2 a3 a4 a5 a6 a7 a8 a9 e1 h5=>k0 d7 d8 Z d9 a0 a1 a2 a3 a4 a5 a6 a7 a8 a9 e1 i0 (g9::((bU d7 d8 Z d9 a0 a1 a2 a3 a4 a5 a6 a7 a8 a9 e1)::h5)))) none) none) (Oe a u0 u1 u2 u3 u4 u5 u6 u7 u8 u9 e f g h i (λi1 h0 e2 e3 b0 e4 b1 b2 b3 b4 b5 b6 b7 b8 b9 c0 e5 h6=>k0 e2 e3 b0 e4 b1 b2 b3 b4 b5 b6 b7 b8 b9 c0 e5 i1 (h0::((bU e2 e3 b0 e4 b1 b2 b3 b4 b5 b6 b7 b8 b9 c0 e5)::h6))))) none)) none)) none
theorem Bd2(d:Code)(a:My (R:=PV × List Blk × W) L Q Y s d)(c:Mz (R:=PV × List Blk × W) L Q Y s d)(m G:By)(n:Int)(o:By)(p q r t u8 u e f g h:Int)(i b:By):A7 (U6 L) Q Y (cd [] (K3 [1,1,1,1] d Ac)) ⟨[(gU m G n o p q r t u8 u e f g h i),pS b]++tps 87,[],s⟩ (I6 (U6 L) am7)=Qi L m G n o p q r t u8 u e f g h i b (λZ r1 r2 r3 r4 r5 r6 r7 r8 r9 I J K M N O H=>some (.tup [(gU Z r1 r2 r3 r4 r5 r6 r7 r8 r9 I J K M N),pI O],H,s)):=by unfold Qi;exact let x:=(I6 (U6 L) am7);(j4 (by kernel_rfl) (A0 (A5 λX=>(A0 (A0 (A5 λv=>(A0 (A5 λw=>(A0 (A0 (A0 (A5 λP=>(A0 rfl (A5 λy=>(A0 (A5 λS=>(A0 (A5 λz=>((a x (cut w 0 y) z m v n o p q r t u8 u e f g h i).trans (by kernel_rfl))) rfl)) rfl)))) rfl) (A0 (A5 λj=>(A0 (A0 (A0 (A5 λA=>((a x (cut w 0 j) A m v n o p q r t u8 u e f g h i).trans (by kernel_rfl))) rfl) rfl) ((c x w j (not (ltI j 0)) m v n o p q r t u8 u e f g h i).trans (by kernel_rfl)))) rfl)) rfl)) rfl)) rfl) (A0 (A0 (A0 (A5 λT=>(A0 rfl (A5 λU=>(A0 (A5 λB=>(A5 λV=>(A0 (A5 λC=>((a x B C m G n o p q r t u8 u e f g h i).trans (by kernel_rfl))) rfl))) rfl)))) rfl) (A0 (A5 λl=>(A0 (A0 (A5 λD=>(A0 (A5 λF=>((a x D F m G n o p q r t u8 u e f g h i).trans (by kernel_rfl))) rfl)) rfl) ((c x b l (not (ltI l 0)) m G n o p q r t u8 u e f g h i).trans (by kernel_rfl)))) rfl)) rfl))) rfl))
theorem Bd3(d:Nat)(u0 u1 u2 u3 u4 u5 u6 u7 u8 u9 u10 u11 u12 u13 u14 authority15):evC (U6 L) (d+1) W Y 37 [(gU u0 u1 u2 u3 u4 u5 u6 u7 u8 u9 u10 u11 u12 u13 u14),pS authority15] [] s=Qi L u0 u1 u2 u3 u4 u5 u6 u7 u8 u9 u10 u11 u12 u13 u14 authority15 (λi j l m n o p q r8 r b c e f g h a=>some (.tup [(gU i j l m n o p q r8 r b c e f g),pI h],a,s)):=
 (evE (fn:=am7) (by kernel_rfl)).trans (j4 (by kernel_rfl) (Bd2 L (evC (U6 L) d) Y s (cd [1,1,1,1] Ac) (SH L (evC (U6 L) d) Y s) (SK L (evC (U6 L) d) Y s) u0 u1 u2 u3 u4 u5 u6 u7 u8 u9 u10 u11 u12 u13 u14 authority15))
noncomputable abbrev Bi1:Code:=E5 aq3
noncomputable def Po(L:Nat):Cfg:=D1 L [20] (A3 [(2,[0,1,0,8,0])]) [(31,Aa4),(32,Bh0),(33,AX),(12,Nj),(34,ZS),(35,ML),(36,AQ),(37,TL)] (A3 [(23,[2,0]),(22,[2,5,0]),(21,[2,5,0,65]),(20,[2,5,0]),(19,[2,3,1,0]),(18,[2,3,1,0,0,52]),(17,[2,3,1,0,0]),(16,[2,3,1,0]),(15,[2,0]),(14,[2,3,1,48]),(13,[2,3,0,0]),(12,[2,0]),(11,[2,3,1,40]),(10,[2,3,1]),(9,[2,0]),(8,[2,2,0,33]),(7,[2,2,0,0]),(6,[0,1,9,0]),(5,[2,0]),(4,[0,1,9,0,11]),(3,[0,1,1,7,0]),(2,[0,1,9,0,0]),(1,[0,1,9,0]),(0,[0,1])]) [31,32,33,12,34,35,36] (A3 [(0,[0,1]),(1,[0,1,9,0])]) (some [2,0]) [] [] []
noncomputable def He{R:Type}(L n:Nat)(b:By)(e a:Int)(c:(List Blk)->Option R)(d:By->Option R):Option R:=match n with|0=>none|n+1=>cond (ltI a e) (cond (inR a b.length) (cond (not (ltI 32 (bAt b a))) (c []) (cond (inR a b.length) (cond ((bAt b a)==127) (c []) (He L n b e (A4 (a+1)) c d)) none)) none) (d b)
theorem Aq5(n a n1 n2):G1 1 ((Po L).keep 2) (bd (Po L) Q Y (cd [1,0,1,0,0] Bi1)) n ⟨gp [(0,pS a),(1,.ptr 0 0 0),(9,pI n1),(0,pI n2)] 71,[bU0],s⟩ k =
 He L n a n1 n2 (λb=>k .ret ⟨gp [(2,.ptr 0 0 0),(0,pI (4:Int))] 81,(bU0::b),s⟩) (λa=>k (.exit 0) ⟨gp [(0,pS a),(1,.ptr 0 0 0)] 82,[bU0],s⟩):=by
 induction n generalizing a n1 n2 with
 | zero=>rfl
 | succ n c=>rw[He];simp only[<-c];kernel_rfl
noncomputable def HK{R:Type}(L:Nat)(q:By)(n:By->By->Int->By->Int->Int->Int->Int->Int->Int->Int->Int->Int->Int->By->Int->(List Blk)->Option R):Option R:=He L L q (q.length:Int) 0 (λp=>n ([]:List UInt8) ([]:List UInt8) 0 ([]:List UInt8) 0 0 0 0 0 0 0 0 0 0 ([]:List UInt8) 4 (bU0::p)) (λo=>cond (A2 o.length) (vl ((w7 o ([58]:List UInt8))).1 λf=>vl (((w7 o ([58]:List UInt8))).2).1 λj=>cond (not (((w7 o ([58]:List UInt8))).2).2) (n ([]:List UInt8) ([]:List UInt8) 0 ([]:List UInt8) 0 0 0 0 0 0 0 0 0 0 ([]:List UInt8) 15 [bU0]) (cond (A2 f.length) (cond (not (Ca f)) (n ([]:List UInt8) ([]:List UInt8) 0 ([]:List UInt8) 0 0 0 0 0 0 0 0 0 0 ([]:List UInt8) 15 [bU0]) (cond (A2 f.length) (cond (not (E9 (D0 f))) (n (D0 f) ([]:List UInt8) 0 ([]:List UInt8) 0 0 0 0 0 0 0 0 0 (-1) j 0 [(bU (D0 f) ([]:List UInt8) (0:Int) ([]:List UInt8) (0:Int) (0:Int) (0:Int) (0:Int) (0:Int) (0:Int) (0:Int) (0:Int) (0:Int) ((-1):Int) j),(bU (D0 f) ([]:List UInt8) (0:Int) ([]:List UInt8) (0:Int) (0:Int) (0:Int) (0:Int) (0:Int) (0:Int) (0:Int) (0:Int) (0:Int) ((-1):Int) j)]) (cond (A2 j.length) (vl (Fh j ([47,47]:List UInt8)) λe=>cond (not (o0 ([47,47]:List UInt8) j)) (n ([]:List UInt8) ([]:List UInt8) 0 ([]:List UInt8) 0 0 0 0 0 0 0 0 0 0 ([]:List UInt8) 4 [bU0,(bU (D0 f) ([]:List UInt8) (0:Int) ([]:List UInt8) (0:Int) (0:Int) (0:Int) (0:Int) (0:Int) (0:Int) (0:Int) (0:Int) (0:Int) ((-1):Int) j)]) (cond (A2 e.length) (cond (Wf ([47,63,35]:List UInt8)) (vl (ad5 e ([47,63,35]:List UInt8)) λi=>cond (not (ltI i 0)) (cond (O6 0 i e.length) (cond (O6 (↑(c9 (cut e 0 i)):Int) (e.length:Int) e.length) (vl (cut e (↑(c9 (cut e 0 i)):Int) (e.length:Int)) λg=>cond (A2 g.length) (cond (not (o0 ([47]:List UInt8) g)) (cond (P5 1 g.length) (vl (([47]:List UInt8)++g) λl=>cond (A2 (c9 (D0 f))) (cond (A2 l.length) (cond (A2 (c9 (cut e 0 i))) (cond (((-1):Int)==((-1):Int)) (vl (G2 (D0 f) l (cut e 0 i)) λa=>n (uS a) (uU a) (uK a) (uN a) (uV a) (uA a 0) (uA a 1) (uA a 2) (uA a 3) (uA a 4) (uA a 5) (uA a 6) (uA a 7) (uP a) (uR a) (uE a) [(bQ a),(bU (D0 f) ([]:List UInt8) (0:Int) ([]:List UInt8) (0:Int) (0:Int) (0:Int) (0:Int) (0:Int) (0:Int) (0:Int) (0:Int) (0:Int) ((-1):Int) l)]) none) none) none) none) none) (cond (A2 (c9 (D0 f))) (cond (A2 g.length) (cond (A2 (c9 (cut e 0 i))) (cond (((-1):Int)==((-1):Int)) (vl (G2 (D0 f) g (cut e 0 i)) λb=>n (uS b) (uU b) (uK b) (uN b) (uV b) (uA b 0) (uA b 1) (uA b 2) (uA b 3) (uA b 4) (uA b 5) (uA b 6) (uA b 7) (uP b) (uR b) (uE b) [(bQ b),(bU (D0 f) ([]:List UInt8) (0:Int) ([]:List UInt8) (0:Int) (0:Int) (0:Int) (0:Int) (0:Int) (0:Int) (0:Int) (0:Int) (0:Int) ((-1):Int) g)]) none) none) none) none)) none) none) none) (cond (O6 (e.length:Int) (e.length:Int) e.length) (vl (cut e (e.length:Int) (e.length:Int)) λh=>cond (A2 h.length) (cond (not (o0 ([47]:List UInt8) h)) (cond (P5 1 h.length) (vl (([47]:List UInt8)++h) λm=>cond (A2 (c9 (D0 f))) (cond (A2 m.length) (cond (A2 e.length) (cond (((-1):Int)==((-1):Int)) (vl (G2 (D0 f) m e) λc=>n (uS c) (uU c) (uK c) (uN c) (uV c) (uA c 0) (uA c 1) (uA c 2) (uA c 3) (uA c 4) (uA c 5) (uA c 6) (uA c 7) (uP c) (uR c) (uE c) [(bQ c),(bU (D0 f) ([]:List UInt8) (0:Int) ([]:List UInt8) (0:Int) (0:Int) (0:Int) (0:Int) (0:Int) (0:Int) (0:Int) (0:Int) (0:Int) ((-1):Int) m)]) none) none) none) none) none) (cond (A2 (c9 (D0 f))) (cond (A2 h.length) (cond (A2 e.length) (cond (((-1):Int)==((-1):Int)) (vl (G2 (D0 f) h e) λd=>n (uS d) (uU d) (uK d) (uN d) (uV d) (uA d 0) (uA d 1) (uA d 2) (uA d 3) (uA d 4) (uA d 5) (uA d 6) (uA d 7) (uP d) (uR d) (uE d) [(bQ d),(bU (D0 f) ([]:List UInt8) (0:Int) ([]:List UInt8) (0:Int) (0:Int) (0:Int) (0:Int) (0:Int) (0:Int) (0:Int) (0:Int) (0:Int) ((-1):Int) h)]) none) none) none) none)) none) none)) none) none)) none)) none)) none)) none)
theorem Cb6(d:Nat)(s0):evC (Po L) (d+1) W Y 20 [pS s0] [] s=HK L s0 (λi j l m n o p q r8 r b c e f g h a=>some (.tup [(gU i j l m n o p q r8 r b c e f g),pI h],a,s)):=by refine(evE (fn:=aq3) (by kernel_rfl)).trans ?_;generalize evC (Po L) d=Q;unfold HK;exact(j4 (by kernel_rfl) ((Aq5 L Q Y s (I1 0 (J0 (Po L) Q Y (cd [1,1] Bi1) (I6 (Po L) aq3))) L s0 (s0.length:Int) 0).trans (by kernel_rfl)))
noncomputable def CL(L:Nat):Cfg:=D1 L [10] (A3 []) [(20,Aa5)] (A3 [(3,[2,0]),(2,[2,0]),(1,[0,1,3]),(0,[0,1])]) [] (A3 []) (some [2,0]) [] [] []
noncomputable def SE{R:Type}(L:Nat)(b:By)(c:By->By->Int->By->Int->Int->Int->Int->Int->Int->Int->Int->Int->Int->By->Int->(List Blk)->Option R):Option R:=cond (ltI 2048 (b.length:Int)) (c ([]:List UInt8) ([]:List UInt8) 0 ([]:List UInt8) 0 0 0 0 0 0 0 0 0 0 ([]:List UInt8) 3 [bU0]) (cond (A2 b.length) (vl (F2 b) λa=>c (uS a) (uU a) (uK a) (uN a) (uV a) (uA a 0) (uA a 1) (uA a 2) (uA a 3) (uA a 4) (uA a 5) (uA a 6) (uA a 7) (uP a) (uR a) (uE a) [(bQ a)]) none)
theorem Bd0(d:Nat)(s0):evC (CL L) (d+1) W Y 10 [pS s0] [] s=SE L s0 (λi j l m n o p q r8 r b c e f g h a=>some (.tup [(gU i j l m n o p q r8 r b c e f g),pI h],a,s)):=by refine(evE (fn:=Tryz.f10) (by kernel_rfl)).trans ?_;generalize evC (CL L) d=Q;unfold SE;kernel_rfl
noncomputable def NY(L:Nat):Cfg:=D1 L [41] (A3 []) [(12,Nj),(14,AP),(43,At2)] (A3 [(9,[2]),(8,[1,1]),(7,[1,1,28]),(6,[1,1]),(5,[1,1]),(4,[1,1,15]),(3,[1,1]),(2,[2]),(1,[1,5]),(0,[1])]) [12,14,43] (A3 []) (some [2]) [] [] []
noncomputable def Ou{R:Type}(L:Nat)(l t:By)(u:Int)(m:By)(n o p q u8 r e f g b:Int)(a:By)(v:By->(List Blk)->Option R):Option R:=cond (not (E9 l)) (cond (P5 l.length 1) (vl (l++[58]) λw=>cond (P5 w.length a.length) (v (w++a) [(bU l t u m n o p q u8 r e f g b a)]) none) none) (cond (P5 l.length 3) (vl (l++[58,47,47]) λc=>cond (not (t==[])) (cond (P5 t.length 1) (vl (t++[64]) λh=>cond (P5 c.length h.length) (cond (A2 m.length) (cond (ltN n 4294967296) (cond (ok8 o p q u8 r e f g) (vl (Fm (mkH u m n (n8 o p q u8 r e f g))) λj=>cond (P5 (c9 (c++h)) j.length) (cond (b !=((-1):Int)) (cond (Lc b) (cond (P5 1 (c9 (Ku b))) (vl (([58]:List UInt8)++(Ku b)) λz=>cond (P5 (c9 ((c++h)++j)) z.length) (vl (((c++h)++j)++z) λA=>cond (P5 A.length a.length) (v (A++a) [(bU l t u m n o p q u8 r e f g b a)]) none) none) none) none) (cond (P5 (c9 ((c++h)++j)) a.length) (vl (((c++h)++j)++a) λx=>v x [(bU l t u m n o p q u8 r e f g b a)]) none)) none) none) none) none) none) none) (cond (A2 m.length) (cond (ltN n 4294967296) (cond (ok8 o p q u8 r e f g) (vl (Fm (mkH u m n (n8 o p q u8 r e f g))) λd=>cond (P5 c.length d.length) (cond (b !=((-1):Int)) (cond (Lc b) (cond (P5 1 (c9 (Ku b))) (vl (([58]:List UInt8)++(Ku b)) λi=>cond (P5 (c9 (c++d)) i.length) (cond (P5 (c9 ((c++d)++i)) a.length) (vl (((c++d)++i)++a) λy=>v y [(bU l t u m n o p q u8 r e f g b a)]) none) none) none) none) (cond (P5 (c9 (c++d)) a.length) (v ((c++d)++a) [(bU l t u m n o p q u8 r e f g b a)]) none)) none) none) none) none)) none)
theorem Bt6(d:Nat)(u0 u1 u2 u3 u4 u5 u6 u7 u8 u9 u10 u11 u12 u13 u14):evC (NY L) (d+1) W Y 41 [(gU u0 u1 u2 u3 u4 u5 u6 u7 u8 u9 u10 u11 u12 u13 u14)] [] s=Ou L u0 u1 u2 u3 u4 u5 u6 u7 u8 u9 u10 u11 u12 u13 u14 (λb a=>some (pS b,a,s)):=by refine(evE (fn:=Tryz.f41) (by kernel_rfl)).trans ?_;generalize evC (NY L) d=Q;unfold Ou;kernel_rfl
noncomputable def Vm(L:Nat):Cfg:=D1 L [23] (A3 []) [(41,Au0),(20,Aa5)] (A3 [(2,[2]),(1,[1,1,0]),(0,[1])]) [41] (A3 []) (some [2]) [] [] []
noncomputable def AG{R:Type}(L:Nat)(h i:By)(q:Int)(j:By)(l m n o u8 p b c d e:Int)(f:By)(r:Bool->(List Blk)->Option R):Option R:=cond (smU h i j f) (cond (ltN l 4294967296) (cond (ok8 m n o u8 p b c d) (cond (Lc e) (vl (Df (mkU h i q j l (n8 m n o u8 p b c d) e f)) λg=>cond (A2 g.length) (vl (F2 g) λa=>cond ((uE a)==0) (r ((h==(uS a))&&((i==(uU a))&&((q==(uK a))&&((j==(uN a))&&((l==(uV a))&&((m==(uA a 0))&&((n==(uA a 1))&&((o==(uA a 2))&&((u8==(uA a 3))&&((p==(uA a 4))&&((b==(uA a 5))&&((c==(uA a 6))&&((d==(uA a 7))&&((e==(uP a))&&((f==(uR a))&&true))))))))))))))) [(bU h i q j l m n o u8 p b c d e f),(bQ a)]) (r false [(bU h i q j l m n o u8 p b c d e f),(bQ a)])) none) none) none) none) none
theorem Ar0(d:Nat)(u0 u1 u2 u3 u4 u5 u6 u7 u8 u9 u10 u11 u12 u13 u14):evC (Vm L) (d+1) W Y 23 [(gU u0 u1 u2 u3 u4 u5 u6 u7 u8 u9 u10 u11 u12 u13 u14)] [] s=AG L u0 u1 u2 u3 u4 u5 u6 u7 u8 u9 u10 u11 u12 u13 u14 (λb a=>some (pB b,a,s)):=by refine(evE (fn:=Tryz.f23) (by kernel_rfl)).trans ?_;generalize evC (Vm L) d=Q;unfold AG;kernel_rfl
end
section
variable {W R : Type} (L : Nat) (Q : E3) (Y : Yh W) (s : W) (k : Out -> St W -> Option R)
noncomputable def Vk(L:Nat):Cfg:=D1 L [63] (A3 []) [] (A3 [(1,[2]),(0,[0])]) [] (A3 []) (some [2]) [] [] []
noncomputable def RN{R:Type}(L:Nat)(a:Int)(b:Bool->Option R):Option R:=b (ltI (8:Int) a)
theorem Ap2(d:Nat)(a:Int):evC (Vk L) (d+1) W Y 63 [.s (.int .i64 a)] [] s=RN L a (λb=>some (.s (.bool b),[],s)):=by refine(evE (fn:=Tryz.f63) (by kernel_rfl)).trans ?_;generalize evC (Vk L) d=Q;unfold RN;kernel_rfl
noncomputable abbrev Qz:Code:=E5 an0
noncomputable def Ae(L:Nat):Cfg:=D1 L [90] (A3 []) [] (A3 [(5,[2]),(2,[2]),(4,[2]),(3,[10]),(1,[0,2]),(0,[0])]) [] (A3 [(0,[])]) (some [2]) [] [] []
noncomputable def Jg{R:Type}(a:Int)(d:Bool)(b:Unit->Option R)(c:Bool->Option R):Option R:=cond d (b ()) (cond (ltI (57343:Int) a) (cond (not (ltI (1114111:Int) a)) (b ()) (c (not (ltI (1114111:Int) a)))) (c false))
abbrev Yw(b:Code):Prop:=∀(k:Out->St W->Option R) (c:Int) (a:Bool),A7 (Ae L) Q Y b ⟨gp [(0,.s (.int .i32 c)),(2,.s (.bool a))] 13,[],s⟩ k=Jg c a (λ_=>k .ret ⟨gp [(2,.s (.bool true))] 14,[],s⟩) (λd=>k .normal ⟨gp [(10,.s (.bool d))] 6,[],s⟩)
theorem SL:Yw (R:=R) L Q Y s (cd [1,0,0,1] Qz):=by intro k b a;unfold Jg;kernel_rfl
noncomputable def GH{R:Type}(L:Nat)(b:Int)(a:Bool->Option R):Option R:=cond (not (ltI b (0:Int))) (Jg b (ltI b (55296:Int)) (λ_=>a true) (λc=>a false)) (Jg b false (λ_=>a true) (λd=>a false))
theorem Bd8(b:Code)(a:Yw (R:=PV × List Blk × W) L Q Y s b)(c:Int):A7 (Ae L) Q Y (cd [] (K3 [1,0,0,1] b Qz)) ⟨[.s (.int .i32 c)]++tps 16,[],s⟩ (I6 (Ae L) an0)=GH L c (λc=>some (.s (.bool c),[],s)):=by unfold GH;exact let d:=(I1 0 (J0 (Ae L) Q Y (cd [1,1] Qz) (I6 (Ae L) an0)));(j4 (by kernel_rfl) (A0 ((a d c (ltI c (55296:Int))).trans (by kernel_rfl)) ((a d c false).trans (by kernel_rfl))))
theorem Bd9(d:Nat)(a:Int):evC (Ae L) (d+1) W Y 90 [.s (.int .i32 a)] [] s=GH L a (λa=>some (.s (.bool a),[],s)):=
 (evE (fn:=an0) (by kernel_rfl)).trans (j4 (by kernel_rfl) (Bd8 L (evC (Ae L) d) Y s (cd [1,0,0,1] Qz) (SL L (evC (Ae L) d) Y s) a))
noncomputable abbrev X3:Code:=E5 am8
noncomputable def K2(L:Nat):Cfg:=D1 L [62] (A3 [(38,[4,170]),(29,[0,3,2,0,0,4,0,0]),(25,[0,3,2,0,0,4,0]),(12,[0,3,2,0,0,2]),(5,[0,3,2,0,0])]) [(60,Qs),(90,BT)] (A3 [(35,[4]),(42,[4]),(41,[4]),(40,[5,169,5]),(39,[5,0,168]),(38,[175,0,0]),(37,[175]),(44,[4]),(33,[4]),(22,[4]),(21,[8,0,3,94]),(20,[8,0,3]),(26,[0,6,0,0,4,0]),(32,[4]),(30,[0,6,0,0,4,0,0]),(31,[0,6,0,0,4,0,0,139]),(29,[0,6,0,0,4,0,0,126]),(28,[0,6,0,0,4,0,0]),(27,[0,6,0,0,4,0,123]),(25,[0,6,0,0,4,0,108]),(24,[0,6,0,0,4,0]),(23,[0,6,0,0,4]),(19,[4]),(18,[0,6,0,0,88]),(17,[0,6,0,0,0]),(16,[0,6,0,0,0]),(15,[4]),(13,[0,6,0,0,2]),(14,[0,6,0,0,2,51]),(12,[0,6,0,0,2,38]),(11,[0,6,0,0,2]),(10,[0,6,0,0]),(9,[4]),(8,[0,6,0,0,1,31]),(7,[0,6,0,0,1]),(6,[0,6,0,0,23]),(5,[0,6,0,0,16]),(4,[0,6,0,0]),(3,[0,6,0,0]),(2,[0,6,0]),(1,[0,6]),(43,[0,0,181]),(36,[0,0,169]),(34,[0,0,158]),(0,[0,0])]) [60,90] (A3 [(0,[4]),(9,[]),(10,[175]),(5,[]),(6,[0,6,0,0,4,0]),(7,[8,0]),(8,[0,6,0,0,4,0,0]),(1,[]),(2,[0,6,0,0]),(3,[8,0]),(4,[0,6,0,0,2])]) (some [4]) [] [] []
noncomputable def Br{R:Type}(L n:Nat)(self:Nat->Option R)(a:Nat)(c:Int->Nat->Option R)(d:Nat->Option R):Option R:=cond (decide (a<3)) (vl ((ab4 ⟨aa3 (([47,63,35]:List UInt8))⟩ a)).1 λb=>cond (b==(65533:Int)) (c (↑a:Int) (a+((ab4 ⟨aa3 (([47,63,35]:List UInt8))⟩ a)).2)) (self (a+((ab4 ⟨aa3 (([47,63,35]:List UInt8))⟩ a)).2))) (d a)
noncomputable def W5{R:Type}(L n:Nat)(a:Nat)(b:Int->Nat->Option R)(c:Nat->Option R):Option R:=Bq6 (α:=Nat->Option R) (λ_=>none) (λn self a=>Br L n self a b c) n a
theorem Co{R:Type}(L n:Nat)(a:Nat)(b:Int->Nat->Option R)(c:Nat->Option R):W5 L (n+1) a b c=Br L n (λa=>W5 L n a b c) a b c:=rfl
theorem RK(n:Nat)(a:Nat):G1 1 ((K2 L).keep 38) (bd (K2 L) Q Y (cd [1,0,1,1,1,0,0,1,0,0] X3)) n ⟨gp [(175,.it 0)] 11,[.iter (([47,63,35]:List UInt8)) a],s⟩ k =
 W5 L n a (λn0 c=>k .ret ⟨gp [(4,.s (.int .i64 n0))] 182,[.iter (([47,63,35]:List UInt8)) c],s⟩) (λa=>k (.exit 9) ⟨gp [] 187,[.iter (([47,63,35]:List UInt8)) a],s⟩):=by
 induction n generalizing a with
 | zero=>rfl
 | succ n b=>rw[Co];unfold Br;exact(j4 (by kernel_rfl) (A0 (A5 λd=>(A0 rfl (b (a+((ab4 ⟨aa3 (([47,63,35]:List UInt8))⟩ a)).2)))) rfl))
noncomputable def Qf{R:Type}(L n:Nat)(self:By->Int->Int->Int->Option R)(b:By)(a f c:Int)(g:Int->Int->Option R):Option R:=cond (ltI c (↑(c9 b):Int)) (cond (inR (A4 (f-c)) 3) (vl (bAt (([47,63,35]:List UInt8)) (A4 (f-c))) λd=>cond (inR (A4 (a-c)) (c9 b)) (vl (bAt b (A4 (a-c))) λe=>cond (d !=e) (none) (self b a f (A4 (c+(1:Int))))) (none)) (none)) (g a f)
noncomputable def Ja{R:Type}(L n:Nat)(b:By)(a c d:Int)(e:Int->Int->Option R):Option R:=Bq6 (α:=By->Int->Int->Int->Option R) (λ_ _ _ _=>none) (λn self b a c d=>Qf L n self b a c d e) n b a c d
theorem YF{R:Type}(L n:Nat)(b:By)(a c d:Int)(e:Int->Int->Option R):Ja L (n+1) b a c d e=Qf L n (λb a c d=>Ja L n b a c d e) b a c d e:=rfl
theorem Tj(n:Nat)(b:By)(a d e:Int):G1 0 ((K2 L).keep 12) (bd (K2 L) Q Y (cd [1,0,1,1,1,1,1,1,0,1,1,1,1,0,0,0,1,0,0,1,0,1,0,0] X3)) n ⟨gp [(0,.s (.str (([47,63,35]:List UInt8)))),(6,.s (.str b)),(0,.s (.int .i64 a)),(0,.s (.int .i64 d)),(2,.s (.int .i64 e))] 174,[],s⟩ k =
 Ja L n b a d e (λc h=>k (.exit 3) ⟨gp [(8,.s (.int .i64 c)),(0,.s (.int .i64 h))] 177,[],s⟩):=by
 induction n generalizing b a d e with
 | zero=>rfl
 | succ n i=>rw[YF];unfold Qf;exact(j4 (by kernel_rfl) (A0 (A0 (A5 λf=>(A0 (A5 λg=>(A0 rfl (i b a d (A4 (e+(1:Int)))))) rfl)) rfl) rfl))
noncomputable def Kn{R:Type}(L n:Nat)(self:By->Int->Option R)(b:By)(a:Int)(m:Int->Option R)(o:Unit->Option R):Option R:=cond (ltI a (3:Int)) (cond (inR a 3) (vl (bAt (([47,63,35]:List UInt8)) a) λj=>cond (inR a (c9 b)) (cond (j !=(bAt b a)) (vl (A4 (a+(1:Int))) λe=>cond (O6 e (3:Int) 3) (vl (cut (([47,63,35]:List UInt8)) e (3:Int)) λg=>cond (inR a (c9 b)) (cond (A2 (c9 g)) (cond (inR (bAt b a) 256) (vl (aa0 g (u8n (bAt b a))) λf=>cond (ltI f (0:Int)) (m (-1)) (vl (A4 (f+(1:Int))) λl=>Ja L L b a (A4 (a+l)) 1 (λc h=>m (A4 (h-c))))) (none)) (none)) (none)) (none)) (Ja L L b a a 1 (λd i=>m (A4 (i-d))))) (none)) (none)) (o ())
noncomputable def Eu{R:Type}(L n:Nat)(b:By)(a:Int)(c:Int->Option R)(d:Unit->Option R):Option R:=Bq6 (α:=By->Int->Option R) (λ_ _=>none) (λn self b a=>Kn L n self b a c d) n b a
theorem Yr{R:Type}(L n:Nat)(b:By)(a:Int)(c:Int->Option R)(d:Unit->Option R):Eu L (n+1) b a c d=Kn L n (λb a=>Eu L n b a c d) b a c d:=rfl
theorem RL(n:Nat)(b:By)(a:Int):G1 0 ((K2 L).keep 5) (bd (K2 L) Q Y (cd [1,0,1,1,1,1,1,1,0,1,1,1,1,0,0,0] X3)) n ⟨gp [(0,.s (.str (([47,63,35]:List UInt8)))),(6,.s (.str b)),(0,.s (.int .i64 a)),(0,.s (.int .i64 a))] 177,[],s⟩ k =
 Eu L n b a (λn0=>k .ret ⟨gp [(4,.s (.int .i64 n0))] 182,[],s⟩) (λ_=>k (.exit 1) ⟨gp [] 187,[],s⟩):=by
 induction n generalizing b a with
 | zero=>rfl
 | succ n i=>rw[Yr];unfold Kn;exact let d:=(I1 3 (J0 (K2 L) Q Y (cd [1,0,1,1,1,1,1,1,0,1,1,1,1,0,0,0,1,0,0,1,1] X3) (I1 2 (lpK 0 ((K2 L).keep 5) (bd (K2 L) Q Y (cd [1,0,1,1,1,1,1,1,0,1,1,1,1,0,0,0] X3)) n k))));(j4 (by kernel_rfl) (A0 (A0 (A5 λe=>(A0 (A0 (A5 λf=>(A0 (A5 λh=>(A0 (A0 (A0 (A5 λg=>(A0 rfl (A5 λc=>((Tj L Q Y s d L b a (A4 (a+c)) 1).trans (by kernel_rfl))))) rfl) rfl) rfl)) rfl)) ((Tj L Q Y s d L b a a 1).trans (by kernel_rfl))) rfl)) rfl) rfl))
noncomputable def Iz{R:Type}(L:Nat)(b:Int)(l:Bool)(d:Int->Option R)(j:Int->Nat->Option R):Option R:=cond l (cond (inR (wu8 b) 256) (vl (aa0 (([47,63,35]:List UInt8)) (u8n (wu8 b))) λg=>d g) (none)) (cond (b==(65533:Int)) (W5 L L 0 (λi e=>j i e) (λf=>j (-1) f)) (cond (not (GJ b)) (d (-1)) (vl (Utf8.encode b).data.toList λc=>vl (A4 ((↑(c9 c):Int)-(1:Int))) λh=>Eu L L c h (λa=>d a) (λ_=>d (-1)))))
abbrev Yq(b:Code):Prop:=∀(k:Out->St W->Option R) (c:Int) (a:Bool),A7 (K2 L) Q Y b ⟨gp [(0,.s (.str (([47,63,35]:List UInt8)))),(0,.s (.int .i32 c)),(158,.s (.bool a))] 26,[],s⟩ k=Iz L c a (λn0=>k .ret ⟨gp [(4,.s (.int .i64 n0))] 182,[],s⟩) (λn0 d=>k .ret ⟨gp [(4,.s (.int .i64 n0))] 182,[.iter (([47,63,35]:List UInt8)) d],s⟩)
theorem RJ:Yq (R:=R) L Q Y s (cd [1,0,1] X3):=by intro k e d;unfold Iz;exact(j4 (by kernel_rfl) (A0 (A0 (A5 λc=>rfl) rfl) (A0 ((RK L Q Y s (I1 9 (J0 (K2 L) Q Y (cd [1,0,1,1,1,0,1] X3) k)) L 0).trans (by kernel_rfl)) (A0 rfl (A5 λb=>(A5 λa=>((RL L Q Y s (I1 1 (J0 (K2 L) Q Y (cd [1,0,1,1,1,1,1,1,0,1,1,1,1,1] X3) k)) L b a).trans (by kernel_rfl))))))))
noncomputable def FQ{R:Type}(L:Nat)(r:Int)(g:Int->Option R)(h:Int->Nat->Option R):Option R:=cond (not (ltI r (0:Int))) (Iz L r (ltI r (128:Int)) (λc=>g c) (λd a=>h d a)) (Iz L r false (λe=>g e) (λf b=>h f b))
theorem Bb3(b:Code)(a:Yq (R:=PV × List Blk × W) L Q Y s b)(r:Int):A7 (K2 L) Q Y (cd [] (K3 [1,0,1] b X3)) ⟨[.s (.str (([47,63,35]:List UInt8))),.s (.int .i32 r)]++tps 185,[],s⟩ (I6 (K2 L) am8)=FQ L r (λc=>some (.s (.int .i64 c),[],s)) (λc e=>some (.s (.int .i64 c),[.iter (([47,63,35]:List UInt8)) e],s)):=by unfold FQ;exact let d:=(I1 0 (I6 (K2 L) am8));(j4 (by kernel_rfl) (A0 ((a d r (ltI r (128:Int))).trans (by kernel_rfl)) ((a d r false).trans (by kernel_rfl))))
theorem Bb4(d:Nat)(r:Int):evC (K2 L) (d+1) W Y 62 [.s (.str (([47,63,35]:List UInt8))),.s (.int .i32 r)] [] s=FQ L r (λa=>some (.s (.int .i64 a),[],s)) (λa b=>some (.s (.int .i64 a),[.iter (([47,63,35]:List UInt8)) b],s)):=
 (evE (fn:=am8) (by kernel_rfl)).trans (j4 (by kernel_rfl) (Bb3 L (evC (K2 L) d) Y s (cd [1,0,1] X3) (RJ L (evC (K2 L) d) Y s) r))
noncomputable abbrev UB:Code:=E5 aq6
noncomputable def Fe(L:Nat):Cfg:=D1 L [35] (A3 [(18,[1,2,40]),(12,[0,3,1,1])]) [(62,BI),(63,Up),(64,Lj)] (A3 [(22,[4]),(21,[4]),(20,[1,7,35,7]),(19,[1,7,0,34]),(18,[1,43,0,0]),(17,[1,43]),(16,[4]),(13,[0,5,1]),(15,[4]),(14,[0,5,1,33]),(12,[0,5,1,27]),(11,[0,5,1]),(10,[0,0,4,25]),(9,[0,0,4,0]),(8,[0,0,24]),(7,[4]),(6,[0,4]),(5,[0,4,14]),(4,[0,4]),(3,[0,0,13]),(2,[4]),(1,[0,0,10]),(0,[0,0])]) [62,63] (A3 [(2,[]),(3,[1,43]),(0,[]),(1,[0,5,1])]) (some [4]) [] [] []
noncomputable def V4{R:Type}(L n:Nat)(self:By->Nat->Option R)(b:By)(a:Nat)(d:Int->(List Blk)->Option R)(e:By->Nat->Option R):Option R:=cond (decide (a<(c9 b))) (vl ((ab4 ⟨aa3 b⟩ a)).1 λc=>cond (Wf (([47,63,35]:List UInt8))) (cond (ltN c 1114112) (cond (not (ltI (irn c) (0:Int))) (d (↑a:Int) [(Blk.iter b (a+((ab4 ⟨aa3 b⟩ a)).2))]) (self b (a+((ab4 ⟨aa3 b⟩ a)).2))) (none)) (none)) (e b a)
noncomputable def Iy{R:Type}(L n:Nat)(b:By)(a:Nat)(c:Int->(List Blk)->Option R)(d:By->Nat->Option R):Option R:=Bq6 (α:=By->Nat->Option R) (λ_ _=>none) (λn self b a=>V4 L n self b a c d) n b a
theorem Z6{R:Type}(L n:Nat)(b:By)(a:Nat)(c:Int->(List Blk)->Option R)(d:By->Nat->Option R):Iy L (n+1) b a c d=V4 L n (λb a=>Iy L n b a c d) b a c d:=rfl
theorem RH(n:Nat)(b:By)(a:Nat):G1 1 ((Fe L).keep 18) (bd (Fe L) Q Y (cd [1,1,1,1,0,1,0,0] UB)) n ⟨gp [(1,.s (.str (([47,63,35]:List UInt8)))),(43,.it 0)] 9,[.iter b a],s⟩ k =
 Iy L n b a (λn0 c=>k .ret ⟨gp [(4,.s (.int .i64 n0))] 50,c,s⟩) (λb a=>k (.exit 2) ⟨gp [] 55,[.iter b a],s⟩):=by
 induction n generalizing b a with
 | zero=>rfl
 | succ n d=>rw[Z6];unfold V4;exact(j4 (by kernel_rfl) (A0 (A5 λe=>(A0 (A0 (A0 rfl (d b (a+((ab4 ⟨aa3 b⟩ a)).2))) rfl) rfl)) rfl))
noncomputable def RG{R:Type}(L:Nat)(t:By)(e:Int->(List Blk)->Option R):Option R:=cond (ltI (8:Int) (↑(c9 t):Int)) (none) (Iy L L t 0 (λc a=>e c a) (λd b=>e (-1) [(Blk.iter d b)]))
theorem Bb1(d:Nat)(t:By):evC (Fe L) (d+1) W Y 35 [.s (.str t),.s (.str (([47,63,35]:List UInt8)))] [] s=RG L t (λb a=>some (.s (.int .i64 b),a,s)):=by refine(evE (fn:=aq6) (by kernel_rfl)).trans ?_;generalize evC (Fe L) d=Q;unfold RG;exact(j4 (by kernel_rfl) (A0 rfl ((RH L Q Y s (I1 2 (J0 (Fe L) Q Y (cd [1,1,1,1,1] UB) (I6 (Fe L) aq6))) L t 0).trans (by kernel_rfl))))
end
end
section
open Go
theorem Vq{c:UInt8}{s:By}(h:c∉s):w7 s [c]=(s,[],false):=by unfold w7;rw[Pw h,if_neg (by decide)]
theorem Fg{c:UInt8}{p r:By}(h:c∉p):w7 (p++c::r) [c]=(p,r,true):=by unfold w7;rw[We h,Fo,j1,List.take_left,aa8];rw[show p++c::r=(p++[c])++r by simp,ah9 (by simp)]
def Ss:Int->By->Option Int
 | n,[]=>some n
 | n,b::r=>if 48<=b.toNat/\b.toNat<=57 then Ss (min (10*max n 0+((b.toNat-48:Nat):Int)) 65536) r else none
theorem QH:∀(s:By) (n:Int),Su n s=(Ss n s).bind λm=>if m<65536 then some m else none
 | [],n=>rfl
 | b::r,n=>by
  rw[Su,Ss];split
  ·exact QH r _
  ·rfl
theorem EP:∀(s:By) (n p:Int),-1<=n->Su n s=some p->-1<=p/\p<65536
 | [],n,p,a,h=>by
  rw[Su] at h;split at h
  ·rename_i c;obtain rfl:=af6 h;exact⟨a,c⟩
  ·cases h
 | b::r,n,p,a,h=>by
  rw[Su] at h;split at h
  ·exact EP r _ p (by omega) h
  ·cases h
def Ms(s:By):Prop:=∀b∈s,ctl b=false
def Cs1(s:By):Prop:=∀b∈s,V5 b=false
structure CU (u:U3):Prop where
 ns:E9 u.sch=false->Ca u.sch=true/\D0 u.sch=u.sch/\u.user=[]/\u.host=M6/\u.port=-1/\Ms u.rest
 sp:E9 u.sch=true->Ms u.user/\Cs1 u.user/\Le u.host/\P2 u.host=true/\(u.port=-1\/(0<=u.port/\u.port<=65535/\u.port≠Fi u.sch))/\(∃r,u.rest=47::r)/\Ms u.rest
theorem Bz5{s:By}:s.any ctl=false↔Ms s:=by unfold Ms;rw[List.any_eq_false];exact⟨λh b a=>by simpa using h b a,λh b a=>by simp[h b a]⟩
theorem Mi{e user c a:By}(h:(N6 e user c a).2=0):∃f b,(N6 e user c a).1=⟨e,user,f,b,c⟩/\Le f/\P2 f=true/\(b=-1\/(0<=b/\b<=65535/\b≠Fi e)):=by
 unfold N6 at h ⊢;cases i:Mq a with
 | none=>rw[i] at h;simp at h
 | some q=>
  obtain⟨name,tail⟩:=q;rw[i] at h;simp only at h ⊢;by_cases g:tail≠[]/\tail.head?≠some 58
  ·rw[if_pos g] at h;simp at h
  ·rw[if_neg g] at h ⊢;by_cases d:(H4 name).2≠0
   ·rw[if_pos d] at h;exact absurd h d
   ·rw[if_neg d] at h ⊢;cases j:Su (-1) (tail.drop 1) with
    | none=>rw[j] at h;simp at h
    | some p=>
     have o:=EP _ _ _ (by omega) j;obtain⟨m,n⟩:=A89 name;refine⟨_,_,rfl,m,n (by simpa using d),?_⟩;split
     ·exact .inl rfl
     ·rename_i l;by_cases k:p=-1
      ·exact .inl k
      ·exact .inr ⟨by omega,by omega,l⟩
theorem Kb{c user b a:By}(h:(N6 c user b a).2≠0):(N6 c user b a).1=Ai:=by
 unfold N6 at h ⊢;split
 ·rfl
 ·rename_i name tail f;rw[f] at h;simp only at h ⊢;split
  ·rfl
  ·rename_i d;rw[if_neg d] at h;split
   ·rfl
   ·rename_i e;rw[if_neg e] at h;split
    ·rfl
    ·rename_i p g;rw[g] at h;exact absurd rfl h
theorem Aj2(s:By):D0 (D0 s)=D0 s:=by
 unfold D0;rw[ah3];apply ad0;intro b _;show Aw (Aw b)=Aw b;rcases U9 b with⟨_,e⟩|⟨_,e⟩|⟨c,d,e⟩
 ·rw[e,e]
 ·rw[e,e]
 ·rcases U9 (Aw b) with⟨_,a⟩|⟨_,a⟩|⟨f,g,_⟩
  ·exact a
  ·exact a
  ·omega
theorem Ai9(b:UInt8):T8 (Aw b)=T8 b:=by
 rw[ah7,Y4,Y4];rcases U9 b with⟨_,e⟩|⟨_,e⟩|⟨a,c,e⟩
 ·rw[e]
 ·rw[e]
 ·omega
theorem PU{b c:UInt8}(f:c.toNat<65):Aw b=c↔b=c:=by
 rcases U9 b with⟨_,e⟩|⟨_,e⟩|⟨a,d,e⟩
 ·rw[e]
 ·rw[e]
 ·constructor
  ·intro h;rw[h] at e;omega
  ·intro h;subst h;omega
theorem YA(b:UInt8):X9 (Aw b)=X9 b:=by
 rw[ah7,Yo,Yo,PU (by decide),PU (by decide),PU (by decide)];rcases U9 b with⟨_,e⟩|⟨_,e⟩|⟨a,c,e⟩
 ·rw[e]
 ·rw[e]
 ·constructor
  ·rintro(h|h|h|h)<;>first|omega|exact .inr (.inr (.inr h))
  ·rintro(h|h|h|h)<;>first|omega|exact .inr (.inr (.inr h))
theorem YC(s:By):Ca (D0 s)=Ca s:=by
 cases s with
 | nil=>rfl
 | cons b r=>
  show(T8 (Aw b)&&(r.map Aw).all X9)=(T8 b&&r.all X9)
  rw[Ai9,List.all_map]
  congr 1
  apply List.all_congr rfl;intro b;exact YA b
theorem RM(r:By):∃t,U2 r=47::t:=by
 unfold U2;split
 ·rename_i h;cases r with
  | nil=>cases h
  | cons b t=>
   obtain rfl:=af6 h;exact⟨t,rfl⟩
 ·exact⟨r,rfl⟩
theorem YG{r:By}(h:Ms r):Ms (U2 r):=by
 unfold U2;split
 ·exact h
 ·intro b a;rcases ab5.1 a with rfl|a
  ·decide
  ·exact h b a
theorem A97{j c a:By}(p:E9 j=true)(q:Ms a)(i:Cs1 a)(o:Ms c)(f:∃r,c=47::r)(h:(G2 j c a).2=0):CU (G2 j c a).1:=by
 unfold G2 at h ⊢;by_cases n:0<=J8 64 a
 ·rw[if_pos n] at h ⊢;obtain⟨t,g,e,k,l,m⟩:=Mi h;rw[e];exact⟨λh=>(by rw[p] at h;cases h),λ_=>⟨λb d=>q b (ab0 d),λb d=>i b (ab0 d),k,l,m,f,o⟩⟩
 ·rw[if_neg n] at h ⊢;obtain⟨t,g,e,k,l,m⟩:=Mi h;rw[e];exact⟨λh=>(by rw[p] at h;cases h),λ_=>⟨λb d=>(by cases d),λb d=>(by cases d),k,l,m,f,o⟩⟩
theorem XM{s:By}(h:(F2 s).2=0):CU (F2 s).1:=by
 unfold F2 at h ⊢;cases f:s.any ctl with
 | true=>rw[f] at h;simp at h
 | false=>
  rw[f] at h;have j:=Bz5.1 f;simp only[o6,if_false] at h ⊢;rcases Z7 58 s with c|⟨p,r,rfl,c⟩
  ·rw[Vq c] at h;simp at h
  ·rw[Fg c] at h ⊢;have k:Ms p:=λb d=>j b (by simp[d])
   have g:Ms r:=λb d=>j b (by simp[d])
   cases a:Ca p with
   | false=>rw[a] at h;simp at h
   | true=>
    rw[a] at h;simp only[j5,Bool.or_self,o6,if_false] at h ⊢;cases e:E9 (D0 p) with
    | false=>
     simp only[j6,if_true];exact⟨λ_=>⟨by rw[YC];exact a,Aj2 p,rfl,rfl,rfl,g⟩,λh=>(by simp only at h;rw[e] at h;cases h)⟩
    | true=>
     rw[e] at h;simp only[j5,o6,if_false] at h ⊢;cases i:([47,47]:By).isPrefixOf r with
     | false=>rw[i] at h;simp at h
     | true=>
      rw[i] at h;simp only[j5,o6,if_false] at h ⊢;exact A97 e (λb d=>g b (x9 (ab0 d))) (Ao6 _) (YG λb d=>g b (x9 (x9 d))) (RM _) h
theorem Am8{d b a:By}(h:(G2 d b a).2≠0):(G2 d b a).1=Ai:=by
 unfold G2 at h ⊢;split
 ·rename_i c;rw[if_pos c] at h;exact Kb h
 ·rename_i c;rw[if_neg c] at h;exact Kb h
theorem JR{s:By}(h:(F2 s).2≠0):(F2 s).1=Ai:=by
 unfold F2 at h ⊢;split
 ·rfl
 ·rename_i b;rw[if_neg b] at h;split
  ·rfl
  ·rename_i c;rw[if_neg c] at h;split
   ·rename_i a;rw[if_pos a] at h;exact absurd rfl h
   ·rename_i a;rw[if_neg a] at h;split
    ·rfl
    ·rename_i d;rw[if_neg d] at h;exact Am8 h
theorem Sf(c user b a:By):(N6 c user b a).1.sch.length<=c.length/\(N6 c user b a).1.user.length<=user.length/\(N6 c user b a).1.rest.length<=b.length:=by
 by_cases h:(N6 c user b a).2=0
 ·obtain⟨f,d,e,_⟩:=Mi h;rw[e];exact⟨af0 _,af0 _,af0 _⟩
 ·rw[Kb h];exact⟨ac2 _,ac2 _,ac2 _⟩
theorem Am9(c b a:By):(G2 c b a).1.sch.length<=c.length/\(G2 c b a).1.user.length<=a.length/\(G2 c b a).1.rest.length<=b.length:=by
 unfold G2;split
 ·obtain⟨d,e,f⟩:=Sf c (a.take (J8 64 a).toNat) b (a.drop ((J8 64 a).toNat+1));rw[ae5] at e;exact⟨d,by omega,f⟩
 ·obtain⟨d,e,f⟩:=Sf c [] b a;simp only[ac6] at e;exact⟨d,by omega,f⟩
theorem YH(r:By):(U2 r).length<=r.length+1:=by
 unfold U2;split
 ·omega
 ·simp
theorem A92(s:By):(F2 s).1.sch.length<=s.length/\(F2 s).1.user.length<=s.length/\(F2 s).1.rest.length<=s.length+1:=by
 have z:Ai.sch.length<=s.length/\Ai.user.length<=s.length/\Ai.rest.length<=s.length+1:=⟨ac2 _,ac2 _,ac2 _⟩
 unfold F2;split
 ·exact z
 ·rcases Z7 58 s with a|⟨p,r,rfl,a⟩
  ·rw[Vq a];exact z
  ·rw[Fg a];have b:(p++58::r).length=p.length+r.length+1:=by rw[ad4,o8];omega
   simp only;split
   ·exact z
   ·split
    ·simp only[Bk,ac6];omega
    ·split
     ·exact z
     ·obtain⟨c,d,e⟩:=Am9 (D0 p) (U2 ((r.drop 2).drop (K4 (r.drop 2)))) ((r.drop 2).take (K4 (r.drop 2)));have f:=YH ((r.drop 2).drop (K4 (r.drop 2)));simp only[ae5,ac8,Bk] at c d e f;omega
structure SZ (u:U3):Prop where
 host:Le u.host
 port:-1<=u.port/\u.port<65536
theorem Wl:Le M6:=⟨by decide,A02,by decide⟩
theorem CU.ok{u:U3}(h:CU u):SZ u:=by
 cases hs:E9 u.sch with
 | false=>
  obtain⟨_,_,_,a4,a5,_⟩:=h.ns hs;exact⟨by rw[a4];exact Wl,by omega⟩
 | true=>
  obtain⟨_,_,a3,_,a5,_⟩:=h.sp hs;exact⟨a3,by omega⟩
theorem XN(s:By):SZ (F2 s).1:=by
 by_cases h:(F2 s).2=0
 ·exact(XM h).ok
 ·rw[JR h];exact⟨Wl,by decide,by decide⟩
theorem Bo6{m n j l:By}{h v4:Nat}{a b c d e f g i:Nat}{k:Int}(o:h<4):mkU m n (h:Int) j (v4:Int) (n8 a b c d e f g i) k l=⟨m,n,⟨h,j,v4,[a,b,c,d,e,f,g,i]⟩,k,l⟩:=by unfold mkU Bo5 n8;rw[if_pos (E8.2 ⟨by omega,by omega⟩)];simp only[j1]
theorem A91(s:By):SZ (C5 s).1:=by
 unfold C5;split
 ·exact⟨Wl,by decide,by decide⟩
 ·exact XN s
theorem Al5{s:By}(h:(C5 s).2≠0):(C5 s).1=Ai:=by
 unfold C5 at h ⊢;split
 ·rfl
 ·rename_i c;rw[if_neg c] at h;exact JR h
theorem A90{s:By}(h:(C5 s).2=0):CU (C5 s).1:=by
 unfold C5 at h ⊢;split
 ·rename_i c;rw[if_pos c] at h;cases h
 ·rename_i c;rw[if_neg c] at h;exact XM h
theorem EX(s:By):(C5 s).1.sch.length<=s.length/\(C5 s).1.user.length<=s.length/\(C5 s).1.rest.length<=s.length+1:=by
 unfold C5;split
 ·exact⟨ac2 _,ac2 _,ac2 _⟩
 ·exact A92 s
theorem Hp(c:UInt8):∀s:By,aa0 s c=match Pv c s with|some k=>(k:Int)|none=>-1
 | []=>rfl
 | b::r=>by
  have a:=Hp c r;unfold aa0 Pv;by_cases h:b=c
  ·rw[if_pos h,if_pos (by simpa using h)];rfl
  ·rw[if_neg h,if_neg (by simpa using h),a];cases Pv c r with
   | none=>rfl
   | some k=>
    have e:((k:Int)==-1)=false:=by rw[beq_eq_false_iff_ne];omega
    simp only[ad3,e,o6,if_false];rfl
theorem Bb6(b:UInt8):isl.contains b=V5 b:=by rw[ah7];simp[isl,V5,or_assoc]
theorem Fw(b:UInt8)(r:By):K4 (b::r)=if V5 b then 0 else K4 r+1:=by unfold K4;rw[ai9];cases h:V5 b<;>simp
theorem FU:∀s:By,K4 s<=s.length
 | []=>af0 _
 | b::r=>by
  have:=FU r;rw[Fw,o8];split<;>omega
theorem Ho:∀s:By,ad5 s isl=if K4 s<s.length then (K4 s:Int) else -1
 | []=>rfl
 | b::r=>by
  have c:=Ho r;have d:=FU r;rw[ad5,Bb6,Fw,o8,c];cases V5 b with
  | true=>simp
  | false=>
   simp only[o6,if_false];by_cases h:K4 r<r.length
   ·have e:((K4 r:Int)==-1)=false:=by rw[beq_eq_false_iff_ne];omega
    have a:K4 r+1<r.length+1:=by omega
    simp only[if_pos h,if_pos a,e,o6,if_false];rfl
   ·have a:¬K4 r+1<r.length+1:=by omega
    simp only[if_neg h,if_neg a];rfl
theorem Ci4(b:UInt8)(t:By)(g:128<=b.toNat):128<=(ag2 (b::t)).1/\(ag2 (b::t)).1<1114112/\1<=(ag2 (b::t)).2/\(ag2 (b::t)).2<=t.length+1/\∀i,i<(ag2 (b::t)).2->128<=((b::t).getD i 0).toNat:=by
 have d:=Lib.decodeL_le (b::t) (by simp);have l:=Lib.decodeL_width (b::t);have n:=Lib.decodeL_rune (b::t);rw[o8] at d;refine⟨?_,by omega,l,d,?_⟩;all_goals
  clear d l n;rw[Lib.decodeL_N];rcases Lib.decodeN_shape (b::t).length ((b::t).getD 0 0).toNat ((b::t).getD 1 0).toNat ((b::t).getD 2 0).toNat ((b::t).getD 3 0).toNat with⟨c,e⟩|⟨h,j,k,f,e⟩|⟨h,j,k,m,f,p,e⟩|⟨h,j,k,m,o,f,q,e⟩|e
  all_goals rw[e]
 ·exact absurd g (by simp at c;omega)
 ·exact f
 ·simp only;omega
 ·simp only;omega
 ·simp only;omega
 ·exact absurd g (by simp at c;omega)
 ·intro i a;have:i=0\/i=1:=by simp only at a;omega
  rcases this with rfl|rfl<;>omega
 ·intro i a;have:i=0\/i=1\/i=2:=by simp only at a;omega
  rcases this with rfl|rfl|rfl<;>omega
 ·intro i a;have:i=0\/i=1\/i=2\/i=3:=by simp only at a;omega
  rcases this with rfl|rfl|rfl|rfl<;>omega
 ·intro i a;have:i=0:=by simp only at a;omega
  subst this;exact g
theorem Br3{b:UInt8}(h:128<=b.toNat):V5 b=false:=by
 unfold V5;have n:∀c:UInt8,c.toNat<128->(b==c)=false:=λc a=>by
  rw[beq_eq_false_iff_ne];rintro rfl;omega
 rw[n 47 (by decide),n 63 (by decide),n 35 (by decide)];rfl
theorem Bm8{r:Int}(h:128<=r):irn r=-1:=by unfold irn;rw[T1,T1,T1]
theorem Cj7(b:UInt8):ltI (irn (b.toNat:Int)) 0 = !V5 b:=by
 have e:∀c:UInt8,((b.toNat:Int)=(c.toNat:Int))=(b=c):=λc=>propext ⟨λh=>am0.1 (by omega),λh=>by rw[h]⟩
 have g:((b.toNat:Int)=47)=(b=47):=e 47;have i:((b.toNat:Int)=63)=(b=63):=e 63;have j:((b.toNat:Int)=35)=(b=35):=e 35;unfold irn V5;simp only[g,i,j];by_cases a:b=47
 ·subst a;rfl
 ·by_cases d:b=63
  ·subst d;rfl
  ·by_cases f:b=35
   ·subst f;rfl
   ·have n:∀c,b≠c->(b==c)=false:=λc h=>by rwa [beq_eq_false_iff_ne]
    rw[if_neg a,if_neg d,if_neg f,n _ a,n _ d,n _ f];rfl
end
section
open Go Go.Proofs
set_option maxRecDepth 100000
section
variable {W R : Type} (Y : Nat) (J : E3) (Q : Yh W) (s : W) (k : Out -> St W -> Option R)
noncomputable def NO(Y:Nat):Cfg:=D1 Y [71] (A3 []) [] (A3 [(1,[6]),(0,[3,0,0])]) [] (A3 []) (some [6]) [] [] []
noncomputable def Bn9{R:Type}(Y:Nat)(d b:By)(a:Int)(c:By->By->Int->Option R):Option R:=c d b a
theorem Bo0(d:Nat)(a sep1 sepSave2):evC (NO Y) (d+1) W Q 71 [pS a,pS sep1,pI sepSave2] [] s=Bn9 Y a sep1 sepSave2 (λa c b=>some (.fnr (ag1 101) [] [.ptr 1 0 0,.ptr 0 0 0,.ptr 2 0 0],[.box [pS a],.box [pS c],.box [pI b]],s)):=by refine(evE (fn:=Tryz.f71) (by kernel_rfl)).trans ?_;generalize evC (NO Y) d=J;unfold Bn9;kernel_rfl
noncomputable def Ad7(Y:Nat):Cfg:=D1 Y [39] (A3 []) [(71,LW)] (A3 [(1,[4]),(0,[0,0])]) [] (A3 []) (some [4]) [] [] []
noncomputable def Cl3{R:Type}(Y:Nat)(c a:By)(b:By->By->Option R):Option R:=b c a
theorem Ca7(d:Nat)(a sep1):evC (Ad7 Y) (d+1) W Q 39 [pS a,pS sep1] [] s=Cl3 Y a sep1 (λa b=>some (.fnr (ag1 101) [] [.ptr 1 0 0,.ptr 0 0 0,.ptr 2 0 0],[.box [pS a],.box [pS b],.box [pI (0:Int)]],s)):=by refine(evE (fn:=Tryz.f39) (by kernel_rfl)).trans ?_;generalize evC (Ad7 Y) d=J;unfold Cl3;kernel_rfl
noncomputable abbrev HX:Code:=E5 am5
noncomputable def Ls(Y:Nat):Cfg:=D1 Y [29] (A3 []) [(57,Nd),(39,BL),(58,LY)] (A3 [(7,[2]),(6,[2]),(5,[2,13]),(4,[2,0]),(3,[2,9]),(2,[2]),(1,[0,1,7]),(0,[0,1])]) [57,58] (A3 [(0,[2]),(1,[2])]) (some [2]) [] [(101,Ni)] []
noncomputable def Zt{R:Type}(Y:Nat)(a:By)(xs:List By)(self:Unit->Option R)(c:Unit->Option R)(b:Unit->Option R):Option R:=cond (A2 a.length) (cond (not (R3 a)) (b ()) (self ())) none
noncomputable def DP{R:Type}(Y:Nat)(L:List By)(b:Unit->Option R)(c:Unit->Option R):Option R:=Bq7 (α:=Unit->Option R) (λ_=>b ()) (λa xs self _=>Zt Y a xs self  b c) L ()
theorem WG{R:Type}(Y:Nat)(a:By)(xs:List By)(b:Unit->Option R)(c:Unit->Option R):DP Y (a::xs)  b c=Zt Y a xs (λ_=>DP Y xs  b c)  b c:=rfl
theorem A47(L:List By):Q6 #[13] (gp [(2,.ptr 0 0 0),(9,.fnr (ag1 101) [] [.bad,.bad,.bad])] 4) (bd (Ls Y) J Q (cd [1,1,0,1,0,0] HX)) (bd (Ls Y) J Q (cd [1,1,0,1,0,1] HX)) (L.map (λ(a:By)=>([pS a]:List PV))) [.box [pB false],.dead,.dead,.dead] s (rgK (gp [(2,.ptr 0 0 0),(9,.fnr (ag1 101) [] [.bad,.bad,.bad])] 4) (λH=>S8 H [2,1,3] [.box [.bad],.box [.bad],.box [.bad]]) k) =
 DP Y L  (λ_=>k .normal ⟨gp [(2,.ptr 0 0 0),(9,.fnr (ag1 101) [] [.bad,.bad,.bad])] 4,[.box [pB false],.box [.bad],.box [.bad],.box [.bad]],s⟩) (λ_=>k .ret ⟨gp [(2,.ptr 0 0 0),(9,.fnr (ag1 101) [] [.bad,.bad,.bad])] 4,[.box [pB false],.box [.bad],.box [.bad],.box [.bad]],s⟩):=by
 induction L with
 | nil=>rfl
 | cons a xs b=>rw[WG];unfold Zt;exact(j4 (by kernel_rfl) (A0 (A0 rfl b) rfl))
noncomputable def PE{R:Type}(Y:Nat)(a:By)(b:Unit->Option R)(c:Unit->Option R):Option R:=cond ((A2 a.length)&&((1==1)&&((0:Int)==0))) (DP Y (pcs (c8 ([46]:List UInt8) 0 0) a)  b c) none
abbrev WF(b:Code):Prop:=∀(k:Out->St W->Option R) s0,A7 (Ls Y) J Q b ⟨gp [(2,.ptr 0 0 0),(9,.fnr (ag1 101) [] [.ptr 2 0 0,.ptr 1 0 0,.ptr 3 0 0])] 4,[.box [pB false],.box [pS s0],.box [pS ([46]:List UInt8)],.box [pI (0:Int)]],s⟩ k=PE Y s0 (λ_=>k .normal ⟨gp [(2,.ptr 0 0 0),(9,.fnr (ag1 101) [] [.bad,.bad,.bad])] 4,[.box [pB false],.box [.bad],.box [.bad],.box [.bad]],s⟩) (λ_=>k .ret ⟨gp [(2,.ptr 0 0 0),(9,.fnr (ag1 101) [] [.bad,.bad,.bad])] 4,[.box [pB false],.box [.bad],.box [.bad],.box [.bad]],s⟩)
theorem A46:WF (R:=R) Y J Q s (cd [1,1,0,1,0] HX):=by intro k a;unfold PE;exact((Av1 [1,1,0,1,0] (by kernel_rfl)).trans (by kernel_rfl)).trans (Ki (A47 Y J Q s k (pcs (c8 ([46]:List UInt8) 0 0) a) ))
noncomputable def hvn{R:Type}(Y:Nat)(a:By)(b:Unit->Option R)(c:Bool->Bool->Option R):Option R:=cond (ltI 253 (a.length:Int)) (b ()) (cond (A2 a.length) (cond (N9 a) (b ()) (PE Y a (λ_=>c true true) (λ_=>c false false))) none)
theorem Cj2(a:Code)(c:WF (R:=PV × List Blk × W) Y J Q s a)(b:By):A7 (Ls Y) J Q (cd [] (K3 [1,1,0,1,0] a HX)) ⟨[pS b]++tps 16,[],s⟩ (I6 (Ls Y) am5)=hvn Y b (λ_=>some (pB false,[.box [pB false]],s)) (λe d=>some (pB e,[.box [pB d],.box [.bad],.box [.bad],.box [.bad]],s)):=by unfold hvn;exact(j4 (by kernel_rfl) (A0 rfl (A0 (A0 rfl ((c (I1 0 (J0 (Ls Y) J Q (cd [1,1,1] HX) (I6 (Ls Y) am5))) b).trans (by kernel_rfl))) rfl)))
theorem Cj3(d:Nat)(name0):evC (Ls Y) (d+1) W Q 29 [pS name0] [] s=hvn Y name0 (λ_=>some (pB false,[.box [pB false]],s)) (λb a=>some (pB b,[.box [pB a],.box [.bad],.box [.bad],.box [.bad]],s)):=
 (evE (fn:=am5) (by kernel_rfl)).trans (j4 (by kernel_rfl) (Cj2 Y (evC (Ls Y) d) Q s (cd [1,1,0,1,0] HX) (A46 Y (evC (Ls Y) d) Q s) name0))
noncomputable abbrev Qy:Code:=E5 al5
noncomputable def X6(Y:Nat):Cfg:=D1 Y [101] (A3 [(5,[0,0,0,0]),(1,[0,1])]) [(102,Qr),(103,BG)] (A3 [(10,[]),(9,[0,0,0,0]),(8,[0,0,0,0,3,34]),(7,[0,0,0,0,3,0]),(6,[0,0,0,0,3,25]),(5,[0,0,0,0,3]),(4,[0,1]),(3,[0,1,3,18]),(2,[0,1,3]),(1,[0,1,11]),(0,[0,0,0,0,7])]) [103] (A3 [(2,[0,1]),(3,[0,0,0,0]),(0,[]),(1,[0,1])]) (some []) [] [] []
noncomputable def FX{W R:Type}(Q:Yh W)(Y n:Nat)(d a:By)(c:Int)(s:W)(b:By->By->Int->W->Option R):Option R:=match n with|0=>none|n+1=>cond (ltI 0 (a.length:Int)) none (b d a c s)
theorem YL(n:Nat)(b c:By)(a:Int)(s:W):G1 3 ((X6 Y).keep 1) (bd (X6 Y) J Q (cd [0,1,0,0,0,0] Qy)) n ⟨gp [(0,.yd),(1,.ptr 1 0 0)] 49,[.box [pS b],.box [pS c],.box [pI a]],s⟩ k =
 FX Q Y n b c a s (λb c a s=>k (.exit 0) ⟨gp [] 52,[.box [pS b],.box [pS c],.box [pI a]],s⟩):=by
 induction n generalizing b c a s with
 | zero=>rfl
 | succ n d=>rw[FX];kernel_rfl
noncomputable def R2{W R:Type}(Q:Yh W)(Y n:Nat)(c a:By)(g:Int)(s:W)(i:By->By->Int->W->Option R)(j:By->By->Int->W->Option R):Option R:=match n with
 | 0=>none
 | n+1=>
  cond (A2 a.length)
   (cond (ltI (ae3 a c) (0:Int))
   (i c a g s)
   (vl (A4 ((ae3 a c)+g)) λe=>
    cond (O6 0 e a.length)
    (ydK (Q [pS (cut a 0 e)] s) λd b=>
     (cond (not d)
     (j c a g b)
     (vl (A4 ((ae3 a c)+(c.length:Int))) λf=>
      cond (O6 f (a.length:Int) a.length)
      (vl (cut a f (a.length:Int)) λh=>
       R2 Q Y n c h g b i j)
      none)))
    none))
   none
theorem YM(n:Nat)(b c:By)(a:Int)(s:W):G1 3 ((X6 Y).keep 5) (bd (X6 Y) J Q (cd [1,0,0,0] Qy)) n ⟨gp [(0,.yd),(0,.ptr 0 0 0),(0,.ptr 1 0 0),(0,.ptr 2 0 0)] 48,[.box [pS b],.box [pS c],.box [pI a]],s⟩ k =
 R2 Q Y n b c a s (λb c a s=>k (.exit 2) ⟨gp [(0,.yd),(1,.ptr 1 0 0)] 49,[.box [pS b],.box [pS c],.box [pI a]],s⟩) (λb c a s=>k .ret ⟨gp [] 52,[.box [pS b],.box [pS c],.box [pI a]],s⟩):=by
 induction n generalizing b c a s with
 | zero=>rfl
 | succ n d=>rw[R2];simp only[<-d];kernel_rfl
noncomputable def YK{W R:Type}(Q:Yh W)(Y:Nat)(p t:By)(n:Int)(s:W)(j:By->By->Int->W->Option R):Option R:=
 cond ((p.length:Int)==0)
 (FX Q Y Y p t n s (λm o l q=>j m o l q))
 (R2 Q Y Y p t n s (λr a c e=>ydK (Q [pS a] e) λi b=>
  (j r a c b)) (λf g d h=>j f g d h))
theorem Br8(d:Nat)(p t n s):evC (X6 Y) (d+1) W Q 101 [.yd,.ptr 0 0 0,.ptr 1 0 0,.ptr 2 0 0] [.box [pS p],.box [pS t],.box [pI n]] s=YK Q Y p t n s (λb c a s=>some (.tup [],[.box [pS b],.box [pS c],.box [pI a]],s)):=by refine(evE (fn:=al5) (by kernel_rfl)).trans ?_;generalize evC (X6 Y) d=J;unfold YK;exact(j4 (by kernel_rfl) (A0 ((YL Y J Q (I1 0 (J0 (X6 Y) J Q (cd [0,1,0,1] Qy) (J0 (X6 Y) J Q (cd [1] Qy) (I6 (X6 Y) al5)))) Y p t n s).trans (by kernel_rfl)) ((YM Y J Q (I1 2 (J0 (X6 Y) J Q (cd [1,1] Qy) (I6 (X6 Y) al5))) Y p t n s).trans (by kernel_rfl))))
end
section
variable {W R : Type} (L : Nat) (Y : E3) (Q : Yh W) (s : W) (k : Out -> St W -> Option R)
noncomputable def NK(L:Nat):Cfg:=D1 L [140] (A3 []) [] (A3 [(1,[2]),(0,[0])]) [] (A3 []) (some [2]) [] [] []
noncomputable def Cg3{R:Type}(L:Nat)(a:Unit->Option R):Option R:=a ()
theorem Bn0(d:Nat):evC (NK L) (d+1) W Q 140 [pI (16:Int)] [] s=Cg3 L  (λ_=>some (pB true,[],s)):=by refine(evE (fn:=Tryz.f140) (by kernel_rfl)).trans ?_;generalize evC (NK L) d=Y;unfold Cg3;kernel_rfl
noncomputable abbrev ND:Code:=E5 ao1
noncomputable def Gh(L:Nat):Cfg:=D1 L [126] (A3 [(11,[0,0,1,0,5,0,0,0,0,0,0]),(18,[0,0,1,0,5,0,0,0,3])]) [(140,LM),(141,Ch1)] (A3 [(30,[10,0]),(29,[10,0]),(28,[0,9,0,0,0,80]),(27,[0,3,5,0,0,0]),(26,[0,3,5,0,0,0]),(25,[0,3,5,0,0,0,75]),(16,[0,2,0,5,0,0,0]),(15,[0,0,1,0,5,0,0,0]),(14,[0,0,1,0,5,0,0,0,0,0,0]),(13,[0,0,1,0,5,0,0,0,0,0,0]),(12,[0,0,1,0,5,0,0,0,0,0,0]),(11,[0,0,1,0,5,0,0,0,0,0,0,29]),(10,[0,0,1,0,5,0,0,0,0,0,0]),(9,[0,0,0,0,0,5,0,0,0,0,0]),(8,[0,0,0,0,0,5,0,0,0,0]),(24,[0,2,0,5,0,0,0]),(23,[0,0,1,0,5,0,0,0]),(22,[0,0,1,0,5,0,0,0,3]),(21,[0,2,0,5,0,0,0,3,0]),(20,[0,0,1,0,5,0,0,0,3,0]),(19,[0,0,1,0,5,0,0,0,3]),(18,[0,0,1,0,5,0,0,0,3,50]),(17,[0,0,1,0,5,0,0,0,3]),(7,[0,0,0,0,0,5,0,0,0,20]),(6,[0,0,0,0,0,5,0,0,0]),(5,[0,0,0,0,0,5,0,0,0,16]),(4,[0,0,0,0,0,5,0,0,0]),(3,[0,0,0,0,0,5,0,0]),(2,[0,0,0,0,0,5,0]),(1,[0,0,0,0,0,5,0,16]),(0,[0,0,0,0,0,5,0])]) [140,141] (A3 [(0,[0,0,1,0,5,0,0,0]),(1,[0,0,1,0,5,0,0,0,0,0,0]),(2,[0,0,1,0,5,0,0,0]),(3,[0,0,1,0,5,0,0,0,3])]) (some [10,0]) [] [] []
noncomputable def Il{R:Type}(L n:Nat)(b a:Bool)(c:LL)(g d:Int)(f:LL)(j:Bool->Bool->LL->Int->Int->LL->Option R):Option R:=match n with|0=>none|n+1=>cond (not (ltI g 16)) (vl (Ab5 .u64 g (15:Int)) λe=>cond (inR e 36) (vl (bAt (([48,49,50,51,52,53,54,55,56,57,97,98,99,100,101,102,103,104,105,106,107,108,109,110,111,112,113,114,115,116]:List UInt8)++[117,118,119,120,121,122]) e) λi=>cond (inR (A4 (d-1)) 65) (cond (decide ((j2 (A4 (d-1)))<f.length)) (vl (ad7 f (j2 (A4 (d-1))) (F9 (c8 f (j2 (A4 (d-1))) []) 0 [(SV.int .u8 i)])) λh=>Il L n b a c (HG .u64 g (4:Int)) (A4 (d-1)) h j) none) none) none) (j b a c g d f)
theorem VJ(n b a c f d e):G1 2 ((Gh L).keep 11) (bd (Gh L) Y Q (cd [1,1,1,1,1,0,1,0,1,1,1,0,0,0] ND)) n ⟨gp [(0,.s (.sl b a 0 c)),(0,p64 f),(1,pB false),(0,pB false),(5,.fl 0),(0,pS ([]:List UInt8)),(0,.ptr 1 0 0),(0,pI d),(0,p64 (4:Int)),(0,p64 (16:Int)),(0,p64 (15:Int))] 85,[.arr true 5 1 [],.arr false 173 1 e],s⟩ k =
 Il L n b a c f d e (λb a c f d e=>k (.exit 0) ⟨gp [(0,.s (.sl b a 0 c)),(0,p64 f),(1,pB false),(0,pB false),(5,.fl 0),(0,pS ([]:List UInt8)),(0,.ptr 1 0 0),(0,pI d)] 88,[.arr true 5 1 [],.arr false 173 1 e],s⟩):=by
 induction n generalizing b a c f d e with
 | zero=>rfl
 | succ n g=>rw[Il];simp only[<-g];kernel_rfl
noncomputable def VI{R:Type}(L:Nat)(e d:Bool)(ds:LL)(v:Int)(m:By->LL->Option R):Option R:=cond ((16:Int)==16) (cond ((16:Int)==16) (Il L L e d ds v 65 (j0 65 [(SV.int .u8 (0:Int))]) (λg f j i a c=>cond (inR i 36) (vl (bAt (([48,49,50,51,52,53,54,55,56,57,97,98,99,100,101,102,103,104,105,106,107,108,109,110,111,112,113,114,115,116]:List UInt8)++[117,118,119,120,121,122]) i) λl=>cond (inR (A4 (a-1)) 65) (cond (decide ((j2 (A4 (a-1)))<c.length)) (vl (ad7 c (j2 (A4 (a-1))) (F9 (c8 c (j2 (A4 (a-1))) []) 0 [(SV.int .u8 l)])) λb=>cond (decide (b.length=65)) (cond (O6 (A4 (a-1)) (65:Int) 65) (cond (ah0 (ac9 (65-(j2 (A4 (a-1)))) (ae4 (j2 (A4 (a-1))) b)) DY) (vl (ad1 Zd (ac9 (65-(j2 (A4 (a-1)))) (ae4 (j2 (A4 (a-1))) b))) λh=>m h b) none) none) none) none) none) none)) none) none
theorem Bl1(d:Nat)(ds_z ds_t ds v):evC (Gh L) (d+1) W Q 126 [.s (.sl ds_z ds_t 0 ds),p64 v,pI (16:Int),pB false,pB false] [] s=VI L ds_z ds_t ds v (λb a=>some (.tup [.fl 0,pS b],[.arr true 5 1 [],.arr false 173 1 a],s)):=by refine(evE (fn:=ao1) (by kernel_rfl)).trans ?_;generalize evC (Gh L) d=Y;unfold VI;exact(j4 (by kernel_rfl) (A0 (A0 ((VJ L Y Q s (I1 0 (J0 (Gh L) Y Q (cd [1,1,1,1,1,0,1,0,1,1,1,1] ND) (J0 (Gh L) Y Q (cd [1,1,1,1,1,1] ND) (I6 (Gh L) ao1)))) L ds_z ds_t ds v 65 (j0 65 [(SV.int .u8 (0:Int))])).trans (by kernel_rfl)) rfl) rfl))
noncomputable def NJ(L:Nat):Cfg:=D1 L [107] (A3 []) [(126,KW)] (A3 [(9,[4]),(8,[8]),(7,[4]),(6,[5,0]),(5,[0,4,0]),(4,[0,4]),(3,[4]),(2,[0,11]),(1,[0,0,8]),(0,[0,0])]) [] (A3 []) (some [4]) [] [] []
noncomputable def Av9{R:Type}(L:Nat)(v:Int)(a:By->Option R):Option R:=cond (ltN v 65536) (cond ((16:Int)==16) (a (Af (j2 v))) none) none
theorem Bm6(d:Nat)(v):evC (NJ L) (d+1) W Q 107 [p64 v,pI (16:Int)] [] s=Av9 L v (λa=>some (pS a,[],s)):=by refine(evE (fn:=Tryz.f107) (by kernel_rfl)).trans ?_;generalize evC (NJ L) d=Y;unfold Av9;kernel_rfl
noncomputable def Ac4(L:Nat):Cfg:=D1 L [75] (A3 []) [(107,LJ)] (A3 [(1,[4]),(0,[0,0])]) [107] (A3 []) (some [4]) [] [] []
noncomputable def B26{R:Type}(L:Nat)(v:Int)(a:By->Option R):Option R:=cond (ltN v 65536) (cond ((16:Int)==16) (a (Af (j2 v))) none) none
theorem B27(d:Nat)(v):evC (Ac4 L) (d+1) W Q 75 [p64 v,pI (16:Int)] [] s=B26 L v (λa=>some (pS a,[],s)):=by refine(evE (fn:=Tryz.f75) (by kernel_rfl)).trans ?_;generalize evC (Ac4 L) d=Y;unfold B26;kernel_rfl
end
end
end Go.Proofs.YtiodfnbjmmdlmaaGreatDoor.E
namespace Go.Proofs
open Go.Shelf
def Tryz.lays156_ren:x5:=⟨fun|156=>76|165=>108|166=>109|169=>110|240=>127|241=>128|276=>142|277=>143|n=>n,fun|31=>23|9=>9|3=>3|4=>4|0=>0|20=>20|72=>133|76=>137|70=>131|37=>97|75=>136|127=>154|164=>174|5=>5|80=>139|n=>n,fun|n=>n⟩
theorem Tryz.lays156:as1 o7 Tryz.lays156_ren:={
 mixed:=by kernel_rfl
 f156:=Tryz.func76.trans (congrArg some (by kernel_rfl))
 f165:=Tryz.func108.trans (congrArg some (by kernel_rfl))
 f166:=Tryz.func109.trans (congrArg some (by kernel_rfl))
 f169:=Tryz.func110.trans (congrArg some (by kernel_rfl))
 f240:=Tryz.func127.trans (congrArg some (by kernel_rfl))
 f241:=Tryz.func128.trans (congrArg some (by kernel_rfl))
 f276:=Tryz.func142.trans (congrArg some (by kernel_rfl))
 f277:=Tryz.func143.trans (congrArg some (by kernel_rfl))
 t0:=w9
 a0:=ab1
 z0:=aa4
 v0:=x7
 t3:=o9
 a3:=y9
 z3:=x6
 v3:=p7
 t4:=s8
 a4:=aa2
 z4:=y7
 v4:=s9
 t9:=v8
 a9:=aa6
 z9:=aa1
 v9:=w6
 t20:=ak9
 a20:=ap5
 z20:=an8
 v20:=al7
 t31:=ag5
 a31:=ak8
 z31:=aj2
 v31:=ah2
 t37:=al0
 a37:=ap6
 z37:=an9
 v37:=al8
 t70:=Tryz.underlying131
 a70:=Tryz.isAgg131
 z70:=Tryz.sizeOf131
 v70:=Tryz.zeroValue131
 t72:=Tryz.underlying133
 a72:=Tryz.isAgg133
 z72:=Tryz.sizeOf133
 v72:=Tryz.zeroValue133
 t75:=Tryz.underlying136
 a75:=Tryz.isAgg136
 z75:=Tryz.sizeOf136
 v75:=Tryz.zeroValue136
 t76:=Tryz.underlying137
 a76:=Tryz.isAgg137
 z76:=Tryz.sizeOf137
 v76:=Tryz.zeroValue137
 t127:=Tryz.underlying154
 a127:=Tryz.isAgg154
 z127:=Tryz.sizeOf154
 v127:=Tryz.zeroValue154
 t164:=Tryz.underlying174
 a164:=Tryz.isAgg174
 z164:=Tryz.sizeOf174
 v164:=Tryz.zeroValue174 }
theorem Tryz.Builder_Extra_156:Builder.Extra o7 Tryz.lays156_ren:={
 sizeBuilder:=by kernel_rfl
 liesBuilder:=by kernel_rfl
 t5:=x4
 a5:=ab2
 z5:=aa5
 v5:=x8
 infoByte:=by kernel_rfl
 cellsByte:=by kernel_rfl
 sizeByte:=by kernel_rfl
 neB5:=by decide }
def Tryz.lays195_ren:x5:=⟨fun|195=>121|n=>n,fun|9=>9|3=>3|0=>0|4=>4|n=>n,fun|n=>n⟩
theorem Tryz.lays195:as4 o7 Tryz.lays195_ren:={
 mixed:=by kernel_rfl
 f195:=ap1.trans (congrArg some (by kernel_rfl))
 t0:=w9
 a0:=ab1
 z0:=aa4
 v0:=x7
 t3:=o9
 a3:=y9
 z3:=x6
 v3:=p7
 t4:=s8
 a4:=aa2
 z4:=y7
 v4:=s9
 t9:=v8
 a9:=aa6
 z9:=aa1
 v9:=w6 }
def Tryz.laysM171_ren:x5:=⟨fun|171=>43|243=>74|246=>106|283=>123|284=>124|285=>125|286=>126|129=>56|317=>138|318=>139|319=>140|320=>141|337=>151|338=>152|n=>n,fun|3=>3|9=>9|2=>2|4=>4|171=>150|0=>0|53=>95|37=>97|5=>5|173=>152|212=>172|51=>37|20=>20|213=>173|46=>67|232=>185|233=>186|n=>n,fun|17=>3|18=>4|19=>5|n=>n⟩
theorem Tryz.laysM171:ap8 o7 Tryz.laysM171_ren:={
 mixed:=by kernel_rfl
 f129:=ar4.trans (congrArg some (by kernel_rfl))
 f171:=Tryz.func43.trans (congrArg some (by kernel_rfl))
 f243:=Tryz.func74.trans (congrArg some (by kernel_rfl))
 f246:=Tryz.func106.trans (congrArg some (by kernel_rfl))
 f283:=Tryz.func123.trans (congrArg some (by kernel_rfl))
 f284:=Tryz.func124.trans (congrArg some (by kernel_rfl))
 f285:=Tryz.func125.trans (congrArg some (by kernel_rfl))
 f286:=Tryz.func126.trans (congrArg some (by kernel_rfl))
 f317:=Tryz.func138.trans (congrArg some (by kernel_rfl))
 f318:=Tryz.func139.trans (congrArg some (by kernel_rfl))
 f319:=Tryz.func140.trans (congrArg some (by kernel_rfl))
 f320:=ap2.trans (congrArg some (by kernel_rfl))
 f337:=ap3.trans (congrArg some (by kernel_rfl))
 f338:=ap4.trans (congrArg some (by kernel_rfl))
 t0:=w9
 a0:=ab1
 z0:=aa4
 v0:=x7
 t2:=Tryz.underlying2
 a2:=Tryz.isAgg2
 z2:=Tryz.sizeOf2
 v2:=Tryz.zeroValue2
 t3:=o9
 a3:=y9
 z3:=x6
 v3:=p7
 t4:=s8
 a4:=aa2
 z4:=y7
 v4:=s9
 t5:=x4
 a5:=ab2
 z5:=aa5
 v5:=x8
 t9:=v8
 a9:=aa6
 z9:=aa1
 v9:=w6
 t20:=ak9
 a20:=ap5
 z20:=an8
 v20:=al7
 t37:=al0
 a37:=ap6
 z37:=an9
 v37:=al8
 t46:=y8
 a46:=ac5
 z46:=ab6
 v46:=z7
 t51:=ab3
 a51:=ad9
 z51:=ad2
 v51:=ac1
 t53:=ae0
 a53:=ah6
 z53:=ag9
 v53:=ae7
 t171:=Tryz.underlying150
 a171:=Tryz.isAgg150
 z171:=Tryz.sizeOf150
 v171:=Tryz.zeroValue150
 t173:=Tryz.underlying152
 a173:=Tryz.isAgg152
 z173:=Tryz.sizeOf152
 v173:=Tryz.zeroValue152
 t212:=Tryz.underlying172
 a212:=Tryz.isAgg172
 z212:=Tryz.sizeOf172
 v212:=Tryz.zeroValue172
 t213:=Tryz.underlying173
 a213:=Tryz.isAgg173
 z213:=Tryz.sizeOf173
 t232:=aj5
 a232:=an6
 z232:=an1
 v232:=al1
 t233:=aj6
 a233:=an7
 z233:=an2
 v233:=Tryz.zeroValue186
 g17:=by kernel_rfl
 g18:=by kernel_rfl
 g19:=by kernel_rfl
 i0:=by kernel_rfl
 i2:=by kernel_rfl
 i3:=by kernel_rfl
 i4:=by kernel_rfl
 i5:=by kernel_rfl
 i9:=by kernel_rfl
 i20:=by kernel_rfl
 i37:=by kernel_rfl
 i46:=by kernel_rfl
 i51:=by kernel_rfl
 i53:=by kernel_rfl
 i171:=by kernel_rfl
 i173:=by kernel_rfl
 i212:=by kernel_rfl
 i232:=by kernel_rfl
 i233:=by kernel_rfl
 m17:=by kernel_rfl
 m18:=by kernel_rfl
 m19:=by kernel_rfl }
def Tryz.lays143_ren:x5:=⟨fun|143=>103|219=>88|217=>89|225=>92|224=>91|267=>114|266=>115|314=>133|n=>n,fun|9=>9|3=>3|4=>4|5=>5|46=>67|146=>161|51=>37|n=>n,fun|1=>0|n=>n⟩
theorem Tryz.lays143:ar8 o7 Tryz.lays143_ren:={
 mixed:=by kernel_rfl
 f143:=ap0.trans (congrArg some (by kernel_rfl))
 f217:=ag4.trans (congrArg some (by kernel_rfl))
 f219:=al9.trans (congrArg some (by kernel_rfl))
 f224:=ai5.trans (congrArg some (by kernel_rfl))
 f225:=ai6.trans (congrArg some (by kernel_rfl))
 f266:=af7.trans (congrArg some (by kernel_rfl))
 f267:=ak6.trans (congrArg some (by kernel_rfl))
 f314:=ak7.trans (congrArg some (by kernel_rfl))
 t3:=o9
 a3:=y9
 z3:=x6
 v3:=p7
 t4:=s8
 a4:=aa2
 z4:=y7
 v4:=s9
 t5:=x4
 a5:=ab2
 z5:=aa5
 v5:=x8
 t9:=v8
 a9:=aa6
 z9:=aa1
 v9:=w6
 t46:=y8
 a46:=ac5
 z46:=ab6
 v46:=z7
 t51:=ab3
 a51:=ad9
 z51:=ad2
 v51:=ac1
 t146:=ag0
 a146:=aj1
 z146:=ai7
 v146:=ag6
 g1:=by kernel_rfl }
def Tryz.lays145_ren:x5:=⟨fun|145=>31|220=>59|219=>88|217=>89|225=>92|224=>91|267=>114|266=>115|314=>133|n=>n,fun|9=>9|4=>4|59=>69|3=>3|5=>5|46=>67|146=>161|51=>37|n=>n,fun|1=>0|n=>n⟩
theorem Tryz.lays145:ar9 o7 Tryz.lays145_ren:={
 mixed:=by kernel_rfl
 f145:=Tryz.func31.trans (congrArg some (by kernel_rfl))
 f217:=ag4.trans (congrArg some (by kernel_rfl))
 f219:=al9.trans (congrArg some (by kernel_rfl))
 f220:=Tryz.func59.trans (congrArg some (by kernel_rfl))
 f224:=ai5.trans (congrArg some (by kernel_rfl))
 f225:=ai6.trans (congrArg some (by kernel_rfl))
 f266:=af7.trans (congrArg some (by kernel_rfl))
 f267:=ak6.trans (congrArg some (by kernel_rfl))
 f314:=ak7.trans (congrArg some (by kernel_rfl))
 t3:=o9
 a3:=y9
 z3:=x6
 v3:=p7
 t4:=s8
 a4:=aa2
 z4:=y7
 v4:=s9
 t5:=x4
 a5:=ab2
 z5:=aa5
 v5:=x8
 t9:=v8
 a9:=aa6
 z9:=aa1
 v9:=w6
 t46:=y8
 a46:=ac5
 z46:=ab6
 v46:=z7
 t51:=ab3
 a51:=ad9
 z51:=ad2
 v51:=ac1
 t59:=Tryz.underlying69
 a59:=Tryz.isAgg69
 z59:=Tryz.sizeOf69
 v59:=Tryz.zeroValue69
 t146:=ag0
 a146:=aj1
 z146:=ai7
 v146:=ag6
 g1:=by kernel_rfl }
def Tryz.lays138_ren:x5:=⟨fun|138=>136|195=>121|218=>150|143=>103|219=>88|217=>89|225=>92|224=>91|267=>114|266=>115|314=>133|n=>n,fun|9=>9|3=>3|4=>4|5=>5|0=>0|46=>67|146=>161|51=>37|n=>n,fun|1=>0|n=>n⟩
theorem Tryz.lays138:ar7 o7 Tryz.lays138_ren:={
 mixed:=by kernel_rfl
 f138:=Tryz.func136.trans (congrArg some (by kernel_rfl))
 f143:=ap0.trans (congrArg some (by kernel_rfl))
 f195:=ap1.trans (congrArg some (by kernel_rfl))
 f217:=ag4.trans (congrArg some (by kernel_rfl))
 f218:=Tryz.func150.trans (congrArg some (by kernel_rfl))
 f219:=al9.trans (congrArg some (by kernel_rfl))
 f224:=ai5.trans (congrArg some (by kernel_rfl))
 f225:=ai6.trans (congrArg some (by kernel_rfl))
 f266:=af7.trans (congrArg some (by kernel_rfl))
 f267:=ak6.trans (congrArg some (by kernel_rfl))
 f314:=ak7.trans (congrArg some (by kernel_rfl))
 t0:=w9
 a0:=ab1
 z0:=aa4
 v0:=x7
 t3:=o9
 a3:=y9
 z3:=x6
 v3:=p7
 t4:=s8
 a4:=aa2
 z4:=y7
 v4:=s9
 t5:=x4
 a5:=ab2
 z5:=aa5
 v5:=x8
 t9:=v8
 a9:=aa6
 z9:=aa1
 v9:=w6
 t46:=y8
 a46:=ac5
 z46:=ab6
 v46:=z7
 t51:=ab3
 a51:=ad9
 z51:=ad2
 v51:=ac1
 t146:=ag0
 a146:=aj1
 z146:=ai7
 v146:=ag6
 g1:=by kernel_rfl }
def Tryz.lays196_ren:x5:=⟨fun|196=>120|259=>137|n=>n,fun|9=>9|4=>4|3=>3|5=>5|12=>12|119=>167|0=>0|46=>67|139=>170|138=>169|53=>95|n=>n,fun|3=>1|4=>2|n=>n⟩
theorem Tryz.lays196:as5 o7 Tryz.lays196_ren:={
 mixed:=by kernel_rfl
 f196:=Tryz.func120.trans (congrArg some (by kernel_rfl))
 f259:=Tryz.func137.trans (congrArg some (by kernel_rfl))
 t0:=w9
 a0:=ab1
 z0:=aa4
 v0:=x7
 t3:=o9
 a3:=y9
 z3:=x6
 v3:=p7
 t4:=s8
 a4:=aa2
 z4:=y7
 v4:=s9
 t5:=x4
 a5:=ab2
 z5:=aa5
 v5:=x8
 t9:=v8
 a9:=aa6
 z9:=aa1
 v9:=w6
 t12:=Tryz.underlying12
 a12:=Tryz.isAgg12
 z12:=Tryz.sizeOf12
 v12:=Tryz.zeroValue12
 t46:=y8
 a46:=ac5
 z46:=ab6
 v46:=z7
 t53:=ae0
 a53:=ah6
 z53:=ag9
 v53:=ae7
 t119:=Tryz.underlying167
 a119:=Tryz.isAgg167
 z119:=Tryz.sizeOf167
 t138:=Tryz.underlying169
 a138:=Tryz.isAgg169
 z138:=Tryz.sizeOf169
 v138:=Tryz.zeroValue169
 t139:=Tryz.underlying170
 a139:=Tryz.isAgg170
 z139:=Tryz.sizeOf170
 v139:=Tryz.zeroValue170
 g3:=by kernel_rfl
 g4:=by kernel_rfl }
def Tryz.lays2_21_ren:x5:=⟨fun|21=>145|27=>154|28=>155|35=>157|39=>158|n=>n,fun|22=>142|3=>3|4=>4|0=>0|n=>n,fun|n=>n⟩
theorem Tryz.lays2_21:as6 o7 Tryz.lays2_21_ren:={
 mixed:=by kernel_rfl
 f21:=Tryz.func145.trans (congrArg some (by kernel_rfl))
 f27:=Tryz.func154.trans (congrArg some (by kernel_rfl))
 f28:=Tryz.func155.trans (congrArg some (by kernel_rfl))
 f35:=Tryz.func157.trans (congrArg some (by kernel_rfl))
 f39:=Tryz.func158.trans (congrArg some (by kernel_rfl))
 t0:=w9
 a0:=ab1
 z0:=aa4
 v0:=x7
 t3:=o9
 a3:=y9
 z3:=x6
 v3:=p7
 t4:=s8
 a4:=aa2
 z4:=y7
 v4:=s9
 t22:=Tryz.underlying142
 a22:=Tryz.isAgg142
 z22:=Tryz.sizeOf142
 v22:=Tryz.zeroValue142
 i3:=by kernel_rfl }
def Tryz.lays7_27_ren:x5:=⟨fun|27=>141|28=>151|29=>152|n=>n,fun|25=>67|3=>3|27=>37|22=>95|4=>4|53=>185|0=>0|5=>5|54=>186|n=>n,fun|0=>4|1=>5|n=>n⟩
theorem Tryz.lays7_27:as7 o7 Tryz.lays7_27_ren:={
 mixed:=by kernel_rfl
 f27:=ap2.trans (congrArg some (by kernel_rfl))
 f28:=ap3.trans (congrArg some (by kernel_rfl))
 f29:=ap4.trans (congrArg some (by kernel_rfl))
 t0:=w9
 a0:=ab1
 z0:=aa4
 v0:=x7
 i0:=by kernel_rfl
 t3:=o9
 a3:=y9
 z3:=x6
 v3:=p7
 i3:=by kernel_rfl
 t4:=s8
 a4:=aa2
 z4:=y7
 v4:=s9
 i4:=by kernel_rfl
 t5:=x4
 a5:=ab2
 z5:=aa5
 v5:=x8
 i5:=by kernel_rfl
 t22:=ae0
 a22:=ah6
 z22:=ag9
 v22:=ae7
 i22:=by kernel_rfl
 t25:=y8
 a25:=ac5
 z25:=ab6
 v25:=z7
 i25:=by kernel_rfl
 t27:=ab3
 a27:=ad9
 z27:=ad2
 v27:=ac1
 i27:=by kernel_rfl
 t53:=aj5
 a53:=an6
 z53:=an1
 v53:=al1
 i53:=by kernel_rfl
 t54:=aj6
 a54:=an7
 z54:=an2
 g0:=by kernel_rfl
 g1:=by kernel_rfl }
def Tryz.lays137_ren:x5:=⟨fun|137=>60|217=>89|266=>115|n=>n,fun|9=>9|5=>5|3=>3|n=>n,fun|n=>n⟩
theorem Tryz.lays137:ar6 o7 Tryz.lays137_ren:={
 mixed:=by kernel_rfl
 f137:=ar5.trans (congrArg some (by kernel_rfl))
 f217:=ag4.trans (congrArg some (by kernel_rfl))
 f266:=af7.trans (congrArg some (by kernel_rfl))
 t3:=o9
 a3:=y9
 z3:=x6
 v3:=p7
 t5:=x4
 a5:=ab2
 z5:=aa5
 v5:=x8
 t9:=v8
 a9:=aa6
 z9:=aa1
 v9:=w6 }
def Tryz.lays153_ren:x5:=⟨fun|153=>35|152=>62|226=>63|227=>64|228=>65|137=>60|119=>90|224=>91|225=>92|217=>89|266=>115|n=>n,fun|9=>9|3=>3|4=>4|5=>5|21=>21|117=>102|116=>101|0=>0|46=>67|124=>121|n=>n,fun|n=>n⟩
theorem Tryz.lays153:as0 o7 Tryz.lays153_ren:={
 mixed:=by kernel_rfl
 f119:=Tryz.func90.trans (congrArg some (by kernel_rfl))
 f137:=ar5.trans (congrArg some (by kernel_rfl))
 f152:=Tryz.func62.trans (congrArg some (by kernel_rfl))
 f153:=Tryz.func35.trans (congrArg some (by kernel_rfl))
 f217:=ag4.trans (congrArg some (by kernel_rfl))
 f224:=ai5.trans (congrArg some (by kernel_rfl))
 f225:=ai6.trans (congrArg some (by kernel_rfl))
 f226:=Tryz.func63.trans (congrArg some (by kernel_rfl))
 f227:=Tryz.func64.trans (congrArg some (by kernel_rfl))
 f228:=Tryz.func65.trans (congrArg some (by kernel_rfl))
 f266:=af7.trans (congrArg some (by kernel_rfl))
 t0:=w9
 a0:=ab1
 z0:=aa4
 v0:=x7
 t3:=o9
 a3:=y9
 z3:=x6
 v3:=p7
 t4:=s8
 a4:=aa2
 z4:=y7
 v4:=s9
 t5:=x4
 a5:=ab2
 z5:=aa5
 v5:=x8
 t9:=v8
 a9:=aa6
 z9:=aa1
 v9:=w6
 t21:=Tryz.underlying21
 a21:=Tryz.isAgg21
 z21:=Tryz.sizeOf21
 v21:=Tryz.zeroValue21
 t46:=y8
 a46:=ac5
 z46:=ab6
 v46:=z7
 t116:=Tryz.underlying101
 a116:=Tryz.isAgg101
 z116:=Tryz.sizeOf101
 t117:=Tryz.underlying102
 a117:=Tryz.isAgg102
 z117:=Tryz.sizeOf102
 v117:=Tryz.zeroValue102
 t124:=Tryz.underlying121
 a124:=Tryz.isAgg121
 z124:=Tryz.sizeOf121
 v124:=Tryz.zeroValue121 }
def Tryz.lays190_ren:x5:=⟨fun|190=>15|125=>28|258=>27|128=>55|129=>56|302=>46|303=>47|304=>48|305=>49|306=>50|307=>51|308=>52|309=>53|310=>54|333=>77|329=>78|330=>79|334=>80|335=>81|336=>82|344=>111|n=>n,fun|31=>23|9=>9|3=>3|46=>67|0=>0|51=>37|53=>95|4=>4|183=>87|182=>86|131=>91|5=>5|218=>112|222=>116|228=>140|229=>81|n=>n,fun|n=>n⟩
theorem Tryz.lays190:as2 o7 Tryz.lays190_ren:={
 mixed:=by kernel_rfl
 f125:=Tryz.func28.trans (congrArg some (by kernel_rfl))
 f128:=Tryz.func55.trans (congrArg some (by kernel_rfl))
 f129:=ar4.trans (congrArg some (by kernel_rfl))
 f190:=Tryz.func15.trans (congrArg some (by kernel_rfl))
 f258:=Tryz.func27.trans (congrArg some (by kernel_rfl))
 f302:=Tryz.func46.trans (congrArg some (by kernel_rfl))
 f303:=Tryz.func47.trans (congrArg some (by kernel_rfl))
 f304:=Tryz.func48.trans (congrArg some (by kernel_rfl))
 f305:=Tryz.func49.trans (congrArg some (by kernel_rfl))
 f306:=Tryz.func50.trans (congrArg some (by kernel_rfl))
 f307:=Tryz.func51.trans (congrArg some (by kernel_rfl))
 f308:=Tryz.func52.trans (congrArg some (by kernel_rfl))
 f309:=Tryz.func53.trans (congrArg some (by kernel_rfl))
 f310:=Tryz.func54.trans (congrArg some (by kernel_rfl))
 f329:=Tryz.func78.trans (congrArg some (by kernel_rfl))
 f330:=Tryz.func79.trans (congrArg some (by kernel_rfl))
 f333:=Tryz.func77.trans (congrArg some (by kernel_rfl))
 f334:=Tryz.func80.trans (congrArg some (by kernel_rfl))
 f335:=Tryz.func81.trans (congrArg some (by kernel_rfl))
 f336:=Tryz.func82.trans (congrArg some (by kernel_rfl))
 f344:=Tryz.func111.trans (congrArg some (by kernel_rfl))
 t0:=w9
 a0:=ab1
 z0:=aa4
 v0:=x7
 t3:=o9
 a3:=y9
 z3:=x6
 v3:=p7
 t4:=s8
 a4:=aa2
 z4:=y7
 v4:=s9
 t5:=x4
 a5:=ab2
 z5:=aa5
 v5:=x8
 t9:=v8
 a9:=aa6
 z9:=aa1
 v9:=w6
 t31:=ag5
 a31:=ak8
 z31:=aj2
 v31:=ah2
 t46:=y8
 a46:=ac5
 z46:=ab6
 v46:=z7
 t51:=ab3
 a51:=ad9
 z51:=ad2
 v51:=ac1
 t53:=ae0
 a53:=ah6
 z53:=ag9
 v53:=ae7
 t131:=Tryz.underlying91
 a131:=Tryz.isAgg91
 z131:=Tryz.sizeOf91
 v131:=Tryz.zeroValue91
 t182:=Tryz.underlying86
 a182:=Tryz.isAgg86
 z182:=Tryz.sizeOf86
 v182:=Tryz.zeroValue86
 t183:=Tryz.underlying87
 a183:=Tryz.isAgg87
 z183:=Tryz.sizeOf87
 v183:=Tryz.zeroValue87
 t218:=Tryz.underlying112
 a218:=Tryz.isAgg112
 z218:=Tryz.sizeOf112
 v218:=Tryz.zeroValue112
 t222:=Tryz.underlying116
 a222:=Tryz.isAgg116
 z222:=Tryz.sizeOf116
 v222:=Tryz.zeroValue116
 t228:=Tryz.underlying140
 a228:=Tryz.isAgg140
 z228:=Tryz.sizeOf140
 v228:=Tryz.zeroValue140
 t229:=Tryz.underlying81
 a229:=Tryz.isAgg81
 z229:=Tryz.sizeOf81
 v229:=Tryz.zeroValue81 }
def Tryz.lays194_ren:x5:=⟨fun|194=>16|n=>n,fun|31=>23|9=>9|3=>3|4=>4|0=>0|n=>n,fun|n=>n⟩
theorem Tryz.lays194:as3 o7 Tryz.lays194_ren:={
 mixed:=by kernel_rfl
 f194:=Tryz.func16.trans (congrArg some (by kernel_rfl))
 t0:=w9
 a0:=ab1
 z0:=aa4
 v0:=x7
 t3:=o9
 a3:=y9
 z3:=x6
 v3:=p7
 t4:=s8
 a4:=aa2
 z4:=y7
 v4:=s9
 t9:=v8
 a9:=aa6
 z9:=aa1
 v9:=w6
 t31:=ag5
 a31:=ak8
 z31:=aj2
 v31:=ah2 }
end Go.Proofs
namespace Go.Proofs.YtiodfnbjmmdlmaaGreatDoor.E
set_option linter.all false
section
open Go Go.Proofs Go.Sort
set_option maxRecDepth 100000
theorem PB{C:Cfg}{St:Nat->Prop}{w:World}{g:Nat}{k:IntKind}{zs:List Int}(a:GOK C St w)(b:C.G=GX)(h:GX.tab g=some (k,zs)):∃e x,w.heap[g]? = some (.cells (zs.map λz=>Value.int k z).toArray e x):=(a.1 g k zs (by rw[b];exact h)).2
theorem Bl6{C:Cfg}{St:Nat->Prop}{w:World}(a:GOK C St w)(b:C.G=GX):∃m,w.cell? ⟨0,0,none⟩=some (.int .i64 m):=(a.2 _ (by rw[b];rfl)).2
theorem Zs{w:World}{g:Nat}{a:List Int}{k:IntKind}{e:TypeId}{x}(h:w.heap[g]? = some (.cells (a.map λz=>Value.int k z).toArray e x))(i:Nat)(b:i<a.length):w.cell? ⟨g,i,none⟩=some (.int k (a.getD i 0)):=by simp[World.cell?,h,j7,k9 b]
theorem B29{C:Cfg}{St:Nat->Prop}{w:World}(f:GOK C St w)(a:C.G=GX):Lib.Utf8Tabs 1 2 w:=by
 obtain⟨j,m,h⟩:=PB (g:=1) (k:=.u8) (zs:=ak1) f a rfl;obtain⟨b,n,d⟩:=PB (g:=2) (k:=.u8) (zs:=Ew) f a rfl;refine⟨λc a=>?_,λi l=>⟨?_,?_⟩⟩
 ·rw[Zs h c (by simp[ak1];omega)];simp[ak1,j7,k9,a]
 ·rw[Zs d (2*i) (by simp[Ew];omega)];have:2*i<32:=by omega
  simp[Ew,j7,this]
 ·rw[Zs d (2*i+1) (by simp[Ew];omega)];have:2*i+1<32:=by omega
  have e:(2*i+1) / 2=i:=by omega
  have b:¬(2*i+1) % 2=0:=by omega
  simp[Ew,j7,this,e,b]
theorem Bl7{C:Cfg}{St:Nat->Prop}{w:World}(b:GOK C St w)(c:C.G=GX):Lib.TabIs o7 w "internal/strconv.uint64pow10" .u64 ao4:=by
 obtain⟨d,e,a⟩:=PB (g:=3) (k:=.u64) (zs:=ao4) b c rfl;unfold Lib.TabIs World.var?
 rw [show o7.globalNamed "internal/strconv.uint64pow10" = some 3 by kernel_rfl]
 simp only[al4,a]
theorem As1:A9 o7 GX 103 BG:=by
 refine A9.fix (pf:=MK) _ (H8 (fn:=Tryz.f103) (by kernel_rfl) (by kernel_rfl) (by kernel_rfl) ?_);intro args ret o h;unfold MK at h;split at h
 ·rename_i s p;obtain⟨b,h⟩:=C8 h;obtain⟨rfl,rfl⟩:=G6 h;refine⟨rfl,rfl,λC r a t w q c f d=>?_⟩;obtain⟨U,V,rfl,j,k⟩:=d.arr2;obtain⟨n,rfl,rfl⟩:=j.inv_str;obtain⟨l,rfl,rfl⟩:=k.inv_str;obtain⟨m,g⟩:=Bl6 c a;have i:=N7 b;refine(Any.strings_Index Tryz.lays143 n l m w (by simp at i;omega) g).mono ?_;rintro e w' ⟨rfl,rfl⟩;exact⟨_,rfl,ad8 _ _,VP.mk_int _ _⟩
 ·cases h
theorem Bw9:A9 o7 GX 31 Aa4:=by
 refine A9.fix (pf:=MJ) _ (H8 (fn:=Tryz.f31) (by kernel_rfl) (by kernel_rfl) (by kernel_rfl) ?_);intro args ret q h;unfold MJ at h;split at h
 ·rename_i s p;obtain⟨b,h⟩:=C8 h;obtain⟨rfl,rfl⟩:=G6 h;refine⟨rfl,rfl,λC t a u w r c f d=>?_⟩;obtain⟨U,V,rfl,j,k⟩:=d.arr2;obtain⟨o,rfl,rfl⟩:=j.inv_str;obtain⟨l,rfl,rfl⟩:=k.inv_str;obtain⟨m,g⟩:=Bl6 c a;have i:=N7 b;refine(Any.strings_Cut Tryz.lays145 o l m w (by simp at i;omega) g).mono ?_;rintro e w' ⟨rfl,n,rfl⟩;exact⟨_,rfl,Lp _ _,VP.mk_tup3 (VP.mk_str _) (VP.mk_str _) (VP.mk_bool _)⟩
 ·cases h
theorem Bw8:A9 o7 GX 136 Aa3:=by
 refine A9.fix (pf:=MI) _ (H8 (fn:=Tryz.f136) (by kernel_rfl) (by kernel_rfl) (by kernel_rfl) ?_);intro args ret o h;unfold MI at h;split at h
 ·rename_i s p;obtain⟨f,h⟩:=C8 h;obtain⟨rfl,rfl⟩:=G6 h;refine⟨rfl,rfl,λC t g u w q r j i=>?_⟩;obtain⟨U,V,rfl,l,m⟩:=i.arr2;obtain⟨n,rfl,rfl⟩:=l.inv_str;obtain⟨b,rfl,k⟩:=m.inv_str;obtain⟨c,rfl⟩:∃c,p=[c]:=by
   match p,f with
   | [c],_=>exact⟨c,rfl⟩
  have a:b=⟨#[c]⟩:=by
   cases b with
   | mk d=>congr 1;exact Array.toList_inj.1 k
  subst a;refine(Any.strings_Count_one Tryz.lays138 n c w).mono ?_;rintro e w' ⟨rfl,rfl⟩;exact⟨_,rfl,ad8 _ _,VP.mk_int _ _⟩
 ·cases h
theorem Bw0:A9 o7 GX 43 ZV:=by
 refine A9.fix (pf:=LN) _ (H8 (fn:=Tryz.f43) (by kernel_rfl) (by kernel_rfl) (by kernel_rfl) ?_);intro args ret l h;unfold LN at h;split at h
 ·rename_i n;obtain⟨b,h⟩:=C8 h;obtain⟨rfl,rfl⟩:=G6 h;refine⟨rfl,rfl,λC o a p w m c i g=>?_⟩;obtain⟨U,rfl,j⟩:=g.arr1;obtain rfl:=j.inv_int;obtain⟨d,f⟩:=E8.1 b;refine(Any.strconv_Itoa Tryz.laysM171 n (by omega) (by omega) w (Bl7 c a)).mono ?_;rintro e w' ⟨rfl,k,os,rfl⟩;refine⟨_,rfl,(Lp w k).trans (show ao9 w.heap.size _ _ from CE (w.drewN k) os),?_⟩;have:Lib.itoa n=j8 n.toNat:=by unfold Lib.itoa;rw[T1]
  rw[this];exact VP.mk_str _
 ·cases h
theorem Dw{l:LL}(h:l.all isS=true):l=A6 (l.map elS):=by
 unfold A6;rw[ah3]
 symm
 rw[ad0 (g:=id)]
 ·simp
 ·intro x a;have:=ac0.1 h x a;unfold isS at this;split at this
  ·rfl
  grind
theorem Az8:A9 o7 GX 76 MN:=by
 refine A9.fix (pf:=BJ) _ (H8 (fn:=Tryz.f76) (by kernel_rfl) (by kernel_rfl) (by kernel_rfl) ?_);intro args ret Hc h;unfold BJ at h;split at h
 ·rename_i z t l p;obtain⟨L,h⟩:=C8 h;obtain⟨O,h⟩:=C8 h;obtain⟨P,h⟩:=C8 h;obtain⟨rfl,rfl⟩:=G6 h;refine⟨rfl,rfl,λC hP Q Γ w Vs hG H R=>?_⟩;obtain⟨U,V,rfl,Z,hv⟩:=R.arr2;obtain⟨u,rfl,rfl⟩:=hv.inv_str;have m:=N7 O;have hn:=N7 P;have Y:=Z.inv_s;have c:∀(a:Option Addr) (cap:Nat),l=[]->Calls o7 76 #[.slice a 0 cap,.string u] w λe w'=>∃V,e = .returned V/\ao9 w.heap.size w w'/\VP Γ (A1 []) w' (.s (.str (ae8 (l.map elS) u.data.toList))) V:=by
   intro a cap T;subst T;refine(Any.strings_Join_none Tryz.lays156 Tryz.Builder_Extra_156 a cap u w).mono ?_;rintro e w' ⟨rfl,rfl⟩;exact⟨_,rfl,ad8 _ _,VP.mk_str _⟩
  cases Y with
  | nil=>exact c _ _ rfl
  | emp=>exact c _ _ rfl
  | sl _ _ g off n cap sz Vc I M hm ht S W y K=>
   subst I;have N:=Dw L;have J:∀i (h:i<l.length),∃b:ByteArray,(l[i])=[SV.str b.data.toList]/\w.cell? ⟨g,off+i,none⟩=some (.string b):=by
    intro i B;have d:=ac0.1 L (l[i]) (al3 B);unfold isS at d;split at d
    ·rename_i x r;have k:=y i B 0 (by rw[r];simp);have o:=K i B 0 (by rw[r];simp);simp only[r,List.getElem_cons_zero] at o;obtain⟨b,f,rfl⟩:=o.inv_str;rw[f] at k;exact⟨b,r,by simpa using k⟩
    ·cases d
   obtain⟨xs,q,A⟩:∃xs:List ByteArray,xs.map (·.data.toList)=l.map elS/\∀(j:Nat) x,xs[j]? = some x->w.cell? ⟨g,off+j,none⟩=some (.string x):=by
    refine⟨(l.map elS).map λs=>⟨s.toArray⟩,by simp[Function.comp_def],?_⟩;intro j x d;simp only[ak2] at d;cases D:l[j]? with
    | none=>simp[D] at d
    | some el=>
     obtain⟨F,rfl⟩:=List.getElem?_eq_some_iff.1 D;obtain⟨b,f,v⟩:=J j F;simp only[D,ad3,o5] at d;rw[f] at d;simp[elS,SV.gS] at d;rw[<-d];exact v
   have G:xs.length=l.length:=by
    have:=congrArg c9 q;simpa using this
   rw[<-q] at m ⊢;have f:g<w.heap.size:=H g S;have X:l.length<=140737488355328:=by omega
   refine(G▸Any.strings_Join Tryz.lays156 Tryz.Builder_Extra_156 g off cap xs u w A f (by omega) (by omega) (by omega)).mono ?_;rintro e w' ⟨rfl,hw⟩;exact⟨_,rfl,hw,VP.mk_str _⟩
 ·cases h
theorem Cq3(x:Nat)(h:x<65536):Ab5 .u64 (x:Int) 15=((x % 16:Nat):Int):=by unfold Ab5;rw[show ac3 .u64=64 from rfl,show(15:Int)=((15:Nat):Int) from rfl,Cg0 64 x 15 (by omega) (by omega),show x &&& 15=x % 16 from ae6 x 4];exact SN (by omega) (by omega)
theorem Cu3(x:Nat):HG .u64 (x:Int) 4=((x / 16:Nat):Int):=by unfold HG;show Int.fdiv (x:Int) 16=_;grind
theorem Au8(d:Nat)(h:d<16):bAt (([48,49,50,51,52,53,54,55,56,57,97,98,99,100,101,102,103,104,105,106,107,108,109,110,111,112,113,114,115,116]:List UInt8)++([117,118,119,120,121,122]:List UInt8)) (d:Int)=((Zf d).toNat:Int):=by
 have:∀d:Fin 16,bAt (([48,49,50,51,52,53,54,55,56,57,97,98,99,100,101,102,103,104,105,106,107,108,109,110,111,112,113,114,115,116]:List UInt8)++([117,118,119,120,121,122]:List UInt8)) (d.val:Int)=((Zf d.val).toNat:Int):=by decide
 exact this ⟨d,h⟩
def Ps(i:Nat)(s:By):LL:=j0 i [SV.int .u8 0]++s.map H7
theorem CY(i:Nat)(s:By):(Ps i s).length=i+s.length:=by simp[Ps]
theorem UZ(i:Nat)(s:By)(c:UInt8):ad7 (Ps (i+1) s) i (F9 (c8 (Ps (i+1) s) i []) 0 [SV.int .u8 (c.toNat:Int)])=Ps i (c::s):=by
 have a:c8 (Ps (i+1) s) i []=[SV.int .u8 0]:=by
  unfold Ps;grind
 rw[a];unfold Ps;rw[List.replicate_succ',List.append_assoc,ai3 _ _ (by simp),List.length_replicate,ak5];rfl
theorem Af8{R:Type}(z t:Bool)(l:LL){e:Bool->Bool->LL->Int->Int->LL->Option R}:∀(v i n:Nat) (s:By),v<65536->v<n->i+s.length=65->(Af v).length+s.length<=60->
  ∃(u a:Nat) (b:By),u<16/\Zf u::b=Af v++s/\a+b.length=65/\Il LF n z t l (v:Int) (i:Int) (Ps i s) e=e z t l (u:Int) (a:Int) (Ps a b):=by
 intro v
 induction v using ai2 with
 | _ v w=>
  intro i n s r y q x;obtain⟨n,rfl⟩:∃m,n=m+1:=⟨n-1,by omega⟩
  rw[Il];by_cases h:v<16
  ·refine⟨v,i,s,h,by rw[Mh h];rfl,q,?_⟩;rw[C7];rfl
  ·have d:=Nq h;have c:(Af v).length=(Af (v / 16)).length+1:=by rw[d];simp
   obtain⟨j,rfl⟩:∃j,i=j+1:=⟨i-1,by omega⟩
   have f:A4 (((j+1:Nat):Int)-1)=(j:Int):=by rw[C0];omega
   obtain⟨u,a,b,g,k,o,p⟩:=w (v / 16) (by omega) j n (Zf (v % 16)::s) (by omega) (by omega) (by rw[o8];omega) (by rw[o8];omega);refine⟨u,a,b,g,by rw[k,d];simp,o,?_⟩;rw[A8,j6,cond_true,Cq3 v r];simp only[vl];rw[Cu3,f,j1,K8,Au8 _ (by omega),K8];simp only[cond_true];rw[UZ,CY,show(decide (j<j+1+s.length))=true from decide_eq_true (by omega)];exact p
theorem A35{R:Type}{k0:By->LL->Option R}(z t:Bool)(l:LL)(v:Int)(f:ltN v 65536=true):∃p,VI LF z t l v k0=k0 (Af v.toNat) p:=by
 obtain⟨d,m⟩:=E8.1 f;obtain⟨v,rfl⟩:=p9 d;have k:=G3;have r:=WC v (by omega);rw[j1];unfold VI;have o:(j0 65 [SV.int .u8 (0:Int)])=Ps 65 []:=by unfold Ps;rw[ao5,af2]
 rw[o];obtain⟨u,i,s,g,c,q,h⟩:=Af8 (R:=R) z t l v 65 LF [] (by omega) (by omega) rfl (by rw[ac6];omega);rw[af2] at c;have n:s.length<=3:=by have:=congrArg c9 c;rw[o8] at this;omega
 obtain⟨j,rfl⟩:∃j,i=j+1:=⟨i-1,by omega⟩
 refine⟨Ps j (Zf u::s),?_⟩;rw[show((16:Int)==16)=true from rfl,cond_true,cond_true];refine j4 h ?_;have e:A4 (((j+1:Nat):Int)-1)=(j:Int):=by rw[C0];omega
 simp only[vl];rw[e,j1,K8,Au8 u g,K8];simp only[cond_true];have a:(Zf u::s).length=s.length+1:=rfl;have b:((Ps j (Zf u::s)).drop j).take (65-j)=(Zf u::s).map H7:=by
  unfold Ps;rw[ah9 (by simp),w8 (by rw[af3,a];omega)]
 rw[UZ,CY,CY,show(decide (j<j+1+s.length))=true from decide_eq_true (by omega),a,show(decide (j+(s.length+1)=65))=true from decide_eq_true (by omega),T0,b,Lk,Mo,c];rfl
theorem Af9(z t:Bool)(l:LL)(v:Int)(c:ltN v 65536=true):∃r H,VI LF z t l v (λb a=>rv (.tup [.fl 0,.s (.str b)]) [.arr true 5 1 [],.arr false 173 1 a])=rv r H/\r.stab [1,0] H = .tup [.s (.sl true true 1 []),.s (.str (Af v.toNat))]:=by obtain⟨d,e⟩:=A35 (k0:=(λb a=>rv (.tup [.fl 0,.s (.str b)]) [.arr true 5 1 [],.arr false 173 1 a])) z t l v c;exact⟨_,_,e,rfl⟩
theorem A36{C:Cfg}{St:Nat->Prop}{w:World}(c:GOK C St w)(d:C.G=GX):TabAt 5 aj9 w:=by obtain⟨e,f,b⟩:=PB (g:=5) (k:=.u8) (zs:=aj9.map λn:Nat=>(n:Int)) c d rfl;intro j a;rw[Zs b j (by rw[af3];exact a)];simp[j7,k9 a]
theorem Cu4:A9 o7 GX 141 Ch1:=by
 refine A9.fix (pf:=Bg8) _ (H8 (fn:=Tryz.f141) (by kernel_rfl) (by kernel_rfl) (by kernel_rfl) ?_);intro args ret i h;unfold Bg8 at h;split at h
 ·rename_i x;obtain⟨b,h⟩:=C8 h;obtain⟨rfl,rfl⟩:=G6 h;obtain rfl:x=16:=eq_of_beq b;refine⟨rfl,rfl,λC k a l w j c f d=>?_⟩;obtain⟨U,rfl,g⟩:=d.arr1;obtain rfl:=g.inv_int;refine(Any7.bits_TrailingZeros Tryz.lays7_27 16 (by omega) w (λ_=>A36 c a)).mono ?_;rintro e w' ⟨rfl,rfl⟩;exact⟨_,rfl,ad8 _ _,VP.mk_int _ _⟩
 ·cases h
theorem Cd0:A9 o7 GX 140 LM:=by
 refine A9.fix (pf:=AS) _ (G9 [] (C₀:=NK LF) (J6.ok (l:=[]) rfl trivial) (F8 rfl (by kernel_rfl)) follows ?_);intro args ret b h;unfold AS at h;split at h
 ·rename_i x;obtain⟨a,h⟩:=C8 h;obtain⟨rfl,rfl⟩:=G6 h;obtain rfl:x=16:=eq_of_beq a;exact⟨rfl,rfl,rfl,1,_,_,Bn0 LF noY () 0,rfl⟩
 ·cases h
theorem Cc6:A9 o7 GX 126 KW:=by
 refine A9.fix (pf:=AM) _ (G9 [1,0] (C₀:=Gh LF) (J6.ok (l:=[(140,LM),(141,Ch1)]) rfl ⟨Cd0,Cu4,trivial⟩) (F8 rfl (by kernel_rfl)) follows ?_);intro args ret k h;unfold AM at h;split at h
 ·rename_i c a ds v b neg app;obtain⟨d,h⟩:=C8 h;obtain⟨f,h⟩:=C8 h;obtain⟨g,h⟩:=C8 h;obtain⟨i,h⟩:=C8 h;obtain⟨rfl,rfl⟩:=G6 h;obtain rfl:b=16:=eq_of_beq f;obtain rfl:neg=false:=by simpa using g
  obtain rfl:app=false:=by simpa using i
  obtain⟨r,H,e,j⟩:=Af9 c a ds v d;exact⟨rfl,rfl,rfl,1,r,H,(Bl1 LF noY () 0 c a ds v).trans e,j⟩
 ·cases h
theorem Cc9:A9 o7 GX 107 LJ:=by
 refine A9.fix (pf:=AR) _ (G9 [] (C₀:=NJ LF) (J6.ok (l:=[(126,KW)]) rfl ⟨Cc6,trivial⟩) (F8 rfl (by kernel_rfl)) follows ?_);intro args ret f h;unfold AR at h;split at h
 ·rename_i v b;obtain⟨a,h⟩:=C8 h;obtain⟨c,h⟩:=C8 h;obtain⟨rfl,rfl⟩:=G6 h;obtain rfl:b=16:=eq_of_beq c;have e:Av9 LF v (λd=>rv (.s (.str d)) [])=rv (.s (.str (Af v.toNat))) []:=by
   unfold Av9;rw[a];rfl
  exact⟨rfl,rfl,rfl,1,_,_,(Bm6 LF noY () 0 v).trans e,rfl⟩
 ·cases h
theorem Cn6:A9 o7 GX 75 Bf5:=by
 refine A9.fix (pf:=KX) _ (G9 [] (C₀:=Ac4 LF) (J6.ok (l:=[(107,LJ)]) rfl ⟨Cc9,trivial⟩) (F8 rfl (by kernel_rfl)) follows ?_);intro args ret f h;unfold KX at h;split at h
 ·rename_i v b;obtain⟨a,h⟩:=C8 h;obtain⟨c,h⟩:=C8 h;obtain⟨rfl,rfl⟩:=G6 h;obtain rfl:b=16:=eq_of_beq c;have e:B26 LF v (λd=>rv (.s (.str d)) [])=rv (.s (.str (Af v.toNat))) []:=by
   unfold B26;rw[a];rfl
  exact⟨rfl,rfl,rfl,1,_,_,(B27 LF noY () 0 v).trans e,rfl⟩
 ·cases h
end
section
open Go Go.Proofs
theorem Cm8(z t:Bool)(l:LL)(c:l.all Si=true)(d:ab8 l.length 8=true):∃r H,v6j LF z t l (λb a=>rv (.s (.str b)) [.arr true 9 1 a])=rv r H/\r.stab [] H = .s (.str (Cm (l.map elN))):=by obtain⟨f,e⟩:=Bu5 (k0:=(λb a=>rv (.s (.str b)) [.arr true 9 1 a])) z t l c d;exact⟨_,_,e,rfl⟩
theorem Cm6(a b c d f g h i:Int)(l:ok8 a b c d f g h i=true):∃r H,v6f LF a b c d f g h i (λk j=>rv (.s (.str k)) [.arr false 39 1 j])=rv r H/\r.stab [] H = .s (.str (Yx (n8 a b c d f g h i))):=by obtain⟨m,e⟩:=Bu3 (k0:=(λk j=>rv (.s (.str k)) [.arr false 39 1 j])) a b c d f g h i l;exact⟨_,_,e,rfl⟩
def v6V(s:By):PV:=.tup [.agg [.s (.int .u16 (v6c 0 s)),.s (.int .u16 (v6c 1 s)),.s (.int .u16 (v6c 2 s)),.s (.int .u16 (v6c 3 s)),.s (.int .u16 (v6c 4 s)),.s (.int .u16 (v6c 5 s)),.s (.int .u16 (v6c 6 s)),.s (.int .u16 (v6c 7 s))],.s (.bool (v6B s).isSome)]
theorem Cn1(s:By)(m:A2 s.length=true):∃r H,v6p LF s (λc d f g h i j k r8 b a=>rv (.tup [.agg [.s (.int .u16 c),.s (.int .u16 d),.s (.int .u16 f),.s (.int .u16 g),.s (.int .u16 h),.s (.int .u16 i),.s (.int .u16 j),.s (.int .u16 k)],.s (.bool r8)]) [.arr false 39 1 b,.arr false 39 1 a])=rv r H/\r.stab [0,0] H=v6V s:=by obtain⟨l,n,e⟩:=Bu6 (k0:=(λc d f g h i j k r8 b a=>rv (.tup [.agg [.s (.int .u16 c),.s (.int .u16 d),.s (.int .u16 f),.s (.int .u16 g),.s (.int .u16 h),.s (.int .u16 i),.s (.int .u16 j),.s (.int .u16 k)],.s (.bool r8)]) [.arr false 39 1 b,.arr false 39 1 a])) s m;exact⟨_,_,e,rfl⟩
set_option maxRecDepth 100000
section
variable {W R : Type} (L : Nat) (Q : E3) (Y : Yh W) (s : W) (k : Out -> St W -> Option R)
noncomputable abbrev TX:Code:=E5 aq8
noncomputable def Ez(L:Nat):Cfg:=D1 L [68] (A3 [(16,[2,0,4,41,0,0])]) [(36,AQ),(94,At0),(95,Bf8),(96,At9),(57,Nd),(97,Bg6),(98,HO),(99,Bg3),(76,MN)] (A3 [(28,[2,0]),(25,[2,0]),(27,[2,0]),(26,[2,10,64]),(24,[2,10,59]),(23,[2,10]),(22,[2,5,41,0,0]),(21,[2,5,41,0,0]),(20,[2,0]),(19,[2,5,0,1,0,37,0,0,10]),(18,[2,5,0,1,0,37,0,0]),(17,[2,5,0,0,39,0,0]),(16,[2,5,41,0,0,0]),(15,[2,5,41,0,0]),(14,[2,5]),(13,[2,0]),(12,[2,0]),(11,[2,3,37]),(10,[2,3,0]),(9,[2,1,32]),(8,[2,1]),(7,[2,0]),(6,[2,1,27]),(5,[2,1,0]),(2,[2,0]),(4,[2,0]),(3,[0,1,16]),(1,[0,1,11]),(0,[0,1])]) [36,95,96,57,97,99,76] (A3 [(3,[2,10]),(1,[2,5]),(2,[2,5,41,0,0]),(0,[0,1])]) (some [2,0]) [] [] []
noncomputable def Q8{R:Type}(L n:Nat)(a:Nat)(i c:Int)(e:LL)(g:Int->LL->Option R)(h:Nat->LL->Option R):Option R:=match n with|0=>none|n+1=>cond (ltI c i) (cond (inR c a) (cond (okE Jc e (0+(j2 c)) 0) (vl (gX e (0+(j2 c)) 0) λb=>cond (A2 b.length) (vl (↑((R4 b)).2:Int) λd=>cond (d !=0) (g d e) (cond (inR c a) (cond (decide ((0+(j2 c))<e.length)) (vl (ad7 e (0+(j2 c)) (F9 (c8 e (0+(j2 c)) []) 0 [(SV.str ((R4 b)).1)])) λf=>Q8 L n a i (A4 (c+1)) f g h) none) none)) none) none) none) (h a e)
theorem PD(n:Nat)(a:Nat)(d e:Int)(c:LL):G1 2 ((Ez L).keep 16) (bd (Ez L) Q Y (cd [1,1,1,1,1,1,1,0,1,0,0] TX)) n ⟨gp [(2,.ptr 0 0 0),(5,.vw 1 0 a),(41,.vw 1 0 a),(0,pI d),(0,pI e)] 31,[.box [pI (0:Int),pS ([]:List UInt8),p32 (0:Int),p16 (0:Int),p16 (0:Int),p16 (0:Int),p16 (0:Int),p16 (0:Int),p16 (0:Int),p16 (0:Int),p16 (0:Int)],.arr false 9 1 c],s⟩ k =
 Q8 L n a d e c (λn0 b=>k .ret ⟨gp [(2,.ptr 0 0 0),(0,pI n0)] 80,[.box [pI (0:Int),pS ([]:List UInt8),p32 (0:Int),p16 (0:Int),p16 (0:Int),p16 (0:Int),p16 (0:Int),p16 (0:Int),p16 (0:Int),p16 (0:Int),p16 (0:Int)],.arr false 9 1 b],s⟩) (λa b=>k (.exit 1) ⟨gp [(2,.ptr 0 0 0),(5,.vw 1 0 a)] 75,[.box [pI (0:Int),pS ([]:List UInt8),p32 (0:Int),p16 (0:Int),p16 (0:Int),p16 (0:Int),p16 (0:Int),p16 (0:Int),p16 (0:Int),p16 (0:Int),p16 (0:Int)],.arr false 9 1 b],s⟩):=by
 induction n generalizing a d e c with
 | zero=>rfl
 | succ n f=>rw[Q8];simp only[<-f];kernel_rfl
noncomputable def Wc{R:Type}(L:Nat)(a:By)(t:Int->By->Int->Int->Int->Int->Int->Int->Int->Int->Int->Int->Int->By->Int->Int->Int->Int->Int->Int->Int->Int->Int->Option R)(y:Int->By->Int->Int->By->LL->Option R):Option R:=cond (ltI 1024 (a.length:Int)) (t 0 ([]:List UInt8) 0 0 0 0 0 0 0 0 0 3 0 ([]:List UInt8) 0 0 0 0 0 0 0 0 0) (cond (A2 a.length) (cond (o0 ([91]:List UInt8) a) (cond (A2 a.length) (cond (Bm9 a) (vl (↑(C1.kind ((P4 a)).1):Int) λf=>vl (C1.name ((P4 a)).1) λr=>vl (↑(C1.v4 ((P4 a)).1):Int) λg=>vl (↑(c8 (C1.v6 ((P4 a)).1) 0 0):Int) λh=>vl (↑(c8 (C1.v6 ((P4 a)).1) 1 0):Int) λi=>vl (↑(c8 (C1.v6 ((P4 a)).1) 2 0):Int) λj=>vl (↑(c8 (C1.v6 ((P4 a)).1) 3 0):Int) λl=>vl (↑(c8 (C1.v6 ((P4 a)).1) 4 0):Int) λm=>vl (↑(c8 (C1.v6 ((P4 a)).1) 5 0):Int) λn=>vl (↑(c8 (C1.v6 ((P4 a)).1) 6 0):Int) λo=>vl (↑(c8 (C1.v6 ((P4 a)).1) 7 0):Int) λp=>vl (↑((P4 a)).2:Int) λw=>t f r g h i j l m n o p w f r g h i j l m n o p) none) none) (cond (A2 a.length) (cond (not (v7 (Ak a))) (t 0 ([]:List UInt8) 0 0 0 0 0 0 0 0 0 14 0 ([]:List UInt8) 0 0 0 0 0 0 0 0 0) (cond (A2 (c9 (Al7 a))) (vl (RY (Al7 a) ([46]:List UInt8)) λb=>cond (A2 b.length) (cond (N9 b) (cond (A2 b.length) (vl (↑(Cn (pnB b)):Int) λq=>cond (not (v7 (pnB b))) (t 0 ([]:List UInt8) 0 0 0 0 0 0 0 0 0 14 0 ([]:List UInt8) 0 0 0 0 0 0 0 0 0) (t 2 ([]:List UInt8) q 0 0 0 0 0 0 0 0 0 2 ([]:List UInt8) q 0 0 0 0 0 0 0 0)) none) (cond (A2 b.length) (cond (1==1) (vl (A6 (pcs (c8 ([46]:List UInt8) 0 0) b)) λu=>Q8 L L (c9 (pcs (c8 ([46]:List UInt8) 0 0) b)) (↑(c9 (pcs (c8 ([46]:List UInt8) 0 0) b)):Int) 0 u (λx v=>y 0 ([]:List UInt8) x 0 ([]:List UInt8) v) (λc d=>cond (ah0 (ac9 c (ae4 0 d)) isS) (cond (A2 (c9 (ae8 (ad1 elS (ac9 c (ae4 0 d))) ([46]:List UInt8)))) (cond (A2 (c9 (ac9 c (ae4 0 d)))) (vl (ae8 (ad1 elS (ac9 c (ae4 0 d))) ([46]:List UInt8)) λe=>cond (ltI 253 (e.length:Int)) (y 0 ([]:List UInt8) 3 0 ([]:List UInt8) d) (cond (A2 e.length) (cond (N9 e) (y 0 ([]:List UInt8) 14 0 ([]:List UInt8) d) (y 1 e 0 1 e d)) none)) none) none) none)) none) none)) none) none)) none)) none)
theorem A42(d:Nat)(raw0):evC (Ez L) (d+1) W Y 68 [pS raw0] [] s=Wc L raw0 (λo p t M N O P S r8 T q r c u e f g h i j l m n=>some (.tup [.agg [pI o,pS p,p32 t,p16 M,p16 N,p16 O,p16 P,p16 S,p16 r8,p16 T,p16 q],pI r],[.box [pI c,pS u,p32 e,p16 f,p16 g,p16 h,p16 i,p16 j,p16 l,p16 m,p16 n]],s)) (λo p t K U J=>some (.tup [.agg [pI o,pS p,p32 (0:Int),p16 (0:Int),p16 (0:Int),p16 (0:Int),p16 (0:Int),p16 (0:Int),p16 (0:Int),p16 (0:Int),p16 (0:Int)],pI t],[.box [pI K,pS U,p32 (0:Int),p16 (0:Int),p16 (0:Int),p16 (0:Int),p16 (0:Int),p16 (0:Int),p16 (0:Int),p16 (0:Int),p16 (0:Int)],.arr false 9 1 J],s)):=by refine(evE (fn:=aq8) (by kernel_rfl)).trans ?_;generalize evC (Ez L) d=Q;unfold Wc;exact(j4 (by kernel_rfl) (A0 rfl (A0 (A0 (A0 (A0 (A5 λv=>(A5 λI=>(A5 λw=>(A5 λx=>(A5 λy=>(A5 λz=>(A5 λA=>(A5 λB=>(A5 λC=>(A5 λD=>(A5 λF=>(A5 λG=>rfl)))))))))))) rfl) rfl) (A0 (A0 rfl (A0 (A5 λa=>(A0 (A0 (A0 (A5 λH=>(A0 rfl rfl)) rfl) (A0 (A0 (A5 λb=>((PD L Q Y s (I1 1 (J0 (Ez L) Q Y (cd [1,1,1,1,1,1,1,1] TX) (I6 (Ez L) aq8))) L (c9 (pcs (c8 ([46]:List UInt8) 0 0) a)) (↑(c9 (pcs (c8 ([46]:List UInt8) 0 0) a)):Int) 0 b).trans (by kernel_rfl))) rfl) rfl)) rfl)) rfl)) rfl)) rfl)))
noncomputable abbrev Au4:Code:=E5 ar0
noncomputable def Jt(L:Nat):Cfg:=D1 L [87] (A3 [(6,[0,1,0,1,10,0,0])]) [(112,Bg5),(113,Aa1)] (A3 [(13,[2]),(12,[0,3,0,2]),(11,[0,2,1,10,0,0]),(10,[0,2,1,10,0,0]),(9,[2]),(8,[0,2,1,1,8,0,0,8]),(7,[0,2,1,1,8,0,0]),(6,[0,2,1,10,0,0,0]),(5,[0,2,1,10,0,0]),(4,[0,2,1]),(3,[2]),(2,[0,2,11]),(1,[0,2,0]),(0,[0])]) [113] (A3 [(0,[0,2,1]),(1,[0,2,1,10,0,0])]) (some [2]) [] [] []
noncomputable def V0{R:Type}(L n:Nat)(i:By)(b:Bool)(a:LL)(c:Bool)(h e:Int)(f:Unit->Option R)(g:By->Bool->LL->Bool->Option R):Option R:=match n with|0=>none|n+1=>cond (ltI e h) (cond (inR e a.length) (cond (okE Ap7 a (j2 e) 0) (vl (gE a (j2 e) 0) λd=>cond (not (ltI d 65)) (cond (not (ltI 90 d)) (f ()) (cond c (V0 L n i b a (ltI d 128) h (A4 (e+1)) f g) (V0 L n i b a false h (A4 (e+1)) f g))) (cond c (V0 L n i b a (ltI d 128) h (A4 (e+1)) f g) (V0 L n i b a false h (A4 (e+1)) f g))) none) none) (g i b a c)
theorem WY(n d a b c n4 n5):G1 0 ((Jt L).keep 6) (bd (Jt L) Q Y (cd [1,1,1,1,0,1,0,0] Au4)) n ⟨gp [(0,pS d),(2,.s (.sl a a 1 b)),(1,pB c),(10,.s (.sl a a 1 b)),(0,pI n4),(0,pI n5)] 31,[],s⟩ k =
 V0 L n d a b c n4 n5 (λ_=>k .ret ⟨gp [(2,pB false)] 47,[],s⟩) (λd a b c=>k (.exit 0) ⟨gp [(0,pS d),(2,.s (.sl a a 1 b)),(1,pB c)] 44,[],s⟩):=by
 induction n generalizing d a b c n4 n5 with
 | zero=>rfl
 | succ n e=>rw[V0];simp only[<-e];kernel_rfl
noncomputable def Aw5{R:Type}(L:Nat)(d:By)(e:Bool->Option R):Option R:=cond (A2 d.length) (cond ((↑((W0 d)).2:Int)!=0) (e false) (V0 L L d (ak3 ((W0 d)).1) (Ak4 ((W0 d)).1) true (↑(c9 (Ak4 ((W0 d)).1)):Int) 0 (λ_=>e false) (λg c a b=>cond (ah0 a Xw) (vl ((Gd (ad1 elI a))).1 λh=>vl (↑((Gd (ad1 elI a))).2:Int) λf=>cond (not b) (cond (f==0) (e (h==g)) (e false)) (e false)) none))) none
theorem Bn8(d:Nat)(s0):evC (Jt L) (d+1) W Y 87 [pS s0] [] s=Aw5 L s0 (λa=>some (pB a,[],s)):=by refine(evE (fn:=ar0) (by kernel_rfl)).trans ?_;generalize evC (Jt L) d=Q;unfold Aw5;exact(j4 (by kernel_rfl) (A0 (A0 rfl ((WY L Q Y s (I1 0 (J0 (Jt L) Q Y (cd [1,1,1,1,1] Au4) (I6 (Jt L) ar0))) L s0 (ak3 ((W0 s0)).1) (Ak4 ((W0 s0)).1) true (↑(c9 (Ak4 ((W0 s0)).1)):Int) 0).trans (by kernel_rfl))) rfl))
noncomputable abbrev Bh8:Code:=E5 aq7
noncomputable def Pl(L:Nat):Cfg:=D1 L [58] (A3 [(4,[0,1,26,0])]) [(34,ZS),(87,At4)] (A3 [(11,[2]),(10,[5,0]),(9,[0,28,0]),(8,[2]),(7,[0,28,0,28]),(6,[0,3,24,0]),(5,[0,2,25,0]),(4,[0,28,0,0]),(3,[0,28,0]),(2,[2]),(1,[0,26]),(0,[0])]) [34,87] (A3 [(0,[0]),(1,[0,28,0])]) (some [2]) [] [] []
noncomputable def P9{R:Type}(L n:Nat)(b:By)(e a:Int)(c:Unit->Option R)(d:By->Option R):Option R:=match n with|0=>none|n+1=>cond (ltI a e) (cond (inR a b.length) (cond (not (ltI (bAt b a) (97:Int))) (cond (not (not (ltI 122 (bAt b a)))) (cond (not (ltI (bAt b a) (48:Int))) (cond (not (not (ltI 57 (bAt b a)))) (cond ((bAt b a)!=45) (cond ((bAt b a)!=95) (c ()) (P9 L n b e (A4 (a+1)) c d)) (P9 L n b e (A4 (a+1)) c d)) (P9 L n b e (A4 (a+1)) c d)) (cond ((bAt b a)!=45) (cond ((bAt b a)!=95) (c ()) (P9 L n b e (A4 (a+1)) c d)) (P9 L n b e (A4 (a+1)) c d))) (P9 L n b e (A4 (a+1)) c d)) (cond (not (ltI (bAt b a) (48:Int))) (cond (not (not (ltI 57 (bAt b a)))) (cond ((bAt b a)!=45) (cond ((bAt b a)!=95) (c ()) (P9 L n b e (A4 (a+1)) c d)) (P9 L n b e (A4 (a+1)) c d)) (P9 L n b e (A4 (a+1)) c d)) (cond ((bAt b a)!=45) (cond ((bAt b a)!=95) (c ()) (P9 L n b e (A4 (a+1)) c d)) (P9 L n b e (A4 (a+1)) c d)))) none) (d b)
theorem Aj9(n a n1 n2):G1 0 ((Pl L).keep 4) (bd (Pl L) Q Y (cd [1,1,0,1,0,0] Bh8)) n ⟨gp [(0,pS a),(28,pI n1),(0,pI n2)] 41,[],s⟩ k =
 P9 L n a n1 n2 (λ_=>k .ret ⟨gp [(2,pB false)] 69,[],s⟩) (λa=>k (.exit 0) ⟨gp [(0,pS a)] 71,[],s⟩):=by
 induction n generalizing a n1 n2 with
 | zero=>rfl
 | succ n b=>rw[P9];simp only[<-b];kernel_rfl
noncomputable def B72{R:Type}(L:Nat)(a:By)(b:Bool->Option R):Option R:=cond (ltI (a.length:Int) (1:Int)) (b false) (cond (ltI 63 (a.length:Int)) (b false) (cond (inR 0 a.length) (cond ((bAt a (0:Int))==45) (b false) (vl (A4 ((a.length:Int)-1)) λd=>cond (inR d a.length) (cond ((bAt a d)==45) (b false) (P9 L L a (a.length:Int) 0 (λ_=>b false) (λc=>cond (A2 c.length) (vl (Fh c ([120,110,45,45]:List UInt8)) λe=>cond (not (o0 ([120,110,45,45]:List UInt8) c)) (b true) (cond (A2 e.length) (b (Ob e)) none)) none))) none)) none))
theorem B73(d:Nat)(s0):evC (Pl L) (d+1) W Y 58 [pS s0] [] s=B72 L s0 (λb=>some (pB b,[],s)):=by refine(evE (fn:=aq7) (by kernel_rfl)).trans ?_;generalize evC (Pl L) d=Q;unfold B72;exact(j4 (by kernel_rfl) (A0 rfl (A0 rfl (A0 (A0 rfl (A5 λa=>(A0 (A0 rfl ((Aj9 L Q Y s (I1 0 (J0 (Pl L) Q Y (cd [1,1,1] Bh8) (I6 (Pl L) aq7))) L s0 (s0.length:Int) 0).trans (by kernel_rfl))) rfl))) rfl))))
noncomputable abbrev Ab6:Code:=E5 ar3
noncomputable def Lt(L:Nat):Cfg:=D1 L [99] (A3 [(9,[2,0,1,20])]) [(120,TM),(121,TK),(33,AX),(113,Aa1),(58,LY)] (A3 [(18,[2,0]),(17,[2,0]),(16,[4,41]),(15,[4]),(14,[2,0]),(13,[8,32]),(12,[8,0]),(11,[5,20]),(10,[5,1,18]),(9,[5,20,0,0]),(8,[5,20]),(7,[4,0]),(6,[4,19]),(5,[0,3]),(2,[2,0]),(4,[2,0]),(3,[0,13]),(1,[0,9]),(0,[0])]) [120,121,33,113,58] (A3 [(1,[5]),(2,[5,20]),(0,[0])]) (some [2,0]) [] [] []
noncomputable def Dj{R:Type}(L n:Nat)(c:LL)(b:By)(a:Nat)(e:LL->By->Nat->Option R):Option R:=match n with|0=>none|n+1=>cond (decide (a<b.length)) (vl ((ab4 ⟨aa3 b⟩ a)).1 λd=>cond (I4 (c.length+1)) (Dj L n (c++[[(SV.int .i64 (A4 d))]]) b (a+((ab4 ⟨aa3 b⟩ a)).2) e) none) (e c b a)
theorem Ai0(n:Nat)(a:LL)(c:By)(b:Nat):G1 2 ((Lt L).keep 9) (bd (Lt L) Q Y (cd [1,1,1,0,1,0,1,0,1,0,0] Ab6)) n ⟨gp [(5,.fl 0),(20,.it 1)] 21,[.arr true 3 1 a,.iter c b],s⟩ k =
 Dj L n a c b (λa c b=>k (.exit 1) ⟨gp [(5,.fl 0)] 42,[.arr true 3 1 a,.iter c b],s⟩):=by
 induction n generalizing a c b with
 | zero=>rfl
 | succ n d=>rw[Dj];simp only[<-d];kernel_rfl
noncomputable def WS{R:Type}(L:Nat)(b:By)(g:By->Int->Option R)(h:By->Int->LL->By->Nat->Option R):Option R:=cond (A2 b.length) (cond (not (v7 (Zi b))) (g ([]:List UInt8) 4) (cond (A2 b.length) (vl (↑(am3 b):Int) λi=>cond (ltI 256 i) (g ([]:List UInt8) 3) (cond (A2 b.length) (cond (A2 b.length) (vl (↑(am3 b):Int) λj=>cond (ltI j (b.length:Int)) (Dj L L [] (D0 b) 0 (λa e d=>cond (ah0 a Xw) (vl ((Gd (ad1 elI a))).1 λf=>vl (↑((Gd (ad1 elI a))).2:Int) λl=>cond (l !=0) (h ([]:List UInt8) 14 a e d) (cond (P5 4 f.length) (vl (([120,110,45,45]:List UInt8)++f) λc=>cond (A2 c.length) (cond (not (R3 c)) (h ([]:List UInt8) 14 a e d) (h c 0 a e d)) none) none)) none)) (cond (A2 (c9 (D0 b))) (cond (not (R3 (D0 b))) (g ([]:List UInt8) 14) (g (D0 b) 0)) none)) none) none)) none)) none
theorem B61(d:Nat)(s0):evC (Lt L) (d+1) W Y 99 [pS s0] [] s=WS L s0 (λa b=>some (.tup [pS a,pI b],[],s)) (λa b c h e=>some (.tup [pS a,pI b],[.arr true 3 1 c,.iter h e],s)):=by refine(evE (fn:=ar3) (by kernel_rfl)).trans ?_;generalize evC (Lt L) d=Q;unfold WS;exact(j4 (by kernel_rfl) (A0 (A0 rfl (A0 (A5 λf=>(A0 rfl (A0 (A0 (A5 λg=>(A0 ((Ai0 L Q Y s (I1 1 (J0 (Lt L) Q Y (cd [1,1,1,0,1,0,1,1] Ab6) (J0 (Lt L) Q Y (cd [1,1,1,1] Ab6) (I6 (Lt L) ar3)))) L [] (D0 s0) 0).trans (by kernel_rfl)) (A0 (A0 rfl rfl) rfl))) rfl) rfl))) rfl)) rfl))
noncomputable abbrev Pe:Code:=E5 al6
noncomputable def Hk(L:Nat):Cfg:=D1 L [117] (A3 []) [] (A3 [(7,[2]),(2,[2]),(4,[2]),(6,[2]),(5,[0,23]),(3,[0,12]),(1,[0,2]),(0,[0])]) [] (A3 [(0,[])]) (some [2]) [] [] []
noncomputable def Sd{R:Type}(a:Int)(h:Bool)(f:Int->Option R)(g:Int->Bool->Option R):Option R:=cond h (vl (A4 (wu8 (a-97))) λb=>vl (A4 (b+10)) λc=>f c) (cond (not (ltI a 65)) (cond (not (ltI 70 a)) (vl (A4 (wu8 (a-65))) λd=>vl (A4 (d+10)) λe=>f e) (g a (not (ltI 70 a)))) (g a false))
abbrev IT(b:Code):Prop:=∀(k:Out->St W->Option R) a c,A7 (Hk L) Q Y b ⟨gp [(0,p8 a),(12,pB c)] 21,[],s⟩ k=Sd a c (λn0=>k .ret ⟨gp [(2,pI n0)] 32,[],s⟩) (λa c=>k .normal ⟨gp [(0,p8 a),(23,pB c)] 10,[],s⟩)
theorem Ah2:IT (R:=R) L Q Y s (cd [1,0,0,1,1,1] Pe):=by intro k a b;unfold Sd;kernel_rfl
noncomputable def Se{R:Type}(b:Int)(l:Bool)(f:Int->Option R)(j:Int->Bool->Option R):Option R:=cond l (vl (A4 (wu8 (b-48))) λg=>f g) (cond (not (ltI b 97)) (Sd b (not (ltI 102 b)) (λh=>f h) (λc d=>j c d)) (Sd b false (λi=>f i) (λe a=>j e a)))
abbrev Wb(b:Code):Prop:=∀(k:Out->St W->Option R) a c,A7 (Hk L) Q Y b ⟨gp [(0,p8 a),(2,pB c)] 31,[],s⟩ k=Se a c (λn0=>k .ret ⟨gp [(2,pI n0)] 32,[],s⟩) (λa c=>k .normal ⟨gp [(0,p8 a),(23,pB c)] 10,[],s⟩)
theorem Ah3(a:Code)(b:IT (R:=R) L Q Y s a):Wb (R:=R) L Q Y s (cd [1,0,0,1] (K3 [1,0,0,1,1,1] a Pe)):=by intro k c d;unfold Se;simp only[<-b k];kernel_rfl
theorem Ah4:Wb (R:=R) L Q Y s (cd [1,0,0,1] Pe):=by intro k a b;exact j4 (by kernel_rfl) (Ah3 L Q Y s (cd [1,0,0,1,1,1] Pe) (Ah2 L Q Y s) k a b)
noncomputable def Bm5{R:Type}(L:Nat)(c:Int)(d:Int->Option R):Option R:=cond (not (ltI c 48)) (Se c (not (ltI 57 c)) (λa=>d a) (λe f=>d (-1))) (Se c false (λb=>d b) (λg h=>d (-1)))
theorem B36(b:Code)(a:Wb (R:=PV × List Blk × W) L Q Y s b)(c:Int):A7 (Hk L) Q Y (cd [] (K3 [1,0,0,1] b Pe)) ⟨[p8 c]++tps 34,[],s⟩ (I6 (Hk L) al6)=Bm5 L c (λe=>some (pI e,[],s)):=by unfold Bm5;exact let d:=(I1 0 (J0 (Hk L) Q Y (cd [1,1] Pe) (I6 (Hk L) al6)));(j4 (by kernel_rfl) (A0 ((a d c (not (ltI 57 c))).trans (by kernel_rfl)) ((a d c false).trans (by kernel_rfl))))
theorem B37(d:Nat)(b0):evC (Hk L) (d+1) W Y 117 [p8 b0] [] s=Bm5 L b0 (λa=>some (pI a,[],s)):=
 (evE (fn:=al6) (by kernel_rfl)).trans (j4 (by kernel_rfl) (B36 L (evC (Hk L) d) Y s (cd [1,0,0,1] Pe) (Ah4 L (evC (Hk L) d) Y s) b0))
noncomputable abbrev Bh5:Code:=E5 ar1
noncomputable def Pi(L:Nat):Cfg:=D1 L [95] (A3 [(3,[0,1,0,0,0])]) [(117,Bf9)] (A3 [(14,[2,0]),(4,[0,3,0]),(13,[0,3,0]),(12,[0,3,0]),(11,[2,0]),(10,[0,3,0,0,0,39]),(9,[0,3,0,0,0]),(8,[2,0]),(7,[0,3,0,25]),(6,[0,3,0]),(5,[0,3,0,14]),(3,[0,3,0,8]),(2,[0,3,0]),(1,[0,3]),(0,[0])]) [117] (A3 [(0,[4]),(1,[0,3,0])]) (some [2,0]) [] [] []
noncomputable def Q4{R:Type}(L n:Nat)(b:By)(a:Int)(c:LL)(f:LL->Option R)(g:LL->Option R):Option R:=match n with|0=>none|n+1=>cond (ltI a (b.length:Int)) (cond (inR a b.length) (cond ((bAt b a)!=37) (cond (inR a b.length) (cond (I4 (c.length+1)) (Q4 L n b (A4 (a+1)) (c++[[(SV.int .u8 (bAt b a))]]) f g) none) none) (cond (not (ltI (A4 (a+2)) (b.length:Int))) (f c) (cond (inR (A4 (a+1)) b.length) (vl (bAt b (A4 (a+1))) λd=>cond (inR d 256) (cond (inR (A4 (a+2)) b.length) (vl (bAt b (A4 (a+2))) λe=>cond (inR e 256) (cond (ltI (Vt (u8n d)) (0:Int)) (f c) (cond (ltI (Vt (u8n e)) (0:Int)) (f c) (vl (A4 ((16:Int)*(Vt (u8n d)))) λh=>vl (A4 (h+(Vt (u8n e)))) λi=>cond (I4 (c.length+1)) (vl (A4 ((A4 (a+2))+1)) λj=>Q4 L n b j (c++[[(SV.int .u8 (wu8 i))]]) f g) none))) none) none) none) none))) none) (g c)
theorem Ah1(n s0 i1 l2):G1 1 ((Pi L).keep 3) (bd (Pi L) Q Y (cd [1,0,1,1,0,1,0,0] Bh5)) n ⟨gp [(0,pS s0),(3,.fl 0),(0,pI i1)] 54,[.arr false 5 1 l2],s⟩ k =
 Q4 L n s0 i1 l2 (λa=>k .ret ⟨gp [(2,pS ([]:List UInt8)),(0,pB false)] 56,[.arr false 5 1 a],s⟩) (λa=>k (.exit 0) ⟨gp [(4,.fl 0)] 55,[.arr false 5 1 a],s⟩):=by
 induction n generalizing s0 i1 l2 with
 | zero=>rfl
 | succ n b=>rw[Q4];simp only[<-b];kernel_rfl
noncomputable def Bm4{R:Type}(L:Nat)(c:By)(d:By->Bool->LL->Option R):Option R:=cond ((decide ((0:Int)<=(c.length:Int)))&&(I4 (j2 (c.length:Int)))) (Q4 L L c 0 [] (λb=>d ([]:List UInt8) false b) (λa=>cond (ah0 a DY) (d (ad1 Zd a) true a) none)) none
theorem B34(d:Nat)(s0):evC (Pi L) (d+1) W Y 95 [pS s0] [] s=Bm4 L s0 (λb c a=>some (.tup [pS b,pB c],[.arr false 5 1 a],s)):=by refine(evE (fn:=ar1) (by kernel_rfl)).trans ?_;generalize evC (Pi L) d=Q;unfold Bm4;exact(j4 (by kernel_rfl) (A0 ((Ah1 L Q Y s (I1 0 (J0 (Pi L) Q Y (cd [1,0,1,1,1] Bh5) (I6 (Pi L) ar1))) L s0 0 []).trans (by kernel_rfl)) rfl))
noncomputable def NI(L:Nat):Cfg:=D1 L [94] (A3 []) [(116,Cf4)] (A3 [(6,[2,0]),(5,[2,0]),(4,[2,2,15]),(3,[2,2,0]),(2,[0,1,1,8]),(1,[0,1,1]),(0,[0,1])]) [] (A3 []) (some [2,0]) [] [] []
noncomputable def Av5{R:Type}(L:Nat)(b:By)(l:Int->Int->Int->Int->Int->Int->Int->Int->Int->Int->Int->LL->Option R)(m:Unit->Option R):Option R:=vl (A4 ((b.length:Int)-1)) λa=>cond (inR a b.length) (cond ((bAt b a)==93) (cond (O6 1 a b.length) (cond (A2 (c9 (cut b 1 a))) (vl (↑(v6c 0 (cut b 1 a)):Int) λc=>vl (↑(v6c 1 (cut b 1 a)):Int) λd=>vl (↑(v6c 2 (cut b 1 a)):Int) λe=>vl (↑(v6c 3 (cut b 1 a)):Int) λf=>vl (↑(v6c 4 (cut b 1 a)):Int) λg=>vl (↑(v6c 5 (cut b 1 a)):Int) λh=>vl (↑(v6c 6 (cut b 1 a)):Int) λi=>vl (↑(v6c 7 (cut b 1 a)):Int) λj=>cond (v7 (v6B (cut b 1 a))) (l 3 c d e f g h i j 0 3 [[(SV.int .u16 c)],[(SV.int .u16 d)],[(SV.int .u16 e)],[(SV.int .u16 f)],[(SV.int .u16 g)],[(SV.int .u16 h)],[(SV.int .u16 i)],[(SV.int .u16 j)]]) (l 0 0 0 0 0 0 0 0 0 14 0 [[(SV.int .u16 c)],[(SV.int .u16 d)],[(SV.int .u16 e)],[(SV.int .u16 f)],[(SV.int .u16 g)],[(SV.int .u16 h)],[(SV.int .u16 i)],[(SV.int .u16 j)]])) none) none) (m ())) none
theorem Bm2(d:Nat)(s0):evC (NI L) (d+1) W Y 94 [pS s0] [] s=Av5 L s0 (λl c e f g h i j r8 m b a=>some (.tup [.agg [pI l,pS ([]:List UInt8),p32 (0:Int),p16 c,p16 e,p16 f,p16 g,p16 h,p16 i,p16 j,p16 r8],pI m],[.box [pI b,pS ([]:List UInt8),p32 (0:Int),p16 c,p16 e,p16 f,p16 g,p16 h,p16 i,p16 j,p16 r8],.arr false 39 1 a],s)) (λ_=>some (.tup [.agg [pI (0:Int),pS ([]:List UInt8),p32 (0:Int),p16 (0:Int),p16 (0:Int),p16 (0:Int),p16 (0:Int),p16 (0:Int),p16 (0:Int),p16 (0:Int),p16 (0:Int)],pI (14:Int)],[.box [pI (0:Int),pS ([]:List UInt8),p32 (0:Int),p16 (0:Int),p16 (0:Int),p16 (0:Int),p16 (0:Int),p16 (0:Int),p16 (0:Int),p16 (0:Int),p16 (0:Int)]],s)):=by refine(evE (fn:=Tryz.f94) (by kernel_rfl)).trans ?_;generalize evC (NI L) d=Q;unfold Av5;kernel_rfl
noncomputable def Ad0(L:Nat):Cfg:=D1 L [18] (A3 []) [(29,Bg1)] (A3 [(9,[2]),(4,[2]),(6,[2]),(8,[2]),(7,[1,31]),(5,[1,1,1,16]),(3,[1,1,1,0]),(2,[1,1,1]),(1,[1,1]),(0,[1])]) [29] (A3 [(0,[])]) (some [2]) [] [] []
noncomputable def Lb{R:Type}(L:Nat)(c:Int)(b:By)(d e f g h i j l a:Int)(m:Bool->Int->By->Int->Int->Int->Int->Int->Int->Int->Int->Int->LL->Option R):Option R:=cond (c==1) (cond (A2 b.length) (cond (Cy b) (cond (d==0) (m ((e==0)&&((f==0)&&((g==0)&&((h==0)&&((i==0)&&((j==0)&&((l==0)&&((a==0)&&true)))))))) c b d e f g h i j l a (j0 8 [(SV.int .u16 (0:Int))])) (m false c b d e f g h i j l a (j0 8 [(SV.int .u16 (0:Int))]))) (m false c b d e f g h i j l a (j0 8 [(SV.int .u16 (0:Int))]))) none) (cond (c==2) (cond (b==[]) (m ((e==0)&&((f==0)&&((g==0)&&((h==0)&&((i==0)&&((j==0)&&((l==0)&&((a==0)&&true)))))))) c b d e f g h i j l a (j0 8 [(SV.int .u16 (0:Int))])) (m false c b d e f g h i j l a (j0 8 [(SV.int .u16 (0:Int))]))) (cond (c==3) (cond (b==[]) (m (d==0) c b d e f g h i j l a (j0 8 [(SV.int .u16 (0:Int))])) (m false c b d e f g h i j l a (j0 8 [(SV.int .u16 (0:Int))]))) (m false c b d e f g h i j l a (j0 8 [(SV.int .u16 (0:Int))]))))
theorem B46(d:Nat)(h0 h1 h2 h3 h4 h5 h6 h7 h8 h9 h10):evC (Ad0 L) (d+1) W Y 18 [.agg [pI h0,pS h1,p32 h2,p16 h3,p16 h4,p16 h5,p16 h6,p16 h7,p16 h8,p16 h9,p16 h10]] [] s=Lb L h0 h1 h2 h3 h4 h5 h6 h7 h8 h9 h10 (λn f o g h i j l e m b c a=>some (pB n,[.box [pI f,pS o,p32 g,p16 h,p16 i,p16 j,p16 l,p16 e,p16 m,p16 b,p16 c],.arr false 39 1 a],s)):=by refine(evE (fn:=Tryz.f18) (by kernel_rfl)).trans ?_;generalize evC (Ad0 L) d=Q;unfold Lb;kernel_rfl
noncomputable def Ac7(L:Nat):Cfg:=D1 L [14] (A3 []) [(18,LH),(25,Cf0),(26,Cf2)] (A3 [(7,[2]),(2,[2]),(4,[2]),(6,[2]),(5,[1,11]),(3,[1,5]),(1,[1,1]),(0,[1])]) [18,25,26] (A3 [(0,[1])]) (some [2]) [] [] []
noncomputable def B40{R:Type}(L:Nat)(j:Int)(l:By)(b c d e f g h i a:Int)(o:By->Int->By->Int->Int->Int->Int->Int->Int->Int->Int->Int->Option R):Option R:=cond (A2 l.length) (cond (ltN b 4294967296) (cond (ok8 c d e f g h i a) (cond (not (P2 (mkH j l b (n8 c d e f g h i a)))) (o ([]:List UInt8) j l b c d e f g h i a) (cond (j==1) (o l j l b c d e f g h i a) (cond (j==2) (cond (ltN b 4294967296) (o (Na (j2 b)) j l b c d e f g h i a) none) (cond (ok8 c d e f g h i a) (vl (Yx (n8 c d e f g h i a)) λm=>cond (P5 1 m.length) (vl (([91]:List UInt8)++m) λn=>cond (P5 n.length 1) (vl (n++[93]) λp=>o p j l b c d e f g h i a) none) none) none)))) none) none) none
theorem B41(d:Nat)(h0 h1 h2 h3 h4 h5 h6 h7 h8 h9 h10):evC (Ac7 L) (d+1) W Y 14 [.agg [pI h0,pS h1,p32 h2,p16 h3,p16 h4,p16 h5,p16 h6,p16 h7,p16 h8,p16 h9,p16 h10]] [] s=B40 L h0 h1 h2 h3 h4 h5 h6 h7 h8 h9 h10 (λm e n f g h i j c l a b=>some (pS m,[.box [pI e,pS n,p32 f,p16 g,p16 h,p16 i,p16 j,p16 c,p16 l,p16 a,p16 b]],s)):=by refine(evE (fn:=Tryz.f14) (by kernel_rfl)).trans ?_;generalize evC (Ac7 L) d=Q;unfold B40;kernel_rfl
noncomputable def Ac5(L:Nat):Cfg:=D1 L [42] (A3 []) [(29,Bg1),(73,Bg0)] (A3 [(1,[4]),(0,[0,0])]) [29,73] (A3 []) (some [4]) [] [] []
noncomputable def B32{R:Type}(L:Nat)(a b:By)(c:Bool->Option R):Option R:=cond (A2 a.length) (cond (Cy a) (cond (A2 b.length) (cond (Cy b) (cond (a==b) (c true) (cond (P5 1 a.length) (vl (([46]:List UInt8)++a) λd=>cond (A2 b.length) (c (ai0 d b)) none) none)) (c false)) none) (c false)) none
theorem B33(d:Nat)(super0 name1):evC (Ac5 L) (d+1) W Y 42 [pS super0,pS name1] [] s=B32 L super0 name1 (λa=>some (pB a,[],s)):=by refine(evE (fn:=Tryz.f42) (by kernel_rfl)).trans ?_;generalize evC (Ac5 L) d=Q;unfold B32;kernel_rfl
end
end
end Go.Proofs.YtiodfnbjmmdlmaaGreatDoor.E
