/-
  Parts of the proof, merged by a program of the prover's own; no condition.
-/
import Derived.Test.YtkegcjamihlmmaaGreatDoorKMQ2
import Derived.Lib.JoinLaws
import Derived.Lib.LastIndexLaws
import Derived.Shelf.LaysM
import Derived.Shelf.Small.Strs
import Derived.Shelf.Spec.SlicesInsert
import Derived.Shelf.Spec.SlicesInsertGrow
import Derived.Shelf.Spec.TrailingZeros
import Derived.Shelf.Strconv.Itoa3
import Derived.Shelf.Strings.Count
import Derived.Shelf.Strings.Cut
import Derived.Shelf.Strings.IndexAnyAll
import Derived.Shelf.Strings.OnBuilder
import Derived.Shelf.Strings.Search3
import Derived.Shelf.Unicode.ValidAny
import Derived.Shelf.Utf8.RuneCount
import Derived.Test.YtkegcjamihlmmaaGreatDoorProg
open List renaming replicate->a8,flatten->b9,getD->j2,drop_of_length_le->j9,getD_eq_getElem?_getD->k9,length->o0,getElem?_eq_getElem->o7,take_of_length_le->p6,drop_zero->p7,isEmpty->v8,take->x8,isPrefixOf->x9,nil_append->y5,length_take->y9,append_assoc->aa3,append_nil->aa5,getD_cons_zero->aa8,getElem_cons_drop->aa9,length_cons->ab2,map->ab4,length_singleton->ab5,length_drop->ac0,take_zero->ac1,drop_append_of_le_length->ac2,length_append->ac6,all->ac8,set->ac9,mem_of_mem_drop->ad2,length_pos_iff->ad8,drop->ae1,all_eq_true->ae3,mem_of_mem_take->ae6,length_map->ae7,length_nil->ae8,map_congr_left->af2,replicate_succ->af3,count_eq_zero->af7,isPrefixOf_iff_prefix->af8,dropLast_eq_take->ah3,set_append_right->ah4,getD_cons_succ->ai1,set_cons_zero->ai4,map_map->aj2,cons_append->ak0,getElem_mem->ak1,drop_left'->al4,isSuffixOf->al5,all_cons->am8,map_drop->am9,map_take->an0,mem_cons->an1,map_nil->ao8,mem_map->ao9,append->aq0,map_id->aq1
open Int renaming toNat->b8,toNat_natCast->j4,eq_ofNat_of_zero_le->o6,tdiv->aa2,tmod->aa7,natCast_mul->al3,add->al6
open Eq renaming trans->j5
open Bool renaming not_false->j6,not_true->j7,false_eq_true->p9,and_eq_true->ad4,and_true->ag8,eq_false_iff->ai8,true_and->am6
open Go.Proofs.Tryz renaming prog->j8,underlying3->v7,zeroValue3->w9,underlying4->x3,zeroValue4->x4,underlying5->x5,underlying9->x6,zeroValue5->y7,zeroValue9->y8,underlying0->z7,sizeOf3->aa1,underlying61->aa4,zeroValue0->aa6,sizeOf4->ab0,isAgg3->ab1,zeroValue61->ab3,isAgg4->ab6,sizeOf5->ab7,sizeOf9->ab8,isAgg5->ac3,isAgg9->ac4,sizeOf0->ac7,sizeOf61->ad0,underlying30->ad1,isAgg0->ad3,isAgg61->ad6,zeroValue30->ad7,sizeOf30->ae5,func121->af5,isAgg30->af6,underlying134->af9,underlying141->ag0,func98->ag5,zeroValue134->ag6,zeroValue141->ag7,func100->ah1,func101->ah2,sizeOf134->ah9,sizeOf141->ai0,isAgg134->ai2,isAgg141->ai3,underlying167->ai5,underlying168->ai6,f40->aj3,func120->aj4,func145->aj5,underlying20->aj6,underlying82->aj7,zeroValue167->aj8,f122->ak3,f128->ak4,f132->ak5,f153->ak6,f165->ak7,f179->ak8,zeroValue20->ak9,zeroValue82->al0,func97->al2,f38->al9,f64->am0,f68->am1,f91->am2,f92->am3,sizeOf167->am4,sizeOf168->am5,isAgg167->an3,isAgg168->an4,sizeOf20->an5,sizeOf82->an6,f107->an7,f112->an8,f113->an9,f119->ao0,f129->ao1,f140->ao2,f146->ao3,f152->ao4,f166->ao5,func131->ap2,func149->ap3,func161->ap4,func172->ap5,func173->ap6,isAgg20->ap7,isAgg82->ap8,f39->aq3,f43->aq4,f44->aq5,f48->aq6,f62->aq7,f63->aq8,f67->aq9,f83->ar0,f90->ar1,func72->ar2
open Go.Lib renaming decDigits->o5,index->w6,cut->w8,decDigits_one->ag2,deBruijn64tab->ai9,firstTab->aj0,join->aj1,occAt->aj9,index_spec->al7,join_cons->am7,index_ge->ao6,pow10Tab->ao7
open Option renaming isSome_some->o8,getD_some->o9,isSome->p4,map_some->ad9,isSome_none->ae0,bind_some->ak2
open Option.some renaming injEq->p5
open Nat renaming pow_succ->x7,le_trans->ad5,and_two_pow_sub_one_eq_mod->ae4,div_le_self->ae9,min_eq_left->af0,strongRecOn->af1,zero_add->af4,ble->ag3,or_lt_two_pow->ag4,le_mul_of_pos_right->ag9,add_zero->ah0,ble_eq_true_of_le->ah5,le_of_ble_eq_true->ah6,one_mul->ah8,pow_pos->al1,mul_le_mul->al8,add_assoc->an2,sub_self->ap0
open Go.Shelf renaming Ren->aa0
open UInt8 renaming ofNat->ab9,toNat->ar3
open Go.IntKind renaming bits->ac5,u16->ah7
open Go.RowKit.Below renaming refl->ae2
open Classical renaming byContradiction->ag1
open BEq renaming comm->ai7
open Go.RowKit renaming Below->ap1
open Go.Proofs.LaysM renaming n171->ap9
open Go.Proofs.Lays renaming n137->ar4,n138->ar5,n143->ar6,n145->ar7,n153->ar8,n156->ar9,n195->as0,n196->as1
open Go.Proofs.Lays2 renaming n21->as2
open Go.Proofs.Lays7 renaming n27->as3
namespace Go.Proofs.YtkegcjamihlmmaaGreatDoor.E
set_option linter.all false
section
open Go Go.Proofs
set_option maxRecDepth 100000
section
variable {W R : Type} (L : Nat) (Q : F6) (Y : Yh W) (s : W) (k : Out -> St W -> Option R)
noncomputable def A56(L:Nat):Cfg:=B8 L [78] (A2 []) [] (A2 [(1,[4]),(0,[0,0])]) [] (A2 []) (some [4]) [] [] []
noncomputable def Dj0{R:Type}(L:Nat)(c a:By)(d:Bool->Option R):Option R:=cond (not (ltI (c.length:Int) (a.length:Int))) (cond (I9 0 (a.length:Int) c.length) (vl (cut c 0 (a.length:Int)) λb=>d (b==a)) none) (d false)
theorem Dj1(d:Nat)(s0 prefix1):evC (A56 L) (d+1) W Y 78 [pS s0,pS prefix1] [] s=Dj0 L s0 prefix1 (λa=>some (pB a,[],s)):=by refine(evE (fn:=Tryz.f78) (by kernel_rfl)).trans ?_;generalize evC (A56 L) d=Q;unfold Dj0;kernel_rfl
noncomputable def A53(L:Nat):Cfg:=B8 L [52] (A2 []) [(78,VG)] (A2 [(1,[4]),(0,[0,0])]) [78] (A2 []) (some [4]) [] [] []
noncomputable def Ql{R:Type}(L:Nat)(b a:By)(c:Bool->Option R):Option R:=cond (A3 b.length) (c (x9 a b)) none
theorem Dh2(d:Nat)(s0 prefix1):evC (A53 L) (d+1) W Y 52 [pS s0,pS prefix1] [] s=Ql L s0 prefix1 (λa=>some (pB a,[],s)):=by refine(evE (fn:=Tryz.f52) (by kernel_rfl)).trans ?_;generalize evC (A53 L) d=Q;unfold Ql;kernel_rfl
noncomputable def A57(L:Nat):Cfg:=B8 L [141] (A2 []) [] (A2 [(1,[4]),(0,[0,0])]) [] (A2 []) (some [4]) [] [] []
noncomputable def Dj2{R:Type}(L:Nat)(b a:By)(e:Bool->Option R):Option R:=cond (not (ltI (b.length:Int) (a.length:Int))) (vl (A1 ((b.length:Int)-(a.length:Int))) λc=>cond (I9 c (b.length:Int) b.length) (vl (cut b c (b.length:Int)) λd=>e (d==a)) none) (e false)
theorem Dj3(d:Nat)(s0 suffix1):evC (A57 L) (d+1) W Y 141 [pS s0,pS suffix1] [] s=Dj2 L s0 suffix1 (λa=>some (pB a,[],s)):=by refine(evE (fn:=Tryz.f141) (by kernel_rfl)).trans ?_;generalize evC (A57 L) d=Q;unfold Dj2;kernel_rfl
noncomputable def A54(L:Nat):Cfg:=B8 L [115] (A2 []) [(141,A17)] (A2 [(1,[4]),(0,[0,0])]) [141] (A2 []) (some [4]) [] [] []
noncomputable def Dh3{R:Type}(L:Nat)(b a:By)(c:Bool->Option R):Option R:=cond (A3 b.length) (c (al5 a b)) none
theorem Dh4(d:Nat)(s0 suffix1):evC (A54 L) (d+1) W Y 115 [pS s0,pS suffix1] [] s=Dh3 L s0 suffix1 (λa=>some (pB a,[],s)):=by refine(evE (fn:=Tryz.f115) (by kernel_rfl)).trans ?_;generalize evC (A54 L) d=Q;unfold Dh3;kernel_rfl
noncomputable def YD(L:Nat):Cfg:=B8 L [124] (A2 []) [(141,A17)] (A2 [(3,[4]),(2,[4]),(1,[0,0,5]),(0,[0,0])]) [141] (A2 []) (some [4]) [] [] []
noncomputable def B04{R:Type}(L:Nat)(b a:By)(d:By->Option R):Option R:=cond (A3 b.length) (cond (al5 a b) (vl (A1 ((b.length:Int)-(a.length:Int))) λc=>cond (I9 0 c b.length) (d (cut b 0 c)) none) (d b)) none
theorem Cw9(d:Nat)(s0 suffix1):evC (YD L) (d+1) W Y 124 [pS s0,pS suffix1] [] s=B04 L s0 suffix1 (λa=>some (pS a,[],s)):=by refine(evE (fn:=Tryz.f124) (by kernel_rfl)).trans ?_;generalize evC (YD L) d=Q;unfold B04;kernel_rfl
noncomputable def YP(L:Nat):Cfg:=B8 L [105] (A2 []) [(124,Bv0)] (A2 [(1,[4]),(0,[0,0])]) [124] (A2 []) (some [4]) [] [] []
noncomputable def B34{R:Type}(L:Nat)(b a:By)(c:By->Option R):Option R:=cond (A3 b.length) (c (Ae5 b a)) none
theorem C64(d:Nat)(s0 suffix1):evC (YP L) (d+1) W Y 105 [pS s0,pS suffix1] [] s=B34 L s0 suffix1 (λa=>some (pS a,[],s)):=by refine(evE (fn:=Tryz.f105) (by kernel_rfl)).trans ?_;generalize evC (YP L) d=Q;unfold B34;kernel_rfl
noncomputable def XZ(L:Nat):Cfg:=B8 L [73] (A2 []) [(78,VG)] (A2 [(3,[4,0]),(2,[4,0]),(1,[0,0,7]),(0,[0,0])]) [78] (A2 []) (some [4,0]) [] [] []
noncomputable def Bz7{R:Type}(L:Nat)(b a:By)(d:By->Bool->Option R):Option R:=cond (A3 b.length) (cond (not (x9 a b)) (d b false) (cond (I9 (a.length:Int) (b.length:Int) b.length) (vl (cut b (a.length:Int) (b.length:Int)) λc=>d c true) none)) none
theorem Cw1(d:Nat)(s0 prefix1):evC (XZ L) (d+1) W Y 73 [pS s0,pS prefix1] [] s=Bz7 L s0 prefix1 (λa b=>some (.tup [pS a,pB b],[],s)):=by refine(evE (fn:=Tryz.f73) (by kernel_rfl)).trans ?_;generalize evC (XZ L) d=Q;unfold Bz7;kernel_rfl
noncomputable def A47(L:Nat):Cfg:=B8 L [50] (A2 []) [(73,Bu7)] (A2 [(1,[4,0]),(0,[0,0])]) [73] (A2 []) (some [4,0]) [] [] []
noncomputable def Dd6{R:Type}(L:Nat)(b a:By)(c:By->Bool->Option R):Option R:=cond (A3 b.length) (c (Hx b a) (x9 a b)) none
theorem Dd7(d:Nat)(s0 prefix1):evC (A47 L) (d+1) W Y 50 [pS s0,pS prefix1] [] s=Dd6 L s0 prefix1 (λa b=>some (.tup [pS a,pB b],[],s)):=by refine(evE (fn:=Tryz.f50) (by kernel_rfl)).trans ?_;generalize evC (A47 L) d=Q;unfold Dd6;kernel_rfl
noncomputable abbrev Ai7:Code:=C6 ao1
noncomputable def Ew(L:Nat):Cfg:=B8 L [129] (A2 [(11,[0,0,0,0,4,0,0])]) [(147,Ky),(148,A28),(149,JV)] (A2 [(18,[8]),(17,[9,0]),(16,[0,0,0,0,5,0]),(15,[0,0,0,0,5,0]),(14,[0,0,0,0,5,0,0]),(13,[0,0,0,0,5,0,0,29]),(12,[0,0,0,0,5,0,0]),(11,[0,0,0,0,5,0,25]),(10,[0,0,0,0,5,0]),(9,[0,0,0,0,5]),(8,[0,0,0,0,5]),(7,[0,0,0,0]),(6,[0,0,0,0]),(5,[0,0,0,0,16]),(4,[8]),(3,[0,0,0,0,11]),(2,[8]),(1,[0,0,0,0,9]),(0,[0,0,0,0])]) [148,149] (A2 [(0,[0,8,0]),(1,[0,0,0,0,5,0])]) (some [8]) [] [] []
noncomputable def Bt{R:Type}(L n:Nat)(c b:By)(a l d:Int)(g:LL)(j:By->Int->LL->Option R):Option R:=match n with|0=>none|n+1=>cond (ltI d l) (cond (A3 c.length) (cond (ltI (w6 c b) (0:Int)) (j c d g) (vl (A1 ((w6 c b)+a)) λe=>cond (I9 0 e c.length) (cond (inR d g.length) (cond (decide ((b8 d)<g.length)) (vl (ac9 g (b8 d) (G4 (j2 g (b8 d) []) 0 [(SV.str (cut c 0 e))])) λh=>vl (A1 ((w6 c b)+(b.length:Int))) λf=>cond (I9 f (c.length:Int) c.length) (vl (cut c f (c.length:Int)) λi=>Bt L n i b a l (A1 (d+1)) h j) none) none) none) none)) none) (j c d g)
theorem Xw(n a sep1 sepSave2 n3 i4 l5):D0 1 ((Ew L).keep 11) (bd (Ew L) Q Y (cd [1,1,1,1,1,1,1,1,0,0,0] Ai7)) n ⟨gp [(0,pS a),(0,pS sep1),(0,pI sepSave2),(0,pI n3),(5,.fl 0),(0,pI i4)] 55,[.arr false 9 1 l5],s⟩ k =
 Bt L n a sep1 sepSave2 n3 i4 l5 (λa b d=>k (.exit 0) ⟨gp [(0,pS a),(8,.fl 0),(0,pI b)] 55,[.arr false 9 1 d],s⟩):=by
 induction n generalizing a sep1 sepSave2 n3 i4 l5 with
 | zero=>rfl
 | succ n c=>rw[Bt];simp only[<-c];kernel_rfl
noncomputable def MB{R:Type}(L:Nat)(t d:By)(a u:Int)(w:Unit->Option R)(v:Nat->LL->Option R):Option R:=cond (u==0) (w ()) (cond (d==[]) none (cond (ltI u 0) (cond (d.length==1) (vl (↑(List.count (j2 d 0 0) t):Int) λn=>vl (A1 ((t.length:Int)+1)) λo=>vl (if (o<(A1 (n+1))) then o else (A1 (n+1))) λg=>cond (((decide ((0:Int)<=g))&&(decide (g<=g)))&&(G2 (b8 g))) (Bt L L t d a (A1 (g-1)) 0 (a8 (b8 g) [(SV.str ([]:List UInt8))]) (λq b e=>cond (inR b e.length) (cond (decide ((b8 b)<e.length)) (vl (ac9 e (b8 b) (G4 (j2 e (b8 b) []) 0 [(SV.str q)])) λi=>vl (A1 (b+1)) λl=>cond (I9 0 l i.length) (v ((b8 l)-0) i) none) none) none)) none) none) (vl (A1 ((t.length:Int)+1)) λp=>vl (if (p<u) then p else u) λh=>cond (((decide ((0:Int)<=h))&&(decide (h<=h)))&&(G2 (b8 h))) (Bt L L t d a (A1 (h-1)) 0 (a8 (b8 h) [(SV.str ([]:List UInt8))]) (λr c f=>cond (inR c f.length) (cond (decide ((b8 c)<f.length)) (vl (ac9 f (b8 c) (G4 (j2 f (b8 c) []) 0 [(SV.str r)])) λj=>vl (A1 (c+1)) λm=>cond (I9 0 m j.length) (v ((b8 m)-0) j) none) none) none)) none)))
theorem SD(d:Nat)(s0 sep1 sepSave2 n3):evC (Ew L) (d+1) W Y 129 [pS s0,pS sep1,pI sepSave2,pI n3] [] s=MB L s0 sep1 sepSave2 n3 (λ_=>some (.fl 0,[.arr true 9 1 []],s)) (λc f=>some (.vw 0 0 c,[.arr false 9 1 f],s)):=by refine(evE (fn:=ao1) (by kernel_rfl)).trans ?_;generalize evC (Ew L) d=Q;unfold MB;exact let e:=(E1 0 (E0 (Ew L) Q Y (cd [1,1,1,1,1,1,1,1,1] Ai7) (F3 (Ew L) ao1)));(j5 (by kernel_rfl) (A0 rfl (A0 rfl (A0 (A0 (A4 λg=>(A4 λh=>(A4 λa=>(A0 ((Xw L Q Y s e L s0 sep1 sepSave2 (A1 (a-1)) 0 (a8 (b8 a) [(SV.str ([]:List UInt8))])).trans (by kernel_rfl)) rfl)))) rfl) (A4 λi=>(A4 λb=>(A0 ((Xw L Q Y s e L s0 sep1 sepSave2 (A1 (b-1)) 0 (a8 (b8 b) [(SV.str ([]:List UInt8))])).trans (by kernel_rfl)) rfl)))))))
noncomputable def LB(L:Nat):Cfg:=B8 L [108] (A2 []) [(129,Ah0)] (A2 [(1,[4]),(0,[0,0])]) [] (A2 []) (some [4]) [] [] []
noncomputable def Ae0{R:Type}(L:Nat)(c a:By)(d:LL->Option R):Option R:=cond (A3 c.length) (cond (a.length==1) (cond ((0:Int)==0) (cond (((-1):Int)==((-1):Int)) (vl (D2 (pcs (j2 a 0 0) c)) λb=>d b) none) none) none) none
theorem Cj1(d:Nat)(s0 sep1):evC (LB L) (d+1) W Y 108 [pS s0,pS sep1] [] s=Ae0 L s0 sep1 (λa=>some (.s (.sl false false 1 a),[],s)):=by refine(evE (fn:=Tryz.f108) (by kernel_rfl)).trans ?_;generalize evC (LB L) d=Q;unfold Ae0;kernel_rfl
noncomputable abbrev Cq6:Code:=C6 aq6
noncomputable def Uu(L:Nat):Cfg:=B8 L [48] (A2 [(3,[0,1,0,6,0])]) [] (A2 [(10,[2]),(9,[0,2,6,0]),(8,[0,2,6,0]),(7,[0,2,1,4,0]),(6,[0,2,1,4,0,10]),(5,[0,2,1,4,0]),(4,[0,2,0,5,0]),(3,[0,2,6,0,0]),(2,[0,2,6,0]),(1,[0,2]),(0,[0])]) [] (A2 [(0,[3]),(1,[0,2,6,0])]) (some [2]) [] [] []
noncomputable def Ge{R:Type}(L n:Nat)(b:By)(e a:Int)(c:LL)(d:LL->Option R):Option R:=match n with|0=>none|n+1=>cond (ltI a e) (cond (inR a b.length) (cond (not (ltI (bAt b a) (65:Int))) (cond (not (ltI 90 (bAt b a))) (vl (wu8 ((bAt b a)+32)) λf=>cond (G2 (c.length+1)) (Ge L n b e (A1 (a+1)) (c++[[(SV.int .u8 f)]]) d) none) (cond (G2 (c.length+1)) (Ge L n b e (A1 (a+1)) (c++[[(SV.int .u8 (bAt b a))]]) d) none)) (cond (G2 (c.length+1)) (Ge L n b e (A1 (a+1)) (c++[[(SV.int .u8 (bAt b a))]]) d) none)) none) (d c)
theorem Bb9(n s0 n1 n2 l3):D0 1 ((Uu L).keep 3) (bd (Uu L) Q Y (cd [1,1,0,1,0,0] Cq6)) n ⟨gp [(0,pS s0),(2,.fl 0),(6,pI n1),(0,pI n2)] 20,[.arr false 5 1 l3],s⟩ k =
 Ge L n s0 n1 n2 l3 (λb=>k (.exit 0) ⟨gp [(3,.fl 0)] 28,[.arr false 5 1 b],s⟩):=by
 induction n generalizing s0 n1 n2 l3 with
 | zero=>rfl
 | succ n a=>rw[Ge];simp only[<-a];kernel_rfl
noncomputable def Di8{R:Type}(L:Nat)(b:By)(c:By->LL->Option R):Option R:=cond ((decide ((0:Int)<=(b.length:Int)))&&(G2 (b8 (b.length:Int)))) (Ge L L b (b.length:Int) 0 [] (λa=>cond (ac8 a Pk) (c (ab4 Nb a) a) none)) none
theorem Di9(d:Nat)(s0):evC (Uu L) (d+1) W Y 48 [pS s0] [] s=Di8 L s0 (λb a=>some (pS b,[.arr false 5 1 a],s)):=by refine(evE (fn:=aq6) (by kernel_rfl)).trans ?_;generalize evC (Uu L) d=Q;unfold Di8;exact(j5 (by kernel_rfl) (A0 ((Bb9 L Q Y s (E1 0 (E0 (Uu L) Q Y (cd [1,1,1] Cq6) (F3 (Uu L) aq6))) L s0 (s0.length:Int) 0 []).trans (by kernel_rfl)) rfl))
noncomputable def A51(L:Nat):Cfg:=B8 L [126] (A2 []) [(52,IJ)] (A2 [(1,[2]),(0,[0])]) [52] (A2 []) (some [2]) [] [] []
noncomputable def Dg8{R:Type}(L:Nat)(a:By)(b:Bool->Option R):Option R:=cond (A3 a.length) (cond (x9 ([48,120]:List UInt8) a) (b true) (cond (A3 a.length) (b (x9 ([48,88]:List UInt8) a)) none)) none
theorem Dg9(d:Nat)(s0):evC (A51 L) (d+1) W Y 126 [pS s0] [] s=Dg8 L s0 (λa=>some (pB a,[],s)):=by refine(evE (fn:=Tryz.f126) (by kernel_rfl)).trans ?_;generalize evC (A51 L) d=Q;unfold Dg8;kernel_rfl
noncomputable abbrev Fq:Code:=C6 ak4
noncomputable def X7(L:Nat):Cfg:=B8 L [128] (A2 [(3,[0,0,2,0,0,4,0])]) [] (A2 [(18,[4,0]),(17,[0,0,4,4,0]),(16,[0,0,4,4,0]),(15,[4,0]),(14,[0,0,4,1,2,0,39]),(9,[0,0,4,1,2,0]),(11,[0,0,4,1,2,0]),(13,[0,0,4,1,2,0]),(7,[4,0]),(12,[0,0,4,2,1,0,26]),(10,[0,0,4,2,1,0,15]),(8,[0,0,4,2,1,0,5]),(6,[0,0,4,2,1,0]),(5,[0,0,4,0,3,0]),(4,[0,0,4,0,3,0]),(3,[0,0,4,4,0,0]),(2,[0,0,4,4,0]),(1,[0,0,4]),(0,[0,0])]) [] (A2 [(0,[6]),(1,[0,0,4,4,0]),(2,[0,0,4,1,2,0])]) (some [4,0]) [] [] []
noncomputable def Xd{R:Type}(m:By)(a i b j l:Int)(n:Bool)(g:By->Int->Int->Int->Int->Int->Option R)(h:Unit->Option R):Option R:=cond n (vl (A1 (wu8 (b-97))) λc=>vl (A1 (c+10)) λd=>g m a i d j l) (cond (not (ltI b 65)) (cond (not (ltI 70 b)) (vl (A1 (wu8 (b-65))) λe=>vl (A1 (e+10)) λf=>g m a i f j l) (h ())) (h ()))
abbrev RS(b:Code):Prop:=∀(k:Out->St W->Option R) f a c b3 d e b6,B3 (X7 L) Q Y b ⟨gp [(0,pS f),(0,pI a),(4,pI c),(2,p8 b3),(1,pI d),(0,pI e),(15,pB b6)] 32,[],s⟩ k=Xd f a c b3 d e b6 (λf a c g d e=>k .normal ⟨gp [(0,pS f),(0,pI a),(4,pI c),(1,pI g),(2,pI d),(0,pI e)] 48,[],s⟩) (λ_=>k .ret ⟨gp [(4,pI (0:Int)),(0,pB false)] 55,[],s⟩)
theorem A76:RS (R:=R) L Q Y s (cd [1,1,0,1,0,0,1,1,0,0,1,1,0,1,0,1,1,1] Fq):=by intro k g a d b e f c;unfold Xd;kernel_rfl
noncomputable def Xe{R:Type}(v:By)(a q d r t:Int)(x:Bool)(m:By->Int->Int->Int->Int->Int->Option R)(w:Unit->Option R):Option R:=cond x (vl (A1 (wu8 (d-48))) λn=>m v a q n r t) (cond (not (ltI d 97)) (Xd v a q d r t (not (ltI 102 d)) (λu c o l p f=>m u c o l p f) (λ_=>w ())) (Xd v a q d r t false (λj b g e h i=>m j b g e h i) (λ_=>w ())))
abbrev Sa(b:Code):Prop:=∀(k:Out->St W->Option R) f a c b3 d e b6,B3 (X7 L) Q Y b ⟨gp [(0,pS f),(0,pI a),(4,pI c),(2,p8 b3),(1,pI d),(0,pI e),(5,pB b6)] 42,[],s⟩ k=Xe f a c b3 d e b6 (λf a c g d e=>k .normal ⟨gp [(0,pS f),(0,pI a),(4,pI c),(1,pI g),(2,pI d),(0,pI e)] 48,[],s⟩) (λ_=>k .ret ⟨gp [(4,pI (0:Int)),(0,pB false)] 55,[],s⟩)
theorem A77(a:Code)(b:RS (R:=R) L Q Y s a):Sa (R:=R) L Q Y s (cd [1,1,0,1,0,0,1,1,0,0,1,1,0,1,0,1] (G6 [1,1,0,1,0,0,1,1,0,0,1,1,0,1,0,1,1,1] a Fq)):=by intro k i c f d g h e;unfold Xe;simp only[<-b k];kernel_rfl
theorem A78:Sa (R:=R) L Q Y s (cd [1,1,0,1,0,0,1,1,0,0,1,1,0,1,0,1] Fq):=by intro k g a d b e f c;exact j5 (by kernel_rfl) (A77 L Q Y s (cd [1,1,0,1,0,0,1,1,0,0,1,1,0,1,0,1,1,1] Fq) (A76 L Q Y s) k g a d b e f c)
noncomputable def Xf{R:Type}(j:By)(a g d h i:Int)(e:Unit->Option R)(f:By->Int->Int->Int->Int->Option R):Option R:=cond (not (ltI d a)) (e ()) (vl (A1 ((A1 (g*a))+d)) λb=>vl (if ((1099511627776:Int)<b) then (1099511627776:Int) else b) λc=>f j a c h i)
abbrev CN(b:Code):Prop:=∀(k:Out->St W->Option R) e a c d3 d n5,B3 (X7 L) Q Y b ⟨gp [(0,pS e),(0,pI a),(4,pI c),(1,pI d3),(2,pI d),(0,pI n5)] 48,[],s⟩ k=Xf e a c d3 d n5 (λ_=>k .ret ⟨gp [(4,pI (0:Int)),(0,pB false)] 55,[],s⟩) (λe a c f d=>k .normal ⟨gp [(0,pS e),(0,pI a),(4,pI c),(4,pI f),(0,pI d)] 48,[],s⟩)
theorem A79:CN (R:=R) L Q Y s (cd [1,1,0,1,0,0,1,1,0,0,1,1,1] Fq):=by intro k f a c b d e;unfold Xf;kernel_rfl
noncomputable def Jp{R:Type}(L n:Nat)(g:By)(e H I f:Int)(h:Unit->Option R)(G:Int->Option R):Option R:=match n with|0=>none|n+1=>cond (ltI f I) (cond (inR f g.length) (cond (not (ltI (bAt g f) (48:Int))) (Xe g e H (bAt g f) I f (not (ltI 57 (bAt g f))) (λB a l i m o=>Xf B a l i m o (λ_=>h ()) (λC b p q r=>vl (A1 (r+1)) λt=>Jp L n C b p q t h G)) (λ_=>h ())) (Xe g e H (bAt g f) I f false (λD c u j v w=>Xf D c u j v w (λ_=>h ()) (λF d x y z=>vl (A1 (z+1)) λA=>Jp L n F d x y A h G)) (λ_=>h ()))) none) (G H)
theorem A80(b:Code)(d:Sa (R:=R) L Q Y s b)(a:Code)(e:CN (R:=R) L Q Y s a)(n:Nat)(l:By)(c C D j:Int):D0 0 ((X7 L).keep 3) (bd (X7 L) Q Y (cd [1,1,0,1,0,0] (G6 [1,1,0,1,0,0,1,1,0,0,1,1,1] a (G6 [1,1,0,1,0,0,1,1,0,0,1,1,0,1,0,1] b Fq)))) n ⟨gp [(0,pS l),(0,pI c),(4,pI C),(4,pI D),(0,pI j)] 48,[],s⟩ k =
 Jp L n l c C D j (λ_=>k .ret ⟨gp [(4,pI (0:Int)),(0,pB false)] 55,[],s⟩) (λn0=>k (.exit 0) ⟨gp [(6,pI n0)] 54,[],s⟩):=by
 induction n generalizing l c C D j with
 | zero=>rfl
 | succ n M=>rw[Jp];exact let J:=(E1 1 (E0 (X7 L) Q Y (cd [1,1,0,1,0,0,1,1,1] Fq) (lpK 0 ((X7 L).keep 3) (bd (X7 L) Q Y (cd [1,1,0,1,0,0] (G6 [1,1,0,1,0,0,1,1,0,0,1,1,1] a (G6 [1,1,0,1,0,0,1,1,0,0,1,1,0,1,0,1] b Fq)))) n k)));let K:=(E1 2 (E0 (X7 L) Q Y a J));(j5 (by kernel_rfl) (A0 (A0 (A0 ((d K l c C (bAt l j) D j (not (ltI 57 (bAt l j)))).trans (congr (congr rfl (fx6 λF f p m q r=>(j5 (by kernel_rfl) ((e J F f p m q r).trans (congr (congr rfl (by kernel_rfl)) (fx5 λG g t u N=>(j5 (by kernel_rfl) (A4 λv=>(M G g t u v))))))))) (by kernel_rfl))) ((d K l c C (bAt l j) D j false).trans (congr (congr rfl (fx6 λH h w o x y=>(j5 (by kernel_rfl) ((e J H h w o x y).trans (congr (congr rfl (by kernel_rfl)) (fx5 λI i z A O=>(j5 (by kernel_rfl) (A4 λB=>(M I i z A B))))))))) (by kernel_rfl)))) rfl) rfl))
noncomputable def Cs8{R:Type}(L:Nat)(d:By)(a:Int)(c:Int->Bool->Option R):Option R:=Jp L L d a 0 (d.length:Int) 0 (λ_=>c 0 false) (λb=>c b true)
theorem De7(a:Code)(d:Sa (R:=PV × List Blk × W) L Q Y s a)(b:Code)(e:CN (R:=PV × List Blk × W) L Q Y s b)(f:By)(c:Int):B3 (X7 L) Q Y (cd [] (G6 [1,1,0,1,0,0,1,1,0,0,1,1,1] b (G6 [1,1,0,1,0,0,1,1,0,0,1,1,0,1,0,1] a Fq))) ⟨[pS f,pI c]++tps 59,[],s⟩ (F3 (X7 L) ak4)=Cs8 L f c (λg h=>some (.tup [pI g,pB h],[],s)):=by unfold Cs8;exact(j5 (by kernel_rfl) ((A80 L Q Y s (E1 0 (E0 (X7 L) Q Y (cd [1,1,1] Fq) (F3 (X7 L) ak4))) a d b e L f c 0 (f.length:Int) 0).trans (by kernel_rfl)))
theorem De8(d:Nat)(s0 base1):evC (X7 L) (d+1) W Y 128 [pS s0,pI base1] [] s=Cs8 L s0 base1 (λa b=>some (.tup [pI a,pB b],[],s)):=
 (evE (fn:=ak4) (by kernel_rfl)).trans (j5 (by kernel_rfl) (De7 L (evC (X7 L) d) Y s (cd [1,1,0,1,0,0,1,1,0,0,1,1,0,1,0,1] Fq) (A78 L (evC (X7 L) d) Y s) (cd [1,1,0,1,0,0,1,1,0,0,1,1,1] Fq) (A79 L (evC (X7 L) d) Y s) s0 base1))
noncomputable def Cr9(L:Nat):Cfg:=B8 L [127] (A2 []) [(126,A12),(128,UM)] (A2 [(7,[2,0]),(2,[2,0]),(4,[2,0]),(6,[2,0]),(5,[0,14]),(3,[0,6]),(1,[0,3]),(0,[0])]) [126,128] (A2 [(0,[0])]) (some [2,0]) [] [] []
noncomputable def num{R:Type}(L:Nat)(a:By)(d:Int->Bool->Option R):Option R:=cond (a==[]) (d 0 false) (cond (A3 a.length) (cond (Z1 a) (cond (I9 2 (a.length:Int) a.length) (vl (cut a 2 (a.length:Int)) λb=>cond (A3 b.length) (cond (ltN 16 17) (vl (↑(O4 (F1 16 0 b)):Int) λe=>d e (p4 (F1 16 0 b))) none) none) none) (cond (ltI 1 (a.length:Int)) (cond (inR 0 a.length) (cond ((bAt a (0:Int))==48) (cond (I9 1 (a.length:Int) a.length) (vl (cut a 1 (a.length:Int)) λc=>cond (A3 c.length) (cond (ltN 8 17) (vl (↑(O4 (F1 8 0 c)):Int) λf=>d f (p4 (F1 8 0 c))) none) none) none) (cond (A3 a.length) (cond (ltN 10 17) (vl (↑(O4 (F1 10 0 a)):Int) λg=>d g (p4 (F1 10 0 a))) none) none)) none) (cond (A3 a.length) (cond (ltN 10 17) (vl (↑(O4 (F1 10 0 a)):Int) λh=>d h (p4 (F1 10 0 a))) none) none))) none)
theorem D17(d:Nat)(s0):evC (Cr9 L) (d+1) W Y 127 [pS s0] [] s=num L s0 (λa b=>some (.tup [pI a,pB b],[],s)):=by refine(evE (fn:=Tryz.f127) (by kernel_rfl)).trans ?_;generalize evC (Cr9 L) d=Q;unfold num;kernel_rfl
noncomputable def YF(L:Nat):Cfg:=B8 L [125] (A2 []) [(108,Wt)] (A2 [(5,[2]),(4,[3]),(3,[3,0,13]),(2,[3,0]),(1,[3]),(0,[0])]) [] (A2 []) (some [2]) [] [] []
noncomputable def parts{R:Type}(L:Nat)(e:By)(c:LL->Option R):Option R:=cond (A3 e.length) (cond (1==1) (vl (D2 (pcs (j2 ([46]:List UInt8) 0 0) e)) λa=>vl (A1 ((a.length:Int)-1)) λb=>cond (ltI 0 b) (cond (inR b a.length) (cond (okE Ol a (b8 b) 0) (vl (gX a (b8 b) 0) λd=>cond (d==[]) (cond (I9 0 b a.length) (c (cut a 0 b)) none) (c a)) none) none) (c a)) none) none
theorem Cz0(d:Nat)(s0):evC (YF L) (d+1) W Y 125 [pS s0] [] s=parts L s0 (λa=>some (.s (.sl false false 1 a),[],s)):=by refine(evE (fn:=Tryz.f125) (by kernel_rfl)).trans ?_;generalize evC (YF L) d=Q;unfold parts;kernel_rfl
noncomputable def CB(L:Nat):Cfg:=B8 L [106] (A2 []) [(125,VT),(126,A12),(127,Co0),(128,UM)] (A2 [(7,[2]),(6,[4,3]),(5,[2]),(4,[6]),(3,[4,13]),(2,[4]),(1,[3]),(0,[0])]) [126,127,128] (A2 []) (some [2]) [] [] []
noncomputable def HG{R:Type}(L:Nat)(c:By)(d:Bool->Option R):Option R:=cond (A3 c.length) (vl (A1 ((↑(o0 (D2 (C9 c))):Int)-1)) λb=>cond (inR b (o0 (D2 (C9 c)))) (cond (okE Ol (D2 (C9 c)) (b8 b) 0) (vl (gX (D2 (C9 c)) (b8 b) 0) λa=>cond (A3 a.length) (cond (Z1 a) (cond (A3 a.length) (vl (↑(O4 (Ae a)):Int) λe=>d (p4 (Ae a))) none) (cond (A3 a.length) (cond (ltN 10 17) (vl (↑(O4 (F1 10 0 a)):Int) λf=>cond (p4 (F1 10 0 a)) (d (not (a==[]))) (d false)) none) none)) none) none) none) none
theorem Bd2(d:Nat)(s0):evC (CB L) (d+1) W Y 106 [pS s0] [] s=HG L s0 (λa=>some (pB a,[],s)):=by refine(evE (fn:=Tryz.f106) (by kernel_rfl)).trans ?_;generalize evC (CB L) d=Q;unfold HG;kernel_rfl
noncomputable abbrev Cq8:Code:=C6 an7
noncomputable def Uw(L:Nat):Cfg:=B8 L [107] (A2 [(6,[2,0,0,0,10,0,0])]) [(125,VT),(127,Co0)] (A2 [(20,[2,0]),(19,[4,0,10,0,0]),(18,[4,0,10,0,0]),(17,[2,0]),(16,[4,0,2,1,5,0,0,29]),(15,[4,0,2,1,5,0,0]),(14,[4,0,10,0,0]),(13,[2,0]),(12,[4,0,2,7,0,0,17]),(11,[4,0,2,7,0,0,15]),(10,[2,0]),(9,[4,0,0,1,7,0,0,10]),(8,[4,0,0,1,0,6,0,0]),(7,[4,0,0,0,8,0,0]),(6,[4,0,10,0,0,0]),(5,[4,0,10,0,0]),(4,[4,0]),(3,[2,0]),(2,[4,10]),(1,[4]),(0,[0])]) [127] (A2 [(0,[5]),(1,[4,0,10,0,0])]) (some [2,0]) [] [] []
noncomputable def Jy{R:Type}(L n:Nat)(a:LL)(v1 l d:Int)(e:Unit->Option R)(h:Int->Option R):Option R:=match n with|0=>none|n+1=>cond (ltI d l) (cond (inR d a.length) (cond (okE Ol a (b8 d) 0) (cond (A3 (o0 (gX a (b8 d) 0))) (vl (↑(O4 (Ae (gX a (b8 d) 0))):Int) λb=>cond (not (p4 (Ae (gX a (b8 d) 0)))) (e ()) (vl (A1 ((a.length:Int)-1)) λi=>cond (ltI d i) (cond (ltI 255 b) (e ()) (vl (bOr .i64 (Tc .i64 v1 (8:Int)) b) λj=>Jy L n a j l (A1 (d+1)) e h)) (vl (A1 ((5:Int)-(a.length:Int))) λc=>cond (decide ((0:Int)<=(A1 ((8:Int)*c)))) (vl (Tc .i64 (1:Int) (A1 ((8:Int)*c))) λf=>cond (not (ltI b f)) (e ()) (cond (decide ((0:Int)<=(A1 ((8:Int)*c)))) (vl (Tc .i64 v1 (A1 ((8:Int)*c))) λg=>Jy L n a (bOr .i64 g b) l (A1 (d+1)) e h) none)) none))) none) none) none) (h v1)
theorem Bf6(n l0 v1 n2 n3):D0 0 ((Uw L).keep 6) (bd (Uw L) Q Y (cd [1,0,1,1,1,1,0,1,0,0] Cq8)) n ⟨gp [(4,.s (.sl false false 1 l0)),(0,pI v1),(10,.s (.sl false false 1 l0)),(0,pI n2),(0,pI n3)] 38,[],s⟩ k =
 Jy L n l0 v1 n2 n3 (λ_=>k .ret ⟨gp [(2,p32 (0:Int)),(0,pB false)] 53,[],s⟩) (λv0=>k (.exit 0) ⟨gp [(5,pI v0)] 51,[],s⟩):=by
 induction n generalizing l0 v1 n2 n3 with
 | zero=>rfl
 | succ n a=>rw[Jy];simp only[<-a];kernel_rfl
noncomputable def Dl3{R:Type}(L:Nat)(b:By)(c:Int->Bool->Option R):Option R:=cond (A3 b.length) (cond (ltI 4 (↑(o0 (D2 (C9 b))):Int)) (c 0 false) (Jy L L (D2 (C9 b)) 0 (↑(o0 (D2 (C9 b))):Int) 0 (λ_=>c 0 false) (λa=>c (EH a) true))) none
theorem Dl4(d:Nat)(s0):evC (Uw L) (d+1) W Y 107 [pS s0] [] s=Dl3 L s0 (λa b=>some (.tup [p32 a,pB b],[],s)):=by refine(evE (fn:=an7) (by kernel_rfl)).trans ?_;generalize evC (Uw L) d=Q;unfold Dl3;exact(j5 (by kernel_rfl) (A0 (A0 rfl ((Bf6 L Q Y s (E1 0 (E0 (Uw L) Q Y (cd [1,0,1,1,1,1,1] Cq8) (F3 (Uw L) an7))) L (D2 (C9 s0)) 0 (↑(o0 (D2 (C9 s0))):Int) 0).trans (by kernel_rfl))) rfl))
noncomputable abbrev Dw9:Code:=C6 ao5
noncomputable def LD(L:Nat):Cfg:=B8 L [166] (A2 [(6,[2,0,1,9,0,0])]) [(108,Wt),(128,UM),(55,A15)] (A2 [(13,[2,0]),(12,[5,9,0,0]),(11,[5,9,0,0]),(10,[2,0]),(9,[5,2,6,0,0,19]),(8,[5,1,0,0,5,0,0]),(7,[5,1,7,0,0]),(6,[5,9,0,0,0]),(5,[5,9,0,0]),(4,[4,0]),(3,[2,0]),(2,[4,9]),(1,[4]),(0,[0])]) [128,55] (A2 [(0,[5]),(1,[5,9,0,0])]) (some [2,0]) [] [] []
noncomputable def Wm{R:Type}(L n:Nat)(v0:Int)(c:LL)(h b:Int)(d:Unit->Option R)(g:Int->Option R):Option R:=match n with|0=>none|n+1=>cond (ltI b h) (cond (inR b c.length) (cond (okE Ol c (b8 b) 0) (cond (A3 (o0 (gX c (b8 b) 0))) (cond (ltN 10 17) (vl (↑(O4 (F1 10 0 (gX c (b8 b) 0))):Int) λa=>cond (not (p4 (F1 10 0 (gX c (b8 b) 0)))) (d ()) (cond (ltI 255 a) (d ()) (cond (ltN a 4294967296) (vl (o5 (b8 a)) λf=>cond (not (f==(gX c (b8 b) 0))) (d ()) (vl (bOr .u32 (Tc .u32 v0 (8:Int)) (EH a)) λe=>Wm L n e c h (A1 (b+1)) d g)) none))) none) none) none) none) (g v0)
theorem Cl1(n v0 l1 n2 n3):D0 0 ((LD L).keep 6) (bd (LD L) Q Y (cd [1,1,1,1,0,1,0,0] Dw9)) n ⟨gp [(5,p32 v0),(9,.s (.sl false false 1 l1)),(0,pI n2),(0,pI n3)] 27,[],s⟩ k =
 Wm L n v0 l1 n2 n3 (λ_=>k .ret ⟨gp [(2,p32 (0:Int)),(0,pB false)] 41,[],s⟩) (λv0=>k (.exit 0) ⟨gp [(5,p32 v0)] 39,[],s⟩):=by
 induction n generalizing v0 l1 n2 n3 with
 | zero=>rfl
 | succ n a=>rw[Wm];simp only[<-a];kernel_rfl
noncomputable def v4p{R:Type}(L:Nat)(d:By)(b:Int->Bool->Option R):Option R:=cond (A3 d.length) (cond (1==1) (vl (D2 (pcs (j2 ([46]:List UInt8) 0 0) d)) λa=>cond ((a.length:Int)!=4) (b 0 false) (Wm L L 0 a (a.length:Int) 0 (λ_=>b 0 false) (λc=>b c true))) none) none
theorem D39(d:Nat)(s0):evC (LD L) (d+1) W Y 166 [pS s0] [] s=v4p L s0 (λb c=>some (.tup [p32 b,pB c],[],s)):=by refine(evE (fn:=ao5) (by kernel_rfl)).trans ?_;generalize evC (LD L) d=Q;unfold v4p;exact(j5 (by kernel_rfl) (A0 (A0 (A4 λa=>(A0 rfl ((Cl1 L Q Y s (E1 0 (E0 (LD L) Q Y (cd [1,1,1,1,1] Dw9) (F3 (LD L) ao5))) L 0 a (a.length:Int) 0).trans (by kernel_rfl)))) rfl) rfl))
noncomputable abbrev Dw8:Code:=C6 ar0
noncomputable def LC(L:Nat):Cfg:=B8 L [83] (A2 [(3,[0,1,0,0])]) [(55,A15)] (A2 [(6,[2]),(4,[0,2,0]),(5,[0,2,0]),(3,[0,2,0,1]),(2,[0,2,0]),(1,[0,2]),(0,[0])]) [55] (A2 [(0,[3]),(1,[0,2,0])]) (some [2]) [] [] []
noncomputable def Jh{R:Type}(L n:Nat)(v0:Int)(a:By)(e:Int)(f:By->Option R):Option R:=match n with|0=>none|n+1=>cond (not (ltI e 0)) (cond (decide ((0:Int)<=e)) (vl (A41 .u32 (Pl .u32 v0 e) (255:Int)) λb=>cond (ltN (A1 b) 4294967296) (vl (o5 (b8 (A1 b))) λc=>cond (E8 c.length 1) (vl (c++[46]) λd=>cond (E8 a.length d.length) (Jh L n v0 (a++d) (A1 (e-8)) f) none) none) none) none) (f a)
theorem Cl0(n v0 out1 i2):D0 0 ((LC L).keep 3) (bd (LC L) Q Y (cd [1,1,0,1,0,0] Dw8)) n ⟨gp [(0,p32 v0),(2,pS out1),(0,pI i2)] 18,[],s⟩ k =
 Jh L n v0 out1 i2 (λa=>k (.exit 0) ⟨gp [(3,pS a)] 19,[],s⟩):=by
 induction n generalizing v0 out1 i2 with
 | zero=>rfl
 | succ n b=>rw[Jh];simp only[<-b];kernel_rfl
noncomputable def v4f{R:Type}(L:Nat)(v0:Int)(d:By->Option R):Option R:=Jh L L v0 ([]:List UInt8) 24 (λa=>vl (A1 ((a.length:Int)-1)) λb=>cond (I9 0 b a.length) (vl (cut a 0 b) λc=>d c) none)
theorem D38(d:Nat)(v0):evC (LC L) (d+1) W Y 83 [p32 v0] [] s=v4f L v0 (λa=>some (pS a,[],s)):=by refine(evE (fn:=ar0) (by kernel_rfl)).trans ?_;generalize evC (LC L) d=Q;unfold v4f;exact(j5 (by kernel_rfl) ((Cl0 L Q Y s (E1 0 (E0 (LC L) Q Y (cd [1,1,1] Dw8) (F3 (LC L) ar0))) L v0 ([]:List UInt8) 24).trans (by kernel_rfl)))
noncomputable abbrev RA:Code:=C6 aq9
noncomputable def Dm(L:Nat):Cfg:=B8 L [67] (A2 [(2,[0,1,0])]) [] (A2 [(6,[2]),(3,[0,2]),(5,[2]),(4,[0,2,15]),(2,[0,2,3]),(1,[0,2]),(0,[0])]) [] (A2 [(0,[0]),(1,[0,2])]) (some [2]) [] [] []
noncomputable def Bm{R:Type}(L n:Nat)(a:By)(b:Int)(c:Unit->Option R)(d:By->Option R):Option R:=match n with|0=>none|n+1=>cond (ltI b (a.length:Int)) (cond (inR b a.length) (cond (ltI (bAt a b) (48:Int)) (c ()) (cond (inR b a.length) (cond (ltI 57 (bAt a b)) (c ()) (Bm L n a (A1 (b+1)) c d)) none)) none) (d a)
theorem PQ(n a i1):D0 0 ((Dm L).keep 2) (bd (Dm L) Q Y (cd [1,0,1,0,0] RA)) n ⟨gp [(0,pS a),(2,pI i1)] 18,[],s⟩ k =
 Bm L n a i1 (λ_=>k .ret ⟨gp [(2,pB false)] 19,[],s⟩) (λa=>k (.exit 0) ⟨gp [(0,pS a)] 21,[],s⟩):=by
 induction n generalizing a i1 with
 | zero=>rfl
 | succ n b=>rw[Bm];simp only[<-b];kernel_rfl
noncomputable def HM{R:Type}(L:Nat)(c:By)(b:Bool->Option R):Option R:=Bm L L c 0 (λ_=>b false) (λa=>b (not (a==[])))
theorem Bh0(d:Nat)(s0):evC (Dm L) (d+1) W Y 67 [pS s0] [] s=HM L s0 (λa=>some (pB a,[],s)):=by refine(evE (fn:=aq9) (by kernel_rfl)).trans ?_;generalize evC (Dm L) d=Q;unfold HM;exact(j5 (by kernel_rfl) ((PQ L Q Y s (E1 0 (E0 (Dm L) Q Y (cd [1,1] RA) (F3 (Dm L) aq9))) L s0 0).trans (by kernel_rfl)))
noncomputable abbrev Cr1:Code:=C6 aq3
noncomputable def Uz(L:Nat):Cfg:=B8 L [39] (A2 [(3,[0,1,0,0])]) [] (A2 [(9,[2]),(4,[0,2,0]),(8,[0,2,0]),(7,[0,2,0,0]),(6,[0,2,0,0,14]),(5,[0,2,0,0]),(3,[0,2,0,4]),(2,[0,2,0]),(1,[0,2]),(0,[0])]) [] (A2 [(0,[3]),(1,[0,2,0])]) (some [2]) [] [] []
noncomputable def Gm{R:Type}(L n:Nat)(b:By)(a:Int)(c:LL)(d:LL->Option R):Option R:=match n with|0=>none|n+1=>cond (ltI a (b.length:Int)) (cond (inR a b.length) (cond (not (ltI (bAt b a) (65:Int))) (cond (not (ltI 90 (bAt b a))) (vl (wu8 ((bAt b a)+32)) λe=>cond (G2 (c.length+1)) (Gm L n b (A1 (a+1)) (c++[[(SV.int .u8 e)]]) d) none) (cond (G2 (c.length+1)) (Gm L n b (A1 (a+1)) (c++[[(SV.int .u8 (bAt b a))]]) d) none)) (cond (G2 (c.length+1)) (Gm L n b (A1 (a+1)) (c++[[(SV.int .u8 (bAt b a))]]) d) none)) none) (d c)
theorem Bk1(n s0 i1 l2):D0 1 ((Uz L).keep 3) (bd (Uz L) Q Y (cd [1,1,0,1,0,0] Cr1)) n ⟨gp [(0,pS s0),(2,.fl 0),(0,pI i1)] 24,[.arr true 5 1 l2],s⟩ k =
 Gm L n s0 i1 l2 (λb=>k (.exit 0) ⟨gp [(3,.fl 0)] 25,[.arr true 5 1 b],s⟩):=by
 induction n generalizing s0 i1 l2 with
 | zero=>rfl
 | succ n a=>rw[Gm];simp only[<-a];kernel_rfl
noncomputable def Dn3{R:Type}(L:Nat)(c:By)(b:By->LL->Option R):Option R:=Gm L L c 0 [] (λa=>cond (ac8 a Pk) (b (ab4 Nb a) a) none)
theorem Dn4(d:Nat)(s0):evC (Uz L) (d+1) W Y 39 [pS s0] [] s=Dn3 L s0 (λb a=>some (pS b,[.arr true 5 1 a],s)):=by refine(evE (fn:=aq3) (by kernel_rfl)).trans ?_;generalize evC (Uz L) d=Q;unfold Dn3;exact(j5 (by kernel_rfl) ((Bk1 L Q Y s (E1 0 (E0 (Uz L) Q Y (cd [1,1,1] Cr1) (F3 (Uz L) aq3))) L s0 0 []).trans (by kernel_rfl)))
noncomputable abbrev Aj1:Code:=C6 aq5
noncomputable def Hr(L:Nat):Cfg:=B8 L [44] (A2 [(4,[0,0,2,0,0,0])]) [] (A2 [(9,[4]),(5,[0,0,3,0,0]),(8,[0,0,3,0,0]),(7,[0,0,3,1]),(6,[0,0,3,0,0,16]),(4,[0,0,3,0,0,3]),(3,[0,0,3,0,0]),(2,[0,0,3,0]),(1,[0,0,3]),(0,[0,0])]) [] (A2 [(0,[5]),(1,[0,0,3,0,0])]) (some [4]) [] [] []
noncomputable def X3{R:Type}(L n:Nat)(c:By)(d a b:Int)(e:LL)(f:LL->Option R):Option R:=match n with|0=>none|n+1=>cond (not (ltI (c.length:Int) b)) (cond (b==(c.length:Int)) (cond (I9 a b c.length) (cond (G2 (e.length+1)) (X3 L n c d (A1 (b+1)) (A1 (b+1)) (e++[[(SV.str (cut c a b))]]) f) none) none) (cond (inR b c.length) (cond ((bAt c b)==d) (cond (I9 a b c.length) (cond (G2 (e.length+1)) (X3 L n c d (A1 (b+1)) (A1 (b+1)) (e++[[(SV.str (cut c a b))]]) f) none) none) (X3 L n c d a (A1 (b+1)) e f)) none)) (f e)
theorem Ac7(n s0 at1 from2 i3 l4):D0 1 ((Hr L).keep 4) (bd (Hr L) Q Y (cd [1,1,1,0,1,0,0] Aj1)) n ⟨gp [(0,pS s0),(0,p8 at1),(3,.fl 0),(0,pI from2),(0,pI i3)] 27,[.arr true 9 1 l4],s⟩ k =
 X3 L n s0 at1 from2 i3 l4 (λb=>k (.exit 0) ⟨gp [(5,.fl 0)] 29,[.arr true 9 1 b],s⟩):=by
 induction n generalizing s0 at1 from2 i3 l4 with
 | zero=>rfl
 | succ n a=>rw[X3];simp only[<-a];kernel_rfl
noncomputable def NY{R:Type}(L:Nat)(d:By)(a:Int)(c:LL->Option R):Option R:=X3 L L d a 0 0 [] (λb=>c b)
theorem Cg6(d:Nat)(s0 at1):evC (Hr L) (d+1) W Y 44 [pS s0,p8 at1] [] s=NY L s0 at1 (λa=>some (.fl 0,[.arr true 9 1 a],s)):=by refine(evE (fn:=aq5) (by kernel_rfl)).trans ?_;generalize evC (Hr L) d=Q;unfold NY;exact(j5 (by kernel_rfl) ((Ac7 L Q Y s (E1 0 (E0 (Hr L) Q Y (cd [1,1,1,1] Aj1) (F3 (Hr L) aq5))) L s0 at1 0 0 []).trans (by kernel_rfl)))
noncomputable def CA(L:Nat):Cfg:=B8 L [60] (A2 []) [(60,(Mm L))] (A2 [(3,[2]),(2,[2]),(1,[0,3]),(0,[0])]) [60] (A2 []) (some [2]) [] [] []
noncomputable def GW{R:Type}(L:Nat)(n0:Int)(g:By->Option R):Option R:=cond (ltI n0 10) (vl (wu8 (A1 ((48:Int)+n0))) λa=>cond (ac8 [[(SV.int .u8 a)]] Pk) (vl (ab4 Nb [[(SV.int .u8 a)]]) λf=>g f) none) (vl (A1 (aa2 n0 (10:Int))) λb=>cond (ltN b L) (vl (o5 (b8 b)) λd=>vl (A1 ((48:Int)+(aa7 n0 (10:Int)))) λc=>cond (ac8 [[(SV.int .u8 (wu8 c))]] Pk) (vl (ab4 Nb [[(SV.int .u8 (wu8 c))]]) λe=>cond (E8 d.length e.length) (g (d++e)) none) none) none)
theorem A89(d:Nat)(n0):evC (CA L) (d+1) W Y 60 [pI n0] [] s=GW L n0 (λa=>some (pS a,[],s)):=by refine(evE (fn:=Tryz.f60) (by kernel_rfl)).trans ?_;generalize evC (CA L) d=Q;unfold GW;kernel_rfl
noncomputable abbrev Uo:Code:=C6 am3
noncomputable def Kj(L:Nat):Cfg:=B8 L [92] (A2 []) [] (A2 [(7,[2]),(2,[2]),(4,[2]),(6,[2]),(5,[0,23]),(3,[0,12]),(1,[0,2]),(0,[0])]) [] (A2 [(0,[])]) (some [2]) [] [] []
noncomputable def Za{R:Type}(a:Int)(h:Bool)(f:Int->Option R)(g:Int->Bool->Option R):Option R:=cond h (vl (A1 (wu8 (a-97))) λb=>vl (A1 (b+10)) λc=>f c) (cond (not (ltI a 65)) (cond (not (ltI 70 a)) (vl (A1 (wu8 (a-65))) λd=>vl (A1 (d+10)) λe=>f e) (g a (not (ltI 70 a)))) (g a false))
abbrev TE(b:Code):Prop:=∀(k:Out->St W->Option R) a c,B3 (Kj L) Q Y b ⟨gp [(0,p8 a),(12,pB c)] 21,[],s⟩ k=Za a c (λn0=>k .ret ⟨gp [(2,pI n0)] 32,[],s⟩) (λa c=>k .normal ⟨gp [(0,p8 a),(23,pB c)] 10,[],s⟩)
theorem Bg7:TE (R:=R) L Q Y s (cd [1,0,0,1,1,1] Uo):=by intro k a b;unfold Za;kernel_rfl
noncomputable def Zb{R:Type}(b:Int)(l:Bool)(f:Int->Option R)(j:Int->Bool->Option R):Option R:=cond l (vl (A1 (wu8 (b-48))) λg=>f g) (cond (not (ltI b 97)) (Za b (not (ltI 102 b)) (λh=>f h) (λc d=>j c d)) (Za b false (λi=>f i) (λe a=>j e a)))
abbrev DQ(b:Code):Prop:=∀(k:Out->St W->Option R) a c,B3 (Kj L) Q Y b ⟨gp [(0,p8 a),(2,pB c)] 31,[],s⟩ k=Zb a c (λn0=>k .ret ⟨gp [(2,pI n0)] 32,[],s⟩) (λa c=>k .normal ⟨gp [(0,p8 a),(23,pB c)] 10,[],s⟩)
theorem Bg8(a:Code)(b:TE (R:=R) L Q Y s a):DQ (R:=R) L Q Y s (cd [1,0,0,1] (G6 [1,0,0,1,1,1] a Uo)):=by intro k c d;unfold Zb;simp only[<-b k];kernel_rfl
theorem Bg9:DQ (R:=R) L Q Y s (cd [1,0,0,1] Uo):=by intro k a b;exact j5 (by kernel_rfl) (Bg8 L Q Y s (cd [1,0,0,1,1,1] Uo) (Bg7 L Q Y s) k a b)
noncomputable def C02{R:Type}(L:Nat)(c:Int)(d:Int->Option R):Option R:=cond (not (ltI c 48)) (Zb c (not (ltI 57 c)) (λa=>d a) (λe f=>d 99)) (Zb c false (λb=>d b) (λg h=>d 99))
theorem Dm3(b:Code)(a:DQ (R:=PV × List Blk × W) L Q Y s b)(c:Int):B3 (Kj L) Q Y (cd [] (G6 [1,0,0,1] b Uo)) ⟨[p8 c]++tps 34,[],s⟩ (F3 (Kj L) am3)=C02 L c (λe=>some (pI e,[],s)):=by unfold C02;exact let d:=(E1 0 (E0 (Kj L) Q Y (cd [1,1] Uo) (F3 (Kj L) am3)));(j5 (by kernel_rfl) (A0 ((a d c (not (ltI 57 c))).trans (by kernel_rfl)) ((a d c false).trans (by kernel_rfl))))
theorem Dm4(d:Nat)(b0):evC (Kj L) (d+1) W Y 92 [p8 b0] [] s=C02 L b0 (λa=>some (pI a,[],s)):=
 (evE (fn:=am3) (by kernel_rfl)).trans (j5 (by kernel_rfl) (Dm3 L (evC (Kj L) d) Y s (cd [1,0,0,1] Uo) (Bg9 L (evC (Kj L) d) Y s) b0))
noncomputable abbrev Dk:Code:=C6 am1
noncomputable def Q5(L:Nat):Cfg:=B8 L [68] (A2 [(10,[0,1,0,0,0,0])]) [(92,Co4)] (A2 [(16,[2,0]),(11,[0,3,0,0]),(15,[0,3,0,0]),(14,[2,0]),(13,[0,3,0,0,0,44]),(12,[0,3,0,0,0]),(10,[0,3,0,0,36]),(9,[0,3,0,0]),(8,[0,3,0]),(5,[0,3]),(7,[0,3]),(6,[0,3,32]),(4,[0,3,22]),(3,[0,3]),(2,[2,0]),(1,[0,8]),(0,[0])]) [92] (A2 [(0,[5]),(1,[0,3,0,0])]) (some [2,0]) [] [] []
noncomputable def HS{R:Type}(a:By)(c:By->Option R):Option R:=cond (I9 2 (a.length:Int) a.length) (vl (cut a 2 (a.length:Int)) λb=>c b) none
abbrev TK(b:Code):Prop:=∀(k:Out->St W->Option R) a,B3 (Q5 L) Q Y b ⟨gp [(0,pS a),(3,pI (10:Int)),(22,pB true)] 32,[],s⟩ k=HS a (λa=>k .normal ⟨gp [(0,pS a),(3,pI (16:Int))] 55,[],s⟩)
theorem Bk4:TK (R:=R) L Q Y s (cd [1,1,1,0,1] Dk):=by intro k a;unfold HS;kernel_rfl
noncomputable def Ka{R:Type}(L n:Nat)(d:By)(h a:Int)(f:Unit->Option R)(g:Int->Option R):Option R:=match n with|0=>none|n+1=>cond (ltI a (d.length:Int)) (cond (inR a d.length) (cond (inR (bAt d a) 256) (vl (↑(dig (u8n (bAt d a))):Int) λb=>cond (not (ltI b 16)) (f ()) (vl (A1 ((A1 (h*16))+b)) λc=>vl (if ((1099511627776:Int)<c) then (1099511627776:Int) else c) λe=>Ka L n d e (A1 (a+1)) f g)) none) none) (g h)
theorem Bk9(n s0 n1 i2):D0 0 ((Q5 L).keep 10) (bd (Q5 L) Q Y (cd [1,1,1,1,1,0,1,0,0] Dk)) n ⟨gp [(0,pS s0),(3,pI (16:Int)),(0,pI n1),(0,pI i2)] 53,[],s⟩ k =
 Ka L n s0 n1 i2 (λ_=>k .ret ⟨gp [(2,pI (0:Int)),(0,pB false)] 56,[],s⟩) (λn0=>k (.exit 0) ⟨gp [(5,pI n0)] 54,[],s⟩):=by
 induction n generalizing s0 n1 i2 with
 | zero=>rfl
 | succ n a=>rw[Ka];simp only[<-a];kernel_rfl
noncomputable def HT{R:Type}(L:Nat)(c:By)(b:Int->Bool->Option R):Option R:=Ka L L c 0 0 (λ_=>b 0 false) (λa=>b a true)
abbrev TL(b:Code):Prop:=∀(k:Out->St W->Option R) s0,B3 (Q5 L) Q Y b ⟨gp [(0,pS s0),(3,pI (16:Int))] 55,[],s⟩ k=HT L s0 (λn0 a=>k .ret ⟨gp [(2,pI n0),(0,pB a)] 56,[],s⟩)
theorem Bk5:TL (R:=R) L Q Y s (cd [1,1,1,1] Dk):=by intro k a;unfold HT;exact(j5 (by kernel_rfl) ((Bk9 L Q Y s (E1 0 (E0 (Q5 L) Q Y (cd [1,1,1,1,1,1] Dk) k)) L a 0 0).trans (by kernel_rfl)))
noncomputable def Sp{R:Type}(a:By)(f:Bool)(d:By->Int->Option R)(e:By->Bool->Option R):Option R:=cond f (cond (I9 2 (a.length:Int) a.length) (vl (cut a 2 (a.length:Int)) λc=>d c 16) none) (cond (not (ltI (a.length:Int) (2:Int))) (cond (inR 0 a.length) (cond ((bAt a (0:Int))==48) (cond (I9 1 (a.length:Int) a.length) (vl (cut a 1 (a.length:Int)) λb=>d b 8) none) (e a ((bAt a (0:Int))==48))) none) (e a false))
abbrev TM(b:Code):Prop:=∀(k:Out->St W->Option R) c d,B3 (Q5 L) Q Y b ⟨gp [(0,pS c),(3,pI (10:Int)),(22,pB d)] 32,[],s⟩ k=Sp c d (λc a=>k .normal ⟨gp [(0,pS c),(3,pI a)] 55,[],s⟩) (λc d=>k .normal ⟨gp [(0,pS c),(3,pI (10:Int)),(32,pB d)] 22,[],s⟩)
theorem Bk6:TM (R:=R) L Q Y s (cd [1,1,1,0,1] Dk):=by intro k b a;unfold Sp;kernel_rfl
noncomputable def Gn{R:Type}(L n:Nat)(f:By)(a i d:Int)(g:Unit->Option R)(h:Int->Option R):Option R:=match n with|0=>none|n+1=>cond (ltI d (f.length:Int)) (cond (inR d f.length) (cond (inR (bAt f d) 256) (vl (↑(dig (u8n (bAt f d))):Int) λb=>cond (not (ltI b a)) (g ()) (vl (A1 ((A1 (i*a))+b)) λc=>vl (if ((1099511627776:Int)<c) then (1099511627776:Int) else c) λe=>Gn L n f a e (A1 (d+1)) g h)) none) none) (h i)
theorem NX(n s0 base1 n2 i3):D0 0 ((Q5 L).keep 10) (bd (Q5 L) Q Y (cd [1,1,1,1,1,0,1,0,0] Dk)) n ⟨gp [(0,pS s0),(3,pI base1),(0,pI n2),(0,pI i3)] 53,[],s⟩ k =
 Gn L n s0 base1 n2 i3 (λ_=>k .ret ⟨gp [(2,pI (0:Int)),(0,pB false)] 56,[],s⟩) (λn0=>k (.exit 0) ⟨gp [(5,pI n0)] 54,[],s⟩):=by
 induction n generalizing s0 base1 n2 i3 with
 | zero=>rfl
 | succ n a=>rw[Gn];simp only[<-a];kernel_rfl
noncomputable def Sq{R:Type}(L:Nat)(d:By)(a:Int)(c:Int->Bool->Option R):Option R:=Gn L L d a 0 0 (λ_=>c 0 false) (λb=>c b true)
abbrev TN(b:Code):Prop:=∀(k:Out->St W->Option R) s0 base1,B3 (Q5 L) Q Y b ⟨gp [(0,pS s0),(3,pI base1)] 55,[],s⟩ k=Sq L s0 base1 (λn0 a=>k .ret ⟨gp [(2,pI n0),(0,pB a)] 56,[],s⟩)
theorem Bk7:TN (R:=R) L Q Y s (cd [1,1,1,1] Dk):=by intro k b a;unfold Sq;exact(j5 (by kernel_rfl) ((NX L Q Y s (E1 0 (E0 (Q5 L) Q Y (cd [1,1,1,1,1,1] Dk) k)) L b a 0 0).trans (by kernel_rfl)))
noncomputable def Sr{R:Type}(L:Nat)(c:By)(b:Int->Bool->Option R):Option R:=Gn L L c 10 0 0 (λ_=>b 0 false) (λa=>b a true)
abbrev TO(b:Code):Prop:=∀(k:Out->St W->Option R) s0 a,B3 (Q5 L) Q Y b ⟨gp [(0,pS s0),(3,pI (10:Int)),(32,pB a)] 22,[],s⟩ k=Sr L s0 (λn0 a=>k .ret ⟨gp [(2,pI n0),(0,pB a)] 56,[],s⟩)
theorem Bk8:TO (R:=R) L Q Y s (cd [1,1,1,1] Dk):=by intro k a b;unfold Sr;exact(j5 (by kernel_rfl) ((NX L Q Y s (E1 0 (E0 (Q5 L) Q Y (cd [1,1,1,1,1,1] Dk) k)) L a 10 0 0).trans (by kernel_rfl)))
noncomputable def C24{R:Type}(L:Nat)(a:By)(e:Int->Bool->Option R):Option R:=cond (a==[]) (e 0 false) (cond (not (ltI (a.length:Int) (2:Int))) (cond (inR 0 a.length) (cond ((bAt a (0:Int))==48) (cond (inR 1 a.length) (cond ((bAt a (1:Int))==120) (HS a (λB=>HT L B (λA z=>e A z))) (cond (inR 1 a.length) (Sp a ((bAt a (1:Int))==88) (λt b=>Sq L t b (λm f=>e m f)) (λu C=>Sr L u (λn g=>e n g))) none)) none) (Sp a false (λv c=>Sq L v c (λo h=>e o h)) (λw D=>Sr L w (λp i=>e p i)))) none) (Sp a false (λx d=>Sq L x d (λq j=>e q j)) (λy F=>Sr L y (λr l=>e r l))))
theorem Dn5(e:Code)(f:TK (R:=PV × List Blk × W) L Q Y s e)(a:TM (R:=PV × List Blk × W) L Q Y s e)(d:Code)(g:TL (R:=PV × List Blk × W) L Q Y s d)(b:TN (R:=PV × List Blk × W) L Q Y s d)(c:TO (R:=PV × List Blk × W) L Q Y s d)(m:By):B3 (Q5 L) Q Y (cd [] (G6 [1,1,1,1] d (G6 [1,1,1,0,1] e Dk))) ⟨[pS m]++tps 59,[],s⟩ (F3 (Q5 L) am1)=C24 L m (λz A=>some (.tup [pI z,pB A],[],s)):=by unfold C24;exact let l:=(F3 (Q5 L) am1);let x:=(E0 (Q5 L) Q Y d l);(j5 (by kernel_rfl) (A0 rfl (A0 (A0 (A0 (A0 (A0 ((f x m).trans (congr rfl (fx1 λy=>(j5 (by kernel_rfl) ((g l y).trans (by kernel_rfl)))))) (A0 ((a x m ((bAt m (1:Int))==88)).trans (congr (congr rfl (fx2 λq h=>(j5 (by kernel_rfl) ((b l q h).trans (by kernel_rfl))))) (fx2 λr n=>(j5 (by kernel_rfl) ((c l r n).trans (by kernel_rfl)))))) rfl)) rfl) ((a x m false).trans (congr (congr rfl (fx2 λt i=>(j5 (by kernel_rfl) ((b l t i).trans (by kernel_rfl))))) (fx2 λu o=>(j5 (by kernel_rfl) ((c l u o).trans (by kernel_rfl))))))) rfl) ((a x m false).trans (congr (congr rfl (fx2 λv j=>(j5 (by kernel_rfl) ((b l v j).trans (by kernel_rfl))))) (fx2 λw p=>(j5 (by kernel_rfl) ((c l w p).trans (by kernel_rfl)))))))))
theorem Dn6(d:Nat)(s0):evC (Q5 L) (d+1) W Y 68 [pS s0] [] s=C24 L s0 (λa b=>some (.tup [pI a,pB b],[],s)):=
 (evE (fn:=am1) (by kernel_rfl)).trans (j5 (by kernel_rfl) (Dn5 L (evC (Q5 L) d) Y s (cd [1,1,1,0,1] Dk) (Bk4 L (evC (Q5 L) d) Y s) (Bk6 L (evC (Q5 L) d) Y s) (cd [1,1,1,1] Dk) (Bk5 L (evC (Q5 L) d) Y s) (Bk7 L (evC (Q5 L) d) Y s) (Bk8 L (evC (Q5 L) d) Y s) s0))
noncomputable def KX(L:Nat):Cfg:=B8 L [66] (A2 []) [(44,Kz)] (A2 [(4,[2]),(3,[3]),(2,[3,13]),(1,[3]),(0,[0])]) [] (A2 []) (some [2]) [] [] []
noncomputable def Ac5{R:Type}(L:Nat)(f:By)(d:LL->Option R):Option R:=cond (A3 f.length) (vl (D2 (pcs (u8n (46:Int)) f)) λa=>cond (ltI 1 (a.length:Int)) (vl (A1 ((a.length:Int)-1)) λb=>cond (inR b a.length) (cond (okE Ol a (b8 b) 0) (vl (gX a (b8 b) 0) λe=>cond (e==[]) (vl (A1 ((a.length:Int)-1)) λc=>cond (I9 0 c a.length) (d (cut a 0 c)) none) (d a)) none) none) (d a)) none
theorem Cg0(d:Nat)(s0):evC (KX L) (d+1) W Y 66 [pS s0] [] s=Ac5 L s0 (λa=>some (.s (.sl false false 1 a),[],s)):=by refine(evE (fn:=Tryz.f66) (by kernel_rfl)).trans ?_;generalize evC (KX L) d=Q;unfold Ac5;kernel_rfl
noncomputable def Va(L:Nat):Cfg:=B8 L [42] (A2 []) [(66,JK),(67,QM),(68,A26)] (A2 [(6,[2]),(5,[4,1]),(4,[2]),(3,[4,11]),(2,[4]),(1,[3]),(0,[0])]) [67,68] (A2 []) (some [2]) [] [] []
noncomputable def Zj{R:Type}(L:Nat)(d:By)(c:Bool->Option R):Option R:=cond (A3 d.length) (vl (A1 ((↑(o0 (D2 (C9 d))):Int)-1)) λb=>cond (inR b (o0 (D2 (C9 d)))) (cond (okE Ol (D2 (C9 d)) (b8 b) 0) (vl (gX (D2 (C9 d)) (b8 b) 0) λa=>cond (A3 a.length) (cond ((not (v8 a))&&(p4 (F1 10 0 a))) (c true) (cond (A3 a.length) (vl (↑(O4 (Ae a)):Int) λe=>cond (p4 (Ae a)) (cond (not (ltI (a.length:Int) (2:Int))) (cond (inR 1 a.length) (cond ((bAt a (1:Int))==120) (c true) (cond (inR 1 a.length) (c ((bAt a (1:Int))==88)) none)) none) (c false)) (c false)) none)) none) none) none) none
theorem As7(d:Nat)(s0):evC (Va L) (d+1) W Y 42 [pS s0] [] s=Zj L s0 (λa=>some (pB a,[],s)):=by refine(evE (fn:=Tryz.f42) (by kernel_rfl)).trans ?_;generalize evC (Va L) d=Q;unfold Zj;kernel_rfl
noncomputable abbrev Bx7:Code:=C6 aq4
noncomputable def My(L:Nat):Cfg:=B8 L [43] (A2 [(6,[2,0,0,0,0])]) [(66,JK),(68,A26)] (A2 [(18,[2,0]),(7,[4,0,0]),(17,[4,0,0]),(16,[2,0]),(15,[4,0,0,0,38]),(14,[4,0,0]),(13,[2,0]),(12,[4,0,0,0,33]),(11,[4,0,0,0,26]),(10,[2,0]),(9,[4,0,0,0,21]),(8,[4,0,0,0,0]),(6,[4,0,0,10]),(5,[4,0,0]),(4,[4,0]),(3,[2,0]),(2,[4,8]),(1,[4]),(0,[0])]) [68] (A2 [(0,[5]),(1,[4,0,0])]) (some [2,0]) [] [] []
noncomputable def Ff{R:Type}(L n:Nat)(b:LL)(v1 a:Int)(e:Unit->Option R)(h:Int->Option R):Option R:=match n with|0=>none|n+1=>cond (ltI a (b.length:Int)) (cond (inR a b.length) (cond (okE Ol b (b8 a) 0) (cond (A3 (o0 (gX b (b8 a) 0))) (vl (↑(O4 (Ae (gX b (b8 a) 0))):Int) λc=>cond (not (p4 (Ae (gX b (b8 a) 0)))) (e ()) (vl (A1 ((b.length:Int)-1)) λi=>cond (a==i) (vl (A1 ((5:Int)-(b.length:Int))) λg=>cond (decide ((0:Int)<=(A1 ((8:Int)*g)))) (vl (Tc .i64 (1:Int) (A1 ((8:Int)*g))) λj=>cond (not (ltI c j)) (e ()) (Ff L n b (A1 (v1+c)) (A1 (a+1)) e h)) none) (cond (ltI 255 c) (e ()) (vl (A1 ((24:Int)-(A1 ((8:Int)*a)))) λd=>cond (decide ((0:Int)<=d)) (vl (A1 (v1+(Tc .i64 c d))) λf=>Ff L n b f (A1 (a+1)) e h) none)))) none) none) none) (h v1)
theorem At4(n p0 v1 i2):D0 0 ((My L).keep 6) (bd (My L) Q Y (cd [1,1,1,1,0,1,0,0] Bx7)) n ⟨gp [(4,.s (.sl false false 1 p0)),(0,pI v1),(0,pI i2)] 49,[],s⟩ k =
 Ff L n p0 v1 i2 (λ_=>k .ret ⟨gp [(2,p32 (0:Int)),(0,pB false)] 52,[],s⟩) (λv0=>k (.exit 0) ⟨gp [(5,pI v0)] 50,[],s⟩):=by
 induction n generalizing p0 v1 i2 with
 | zero=>rfl
 | succ n a=>rw[Ff];simp only[<-a];kernel_rfl
noncomputable def B26{R:Type}(L:Nat)(c:By)(b:Int->Bool->Option R):Option R:=cond (A3 c.length) (cond (ltI 4 (↑(o0 (D2 (C9 c))):Int)) (b 0 false) (Ff L L (D2 (C9 c)) 0 0 (λ_=>b 0 false) (λa=>b (EH a) true))) none
theorem C28(d:Nat)(s0):evC (My L) (d+1) W Y 43 [pS s0] [] s=B26 L s0 (λa b=>some (.tup [p32 a,pB b],[],s)):=by refine(evE (fn:=aq4) (by kernel_rfl)).trans ?_;generalize evC (My L) d=Q;unfold B26;exact(j5 (by kernel_rfl) (A0 (A0 rfl ((At4 L Q Y s (E1 0 (E0 (My L) Q Y (cd [1,1,1,1,1] Bx7) (F3 (My L) aq4))) L (D2 (C9 s0)) 0 0).trans (by kernel_rfl))) rfl))
noncomputable abbrev Cq9:Code:=C6 ao0
noncomputable def Ux(L:Nat):Cfg:=B8 L [119] (A2 [(2,[0,1,0,0])]) [(60,AQ)] (A2 [(6,[2,0]),(3,[0,3]),(5,[2,0]),(4,[0,3,7]),(2,[0,3,1]),(1,[0,3]),(0,[0])]) [60] (A2 [(0,[]),(1,[0,3])]) (some [2,0]) [] [] []
noncomputable def Nu{R:Type}(L n:Nat)(e:By)(a:Int)(c:Int->Option R)(d:Unit->Option R):Option R:=match n with|0=>none|n+1=>cond (ltI a 256) (cond (ltN a 4294967296) (vl (o5 (b8 a)) λb=>cond (b==e) (c a) (Nu L n e (A1 (a+1)) c d)) none) (d ())
theorem Bg5(n s0 n1):D0 0 ((Ux L).keep 2) (bd (Ux L) Q Y (cd [1,0,1,0,0] Cq9)) n ⟨gp [(0,pS s0),(3,pI n1)] 9,[],s⟩ k =
 Nu L n s0 n1 (λn0=>k .ret ⟨gp [(2,pI n0),(0,pB true)] 10,[],s⟩) (λ_=>k (.exit 0) ⟨gp [] 14,[],s⟩):=by
 induction n generalizing s0 n1 with
 | zero=>rfl
 | succ n a=>rw[Nu];simp only[<-a];kernel_rfl
noncomputable def Dm1{R:Type}(L:Nat)(c:By)(b:Int->Bool->Option R):Option R:=Nu L L c 0 (λa=>b a true) (λ_=>b 0 false)
theorem Dm2(d:Nat)(s0):evC (Ux L) (d+1) W Y 119 [pS s0] [] s=Dm1 L s0 (λa b=>some (.tup [pI a,pB b],[],s)):=by refine(evE (fn:=ao0) (by kernel_rfl)).trans ?_;generalize evC (Ux L) d=Q;unfold Dm1;exact(j5 (by kernel_rfl) ((Bg5 L Q Y s (E1 0 (E0 (Ux L) Q Y (cd [1,1] Cq9) (F3 (Ux L) ao0))) L s0 0).trans (by kernel_rfl)))
noncomputable abbrev Cr2:Code:=C6 ar1
noncomputable def Vd(L:Nat):Cfg:=B8 L [90] (A2 [(6,[2,0,0,0,0])]) [(44,Kz),(119,Co3)] (A2 [(12,[2,0]),(7,[4,0,0]),(11,[4,0,0]),(10,[2,0]),(9,[4,0,0,0,19]),(8,[4,0,0,0,0]),(6,[4,0,0,8]),(5,[4,0,0]),(4,[4,0]),(3,[2,0]),(2,[4,8]),(1,[4]),(0,[0])]) [119] (A2 [(0,[5]),(1,[4,0,0])]) (some [2,0]) [] [] []
noncomputable def Oe{R:Type}(L n:Nat)(b:LL)(v1 a:Int)(f:Unit->Option R)(g:Int->Option R):Option R:=match n with|0=>none|n+1=>cond (ltI a 4) (cond (inR a b.length) (cond (okE Ol b (b8 a) 0) (cond (A3 (o0 (gX b (b8 a) 0))) (vl (↑(O4 (oct (gX b (b8 a) 0))):Int) λc=>cond (not (p4 (oct (gX b (b8 a) 0)))) (f ()) (vl (EH (v1*256)) λd=>vl (EH (d+(EH c))) λe=>Oe L n b e (A1 (a+1)) f g)) none) none) none) (g v1)
theorem Bo6(n p0 v1 i2):D0 0 ((Vd L).keep 6) (bd (Vd L) Q Y (cd [1,1,1,1,0,1,0,0] Cr2)) n ⟨gp [(4,.s (.sl false false 1 p0)),(0,p32 v1),(0,pI i2)] 27,[],s⟩ k =
 Oe L n p0 v1 i2 (λ_=>k .ret ⟨gp [(2,p32 (0:Int)),(0,pB false)] 30,[],s⟩) (λv0=>k (.exit 0) ⟨gp [(5,p32 v0)] 28,[],s⟩):=by
 induction n generalizing p0 v1 i2 with
 | zero=>rfl
 | succ n a=>rw[Oe];simp only[<-a];kernel_rfl
noncomputable def Do6{R:Type}(L:Nat)(d:By)(b:Int->Bool->Option R):Option R:=cond (A3 d.length) (vl (D2 (pcs (u8n (46:Int)) d)) λa=>cond ((a.length:Int)!=4) (b 0 false) (Oe L L a 0 0 (λ_=>b 0 false) (λc=>b c true))) none
theorem Do7(d:Nat)(s0):evC (Vd L) (d+1) W Y 90 [pS s0] [] s=Do6 L s0 (λb c=>some (.tup [p32 b,pB c],[],s)):=by refine(evE (fn:=ar1) (by kernel_rfl)).trans ?_;generalize evC (Vd L) d=Q;unfold Do6;exact(j5 (by kernel_rfl) (A0 (A4 λa=>(A0 rfl ((Bo6 L Q Y s (E1 0 (E0 (Vd L) Q Y (cd [1,1,1,1,1] Cr2) (F3 (Vd L) ar1))) L a 0 0).trans (by kernel_rfl)))) rfl))
noncomputable def A62(L:Nat):Cfg:=B8 L [37] (A2 []) [(60,AQ)] (A2 [(1,[2]),(0,[0])]) [60] (A2 []) (some [2]) [] [] []
noncomputable def Do4{R:Type}(L:Nat)(v0:Int)(n:By->Option R):Option R:=vl (Pl .u32 v0 (24:Int)) λg=>cond (ltN (A1 g) 4294967296) (vl (o5 (b8 (A1 g))) λj=>cond (E8 j.length 1) (vl (j++[46]) λc=>vl (Pl .u32 v0 (16:Int)) λm=>vl (aa7 m (256:Int)) λh=>cond (ltN (A1 h) 4294967296) (vl (o5 (b8 (A1 h))) λd=>cond (E8 c.length d.length) (cond (E8 (o0 (c++d)) 1) (vl ((c++d)++[46]) λe=>vl (aa7 (Pl .u32 v0 (8:Int)) (256:Int)) λi=>cond (ltN (A1 i) 4294967296) (vl (o5 (b8 (A1 i))) λf=>cond (E8 e.length f.length) (cond (E8 (o0 (e++f)) 1) (vl ((e++f)++[46]) λl=>vl (aa7 v0 (256:Int)) λa=>cond (ltN (A1 a) 4294967296) (vl (o5 (b8 (A1 a))) λb=>cond (E8 l.length b.length) (n (l++b)) none) none) none) none) none) none) none) none) none) none
theorem Do5(d:Nat)(v0):evC (A62 L) (d+1) W Y 37 [p32 v0] [] s=Do4 L v0 (λa=>some (pS a,[],s)):=by refine(evE (fn:=Tryz.f37) (by kernel_rfl)).trans ?_;generalize evC (A62 L) d=Q;unfold Do4;kernel_rfl
noncomputable def CG(L:Nat):Cfg:=B8 L [108] (A2 []) [(129,AS)] (A2 [(1,[4]),(0,[0,0])]) [] (A2 []) (some [4]) [] [] []
noncomputable def HW{R:Type}(L:Nat)(c a:By)(d:Nat->LL->Option R):Option R:=cond (A3 c.length) (cond (a.length==1) (cond ((0:Int)==0) (cond (((-1):Int)==((-1):Int)) (vl (D2 (pcs (j2 a 0 0) c)) λb=>d (o0 (pcs (j2 a 0 0) c)) b) none) none) none) none
theorem Bq7(d:Nat)(s0 sep1):evC (CG L) (d+1) W Y 108 [pS s0,pS sep1] [] s=HW L s0 sep1 (λa b=>some (.vw 0 0 a,[.arr false 9 1 b],s)):=by refine(evE (fn:=Tryz.f108) (by kernel_rfl)).trans ?_;generalize evC (CG L) d=Q;unfold HW;kernel_rfl
end
end
section
open Go
theorem Dq(b:UInt8):(48<=b.toNat/\b.toNat<=57/\dig b=b.toNat-48)\/(97<=b.toNat/\b.toNat<=102/\dig b=b.toNat-87)\/(65<=b.toNat/\b.toNat<=70/\dig b=b.toNat-55)\/(¬(48<=b.toNat/\b.toNat<=57)/\¬(97<=b.toNat/\b.toNat<=102)/\¬(65<=b.toNat/\b.toNat<=70)/\dig b=99):=by
 unfold dig;split
 ·rename_i h;exact .inl ⟨h.1,h.2,rfl⟩
 ·split
  ·rename_i h;exact .inr (.inl ⟨h.1,h.2,rfl⟩)
  ·split
   ·rename_i h;exact .inr (.inr (.inl ⟨h.1,h.2,rfl⟩))
   ·exact .inr (.inr (.inr ⟨by assumption,by assumption,by assumption,rfl⟩))
theorem C44(m:Nat):(if (1099511627776:Int)<(m:Int) then (1099511627776:Int) else (m:Int))=((min m W8:Nat):Int):=by unfold W8;split<;>omega
theorem LP{base:Nat}:∀{s:By} {n v:Nat},n<=W8->F1 base n s=some v->v<=W8
 | [],n,v,h,e=>by simp only[F1,p5] at e;omega
 | b::r,n,v,h,e=>by
  simp only[F1] at e;split at e
  ·exact LP (by omega) e
  ·cases e
theorem B09{s:By}{v:Nat}(h:Ae s=some v):v<=W8:=by
 unfold Ae at h
 repeat' split at h
 all_goals first|(cases h;done)|exact LP (by unfold W8;omega) h
theorem RP(base:Nat):∀(x y:By) (n:Nat),F1 base n (x++y)=(F1 base n x).bind λm=>F1 base m y
 | [],y,n=>rfl
 | b::r,y,n=>by
  simp only[ak0,F1];split
  ·exact RP base r y _
  ·rfl
theorem X1(u:Nat)(h:¬u<10):o5 u=o5 (u / 10)++[ab9 (48+u % 10)]:=by rw[o5,dif_neg h]
theorem Dx3(d:Nat)(h:d<10):dig (ab9 (48+d))=d:=by
 unfold dig;have:(ab9 (48+d)).toNat=48+d:=by simp;omega
 rw[this,R0];omega
theorem CL:∀u:Nat,u<=W8->F1 10 0 (o5 u)=some u:=by
 intro u
 induction u using af1 with
 | _ u a=>
  intro b;by_cases h:u<10
  ·rw[ag2 h];simp only[F1,Dx3 u h];rw[if_pos h];unfold W8;simp;omega
  ·rw[X1 u h,RP,a (u / 10) (by omega) (by omega)];simp only[ak2,F1,Dx3 (u % 10) (by omega)];rw[R0];unfold W8 at *;simp;omega
theorem Cn(u:Nat):o5 u≠[]:=by intro h;have:=Lib.decDigits_length u;have a:=Lib.nDigits_pos u;rw[h] at this;simp at this;omega
theorem Gy:∀(k u:Nat),0<k->u<10 ^ k->(o5 u).length<=k
 | 0,u,h,_=>by omega
 | k+1,u,_,h=>by
  by_cases b:u<10
  ·rw[ag2 b];simp
  ·rw[X1 u b,ac6,ab5];have a:0<k:=by
    rcases Nat.eq_zero_or_pos k with rfl|a
    ·rw[af4,Nat.pow_one] at h;omega
    ·exact a
   have:=Gy k (u / 10) a (by rw[x7] at h;omega);omega
theorem G0(u:Nat)(h:u<4294967296):(o5 u).length<=10:=Gy 10 u (by omega) (by omega)
theorem Ys{s:By}{n:Nat}:oct s=some n↔n<256/\o5 n=s:=by
 unfold oct;constructor
 ·intro h;split at h
  ·rename_i m c;split at h
   ·rename_i a;cases h;exact⟨by omega,a.2⟩
   ·cases h
  ·cases h
 ·rintro⟨b,rfl⟩;rw[CL n (by unfold W8;omega)];exact if_pos ⟨by omega,rfl⟩
theorem Dw7(a b:Nat)(c:a<9223372036854775808)(d:b<9223372036854775808):bOr .i64 (a:Int) (b:Int)=((a ||| b:Nat):Int):=by
 unfold bOr;rw[show ac5 .i64=64 from rfl,Dz4 64 a b (by omega) (by omega)];have:a ||| b<2 ^ 63:=ag4 (by omega) (by omega)
 exact A7
theorem D91(a b:Nat)(c:a<4294967296)(d:b<4294967296):bOr .u32 (a:Int) (b:Int)=((a ||| b:Nat):Int):=by
 unfold bOr;rw[show ac5 .u32=32 from rfl,Dz4 32 a b (by omega) (by omega)];have:a ||| b<2 ^ 32:=ag4 (by omega) (by omega)
 exact Ot
theorem Dy8(a b:Nat)(c:a<4294967296)(d:b<4294967296):A41 .u32 (a:Int) (b:Int)=((a &&& b:Nat):Int):=by unfold A41;rw[show ac5 .u32=32 from rfl,Dx1 32 a b (by omega) (by omega)];have:a &&& b<2 ^ 32:=Nat.and_lt_two_pow _ (by omega);exact Ot
theorem Dy7(x:Nat):x &&& 255=x % 256:=ae4 x 8
theorem Ax1(a m:Nat)(h:a*2 ^ m<9223372036854775808)(b:m<=64):Tc .i64 (a:Int) (m:Int)=((a*2 ^ m:Nat):Int):=by
 unfold Tc;rw[j4,show ac5 .i64=64 from rfl,af0 b];have:(a:Int)*2 ^ m=((a*2 ^ m:Nat):Int):=by simp
 rw[this];exact A7
theorem Ea8(a m:Nat)(h:a*2 ^ m<4294967296)(b:m<=32):Tc .u32 (a:Int) (m:Int)=((a*2 ^ m:Nat):Int):=by
 unfold Tc;rw[j4,show ac5 .u32=32 from rfl,af0 b];have:(a:Int)*2 ^ m=((a*2 ^ m:Nat):Int):=by simp
 rw[this];exact Ot
theorem HJ(v n m:Nat)(h:n<2 ^ m):v*2 ^ m ||| n=v*2 ^ m+n:=by rw[Nat.or_comm,D19 n v m h,Nat.add_comm]
theorem Lv{c:UInt8}{s:By}(h:c∉s):pcs c s=[s]:=by unfold pcs;rw[AB c s [] h];rfl
theorem HK{c:UInt8}{p r:By}(h:c∉p):pcs c (p++c::r)=p::pcs c r:=by unfold pcs;rw[GC c p [] r h];rfl
theorem Jv(c:UInt8)(s:By):(pcs c s).length=s.count c+1:=Ke c s []
theorem Aa7(c:UInt8)(s:By):pcs c s≠[]:=Bq0 c s []
theorem Cr{c:UInt8}{s x:By}(h:x∈pcs c s):c∉x/\x.length<=s.length:=by have:=Re c s [] (by simp) x h;simpa using this
theorem Hw(c:UInt8)(s:By):s.count c<=s.length:=List.count_le_length
theorem R2(c:UInt8):∀s:By,c∉s\/∃p r,s=p++c::r/\c∉p
 | []=>.inl (by simp)
 | b::s=>by
  by_cases h:b=c
  ·subst h;exact .inr ⟨[],s,rfl,by simp⟩
  ·rcases R2 c s with a|⟨p,r,rfl,d⟩
   ·exact .inl (by simp[a,Ne.symm h])
   ·exact .inr ⟨b::p,r,rfl,by simp[d,Ne.symm h]⟩
theorem Vj{c:UInt8}{s:By}(h:c∉s):w6 s [c]=-1:=by
 rcases al7 s [c] with a|⟨i,a,e,b,f⟩
 ·exact a.1
 ·exfalso;simp only[aj9,af8] at b;obtain⟨t,d⟩:=b;have:c∈s.drop i:=by rw[<-d];simp
  exact h (ad2 this)
theorem DD{c:UInt8}{p r:By}(h:c∉p):w6 (p++c::r) [c]=(p.length:Int):=by
 rcases al7 (p++c::r) [c] with d|⟨i,d,m,f,g⟩
 ·exfalso;have:=d.2 p.length (by simp);simp[aj9] at this
 ·rw[d];have n:¬p.length<i:=by
   intro a;have:=g p.length a;simp[aj9] at this
  have k:¬i<p.length:=by
   intro a;simp only[aj9,af8] at f;obtain⟨t,b⟩:=f;have j:(p++c::r).drop i=p.drop i++c::r:=by rw[ac2 (by omega)]
   rw[j] at b;cases e:p.drop i with
   | nil=>have:=ac0 (i:=i) (l:=p);rw[e] at this;simp at this;omega
   | cons x y=>
    rw[e] at b;simp at b;have:x∈p:=ad2 (i:=i) (by rw[e];simp);rw[<-b.1] at this;exact h this
  omega
theorem Cc6(s:By):C9 s≠[]:=by
 unfold C9;split
 ·rename_i h;intro e;have:=congrArg o0 e;simp at this;omega
 ·exact Aa7 _ _
theorem Nr{s x:By}(h:x∈C9 s):x.length<=s.length:=by
 unfold C9 at h;split at h
 ·exact(Cr ((List.dropLast_sublist _).subset h)).2
 ·exact(Cr h).2
theorem Bl(s:By):1<=(C9 s).length/\(C9 s).length<=s.length+1:=by
 have a:=ad8.2 (Cc6 s);have b:=Jv 46 s;have c:=Hw 46 s;refine⟨a,?_⟩;unfold C9;split
 ·rw[List.length_dropLast];omega
 ·omega
theorem DI(s:By):(C9 s).getD ((C9 s).length-1) []=Df s:=by unfold Df;rw[List.getLastD_eq_getLast?,List.getLast?_eq_getElem?,k9]
theorem SN(s:By):Df s∈C9 s:=by have h:=(Bl s).1;rw[<-DI,k9,o7 (by omega)];exact ak1 _
theorem Km{base:Nat}:∀{s:By} {n i:Nat},i<s.length->base<=dig (s.getD i 0)->F1 base n s=none
 | [],n,i,h,_=>by simp at h
 | b::r,n,0,h,a=>by
  simp only[aa8] at a;simp only[F1];rw[G1]
 | b::r,n,i+1,h,a=>by
  simp only[ai1] at a;simp only[F1];split
  ·exact Km (i:=i) (by simpa using h) a
  ·rfl
theorem Hb(s:By):Z1 s=true↔s.getD 0 0=48/\(s.getD 1 0=120\/s.getD 1 0=88):=by simp[Z1]
theorem Lo{s:By}(h:Z1 s=true):2<=s.length:=by
 rw[Hb] at h
 match s with
 | []=>simp at h
 | [a]=>simp at h
 | a::b::r=>simp
theorem Cy4(l:By):(if Z1 l then (F1 16 0 (l.drop 2)).isSome else !l.isEmpty&&(F1 10 0 l).isSome) =
  (if (!l.isEmpty&&(F1 10 0 l).isSome)=true then true else (if (Ae l).isSome=true then decide (2<=l.length)&&(l.getD 1 0==120||l.getD 1 0==88) else false)):=by
 by_cases b:Z1 l=true
 ·have g:=Lo b;have j:=(Hb l).1 b;have f:F1 10 0 l=none:=Km (i:=1) (by omega) (by rcases j.2 with h|h<;>rw[h]<;>decide);have d:Ae l=F1 16 0 (l.drop 2):=by
   unfold Ae;rw[if_neg (by intro e;rw[e] at g;simp at g),if_pos b]
  rw[if_pos b,f,d];have c:(l.getD 1 0==120||l.getD 1 0==88)=true:=by simpa using j.2
  rw[c];simp[g]
 ·rw[if_neg b];cases n:(!l.isEmpty&&(F1 10 0 l).isSome) with
  | true=>rfl
  | false=>
   rw[if_neg (by simp)];cases d:Ae l with
   | none=>rfl
   | some v=>
    rw[show(some v).isSome=true from rfl,if_pos rfl]
    symm
    rw[Bool.and_eq_false_iff];by_cases c:2<=l.length
    ·right
     apply ag1;intro a;have a:l.getD 1 0=120\/l.getD 1 0=88:=by
      cases k:(l.getD 1 0==120||l.getD 1 0==88) with
      | false=>exact absurd k a
      | true=>simpa using k
     have m:¬l.getD 0 0=48:=λh=>b ((Hb l).2 ⟨h,a⟩)
     have f:F1 10 0 l=none:=Km (i:=1) (by omega) (by rcases a with h|h<;>rw[h]<;>decide);unfold Ae at d;rw[if_neg (by intro e;rw[e] at c;simp at c),if_neg b,if_neg (by intro h;exact m h.2),f] at d;cases d
    ·left;simpa using c
end
section
open Go Go.Proofs
theorem Cb0{R:Type}{a:Bool->Option R}(s p:By)(b:A3 s.length=true):Dj0 LF s p a=a (p.isPrefixOf s):=by
 have:=L4 b;unfold Dj0;rw[Fs];by_cases h:p.length<=s.length
 ·simp_all
 ·simp (disch:=omega) [h]
theorem B86{R:Type}{a:Bool->Option R}(s p:By)(b:A3 s.length=true):Ql LF s p a=a (p.isPrefixOf s):=by unfold Ql;rw[b];rfl
theorem Cb1{R:Type}{a:Bool->Option R}(s p:By)(b:A3 s.length=true):Dj2 LF s p a=a (p.isSuffixOf s):=by
 have:=L4 b;unfold Dj2;rw[Pd];by_cases h:p.length<=s.length
 ·have e:((s.length:Int)-(p.length:Int)).toNat=s.length-p.length:=by omega
  simp (disch:=omega) [h,e]
 ·simp (disch:=omega) [h]
theorem B87{R:Type}{a:Bool->Option R}(s p:By)(b:A3 s.length=true):Dh3 LF s p a=a (p.isSuffixOf s):=by unfold Dh3;rw[b];rfl
theorem Bc5{R:Type}{b:By->Option R}(s p:By)(a:A3 s.length=true):B04 LF s p b=b (Ae5 s p):=by
 have:=L4 a;unfold B04 Ae5;rw[a];cases h:p.isSuffixOf s with
 | false=>simp
 | true=>
  have:p.length<=s.length:=by rw[Pd] at h;simp at h;exact h.1
  have e:((s.length:Int)-(p.length:Int)).toNat=s.length-p.length:=by omega
  simp (disch:=omega) [e]
theorem Br0{R:Type}{a:By->Option R}(s p:By)(b:A3 s.length=true):B34 LF s p a=a (Ae5 s p):=by unfold B34;rw[b];rfl
theorem Bb4{R:Type}{b:By->Bool->Option R}(s p:By)(a:A3 s.length=true):Bz7 LF s p b=b (Hx s p) (p.isPrefixOf s):=by
 have:=L4 a;unfold Bz7 Hx;rw[a];cases h:p.isPrefixOf s with
 | false=>simp
 | true=>
  have:p.length<=s.length:=by rw[Fs] at h;simp at h;exact h.1
  simp_all
theorem B59{R:Type}{a:By->Bool->Option R}(s p:By)(b:A3 s.length=true):Dd6 LF s p a=a (Hx s p) (p.isPrefixOf s):=by unfold Dd6;rw[b];rfl
theorem Ay4{R:Type}{a:LL->Option R}(s p:By)(b:A3 s.length=true)(c:(p.length==1)=true):Ae0 LF s p a=a (D2 (pcs (p.getD 0 0) s)):=by unfold Ae0;rw[b,c];rfl
theorem Ca7{R:Type}{k0:LL->Option R}(s:By)(o:s.length<=1000000000):∀(r i n:Nat),i+r=s.length->r<n->Ge LF n s (s.length:Int) (i:Int) ((B6 (s.take i)).map E4) k0=k0 ((B6 s).map E4):=by
 intro r
 induction r with
 | zero=>
  intro i n g j;obtain⟨n,rfl⟩:∃m,n=m+1:=⟨n-1,by omega⟩
  rw[Ge];rw[A6,p6 (by omega)];rfl
 | succ r a=>
  intro i n g j;obtain⟨n,rfl⟩:∃m,n=m+1:=⟨n-1,by omega⟩
  rw[Ge];have h:(B6 (s.take i)).length=i:=by simp[B6];omega
  have a:=a (i+1) n (by omega) (by omega);rw[MU s i (by omega)] at a;rw[D4];have l:=(s.getD i 0).toNat_lt;generalize s.getD i 0=b at *;have c:((i:Int)+1)=((i+1:Nat):Int):=by omega
  simp (disch:=omega) only[B9,K7,cond_true,vl,ae7,h,F9,D1];rw[c];rcases K9 b with⟨d,e⟩|⟨d,e⟩|⟨d,k,e⟩
  ·simp (disch:=omega) only[B9,j7,cond_false];rw[e] at a;exact a
  ·simp (disch:=omega) only[E6,B9,j7,j6,cond_false,cond_true];rw[e] at a;exact a
  ·have f:wu8 ((b.toNat:Int)+32)=((X9 b).toNat:Int):=by
    rw[N6];omega
   simp (disch:=omega) only[E6,j6,cond_true,f];exact a
theorem Ca8{R:Type}{k0:By->LL->Option R}(s:By)(b:A3 s.length=true):Di8 LF s k0=k0 (B6 s) ((B6 s).map E4):=by have c:=L4 b;have:=C5;unfold Di8;simp (disch:=omega) only[j4,F9,ag8];rw[show(decide ((0:Int)<=(s.length:Int)))=true by simp];have:=Ca7 (k0:=λa=>cond (ac8 a Pk) (k0 (ab4 Nb a) a) none) s c s.length 0 LF (by omega) (by omega);simp only[ac1,B6,ao8] at this;rw[cond_true];refine j5 this ?_;rw[show(ab4 X9 s).map E4=(B6 s).map E4 from rfl,Y4,Z3];rfl
theorem Cf3{R:Type}{k0:LL->Option R}(s:By)(o:s.length<=1000000000):∀(r i n:Nat),i+r=s.length->r<n->Gm LF n s (i:Int) ((B6 (s.take i)).map E4) k0=k0 ((B6 s).map E4):=by
 intro r
 induction r with
 | zero=>
  intro i n g j;obtain⟨n,rfl⟩:∃m,n=m+1:=⟨n-1,by omega⟩
  rw[Gm];rw[A6,p6 (by omega)];rfl
 | succ r a=>
  intro i n g j;obtain⟨n,rfl⟩:∃m,n=m+1:=⟨n-1,by omega⟩
  rw[Gm];have h:(B6 (s.take i)).length=i:=by simp[B6];omega
  have a:=a (i+1) n (by omega) (by omega);rw[MU s i (by omega)] at a;rw[D4];have l:=(s.getD i 0).toNat_lt;generalize s.getD i 0=b at *;have c:((i:Int)+1)=((i+1:Nat):Int):=by omega
  simp (disch:=omega) only[B9,K7,cond_true,vl,ae7,h,F9,D1];rw[c];rcases K9 b with⟨d,e⟩|⟨d,e⟩|⟨d,k,e⟩
  ·simp (disch:=omega) only[B9,j7,cond_false];rw[e] at a;exact a
  ·simp (disch:=omega) only[E6,B9,j7,j6,cond_false,cond_true];rw[e] at a;exact a
  ·have f:wu8 ((b.toNat:Int)+32)=((X9 b).toNat:Int):=by
    rw[N6];omega
   simp (disch:=omega) only[E6,j6,cond_true,f];exact a
theorem Cf4{R:Type}{k0:By->LL->Option R}(s:By)(b:A3 s.length=true):Dn3 LF s k0=k0 (B6 s) ((B6 s).map E4):=by have c:=L4 b;have:=C5;unfold Dn3;have:=Cf3 (k0:=λa=>cond (ac8 a Pk) (k0 (ab4 Nb a) a) none) s c s.length 0 LF (by omega) (by omega);refine j5 this ?_;rw[Y4,Z3];rfl
theorem B83{R:Type}{c:Bool->Option R}(s:By)(d:A3 s.length=true):Dg8 LF s c=c (Z1 s):=by
 unfold Dg8;have key:Z1 s=(([48,120]:By).isPrefixOf s||([48,88]:By).isPrefixOf s):=by
  match s with
  | []=>rfl
  | [a]=>simp[Z1,x9]
  | a::b::r=>
   simp only[Z1,x9,aa8,ai1,ag8];rw[ai7 (a:=(48:UInt8)),ai7 (a:=(120:UInt8)),ai7 (a:=(88:UInt8))];cases (a==48)<;>simp
 grind
theorem B64{R:Type}{k0:Unit->Option R}{k1:Int->Option R}(s:By)(C:s.length<=1000000000)(base:Nat)(B:base<=16):∀(r i a n:Nat),i+r=s.length->r<n->a<=W8->
  Jp LF n s (base:Int) (a:Int) (s.length:Int) (i:Int) k0 k1=match F1 base a (s.drop i) with|some v=>k1 (v:Int)|none=>k0 ():=by
 intro r
 induction r with
 | zero=>
  intro i a n u w q;obtain⟨n,rfl⟩:∃m,n=m+1:=⟨n-1,by omega⟩
  rw[Jp];rw[A6,j9 (by omega)];rfl
 | succ r l=>
  intro i a n u w q;obtain⟨n,rfl⟩:∃m,n=m+1:=⟨n-1,by omega⟩
  rw[Jp,D6 s i (by omega)];rw[D4];have t:=(s.getD i 0).toNat_lt;generalize s.getD i 0=b at *;have k:((i:Int)+1)=((i+1:Nat):Int):=by omega
  have o:W8=1099511627776:=rfl;have step:∀d:Nat,d<base->(a*base+d<100000000000000/\A1 (A1 ((a:Int)*(base:Int))+(d:Int))=((a*base+d:Nat):Int)):=by
   intro d c;have h:a*base<=1099511627776*16:=al8 (by omega) (by omega);refine⟨by omega,?_⟩;have p:A1 ((a*base:Nat):Int)=((a*base:Nat):Int):=A7;rw[<-al3,p,A7];rfl
  simp (disch:=omega) only[B9,K7,cond_true,vl,D1,Xf,Xe,Xd];rw[k];simp only[F1];rcases Dq b with⟨h,j,e⟩|⟨h,j,e⟩|⟨h,j,e⟩|⟨h,j,A,e⟩
  ·have f:wu8 ((b.toNat:Int)-48)=((dig b:Nat):Int):=by rw[N6];omega
   simp (disch:=omega) only[B9,E6,j7,j6,cond_false,cond_true,f,D1];by_cases c:dig b<base
   ·rw[if_pos c,A9,(step _ c).2,C44];exact l (i+1) _ n (by omega) (by omega) (by omega)
   ·rw[if_neg c,A6];rfl
  ·have f:wu8 ((b.toNat:Int)-97)+10=((dig b:Nat):Int):=by rw[N6];omega
   have g:wu8 ((b.toNat:Int)-97)=((b.toNat:Int)-97):=N6;rw[g] at f;simp (disch:=omega) only[B9,E6,j7,j6,cond_false,cond_true,g,D1,f];by_cases c:dig b<base
   ·rw[if_pos c,A9,(step _ c).2,C44];exact l (i+1) _ n (by omega) (by omega) (by omega)
   ·rw[if_neg c,A6];rfl
  ·have f:wu8 ((b.toNat:Int)-65)+10=((dig b:Nat):Int):=by rw[N6];omega
   have g:wu8 ((b.toNat:Int)-65)=((b.toNat:Int)-65):=N6;rw[g] at f;simp (disch:=omega) only[B9,E6,j7,j6,cond_false,cond_true,g,D1,f];by_cases c:dig b<base
   ·rw[if_pos c,A9,(step _ c).2,C44];exact l (i+1) _ n (by omega) (by omega) (by omega)
   ·rw[if_neg c,A6];rfl
  ·rw[if_neg (show ¬dig b<base by omega)];by_cases x:b.toNat<48
   ·simp (disch:=omega) only[B9,E6,j7,j6,cond_false,cond_true]
   ·by_cases y:b.toNat<65
    ·simp (disch:=omega) only[B9,E6,j7,j6,cond_false,cond_true]
    ·by_cases z:b.toNat<97
     ·simp (disch:=omega) only[B9,E6,j7,j6,cond_false,cond_true]
     ·simp (disch:=omega) only[B9,E6,j7,j6,cond_false,cond_true]
theorem B65{R:Type}{k0:Int->Bool->Option R}(s:By)(base:Int)(c:A3 s.length=true)(d:ltN base 17=true):Cs8 LF s base k0=k0 (O4 (F1 base.toNat 0 s):Int) (F1 base.toNat 0 s).isSome:=by have f:=L4 c;have:=C5;obtain⟨a,e⟩:=E2.1 d;obtain⟨b,rfl⟩:=o6 a;unfold Cs8;have:=B64 (k0:=λ_=>k0 0 false) (k1:=λn=>k0 n true) s f b (by omega) s.length 0 0 LF (by omega) (by omega) (by unfold W8;omega);refine j5 this ?_;rw[p7,j4];cases F1 b 0 s<;>rfl
theorem Cy3{R:Type}{f:Int->Bool->Option R}(s:By)(d:A3 s.length=true):num LF s f=f (O4 (Ae s):Int) (Ae s).isSome:=by
 have k:=L4 d;unfold num Ae;rw[d];by_cases a:s=[]
 ·subst a;rfl
 have c:(s==([]:By))=false:=by simpa using a
 have j:0<s.length:=ad8.2 a;rw[if_neg a,c];simp only[cond_true,cond_false,vl];cases h:Z1 s with
 | true=>
  have:=Lo h;simp (disch:=first|omega|(simp;omega)) only[cond_true,if_true,Aw,Q6,E7,Tj];rfl
 | false=>
  simp only[cond_false,p9,if_false];have i:(F1 10 0 s)=F1 10 0 s:=rfl;by_cases g:1<s.length
  ·simp (disch:=omega) only[B9,K7,cond_true,Ay,g,true_and];have e:=S6 (s.getD 0 0) 48 (by omega);rw[show((48:Nat):Int)=48 from rfl] at e;rw[e];by_cases b:s.getD 0 0=48
   ·rw[if_pos b,b,show((48:UInt8)==ab9 48)=true from rfl];simp (disch:=first|omega|(simp;omega)) only[Aw,Q6,E7,Tj,cond_true];rfl
   ·rw[if_neg b,show(s.getD 0 0==ab9 48)=false from beq_eq_false_iff_ne.2 b];rfl
  ·rw[A6,G1];rfl
theorem ZZ{R:Type}{b:Bool->Option R}(s:By)(a:A3 s.length=true):HG LF s b=b (F0 s):=by
 have i:=L4 a;have h:=Bl s;have g:=Nr (SN s);have d:=DI s;have c:((C9 s).length:Int)-1=(((C9 s).length-1:Nat):Int):=by omega
 unfold HG F0;rw[a];simp (disch:=omega) only[cond_true,vl,E3,c,D1,K7,j4,Q2,U1,d,E7];cases f:Z1 (Df s) with
 | true=>
  have:=Lo f;have e:Ae (Df s)=F1 16 0 ((Df s).drop 2):=by
   unfold Ae;grind
  simp[e]
 | false=>
  simp only[cond_false,p9,if_false];cases F1 10 0 (Df s) with
  | none=>simp
  | some v=>cases Df s<;>rfl
theorem QB{R:Type}{c:Bool->Option R}(s:By)(a:A3 s.length=true):Zj LF s c=c (F0 s):=by
 have j:=L4 a;have i:=Bl s;have h:=Nr (SN s);have e:=DI s;have d:((C9 s).length:Int)-1=(((C9 s).length-1:Nat):Int):=by omega
 unfold Zj F0;rw[a,Cy4];simp (disch:=omega) only[cond_true,vl,E3,d,D1,K7,j4,Q2,U1,e,E7];generalize Df s=l at *;cases (!l.isEmpty&&(F1 10 0 l).isSome) with
 | true=>rfl
 | false=>
  simp only[cond_false,p9,if_false];cases Ae l with
  | none=>rfl
  | some v=>
   simp only[o8,cond_true,if_true,Bx0];by_cases b:2<=l.length
   ·simp (disch:=omega) only[E6,K7,j6,cond_true,b,decide_true,am6];have f:=S6 (l.getD 1 0) 120 (by omega);have g:=S6 (l.getD 1 0) 88 (by omega);grind
   ·rw[A9];simp[b]
theorem ZC{R:Type}{e:By->Option R}(b:Nat)(j:b<=9223372036854775808)(n:Int)(f:ltN n (b+1)=true):GW b n e=e (o5 n.toNat):=by
 obtain⟨a,g⟩:=E2.1 f;obtain⟨m,rfl⟩:=o6 a;have key:∀d:Nat,d<10->wu8 (A1 (48+(d:Int)))=((48+d:Nat):Int):=by
  intro d i;rw[A7,N6];rfl
 have c:∀d:Nat,d<10->[[SV.int .u8 ((48+d:Nat):Int)]]=[ab9 (48+d)].map E4:=by
  intro d i;rw[C68 (by omega)];rfl
 unfold GW;rw[j4];by_cases h:m<10
 ·rw[A9,key m h,ag2 h];simp only[cond_true,vl];rw[c m h,Y4,Z3];rfl
 ·have l:=Gy 19 (m / 10) (by omega) (by omega);rw[A6,show(10:Int)=((10:Nat):Int) from rfl,N4,Cx];simp (disch:=omega) only[cond_false,vl,D1,cond_true,j4];rw[N0];simp only[cond_true];have k:=key (m % 10) (by omega);rw[A7] at k;rw[k,c (m % 10) (by omega),Y4,Z3,G3 (by simp;omega),X1 m h];rfl
theorem Ce1{R:Type}{f:Int->Option R}{c:Unit->Option R}(s:By):∀(r m n:Nat),m+r=256->r<n->Nu LF n s (m:Int) f c=match oct s with|some v=>(if m<=v then f (v:Int) else c ())|none=>c ():=by
 intro r
 induction r with
 | zero=>
  intro m n g i;obtain⟨n,rfl⟩:∃m,n=m+1:=⟨n-1,by omega⟩
  rw[Nu];rw[A6];cases h:oct s with
  | none=>rfl
  | some v=>have:=(Ys.1 h).1;simp only[cond_false];rw[G1]
 | succ r j=>
  intro m n g i;obtain⟨n,rfl⟩:∃m,n=m+1:=⟨n-1,by omega⟩
  rw[Nu];have b:((m:Int)+1)=((m+1:Nat):Int):=by omega
  simp (disch:=omega) only[B9,Tj,cond_true,vl,D1,j4];by_cases a:o5 m=s
  ·rw[show(o5 m==s)=true by simpa using a,Ys.2 ⟨by omega,a⟩];simp
  ·rw[show(o5 m==s)=false by simpa using a,cond_false,b,j (m+1) n (by omega) (by omega)];cases h:oct s with
   | none=>rfl
   | some v=>
    have:=(Ys.1 h).2;have:v≠m:=by intro e;subst e;exact a this
    simp only[];by_cases d:m<=v
    ·rw[if_pos d,R0]
    ·rw[if_neg d,G1]
theorem Ce2{R:Type}{a:Int->Bool->Option R}(s:By)(b:A3 s.length=true):Dm1 LF s a=a (O4 (oct s):Int) (oct s).isSome:=by have:=C5;unfold Dm1;refine j5 (Ce1 s 256 0 LF (by omega) (by omega)) ?_;cases oct s<;>rfl
theorem D92(s:By)(a b:Nat)(h:a<=b)(c:b<s.length):cut s (a:Int) ((b+1:Nat):Int)=cut s (a:Int) (b:Int)++[s.getD b 0]:=by rw[Fz,Fz,TZ s b c,ac2 (by rw[y9];omega)]
theorem Cs5(s:By)(a:Nat):cut s (a:Int) (a:Int)=[]:=by rw[Fz];grind
theorem At7{R:Type}{k0:LL->Option R}(s:By)(p:s.length<=1000000000)(c:UInt8):∀(r i a n:Nat) (l:List By),i+r=s.length->r+1<n->a<=i->l.length<=i->
  X3 LF n s (c.toNat:Int) (a:Int) (i:Int) (D2 l) k0=k0 (D2 (l++N3 c (cut s (a:Int) (i:Int)) (s.drop i))):=by
 intro r
 induction r with
 | zero=>
  intro i a n l j o f k;obtain⟨n,rfl⟩:∃m,n=m+1:=⟨n-1,by omega⟩
  obtain⟨n,rfl⟩:∃m,n=m+1:=⟨n-1,by omega⟩
  have b:i=s.length:=by omega
  subst b;rw[X3];simp (disch:=omega) only[E6,j6,cond_true,beq_self_eq_true,Aw,E3,F9,D1];rw[X3];rw[A9,List.drop_length];simp only[j7,cond_false,N3,AD];rfl
 | succ r g=>
  intro i a n l j o f k;obtain⟨n,rfl⟩:∃m,n=m+1:=⟨n-1,by omega⟩
  rw[X3];have d:((i:Int)+1)=((i+1:Nat):Int):=by omega
  have e:((i:Int)==(s.length:Int))=false:=by rw[beq_eq_false_iff_ne];omega
  simp (disch:=omega) only[E6,j6,cond_true,cond_false,e,K7,D4,Dy0,Aw,E3,F9,D1];rw[d,D6 s i (by omega)];simp only[N3];by_cases h:s.getD i 0=c
  ·rw[show(s.getD i 0==c)=true by simpa using h,if_pos h,cond_true];have:=g (i+1) (i+1) n (l++[cut s (a:Int) (i:Int)]) (by omega) (by omega) (by omega) (by simp<;>omega);rw[AD] at this;refine j5 this ?_;rw[Cs5];simp
  ·rw[show(s.getD i 0==c)=false from beq_eq_false_iff_ne.2 h,if_neg h,cond_false];rw[g (i+1) a n l (by omega) (by omega) (by omega) (by omega),D92 s a i f (by omega)]
theorem Bn7{R:Type}{k0:LL->Option R}(s:By)(c:Int)(a:A3 s.length=true)(d:inR c 256=true):NY LF s c k0=k0 (D2 (pcs (u8n c) s)):=by
 have f:=L4 a;have:=C5;simp only[inR,ad4,decide_eq_true_eq] at d;have e:c=((u8n c).toNat:Int):=by
  unfold u8n;simp;omega
 unfold NY;generalize u8n c=b at *;subst e;have:=At7 (k0:=k0) s f b s.length 0 0 LF [] (by omega) (by omega) (by omega) (by simp);refine j5 this ?_;rw[Cs5];rfl
theorem Ay6(c:UInt8)(s:By):(D2 (pcs c s)).isEmpty=false:=by
 cases h:pcs c s with
 | nil=>exact absurd h (Aa7 c s)
 | cons a r=>rfl
theorem At8(s:By)(c:Int)(a:A3 s.length=true)(b:inR c 256=true):∃r H,NY LF s c (λl=>rv (.fl 0) [.arr true 9 1 l])=rv r H/\r.stab [1] H = .s (.sl false false 1 (D2 (pcs (u8n c) s))):=by refine⟨_,_,Bn7 s c a b,?_⟩;simp[PV.stab,Sz,PV.snap,Ay6]
theorem C45(d:List By)(x:By)(m:Nat):ac9 (D2 (d++a8 (m+1) [])) d.length (G4 (j2 (D2 (d++a8 (m+1) [])) d.length []) 0 [SV.str x])=D2 ((d++[x])++a8 m []):=by
 have a:j2 (D2 (d++a8 (m+1) [])) d.length []=[SV.str []]:=by
  unfold D2;grind
 rw[a];simp only[G4,ai4,AD];rw[show d.length=(D2 d).length by simp,ah4 _ _ (by omega),ap0,af3];simp[D2]
theorem Am7{R:Type}{k0:By->Int->LL->Option R}(c:UInt8):∀(m n:Nat) (s:By) (d:List By),s.length<=1000000000->m=s.count c->d.length+m<=1000000000->m<n->
  ∃(f:List By) (e:By),pcs c s=f++[e]/\e.length<=s.length/\Bt LF n s [c] 0 ((d.length+m:Nat):Int) (d.length:Int) (D2 (d++a8 (m+1) [])) k0=k0 e ((d.length+m:Nat):Int) (D2 ((d++f)++[[]])):=by
 intro m
 induction m with
 | zero=>
  intro n s d k b x y;obtain⟨n,rfl⟩:∃m,n=m+1:=⟨n-1,by omega⟩
  have a:c∉s:=af7.1 b.symm;refine⟨[],s,Lv a,Nat.le_refl _,?_⟩;rw[Bt];rw[A6];simp
 | succ m z=>
  intro n s d k b x y;obtain⟨n,rfl⟩:∃m,n=m+1:=⟨n-1,by omega⟩
  rcases R2 c s with a|⟨p,r,rfl,a⟩
  ·rw[af7.2 a] at b;omega
  ·have i:m=r.count c:=by
    rw[List.count_append,List.count_cons,af7.2 a] at b;simp at b;omega
   simp only[ac6,ab2] at k;obtain⟨f,e,w,B,j⟩:=z n r (d++[p]) (by omega) i (by simp<;>omega) (by omega);refine⟨p::f,e,by rw[HK a,w];rfl,by simp<;>omega,?_⟩;rw[Bt];have l:((p.length:Int)+1)=((p.length+1:Nat):Int):=by omega
   have o:(d.length:Int)+1=((d.length+1:Nat):Int):=by omega
   have q:((p.length+1:Nat):Int).toNat=p.length+1:=by omega
   have A:(((p++c::r).length:Nat):Int)=((p.length+(r.length+1):Nat):Int):=by simp
   have t:(p++c::r).take p.length=p:=List.take_left' rfl;have u:(p++c::r).drop (p.length+1)=r:=by
    rw[show p++c::r=(p++[c])++r by simp,al4 (by simp)]
   rw[DD a];have v:(D2 (d++a8 (m+1+1) [])).length=d.length+(m+2):=by simp<;>omega
   simp (disch:=first|omega|(simp;omega)) only[B9,E6,E7,cond_true,cond_false,vl,Int.add_zero,D1,Aw,K7,v,j4,ab5,Q6,L2,t,C45];rw[decide_eq_true (show d.length<d.length+(m+2) by omega),cond_true,show((1:Nat):Int)=1 from rfl,l];simp (disch:=first|omega|(simp;omega)) only[D1,Aw,cond_true,Q6,q,u,o];have g:((((d++[p]).length+m:Nat):Int))=((d.length+(m+1):Nat):Int):=by simp<;>omega
   have h:(((d++[p]).length:Nat):Int)=((d.length+1:Nat):Int):=by simp
   rw[g,h] at j;rw[j];simp
theorem MC{R:Type}{k0:Unit->Option R}{g:Nat->LL->Option R}(s p:By)(v n:Int)(w:A3 s.length=true)(x:(p.length==1)=true)(y:(v==0)=true)(z:(n==(-1))=true) :
  MB LF s p v n k0 g=g (pcs (p.getD 0 0) s).length (D2 (pcs (p.getD 0 0) s)):=by
 have C:=L4 w;have:=C5;obtain⟨c,rfl⟩:∃c,p=[c]:=by
  match p,x with
  | [c],_=>exact⟨c,rfl⟩
 have:v=0:=by simpa using y
 subst this;have:n=-1:=by simpa using z
 subst this;have G:=Hw c s;have B:=Jv c s;obtain⟨d,D,u,F,h⟩:=Am7 (R:=R) (k0:=λf a b=>cond (inR a (o0 b))
     (cond (decide ((b8 a)<(o0 b)))
      (vl (A1 (a+(1))) λe=>
      cond (I9 (0) e (o0 (ac9 b (b8 a) (G4 (j2 b (b8 a) []) 0 [(SV.str f)]))))
       (g ((b8 e)-0) (ac9 b (b8 a) (G4 (j2 b (b8 a) []) 0 [(SV.str f)])))
       (none))
      (none))
     (none)) c (s.count c) LF s [] C rfl (by simp<;>omega) (by omega)
 unfold MB;have i:A1 ((s.count c:Int)+1)=((s.count c+1:Nat):Int):=A7;have j:A1 ((s.length:Int)+1)=((s.length+1:Nat):Int):=A7;have k:(if ((s.length+1:Nat):Int)<((s.count c+1:Nat):Int) then ((s.length+1:Nat):Int) else ((s.count c+1:Nat):Int))=((s.count c+1:Nat):Int):=G1;have l:((s.count c+1:Nat):Int)-1=(s.count c:Int):=by omega
 have m:(a8 (s.count c+1) [SV.str ([]:By)])=D2 ([]++a8 (s.count c+1) []):=by simp[D2]
 simp only[aa8,vl,ab5,i,j,k,j4,m];rw[show((-1:Int)==0)=false from rfl,show([c]==([]:By))=false from rfl,show ltI (-1) 0=true from rfl,decide_eq_true (show(0:Int)<=((s.count c+1:Nat):Int) by omega),decide_eq_true (show((s.count c+1:Nat):Int)<=((s.count c+1:Nat):Int) by omega),F9 (by omega),l,A7];simp only[cond_true,cond_false,beq_self_eq_true,Bool.and_self];simp only[ae8,af4] at h;refine j5 h ?_;have o:(D2 ((([]:List By)++d)++[[]]))=D2 (d++a8 (0+1) []):=by simp
 have A:d.length=s.count c:=by grind
 have q:=C45 d D 0;rw[<-A,o];have t:(D2 (d++a8 (0+1) ([]:By))).length=d.length+1:=by simp
 have r:A1 ((d.length:Int)+1)=((d.length+1:Nat):Int):=A7;simp only[j4,q,t,vl,r];rw[F2,decide_eq_true (show d.length<d.length+1 by omega),Aw (by omega) (by omega) (by simp),u];simp
theorem Am8(s p:By)(v n:Int)(a:A3 s.length=true)(b:(p.length==1)=true)(c:(v==0)=true)(d:(n==(-1))=true) :
  ∃r H,MB LF s p v n (λ_=>rv (.fl 0) [.arr true 9 1 []]) (λi l=>rv (.vw 0 0 i) [.arr false 9 1 l])=rv r H/\r.stab [1] H = .s (.sl false false 1 (D2 (pcs (p.getD 0 0) s))):=by
 refine⟨_,_,MC s p v n a b c d,?_⟩;simp[PV.stab,Sz,PV.snap,p6]
theorem Ae1{R:Type}{a:Nat->LL->Option R}(s p:By)(b:A3 s.length=true)(c:(p.length==1)=true):HW LF s p a=a (pcs (p.getD 0 0) s).length (D2 (pcs (p.getD 0 0) s)):=by unfold HW;rw[b,c];rfl
theorem SY{l:List By}{i:Nat}(h:i<l.length):l.getD i []∈l:=by grind
theorem Be2{R:Type}{d:LL->Option R}(s:By)(b:A3 s.length=true):parts LF s d=d (D2 (C9 s)):=by
 have j:=L4 b;have g:=Jv 46 s;have i:=Hw 46 s;unfold parts;rw[b];have e:A1 (((pcs 46 s).length:Int)-1)=(((pcs 46 s).length-1:Nat):Int):=by rw[A7];omega
 simp only[cond_true,vl,aa8,show((1:Nat)==1)=true from rfl,E3,e,j4];by_cases c:1<(pcs 46 s).length
 ·rw[A9,F2,Q2 (by omega),U1];have f:(pcs 46 s).getD ((pcs 46 s).length-1) []=(pcs 46 s).getLastD []:=by grind
  rw[f];by_cases a:(pcs 46 s).getLastD []=[]
  ·rw[a,show(([]:By)==[])=true from rfl,I4];have:C9 s=(pcs 46 s).dropLast:=by unfold C9;rw[if_pos ⟨c,a⟩]
   rw[this,ah3,L2,j4];simp[D2]
  ·rw[show((pcs 46 s).getLastD []==[])=false from beq_eq_false_iff_ne.2 a];have:C9 s=pcs 46 s:=by unfold C9;rw[if_neg (λh=>a h.2)]
   grind
 ·rw[A6];have:C9 s=pcs 46 s:=by unfold C9;rw[if_neg (λh=>c h.1)]
  grind
theorem As8{R:Type}{d:LL->Option R}(s:By)(b:A3 s.length=true):Ac5 LF s d=d (D2 (C9 s)):=by
 have j:=L4 b;have g:=Jv 46 s;have i:=Hw 46 s;unfold Ac5;rw[b];have e:A1 (((pcs 46 s).length:Int)-1)=(((pcs 46 s).length-1:Nat):Int):=by rw[A7];omega
 simp only[cond_true,vl,show u8n 46=46 from rfl,E3,e,j4];by_cases c:1<(pcs 46 s).length
 ·rw[A9,F2,Q2 (by omega),U1];have f:(pcs 46 s).getD ((pcs 46 s).length-1) []=(pcs 46 s).getLastD []:=by grind
  rw[f];by_cases a:(pcs 46 s).getLastD []=[]
  ·rw[a,show(([]:By)==[])=true from rfl,I4];have:C9 s=(pcs 46 s).dropLast:=by unfold C9;rw[if_pos ⟨c,a⟩]
   rw[this,ah3,L2,j4];simp[D2]
  ·rw[show((pcs 46 s).getLastD []==[])=false from beq_eq_false_iff_ne.2 a];have:C9 s=pcs 46 s:=by unfold C9;rw[if_neg (λh=>a h.2)]
   grind
 ·rw[A6];have:C9 s=pcs 46 s:=by unfold C9;rw[if_neg (λh=>c h.1)]
  grind
theorem Kq(l:List By)(i:Nat)(h:i<l.length):l.drop i=l.getD i []::l.drop (i+1):=by simp_all
theorem Cd1{R:Type}{g:Unit->Option R}{j:Int->Option R}(l:List By)(B:1<=l.length)(L:l.length<=4)(A:∀x∈l,x.length<=1000000000):∀(r i v n:Nat),i+r=l.length->0<r->r<n->v<256 ^ i->
  Jy LF n (D2 l) (v:Int) (l.length:Int) (i:Int) g j=match Vp (8*(5-l.length)) v (l.drop i) with|some w=>j (w:Int)|none=>g ():=by
 intro r
 induction r with
 | zero=>intro i v n _ h;omega
 | succ r J=>
  intro i v n K _ M H;obtain⟨n,rfl⟩:∃m,n=m+1:=⟨n-1,by omega⟩
  rw[Jy,Kq l i (by omega)];have N:=A _ (SY (show i<l.length by omega));have f:W8=1099511627776:=rfl;have C:256 ^ i<=16777216:=by
   have:i=0\/i=1\/i=2\/i=3:=by omega
   rcases this with rfl|rfl|rfl|rfl<;>decide
  simp (disch:=omega) only[B9,E3,K7,cond_true,j4,Q2,U1,E7,vl];simp only[Vp];have c:((i:Int)+1)=((i+1:Nat):Int):=by omega
  cases D:Ae (l.getD i []) with
  | none=>rfl
  | some q=>
   have F:=B09 D;have p:A1 ((l.length:Int)-1)=((l.length-1:Nat):Int):=by rw[A7];omega
   simp only[o8,j7,cond_false,O4,o9,p];by_cases G:r=0
   ·subst G;have t:l.drop (i+1)=[]:=j9 (by omega);have o:A1 (8*A1 (5-(l.length:Int)))=((8*(5-l.length):Nat):Int):=by
     rw[D1 (n:=5-(l.length:Int)) (by omega) (by omega),A7];omega
    have b:2 ^ (8*(5-l.length))*256 ^ i=4294967296:=by
     have:l.length=1\/l.length=2\/l.length=3\/l.length=4:=by omega
     grind
    have u:1*2 ^ (8*(5-l.length))<=4294967296:=by
     rw[<-b,ah8];exact ag9 _ (al1 (by omega))
    rw[t,A6,o,decide_eq_true (show(0:Int)<=((8*(5-l.length):Nat):Int) by omega)];simp only[cond_false,cond_true];have k:=Ax1 1 (8*(5-l.length)) (by omega) (by omega);have I:v*2 ^ (8*(5-l.length))<4294967296:=by
     rw[<-b,Nat.mul_comm];exact Nat.mul_lt_mul_of_pos_left H (al1 (by omega))
    have e:=Ax1 v (8*(5-l.length)) (by omega) (by omega);rw[show((1:Nat):Int)=1 from rfl] at k;rw[k,e,ah8];by_cases a:q<2 ^ (8*(5-l.length))
    ·rw[A9,if_pos a,Dw7 _ _ (by omega) (by omega),HJ v q _ a];simp only[j7,cond_false];obtain⟨n,rfl⟩:∃m,n=m+1:=⟨n-1,by omega⟩
     rw[Jy];rw[c,A7,A6];rfl
    ·rw[A6,if_neg a];rfl
   ·obtain⟨y,z,d⟩:∃y z,l.drop (i+1)=y::z:=⟨_,_,Kq l (i+1) (by omega)⟩
    rw[d,A9];simp only[cond_true];by_cases a:q<=255
    ·have e:=Ax1 v 8 (by omega) (by omega);rw[show((8:Nat):Int)=8 from rfl] at e;rw[A6,if_pos a,e,Dw7 _ _ (by omega) (by omega),HJ v q 8 (by omega),c,A7];rw[<-d];exact J (i+1) _ n (by omega) (by omega) (by omega) (by rw[x7];omega)
    ·rw[A9,if_neg a];rfl
theorem B14(free m:Nat):∀(l:List By) (v w:Nat),v<256 ^ m->Vp free v l=some w->w<256 ^ (m+(l.length-1))*2 ^ free
 | [],v,w,b,h=>by cases h
 | p::r,v,w,b,h=>by
  simp only[Vp] at h;cases a:Ae p with
  | none=>simp[a] at h
  | some q=>
   simp only[a] at h;cases r with
   | nil=>
    simp only at h;split at h
    ·rename_i c;cases h;simp only[ab2,ae8,Nat.add_sub_cancel,ah0];have:(v+1)*2 ^ free<=256 ^ m*2 ^ free:=Nat.mul_le_mul_right _ b;grind
    grind
   | cons y z=>
    simp only at h;split at h
    ·rename_i c;have:=B14 free (m+1) (y::z) (v*256+q) w (by rw[x7];omega) h;grind
    grind
theorem Cz4{s:By}{w:Nat}(h:pnB s=some w):w<4294967296:=by
 unfold pnB at h;split at h
 ·cases h
 ·rename_i a;have b:=Bl s;have:=B14 _ 0 (C9 s) 0 w (by decide) h;have e:(C9 s).length=1\/(C9 s).length=2\/(C9 s).length=3\/(C9 s).length=4:=by omega
  grind
theorem Cd2{R:Type}{b:Int->Bool->Option R}(s:By)(a:A3 s.length=true):Dl3 LF s b=b (O4 (pnB s):Int) (pnB s).isSome:=by
 have f:=L4 a;have:=C5;have c:=Bl s;unfold Dl3;rw[a,E3];by_cases h:4<(C9 s).length
 ·rw[A9];unfold pnB;rw[if_pos h];rfl
 ·rw[A6];simp only[cond_true,cond_false];refine j5 (Cd1 (C9 s) c.1 (by omega) (λx g=>ad5 (Nr g) f) (C9 s).length 0 0 LF (by omega) (by omega) (by omega) (by decide)) ?_;have e:pnB s=Vp (8*(5-(C9 s).length)) 0 (C9 s):=by unfold pnB;rw[if_neg h]
  rw[p7,<-e];cases d:pnB s with
  | none=>rfl
  | some w=>
   have:=Cz4 d;simp only[O4,o9,o8];rw[Ot]
theorem Bm2{R:Type}{k0:Unit->Option R}{k1:Int->Option R}(l:List By)(F:1<=l.length)(L:l.length<=4)(D:∀x∈l,x.length<=1000000000):∀(r i v n:Nat),i+r=l.length->0<r->r<n->v<256 ^ i->
  Ff LF n (D2 l) ((v*2 ^ (32-8*i):Nat):Int) (i:Int) k0 k1=match Vp (8*(5-l.length)) v (l.drop i) with|some w=>k1 (w:Int)|none=>k0 ():=by
 intro r
 induction r with
 | zero=>intro i v n _ h;omega
 | succ r J=>
  intro i v n K _ M N;obtain⟨n,rfl⟩:∃m,n=m+1:=⟨n-1,by omega⟩
  rw[Ff,Kq l i (by omega)];have O:=D _ (SY (show i<l.length by omega));have k:W8=1099511627776:=rfl;have a:v*2 ^ (32-8*i)<4294967296:=by
   have:i=0\/i=1\/i=2\/i=3:=by omega
   rcases this with rfl|rfl|rfl|rfl
   all_goals omega
  simp (disch:=omega) only[B9,E3,K7,cond_true,j4,Q2,U1,E7,vl];simp only[Vp];have c:((i:Int)+1)=((i+1:Nat):Int):=by omega
  cases G:Ae (l.getD i []) with
  | none=>rfl
  | some q=>
   have H:=B09 G;have A:A1 ((l.length:Int)-1)=((l.length-1:Nat):Int):=by rw[A7];omega
   simp only[o8,j7,cond_false,O4,o9,A];by_cases I:r=0
   ·subst I;have B:l.drop (i+1)=[]:=j9 (by omega);have u:A1 (8*A1 (5-(l.length:Int)))=((8*(5-l.length):Nat):Int):=by
     rw[D1 (n:=5-(l.length:Int)) (by omega) (by omega),A7];omega
    have f:2 ^ (8*(5-l.length))*256 ^ i=4294967296:=by
     have:l.length=1\/l.length=2\/l.length=3\/l.length=4:=by omega
     grind
    have C:1*2 ^ (8*(5-l.length))<=4294967296:=by
     rw[<-f,ah8];exact ag9 _ (al1 (by omega))
    have e:((i:Int)==((l.length-1:Nat):Int))=true:=by rw[beq_iff_eq];omega
    rw[B,e,u,decide_eq_true (show(0:Int)<=((8*(5-l.length):Nat):Int) by omega)];simp only[cond_true];have o:=Ax1 1 (8*(5-l.length)) (by omega) (by omega);rw[show((1:Nat):Int)=1 from rfl] at o;rw[o,ah8];by_cases b:q<2 ^ (8*(5-l.length))
    ·rw[A9,if_pos b];simp only[j7,cond_false];obtain⟨n,rfl⟩:∃m,n=m+1:=⟨n-1,by omega⟩
     rw[Ff];rw[c,D1 (n:=((i+1:Nat):Int)) (by omega) (by omega),E3,A6];have:32-8*i=8*(5-l.length):=by omega
     rw[this] at a ⊢;rw[cond_false,A7];rfl
    ·rw[A6,if_neg b];rfl
   ·obtain⟨y,z,d⟩:∃y z,l.drop (i+1)=y::z:=⟨_,_,Kq l (i+1) (by omega)⟩
    have e:((i:Int)==((l.length-1:Nat):Int))=false:=by rw[beq_eq_false_iff_ne];omega
    rw[d,e];simp only[cond_false];by_cases b:q<=255
    ·have j:A1 (24-A1 (8*(i:Int)))=((24-8*i:Nat):Int):=by
      rw[D1 (n:=8*(i:Int)) (by omega) (by omega),A7];omega
     have g:q*2 ^ (24-8*i)<4294967296:=by
      have:i=0\/i=1\/i=2:=by omega
      clear a;rcases this with rfl|rfl|rfl
      ·show q*16777216<_;omega
      ·show q*65536<_;omega
      ·show q*256<_;omega
     have p:=Ax1 q (24-8*i) (by omega) (by omega);rw[A6,if_pos b,j,decide_eq_true (show(0:Int)<=((24-8*i:Nat):Int) by omega),p,c,D1 (n:=((i+1:Nat):Int)) (by omega) (by omega)];have t:A1 (((v*2 ^ (32-8*i):Nat):Int)+((q*2 ^ (24-8*i):Nat):Int))=(((v*256+q)*2 ^ (32-8*(i+1)):Nat):Int):=by
      rw[A7];have:i=0\/i=1\/i=2:=by omega
      clear a g p j;rcases this with rfl|rfl|rfl
      ·show((v*4294967296:Nat):Int)+((q*16777216:Nat):Int)=(((v*256+q)*16777216:Nat):Int);omega
      ·show((v*16777216:Nat):Int)+((q*65536:Nat):Int)=(((v*256+q)*65536:Nat):Int);omega
      ·show((v*65536:Nat):Int)+((q*256:Nat):Int)=(((v*256+q)*256:Nat):Int);omega
     rw[t,<-d];exact J (i+1) _ n (by omega) (by omega) (by omega) (by rw[x7];omega)
    ·rw[A9,if_neg b];rfl
theorem Bm3{R:Type}{k0:Int->Bool->Option R}(s:By)(a:A3 s.length=true):B26 LF s k0=k0 (O4 (pnB s):Int) (pnB s).isSome:=by
 have f:=L4 a;have:=C5;have c:=Bl s;unfold B26;rw[a,E3];by_cases h:4<(C9 s).length
 ·rw[A9];unfold pnB;rw[if_pos h];rfl
 ·rw[A6];simp only[cond_true,cond_false];have b:=Bm2 (k0:=λ_=>k0 0 false) (k1:=λv=>k0 (EH v) true) (C9 s) c.1 (by omega) (λx g=>ad5 (Nr g) f) (C9 s).length 0 0 LF (by omega) (by omega) (by omega) (by decide);rw[Nat.zero_mul] at b;refine j5 b ?_;have e:pnB s=Vp (8*(5-(C9 s).length)) 0 (C9 s):=by unfold pnB;rw[if_neg h]
  rw[p7,<-e];cases d:pnB s with
  | none=>rfl
  | some w=>
   have:=Cz4 d;simp only[O4,o9,o8];rw[Ot]
theorem B10:∀(l:List By) (v w m:Nat),v<256 ^ m->ND v l=some w->w<256 ^ (m+l.length)
 | [],v,w,m,b,h=>by simp only[ND,p5] at h;subst h;simpa using b
 | p::r,v,w,m,b,h=>by
  simp only[ND] at h;cases a:oct p with
  | none=>simp[a] at h
  | some q=>
   simp only[a] at h;have c:=(Ys.1 a).1;have:=B10 r (v*256+q) w (m+1) (by rw[x7];omega) h;grind
theorem Dk2(s:By):oct s=match F1 10 0 s with|some n=>(if n<=255 then (if o5 n=s then some n else none) else none)|none=>none:=by unfold oct;grind
theorem C78{R:Type}{e:Unit->Option R}{f:Int->Option R}(l:List By)(z:l.length=4)(j:∀x∈l,x.length<=1000000000):∀(r i v n:Nat),i+r=4->r<n->v<256 ^ i->
  Wm LF n (v:Int) (D2 l) 4 (i:Int) e f=match ND v (l.drop i) with|some w=>f (w:Int)|none=>e ():=by
 intro r
 induction r with
 | zero=>
  intro i v n h k u;obtain⟨n,rfl⟩:∃m,n=m+1:=⟨n-1,by omega⟩
  rw[Wm];rw[A6,j9 (by omega)];rfl
 | succ r y=>
  intro i v n h k u;obtain⟨n,rfl⟩:∃m,n=m+1:=⟨n-1,by omega⟩
  rw[Wm,Kq l i (by omega)];have A:=j _ (SY (show i<l.length by omega));have o:256 ^ i<=16777216:=by
   have:i=0\/i=1\/i=2\/i=3:=by omega
   grind
  simp (disch:=omega) only[B9,E3,K7,cond_true,j4,Q2,U1,E7,Tj,vl];simp only[ND];have b:((i:Int)+1)=((i+1:Nat):Int):=by omega
  rw[Dk2];cases p:F1 10 0 (l.getD i []) with
  | none=>rfl
  | some q=>
   have t:=LP (by unfold W8;omega) p;have d:W8=1099511627776:=rfl;simp only[o8,j7,cond_false,O4,o9,j4];by_cases c:q<=255
   ·rw[A6,if_pos c,N0];simp only[cond_false,cond_true];by_cases a:o5 q=l.getD i []
    ·have g:=Ea8 v 8 (by omega) (by omega);rw[show((8:Nat):Int)=8 from rfl] at g;rw[show(o5 q==l.getD i [])=true by simpa using a,if_pos a,g,Ot,D91 _ _ (by omega) (by omega),HJ v q 8 (by omega),b,A7];exact y (i+1) _ n (by omega) (by omega) (by rw[x7];omega)
    ·rw[show(o5 q==l.getD i [])=false from beq_eq_false_iff_ne.2 a,if_neg a];rfl
   ·rw[A9,if_neg c];rfl
theorem C79{R:Type}{b:Int->Bool->Option R}(s:By)(a:A3 s.length=true):v4p LF s b=b (O4 (v4B s):Int) (v4B s).isSome:=by
 have c:=L4 a;have:=C5;unfold v4p v4B;rw[a];simp only[cond_true,vl,aa8,E3,show((1:Nat)==1)=true from rfl];by_cases h:(pcs 46 s).length=4
 ·rw[if_pos h,h,show(((4:Nat):Int)!=4)=false from rfl,cond_false];refine j5 (C78 (pcs 46 s) h (λx d=>ad5 (Cr d).2 c) 4 0 0 LF (by omega) (by omega) (by decide)) ?_;rw[p7];cases ND 0 (pcs 46 s)<;>rfl
 ·rw[if_neg h,show(((pcs 46 s).length:Int)!=4)=true by simp<;>omega];rfl
theorem Ch5{R:Type}{b:Unit->Option R}{c:Int->Option R}(l:List By)(y:l.length=4)(h:∀x∈l,x.length<=1000000000):∀(r i v n:Nat),i+r=4->r<n->v<256 ^ i->
  Oe LF n (D2 l) (v:Int) (i:Int) b c=match ND v (l.drop i) with|some w=>c (w:Int)|none=>b ():=by
 intro r
 induction r with
 | zero=>
  intro i v n g j t;obtain⟨n,rfl⟩:∃m,n=m+1:=⟨n-1,by omega⟩
  rw[Oe];rw[A6,j9 (by omega)];rfl
 | succ r u=>
  intro i v n g j t;obtain⟨n,rfl⟩:∃m,n=m+1:=⟨n-1,by omega⟩
  rw[Oe,Kq l i (by omega)];have z:=h _ (SY (show i<l.length by omega));have k:256 ^ i<=16777216:=by
   have:i=0\/i=1\/i=2\/i=3:=by omega
   grind
  simp (disch:=omega) only[B9,E3,K7,cond_true,j4,Q2,U1,E7,Tj,vl];simp only[ND];have a:((i:Int)+1)=((i+1:Nat):Int):=by omega
  cases o:oct (l.getD i []) with
  | none=>rfl
  | some q=>
   have p:=(Ys.1 o).1;simp only[o8,j7,cond_false,O4,o9];have d:EH ((v:Int)*256)=((v*256:Nat):Int):=by rw[Ot];simp
   have e:EH (q:Int)=(q:Int):=Ot;have f:EH (((v*256:Nat):Int)+(q:Int))=((v*256+q:Nat):Int):=by rw[Ot];simp
   rw[d,e,f,a,A7];exact u (i+1) _ n (by omega) (by omega) (by rw[x7];omega)
theorem Ch6{R:Type}{b:Int->Bool->Option R}(s:By)(a:A3 s.length=true):Do6 LF s b=b (O4 (v4B s):Int) (v4B s).isSome:=by
 have c:=L4 a;have:=C5;unfold Do6 v4B;rw[a];simp only[cond_true,vl,show u8n 46=46 from rfl,E3];by_cases h:(pcs 46 s).length=4
 ·rw[if_pos h,h,show(((4:Nat):Int)!=4)=false from rfl,cond_false];refine j5 (Ch5 (pcs 46 s) h (λx d=>ad5 (Cr d).2 c) 4 0 0 LF (by omega) (by omega) (by decide)) ?_;rw[p7];cases ND 0 (pcs 46 s)<;>rfl
 ·rw[if_neg h,show(((pcs 46 s).length:Int)!=4)=true by simp<;>omega];rfl
theorem C77{R:Type}{j:By->Option R}(v:Int)(o:ltN v 4294967296=true):v4f LF v j=j (V3 v.toNat):=by
 obtain⟨c,p⟩:=E2.1 o;obtain⟨m,rfl⟩:=o6 c;have:=C5;obtain⟨f,q⟩:∃f,LF=f+1+1+1+1+1:=⟨LF-5,by omega⟩
 have step:∀(n:Nat) (i:Nat) (out:By) (K:By->Option R),i<=24->out.length<=1000->Jh LF (n+1) (m:Int) out (i:Int) K=Jh LF n (m:Int) (out++(o5 (m / 2 ^ i % 256)++[46])) ((i:Int)-8) K:=by
  intro n i out K y A;rw[Jh];have g:m / 2 ^ i<4294967296:=Nat.lt_of_le_of_lt (ae9 _ _) (by omega);have k:A41 .u32 (Pl .u32 (m:Int) (i:Int)) 255=((m / 2 ^ i % 256:Nat):Int):=by
   rw[Sv .u32 m i (by show i<=32;omega),show(255:Int)=((255:Nat):Int) from rfl,Dy8 _ _ g (by omega),Dy7]
  have z:=G0 (m / 2 ^ i % 256) (by omega);have l:A1 ((m / 2 ^ i % 256:Nat):Int)=((m / 2 ^ i % 256:Nat):Int):=A7;rw[A6,decide_eq_true (show(0:Int)<=(i:Int) by omega),k];simp only[vl,l,j4,j6,cond_true];rw[N0,G3 (by omega),G3 (by simp<;>omega),A7];rfl
 have b:∀(n:Nat) (out:By) (K:By->Option R),Jh LF (n+1) (m:Int) out (-8) K=K out:=by
  intro n out K;rw[Jh];simp_all
 have x:=G0 (m / 2 ^ 24 % 256) (by omega);have w:=G0 (m / 2 ^ 16 % 256) (by omega);have D:=G0 (m / 2 ^ 8 % 256) (by omega);have C:=G0 (m / 2 ^ 0 % 256) (by omega);have u:=G0 (m / 16777216 % 256) (by omega);have t:=G0 (m / 65536 % 256) (by omega);have B:=G0 (m / 256 % 256) (by omega);have r:=G0 (m % 256) (by omega);unfold v4f;rw[show Jh LF LF=Jh LF (f+1+1+1+1+1) by rw[<-q]];rw[show(24:Int)=((24:Nat):Int) from rfl,step _ 24 _ _ (by omega) (by simp)];rw[show((24:Nat):Int)-8=((16:Nat):Int) from rfl,step _ 16 _ _ (by omega) (by simp<;>omega)];rw[show((16:Nat):Int)-8=((8:Nat):Int) from rfl,step _ 8 _ _ (by omega) (by simp<;>omega)];rw[show((8:Nat):Int)-8=((0:Nat):Int) from rfl,step _ 0 _ _ (by omega) (by simp<;>omega)];rw[show((0:Nat):Int)-8=-8 from rfl,b];have h:m / 2 ^ 24 % 256=m / 16777216:=by omega
 have e:(([]:By)++(o5 (m / 2 ^ 24 % 256)++[46])++(o5 (m / 2 ^ 16 % 256)++[46])++(o5 (m / 2 ^ 8 % 256)++[46])++(o5 (m / 2 ^ 0 % 256)++[46]))=V3 m++[46]:=by
  unfold V3;grind
 have a:(V3 m++[46]).length<=1000:=by rw[<-e];simp;omega
 rw[e];have d:((V3 m++[46]).length:Int)-1=((V3 m).length:Int):=by simp<;>omega
 simp only[vl,d];simp only[ac6,ab5] at a;rw[A7,Aw (by omega) (by omega) (by simp<;>omega),L2,j4,j4];grind
theorem Ch4{R:Type}{b:By->Option R}(v:Int)(f:ltN v 4294967296=true):Do4 LF v b=b (V3 v.toNat):=by
 obtain⟨a,g⟩:=E2.1 f;obtain⟨m,rfl⟩:=o6 a;have i:=G0 (m / 16777216) (by omega);have h:=G0 (m / 65536 % 256) (by omega);have l:=G0 (m / 256 % 256) (by omega);have k:=G0 (m % 256) (by omega);have c:Pl .u32 (m:Int) 24=((m / 16777216:Nat):Int):=Sv .u32 m 24 (by decide);have d:Pl .u32 (m:Int) 16=((m / 65536:Nat):Int):=Sv .u32 m 16 (by decide);have e:Pl .u32 (m:Int) 8=((m / 256:Nat):Int):=Sv .u32 m 8 (by decide);have t:∀x:Nat,aa7 (x:Int) 256=((x % 256:Nat):Int):=λx=>Cx x 256
 have w:∀x:Nat,x<4294967296->A1 (x:Int)=(x:Int):=λx j=>A7
 unfold Do4;simp only[vl,c,d,e,t];rw[w _ (by omega),w _ (by omega),w _ (by omega),w _ (by omega)];simp only[j4];rw[N0,N0,N0,N0];simp only[cond_true];rw[G3 (by omega),G3 (by simp<;>omega),G3 (by simp<;>omega),G3 (by simp<;>omega),G3 (by simp<;>omega),G3 (by simp<;>omega)];simp only[cond_true,V3,j4];grind
theorem Ab4{R:Type}{g:Unit->Option R}{h:By->Option R}(s:By)(q:s.length<=1000000000):∀(r i n v:Nat),i+r=s.length->r<n->Bm LF n s (i:Int) g h=if (F1 10 v (s.drop i)).isSome then h s else g ():=by
 intro r
 induction r with
 | zero=>
  intro i n v k l;obtain⟨n,rfl⟩:∃m,n=m+1:=⟨n-1,by omega⟩
  rw[Bm];rw[A6,j9 (by omega)];rfl
 | succ r o=>
  intro i n v k l;obtain⟨n,rfl⟩:∃m,n=m+1:=⟨n-1,by omega⟩
  rw[Bm,D6 s i (by omega)];rw[D4];have j:=(s.getD i 0).toNat_lt;generalize s.getD i 0=b at *;have f:((i:Int)+1)=((i+1:Nat):Int):=by omega
  simp (disch:=omega) only[B9,K7,cond_true,D1];simp only[F1];rw[f,o (i+1) n (min (v*10+dig b) W8) (by omega) (by omega)];rcases Dq b with⟨a,d,e⟩|⟨a,d,e⟩|⟨a,d,e⟩|⟨a,d,p,e⟩
  ·simp only[if_pos (show dig b<10 by omega)];rw[A6,A6];rfl
  ·simp only[if_neg (show ¬dig b<10 by omega)];rw[A6,A9];rfl
  ·simp only[if_neg (show ¬dig b<10 by omega)];rw[A6,A9];rfl
  ·simp only[if_neg (show ¬dig b<10 by omega)];by_cases c:b.toNat<48
   ·rw[A9];rfl
   ·rw[A6,A9];rfl
theorem Ab5{R:Type}{a:Bool->Option R}(s:By)(b:A3 s.length=true):HM LF s a=a (!s.isEmpty&&(F1 10 0 s).isSome):=by
 have c:=L4 b;have:=C5;unfold HM;refine j5 (Ab4 s c s.length 0 LF 0 (by omega) (by omega)) ?_;rw[p7];cases d:F1 10 0 s with
 | none=>simp
 | some v=>cases s<;>rfl
theorem Ce3{R:Type}{g:Int->Option R}(b:Int)(h:inR b 256=true):C02 LF b g=g (dig (u8n b):Int):=by
 simp only[inR,ad4,decide_eq_true_eq] at h;have j:b=((u8n b).toNat:Int):=by
  unfold u8n;simp;omega
 generalize u8n b=c at *;subst j;have i:=c.toNat_lt;unfold C02;simp only[Zb,Za,vl];rcases Dq c with⟨d,f,e⟩|⟨d,f,e⟩|⟨d,f,e⟩|⟨d,f,o,e⟩
 ·have a:A1 (wu8 ((c.toNat:Int)-48))=((dig c:Nat):Int):=by
   rw[N6,A7];omega
  simp (disch:=omega) only[B9,E6,j7,j6,cond_false,cond_true,a]
 ·have a:A1 (A1 (wu8 ((c.toNat:Int)-97))+10)=((dig c:Nat):Int):=by
   rw[N6,D1 (n:=(c.toNat:Int)-97) (by omega) (by omega),A7];omega
  simp (disch:=omega) only[B9,E6,j7,j6,cond_false,cond_true,a]
 ·have a:A1 (A1 (wu8 ((c.toNat:Int)-65))+10)=((dig c:Nat):Int):=by
   rw[N6,D1 (n:=(c.toNat:Int)-65) (by omega) (by omega),A7];omega
  simp (disch:=omega) only[B9,E6,j7,j6,cond_false,cond_true,a]
 ·rw[e];by_cases k:c.toNat<48
  ·simp (disch:=omega) only[B9,E6,j7,j6,cond_false,cond_true];rfl
  ·by_cases l:c.toNat<65
   ·simp (disch:=omega) only[B9,E6,j7,j6,cond_false,cond_true];rfl
   ·by_cases m:c.toNat<97
    ·simp (disch:=omega) only[B9,E6,j7,j6,cond_false,cond_true];rfl
    ·simp (disch:=omega) only[B9,E6,j7,j6,cond_false,cond_true];rfl
theorem As6{R:Type}{g:Unit->Option R}{h:Int->Option R}(s:By)(p:s.length<=1000000000):∀(r i a n:Nat),i+r=s.length->r<n->a<=W8->
  Ka LF n s (a:Int) (i:Int) g h=match F1 16 a (s.drop i) with|some v=>h (v:Int)|none=>g ():=by
 intro r
 induction r with
 | zero=>
  intro i a n k l j;obtain⟨n,rfl⟩:∃m,n=m+1:=⟨n-1,by omega⟩
  rw[Ka];rw[A6,j9 (by omega)];rfl
 | succ r o=>
  intro i a n k l j;obtain⟨n,rfl⟩:∃m,n=m+1:=⟨n-1,by omega⟩
  rw[Ka,D6 s i (by omega)];rw[D4,Kf,Ae8];generalize s.getD i 0=b at *;have c:((i:Int)+1)=((i+1:Nat):Int):=by omega
  have f:W8=1099511627776:=rfl;simp (disch:=omega) only[B9,K7,cond_true,vl,D1];simp only[F1];rw[c];by_cases e:dig b<16
  ·have d:A1 (A1 ((a:Int)*16)+(dig b:Int))=((a*16+dig b:Nat):Int):=by
    rw[D1 (n:=(a:Int)*16) (by omega) (by omega),A7];simp
   rw[if_pos e,A9];simp (disch:=omega) only[D1,j7,cond_false] at d ⊢;rw[d,C44];exact o (i+1) _ n (by omega) (by omega) (by omega)
  ·rw[if_neg e,A6];rfl
theorem Bl0{R:Type}{f:Unit->Option R}{g:Int->Option R}(s:By)(t:s.length<=1000000000)(base:Nat)(q:base<=16):∀(r i a n:Nat),i+r=s.length->r<n->a<=W8->
  Gn LF n s (base:Int) (a:Int) (i:Int) f g=match F1 base a (s.drop i) with|some v=>g (v:Int)|none=>f ():=by
 intro r
 induction r with
 | zero=>
  intro i a n k l j;obtain⟨n,rfl⟩:∃m,n=m+1:=⟨n-1,by omega⟩
  rw[Gn];rw[A6,j9 (by omega)];rfl
 | succ r o=>
  intro i a n k l j;obtain⟨n,rfl⟩:∃m,n=m+1:=⟨n-1,by omega⟩
  rw[Gn,D6 s i (by omega)];rw[D4,Kf,Ae8];generalize s.getD i 0=b at *;have c:((i:Int)+1)=((i+1:Nat):Int):=by omega
  have e:W8=1099511627776:=rfl;simp only[F1,vl];rw[A9,F2,c,D1 (n:=((i+1:Nat):Int)) (by omega) (by omega)];simp only[cond_true];by_cases d:dig b<base
  ·have p:a*base<=1099511627776*16:=al8 (by omega) (by omega);have e0:A1 ((a:Int)*(base:Int))=((a*base:Nat):Int):=by
    rw[<-al3];exact A7
   have h:A1 (((a*base:Nat):Int)+(dig b:Int))=((a*base+dig b:Nat):Int):=by
    rw[A7];rfl
   rw[if_pos d,A9,e0,h,C44];exact o (i+1) _ n (by omega) (by omega) (by omega)
  ·rw[if_neg d,A6];rfl
theorem Cf5{R:Type}{a:Int->Bool->Option R}(s:By)(p:A3 s.length=true):C24 LF s a=a (O4 (Ae s):Int) (Ae s).isSome:=by
 have u:=L4 p;have:=C5;have o:∀x:By,x.length<=1000000000->Ka LF LF x 0 0 (λ_=>a 0 false) (λn=>a n true)=a (O4 (F1 16 0 x):Int) (F1 16 0 x).isSome:=by
  intro x f;refine j5 (As6 x f x.length 0 0 LF (by omega) (by omega) (by unfold W8;omega)) ?_;rw[p7];cases F1 16 0 x<;>rfl
 have c:∀(x:By) (b:Nat),b<=16->x.length<=1000000000->Gn LF LF x (b:Int) 0 0 (λ_=>a 0 false) (λn=>a n true)=a (O4 (F1 b 0 x):Int) (F1 b 0 x).isSome:=by
  intro x b q f;refine j5 (Bl0 x f b q x.length 0 0 LF (by omega) (by omega) (by unfold W8;omega)) ?_;rw[p7];cases F1 b 0 x<;>rfl
 have d:=λx=>c x 10 (by omega)
 have g:=λx=>c x 8 (by omega)
 have i:=λx=>c x 16 (by omega)
 rw[show((10:Nat):Int)=10 from rfl] at d;rw[show((8:Nat):Int)=8 from rfl] at g;rw[show((16:Nat):Int)=16 from rfl] at i;unfold C24 Ae;by_cases e:s=[]
 ·subst e;rfl
 have j:(s==([]:By))=false:=by simpa using e
 have t:0<s.length:=ad8.2 e;rw[if_neg e,j];simp only[cond_false,HS,HT,Sp,Sq,Sr,vl];have k:=S6 (s.getD 0 0) 48 (by omega);have l:=S6 (s.getD 1 0) 120 (by omega);have m:=S6 (s.getD 1 0) 88 (by omega);rw[show((48:Nat):Int)=48 from rfl] at k;rw[show((120:Nat):Int)=120 from rfl] at l;rw[show((88:Nat):Int)=88 from rfl] at m;simp only[Ay,Bx0,k,l,m,show ab9 48=(48:UInt8) from rfl,show ab9 120=(120:UInt8) from rfl,show ab9 88=(88:UInt8) from rfl];by_cases r:2<=s.length
 ·simp (disch:=omega) only[E6,K7,Aw,j6,cond_true,Q6,show 1<s.length by omega,true_and];unfold Z1;grind
 ·rw[A9];have f:Z1 s=false:=by
   cases h:Z1 s with
   | false=>rfl
   | true=>have:=Lo h;omega
  grind
end
end Go.Proofs.YtkegcjamihlmmaaGreatDoor.E
namespace Go.Proofs
open Go.Shelf
def Tryz.lays156_ren:aa0:=⟨fun|156=>110|165=>133|166=>134|169=>135|240=>154|241=>155|276=>170|277=>171|n=>n,fun|31=>22|9=>9|3=>3|4=>4|0=>0|20=>20|72=>126|76=>130|70=>124|37=>82|75=>129|127=>150|164=>159|5=>5|80=>132|n=>n,fun|n=>n⟩
theorem Tryz.lays156:ar9 j8 Tryz.lays156_ren:={
 mixed:=by kernel_rfl
 f156:=Tryz.func110.trans (congrArg some (by kernel_rfl))
 f165:=Tryz.func133.trans (congrArg some (by kernel_rfl))
 f166:=Tryz.func134.trans (congrArg some (by kernel_rfl))
 f169:=Tryz.func135.trans (congrArg some (by kernel_rfl))
 f240:=Tryz.func154.trans (congrArg some (by kernel_rfl))
 f241:=Tryz.func155.trans (congrArg some (by kernel_rfl))
 f276:=Tryz.func170.trans (congrArg some (by kernel_rfl))
 f277:=Tryz.func171.trans (congrArg some (by kernel_rfl))
 t0:=z7
 a0:=ad3
 z0:=ac7
 v0:=aa6
 t3:=v7
 a3:=ab1
 z3:=aa1
 v3:=w9
 t4:=x3
 a4:=ab6
 z4:=ab0
 v4:=x4
 t9:=x6
 a9:=ac4
 z9:=ab8
 v9:=y8
 t20:=aj6
 a20:=ap7
 z20:=an5
 v20:=ak9
 t31:=Tryz.underlying22
 a31:=Tryz.isAgg22
 z31:=Tryz.sizeOf22
 v31:=Tryz.zeroValue22
 t37:=aj7
 a37:=ap8
 z37:=an6
 v37:=al0
 t70:=Tryz.underlying124
 a70:=Tryz.isAgg124
 z70:=Tryz.sizeOf124
 v70:=Tryz.zeroValue124
 t72:=Tryz.underlying126
 a72:=Tryz.isAgg126
 z72:=Tryz.sizeOf126
 v72:=Tryz.zeroValue126
 t75:=Tryz.underlying129
 a75:=Tryz.isAgg129
 z75:=Tryz.sizeOf129
 v75:=Tryz.zeroValue129
 t76:=Tryz.underlying130
 a76:=Tryz.isAgg130
 z76:=Tryz.sizeOf130
 v76:=Tryz.zeroValue130
 t127:=Tryz.underlying150
 a127:=Tryz.isAgg150
 z127:=Tryz.sizeOf150
 v127:=Tryz.zeroValue150
 t164:=Tryz.underlying159
 a164:=Tryz.isAgg159
 z164:=Tryz.sizeOf159
 v164:=Tryz.zeroValue159 }
theorem Tryz.Builder_Extra_156:Builder.Extra j8 Tryz.lays156_ren:={
 sizeBuilder:=by kernel_rfl
 liesBuilder:=by kernel_rfl
 t5:=x5
 a5:=ac3
 z5:=ab7
 v5:=y7
 infoByte:=by kernel_rfl
 cellsByte:=by kernel_rfl
 sizeByte:=by kernel_rfl
 neB5:=by decide }
def Tryz.lays195_ren:aa0:=⟨fun|195=>131|n=>n,fun|9=>9|3=>3|0=>0|4=>4|n=>n,fun|n=>n⟩
theorem Tryz.lays195:as0 j8 Tryz.lays195_ren:={
 mixed:=by kernel_rfl
 f195:=ap2.trans (congrArg some (by kernel_rfl))
 t0:=z7
 a0:=ad3
 z0:=ac7
 v0:=aa6
 t3:=v7
 a3:=ab1
 z3:=aa1
 v3:=w9
 t4:=x3
 a4:=ab6
 z4:=ab0
 v4:=x4
 t9:=x6
 a9:=ac4
 z9:=ab8
 v9:=y8 }
def Tryz.laysM171_ren:aa0:=⟨fun|171=>55|243=>85|246=>114|283=>137|284=>138|285=>139|286=>140|129=>158|317=>157|318=>159|319=>160|320=>161|337=>172|338=>173|n=>n,fun|3=>3|9=>9|2=>2|4=>4|171=>135|0=>0|53=>134|37=>82|5=>5|173=>138|212=>152|51=>30|20=>20|213=>153|46=>61|232=>167|233=>168|n=>n,fun|17=>3|18=>4|19=>5|n=>n⟩
theorem Tryz.laysM171:ap9 j8 Tryz.laysM171_ren:={
 mixed:=by kernel_rfl
 f129:=Tryz.func158.trans (congrArg some (by kernel_rfl))
 f171:=Tryz.func55.trans (congrArg some (by kernel_rfl))
 f243:=Tryz.func85.trans (congrArg some (by kernel_rfl))
 f246:=Tryz.func114.trans (congrArg some (by kernel_rfl))
 f283:=Tryz.func137.trans (congrArg some (by kernel_rfl))
 f284:=Tryz.func138.trans (congrArg some (by kernel_rfl))
 f285:=Tryz.func139.trans (congrArg some (by kernel_rfl))
 f286:=Tryz.func140.trans (congrArg some (by kernel_rfl))
 f317:=Tryz.func157.trans (congrArg some (by kernel_rfl))
 f318:=Tryz.func159.trans (congrArg some (by kernel_rfl))
 f319:=Tryz.func160.trans (congrArg some (by kernel_rfl))
 f320:=ap4.trans (congrArg some (by kernel_rfl))
 f337:=ap5.trans (congrArg some (by kernel_rfl))
 f338:=ap6.trans (congrArg some (by kernel_rfl))
 t0:=z7
 a0:=ad3
 z0:=ac7
 v0:=aa6
 t2:=Tryz.underlying2
 a2:=Tryz.isAgg2
 z2:=Tryz.sizeOf2
 v2:=Tryz.zeroValue2
 t3:=v7
 a3:=ab1
 z3:=aa1
 v3:=w9
 t4:=x3
 a4:=ab6
 z4:=ab0
 v4:=x4
 t5:=x5
 a5:=ac3
 z5:=ab7
 v5:=y7
 t9:=x6
 a9:=ac4
 z9:=ab8
 v9:=y8
 t20:=aj6
 a20:=ap7
 z20:=an5
 v20:=ak9
 t37:=aj7
 a37:=ap8
 z37:=an6
 v37:=al0
 t46:=aa4
 a46:=ad6
 z46:=ad0
 v46:=ab3
 t51:=ad1
 a51:=af6
 z51:=ae5
 v51:=ad7
 t53:=af9
 a53:=ai2
 z53:=ah9
 v53:=ag6
 t171:=Tryz.underlying135
 a171:=Tryz.isAgg135
 z171:=Tryz.sizeOf135
 v171:=Tryz.zeroValue135
 t173:=Tryz.underlying138
 a173:=Tryz.isAgg138
 z173:=Tryz.sizeOf138
 v173:=Tryz.zeroValue138
 t212:=Tryz.underlying152
 a212:=Tryz.isAgg152
 z212:=Tryz.sizeOf152
 v212:=Tryz.zeroValue152
 t213:=Tryz.underlying153
 a213:=Tryz.isAgg153
 z213:=Tryz.sizeOf153
 t232:=ai5
 a232:=an3
 z232:=am4
 v232:=aj8
 t233:=ai6
 a233:=an4
 z233:=am5
 v233:=Tryz.zeroValue168
 g17:=by kernel_rfl
 g18:=by kernel_rfl
 g19:=by kernel_rfl
 i0:=by kernel_rfl
 i2:=by kernel_rfl
 i3:=by kernel_rfl
 i4:=by kernel_rfl
 i5:=by kernel_rfl
 i9:=by kernel_rfl
 i20:=by kernel_rfl
 i37:=by kernel_rfl
 i46:=by kernel_rfl
 i51:=by kernel_rfl
 i53:=by kernel_rfl
 i171:=by kernel_rfl
 i173:=by kernel_rfl
 i212:=by kernel_rfl
 i232:=by kernel_rfl
 i233:=by kernel_rfl
 m17:=by kernel_rfl
 m18:=by kernel_rfl
 m19:=by kernel_rfl }
def Tryz.lays143_ren:aa0:=⟨fun|143=>149|219=>97|217=>98|225=>101|224=>100|267=>120|266=>121|314=>145|n=>n,fun|9=>9|3=>3|4=>4|5=>5|46=>61|146=>141|51=>30|n=>n,fun|1=>0|n=>n⟩
theorem Tryz.lays143:ar6 j8 Tryz.lays143_ren:={
 mixed:=by kernel_rfl
 f143:=ap3.trans (congrArg some (by kernel_rfl))
 f217:=ag5.trans (congrArg some (by kernel_rfl))
 f219:=al2.trans (congrArg some (by kernel_rfl))
 f224:=ah1.trans (congrArg some (by kernel_rfl))
 f225:=ah2.trans (congrArg some (by kernel_rfl))
 f266:=af5.trans (congrArg some (by kernel_rfl))
 f267:=aj4.trans (congrArg some (by kernel_rfl))
 f314:=aj5.trans (congrArg some (by kernel_rfl))
 t3:=v7
 a3:=ab1
 z3:=aa1
 v3:=w9
 t4:=x3
 a4:=ab6
 z4:=ab0
 v4:=x4
 t5:=x5
 a5:=ac3
 z5:=ab7
 v5:=y7
 t9:=x6
 a9:=ac4
 z9:=ab8
 v9:=y8
 t46:=aa4
 a46:=ad6
 z46:=ad0
 v46:=ab3
 t51:=ad1
 a51:=af6
 z51:=ae5
 v51:=ad7
 t146:=ag0
 a146:=ai3
 z146:=ai0
 v146:=ag7
 g1:=by kernel_rfl }
def Tryz.lays145_ren:aa0:=⟨fun|145=>46|220=>71|219=>97|217=>98|225=>101|224=>100|267=>120|266=>121|314=>145|n=>n,fun|9=>9|4=>4|59=>51|3=>3|5=>5|46=>61|146=>141|51=>30|n=>n,fun|1=>0|n=>n⟩
theorem Tryz.lays145:ar7 j8 Tryz.lays145_ren:={
 mixed:=by kernel_rfl
 f145:=Tryz.func46.trans (congrArg some (by kernel_rfl))
 f217:=ag5.trans (congrArg some (by kernel_rfl))
 f219:=al2.trans (congrArg some (by kernel_rfl))
 f220:=Tryz.func71.trans (congrArg some (by kernel_rfl))
 f224:=ah1.trans (congrArg some (by kernel_rfl))
 f225:=ah2.trans (congrArg some (by kernel_rfl))
 f266:=af5.trans (congrArg some (by kernel_rfl))
 f267:=aj4.trans (congrArg some (by kernel_rfl))
 f314:=aj5.trans (congrArg some (by kernel_rfl))
 t3:=v7
 a3:=ab1
 z3:=aa1
 v3:=w9
 t4:=x3
 a4:=ab6
 z4:=ab0
 v4:=x4
 t5:=x5
 a5:=ac3
 z5:=ab7
 v5:=y7
 t9:=x6
 a9:=ac4
 z9:=ab8
 v9:=y8
 t46:=aa4
 a46:=ad6
 z46:=ad0
 v46:=ab3
 t51:=ad1
 a51:=af6
 z51:=ae5
 v51:=ad7
 t59:=Tryz.underlying51
 a59:=Tryz.isAgg51
 z59:=Tryz.sizeOf51
 v59:=Tryz.zeroValue51
 t146:=ag0
 a146:=ai3
 z146:=ai0
 v146:=ag7
 g1:=by kernel_rfl }
def Tryz.lays138_ren:aa0:=⟨fun|138=>148|195=>131|218=>167|143=>149|219=>97|217=>98|225=>101|224=>100|267=>120|266=>121|314=>145|n=>n,fun|9=>9|3=>3|4=>4|5=>5|0=>0|46=>61|146=>141|51=>30|n=>n,fun|1=>0|n=>n⟩
theorem Tryz.lays138:ar5 j8 Tryz.lays138_ren:={
 mixed:=by kernel_rfl
 f138:=Tryz.func148.trans (congrArg some (by kernel_rfl))
 f143:=ap3.trans (congrArg some (by kernel_rfl))
 f195:=ap2.trans (congrArg some (by kernel_rfl))
 f217:=ag5.trans (congrArg some (by kernel_rfl))
 f218:=Tryz.func167.trans (congrArg some (by kernel_rfl))
 f219:=al2.trans (congrArg some (by kernel_rfl))
 f224:=ah1.trans (congrArg some (by kernel_rfl))
 f225:=ah2.trans (congrArg some (by kernel_rfl))
 f266:=af5.trans (congrArg some (by kernel_rfl))
 f267:=aj4.trans (congrArg some (by kernel_rfl))
 f314:=aj5.trans (congrArg some (by kernel_rfl))
 t0:=z7
 a0:=ad3
 z0:=ac7
 v0:=aa6
 t3:=v7
 a3:=ab1
 z3:=aa1
 v3:=w9
 t4:=x3
 a4:=ab6
 z4:=ab0
 v4:=x4
 t5:=x5
 a5:=ac3
 z5:=ab7
 v5:=y7
 t9:=x6
 a9:=ac4
 z9:=ab8
 v9:=y8
 t46:=aa4
 a46:=ad6
 z46:=ad0
 v46:=ab3
 t51:=ad1
 a51:=af6
 z51:=ae5
 v51:=ad7
 t146:=ag0
 a146:=ai3
 z146:=ai0
 v146:=ag7
 g1:=by kernel_rfl }
def Tryz.lays196_ren:aa0:=⟨fun|196=>130|259=>150|n=>n,fun|9=>9|4=>4|3=>3|5=>5|12=>12|119=>145|0=>0|46=>61|139=>148|138=>147|53=>134|n=>n,fun|3=>1|4=>2|n=>n⟩
theorem Tryz.lays196:as1 j8 Tryz.lays196_ren:={
 mixed:=by kernel_rfl
 f196:=Tryz.func130.trans (congrArg some (by kernel_rfl))
 f259:=Tryz.func150.trans (congrArg some (by kernel_rfl))
 t0:=z7
 a0:=ad3
 z0:=ac7
 v0:=aa6
 t3:=v7
 a3:=ab1
 z3:=aa1
 v3:=w9
 t4:=x3
 a4:=ab6
 z4:=ab0
 v4:=x4
 t5:=x5
 a5:=ac3
 z5:=ab7
 v5:=y7
 t9:=x6
 a9:=ac4
 z9:=ab8
 v9:=y8
 t12:=Tryz.underlying12
 a12:=Tryz.isAgg12
 z12:=Tryz.sizeOf12
 v12:=Tryz.zeroValue12
 t46:=aa4
 a46:=ad6
 z46:=ad0
 v46:=ab3
 t53:=af9
 a53:=ai2
 z53:=ah9
 v53:=ag6
 t119:=Tryz.underlying145
 a119:=Tryz.isAgg145
 z119:=Tryz.sizeOf145
 t138:=Tryz.underlying147
 a138:=Tryz.isAgg147
 z138:=Tryz.sizeOf147
 v138:=Tryz.zeroValue147
 t139:=Tryz.underlying148
 a139:=Tryz.isAgg148
 z139:=Tryz.sizeOf148
 v139:=Tryz.zeroValue148
 g3:=by kernel_rfl
 g4:=by kernel_rfl }
def Tryz.lays2_21_ren:aa0:=⟨fun|21=>178|27=>180|28=>181|35=>182|39=>183|n=>n,fun|22=>90|3=>3|4=>4|0=>0|n=>n,fun|n=>n⟩
theorem Tryz.lays2_21:as2 j8 Tryz.lays2_21_ren:={
 mixed:=by kernel_rfl
 f21:=Tryz.func178.trans (congrArg some (by kernel_rfl))
 f27:=Tryz.func180.trans (congrArg some (by kernel_rfl))
 f28:=Tryz.func181.trans (congrArg some (by kernel_rfl))
 f35:=Tryz.func182.trans (congrArg some (by kernel_rfl))
 f39:=Tryz.func183.trans (congrArg some (by kernel_rfl))
 t0:=z7
 a0:=ad3
 z0:=ac7
 v0:=aa6
 t3:=v7
 a3:=ab1
 z3:=aa1
 v3:=w9
 t4:=x3
 a4:=ab6
 z4:=ab0
 v4:=x4
 t22:=Tryz.underlying90
 a22:=Tryz.isAgg90
 z22:=Tryz.sizeOf90
 v22:=Tryz.zeroValue90
 i3:=by kernel_rfl }
def Tryz.lays7_27_ren:aa0:=⟨fun|27=>161|28=>172|29=>173|n=>n,fun|25=>61|3=>3|27=>30|22=>134|4=>4|53=>167|0=>0|5=>5|54=>168|n=>n,fun|0=>4|1=>5|n=>n⟩
theorem Tryz.lays7_27:as3 j8 Tryz.lays7_27_ren:={
 mixed:=by kernel_rfl
 f27:=ap4.trans (congrArg some (by kernel_rfl))
 f28:=ap5.trans (congrArg some (by kernel_rfl))
 f29:=ap6.trans (congrArg some (by kernel_rfl))
 t0:=z7
 a0:=ad3
 z0:=ac7
 v0:=aa6
 i0:=by kernel_rfl
 t3:=v7
 a3:=ab1
 z3:=aa1
 v3:=w9
 i3:=by kernel_rfl
 t4:=x3
 a4:=ab6
 z4:=ab0
 v4:=x4
 i4:=by kernel_rfl
 t5:=x5
 a5:=ac3
 z5:=ab7
 v5:=y7
 i5:=by kernel_rfl
 t22:=af9
 a22:=ai2
 z22:=ah9
 v22:=ag6
 i22:=by kernel_rfl
 t25:=aa4
 a25:=ad6
 z25:=ad0
 v25:=ab3
 i25:=by kernel_rfl
 t27:=ad1
 a27:=af6
 z27:=ae5
 v27:=ad7
 i27:=by kernel_rfl
 t53:=ai5
 a53:=an3
 z53:=am4
 v53:=aj8
 i53:=by kernel_rfl
 t54:=ai6
 a54:=an4
 z54:=am5
 g0:=by kernel_rfl
 g1:=by kernel_rfl }
def Tryz.lays137_ren:aa0:=⟨fun|137=>72|217=>98|266=>121|n=>n,fun|9=>9|5=>5|3=>3|n=>n,fun|n=>n⟩
theorem Tryz.lays137:ar4 j8 Tryz.lays137_ren:={
 mixed:=by kernel_rfl
 f137:=ar2.trans (congrArg some (by kernel_rfl))
 f217:=ag5.trans (congrArg some (by kernel_rfl))
 f266:=af5.trans (congrArg some (by kernel_rfl))
 t3:=v7
 a3:=ab1
 z3:=aa1
 v3:=w9
 t5:=x5
 a5:=ac3
 z5:=ab7
 v5:=y7
 t9:=x6
 a9:=ac4
 z9:=ab8
 v9:=y8 }
def Tryz.lays153_ren:aa0:=⟨fun|153=>51|152=>74|226=>75|227=>76|228=>77|137=>72|119=>99|224=>100|225=>101|217=>98|266=>121|n=>n,fun|9=>9|3=>3|4=>4|5=>5|21=>21|117=>98|116=>97|0=>0|46=>61|124=>110|n=>n,fun|n=>n⟩
theorem Tryz.lays153:ar8 j8 Tryz.lays153_ren:={
 mixed:=by kernel_rfl
 f119:=Tryz.func99.trans (congrArg some (by kernel_rfl))
 f137:=ar2.trans (congrArg some (by kernel_rfl))
 f152:=Tryz.func74.trans (congrArg some (by kernel_rfl))
 f153:=Tryz.func51.trans (congrArg some (by kernel_rfl))
 f217:=ag5.trans (congrArg some (by kernel_rfl))
 f224:=ah1.trans (congrArg some (by kernel_rfl))
 f225:=ah2.trans (congrArg some (by kernel_rfl))
 f226:=Tryz.func75.trans (congrArg some (by kernel_rfl))
 f227:=Tryz.func76.trans (congrArg some (by kernel_rfl))
 f228:=Tryz.func77.trans (congrArg some (by kernel_rfl))
 f266:=af5.trans (congrArg some (by kernel_rfl))
 t0:=z7
 a0:=ad3
 z0:=ac7
 v0:=aa6
 t3:=v7
 a3:=ab1
 z3:=aa1
 v3:=w9
 t4:=x3
 a4:=ab6
 z4:=ab0
 v4:=x4
 t5:=x5
 a5:=ac3
 z5:=ab7
 v5:=y7
 t9:=x6
 a9:=ac4
 z9:=ab8
 v9:=y8
 t21:=Tryz.underlying21
 a21:=Tryz.isAgg21
 z21:=Tryz.sizeOf21
 v21:=Tryz.zeroValue21
 t46:=aa4
 a46:=ad6
 z46:=ad0
 v46:=ab3
 t116:=Tryz.underlying97
 a116:=Tryz.isAgg97
 z116:=Tryz.sizeOf97
 t117:=Tryz.underlying98
 a117:=Tryz.isAgg98
 z117:=Tryz.sizeOf98
 v117:=Tryz.zeroValue98
 t124:=Tryz.underlying110
 a124:=Tryz.isAgg110
 z124:=Tryz.sizeOf110
 v124:=Tryz.zeroValue110 }
end Go.Proofs
namespace Go.Proofs.YtkegcjamihlmmaaGreatDoor.E
set_option linter.all false
section
open Go Go.Proofs Go.Sort
set_option maxRecDepth 100000
theorem ZD{C:Cfg}{St:Nat->Prop}{w:World}{g:Nat}{k:IntKind}{zs:List Int}(a:GOK C St w)(b:C.G=GX)(h:GX.tab g=some (k,zs)):∃e x,w.heap[g]? = some (.cells (zs.map λz=>Value.int k z).toArray e x):=(a.1 g k zs (by rw[b];exact h)).2
theorem Ct8{C:Cfg}{St:Nat->Prop}{w:World}(a:GOK C St w)(b:C.G=GX):∃m,w.cell? ⟨0,0,none⟩=some (.int .i64 m):=(a.2 _ (by rw[b];rfl)).2
theorem GY{w:World}{g:Nat}{a:List Int}{k:IntKind}{e:TypeId}{x}(h:w.heap[g]? = some (.cells (a.map λz=>Value.int k z).toArray e x))(i:Nat)(b:i<a.length):w.cell? ⟨g,i,none⟩=some (.int k (a.getD i 0)):=by simp[World.cell?,h,k9,o7 b]
theorem Df8{C:Cfg}{St:Nat->Prop}{w:World}(f:GOK C St w)(a:C.G=GX):Lib.Utf8Tabs 1 2 w:=by
 obtain⟨j,m,h⟩:=ZD (g:=1) (k:=.u8) (zs:=aj0) f a rfl;obtain⟨b,n,d⟩:=ZD (g:=2) (k:=.u8) (zs:=Hn) f a rfl;refine⟨λc a=>?_,λi l=>⟨?_,?_⟩⟩
 ·rw[GY h c (by simp[aj0];omega)];simp[aj0,k9,o7,a]
 ·rw[GY d (2*i) (by simp[Hn];omega)];have:2*i<32:=by omega
  simp[Hn,k9,this]
 ·rw[GY d (2*i+1) (by simp[Hn];omega)];have:2*i+1<32:=by omega
  have e:(2*i+1) / 2=i:=by omega
  have b:¬(2*i+1) % 2=0:=by omega
  simp[Hn,k9,this,e,b]
theorem Ct9{C:Cfg}{St:Nat->Prop}{w:World}(b:GOK C St w)(c:C.G=GX):Lib.TabIs j8 w "internal/strconv.uint64pow10" .u64 ao7:=by
 obtain⟨d,e,a⟩:=ZD (g:=3) (k:=.u64) (zs:=ao7) b c rfl;unfold Lib.TabIs World.var?
 rw [show j8.globalNamed "internal/strconv.uint64pow10" = some 3 by kernel_rfl]
 simp only[ak2,a]
theorem Bt6:B4 j8 GX 149 JV:=by
 refine B4.fix (pf:=WX) _ (J2 (fn:=Tryz.f149) (by kernel_rfl) (by kernel_rfl) (by kernel_rfl) ?_);intro args ret o h;unfold WX at h;split at h
 ·rename_i s p;obtain⟨b,h⟩:=C7 h;obtain⟨rfl,rfl⟩:=J6 h;refine⟨rfl,rfl,λC r a t w q c f d=>?_⟩;obtain⟨U,V,rfl,j,k⟩:=d.arr2;obtain⟨n,rfl,rfl⟩:=j.inv_str;obtain⟨l,rfl,rfl⟩:=k.inv_str;obtain⟨m,g⟩:=Ct8 c a;have i:=L4 b;refine(Any.strings_Index Tryz.lays143 n l m w (by simp at i;omega) g).mono ?_;rintro e w' ⟨rfl,rfl⟩;exact⟨_,rfl,ae2 _ _,VP.mk_int _ _⟩
 ·cases h
theorem Da9:B4 j8 GX 46 A29:=by
 refine B4.fix (pf:=WW) _ (J2 (fn:=Tryz.f46) (by kernel_rfl) (by kernel_rfl) (by kernel_rfl) ?_);intro args ret q h;unfold WW at h;split at h
 ·rename_i s p;obtain⟨b,h⟩:=C7 h;obtain⟨rfl,rfl⟩:=J6 h;refine⟨rfl,rfl,λC t a u w r c f d=>?_⟩;obtain⟨U,V,rfl,j,k⟩:=d.arr2;obtain⟨o,rfl,rfl⟩:=j.inv_str;obtain⟨l,rfl,rfl⟩:=k.inv_str;obtain⟨m,g⟩:=Ct8 c a;have i:=L4 b;refine(Any.strings_Cut Tryz.lays145 o l m w (by simp at i;omega) g).mono ?_;rintro e w' ⟨rfl,n,rfl⟩;exact⟨_,rfl,Qa _ _,VP.mk_tup3 (VP.mk_str _) (VP.mk_str _) (VP.mk_bool _)⟩
 ·cases h
theorem Da8:B4 j8 GX 148 A28:=by
 refine B4.fix (pf:=WU) _ (J2 (fn:=Tryz.f148) (by kernel_rfl) (by kernel_rfl) (by kernel_rfl) ?_);intro args ret o h;unfold WU at h;split at h
 ·rename_i s p;obtain⟨f,h⟩:=C7 h;obtain⟨rfl,rfl⟩:=J6 h;refine⟨rfl,rfl,λC t g u w q r j i=>?_⟩;obtain⟨U,V,rfl,l,m⟩:=i.arr2;obtain⟨n,rfl,rfl⟩:=l.inv_str;obtain⟨b,rfl,k⟩:=m.inv_str;obtain⟨c,rfl⟩:∃c,p=[c]:=by
   match p,f with
   | [c],_=>exact⟨c,rfl⟩
  have a:b=⟨#[c]⟩:=by
   cases b with
   | mk d=>congr 1;exact Array.toList_inj.1 k
  subst a;refine(Any.strings_Count_one Tryz.lays138 n c w).mono ?_;rintro e w' ⟨rfl,rfl⟩;exact⟨_,rfl,ae2 _ _,VP.mk_int _ _⟩
 ·cases h
theorem C92:B4 j8 GX 55 A15:=by
 refine B4.fix (pf:=VD) _ (J2 (fn:=Tryz.f55) (by kernel_rfl) (by kernel_rfl) (by kernel_rfl) ?_);intro args ret l h;unfold VD at h;split at h
 ·rename_i n;obtain⟨b,h⟩:=C7 h;obtain⟨rfl,rfl⟩:=J6 h;refine⟨rfl,rfl,λC o a p w m c i g=>?_⟩;obtain⟨U,rfl,j⟩:=g.arr1;obtain rfl:=j.inv_int;obtain⟨d,f⟩:=E2.1 b;refine(Any.strconv_Itoa Tryz.laysM171 n (by omega) (by omega) w (Ct9 c a)).mono ?_;rintro e w' ⟨rfl,k,os,rfl⟩;refine⟨_,rfl,(Qa w k).trans (show ap1 w.heap.size _ _ from KP (w.drewN k) os),?_⟩;have:Lib.itoa n=o5 n.toNat:=by unfold Lib.itoa;rw[G1]
  rw[this];exact VP.mk_str _
 ·cases h
theorem HX{l:LL}(h:l.all isS=true):l=D2 (l.map elS):=by
 unfold D2;rw[aj2]
 symm
 rw[af2 (g:=id)]
 ·simp
 ·intro x a;have:=ae3.1 h x a;unfold isS at this;split at this
  ·rfl
  grind
theorem B48:B4 j8 GX 110 XA:=by
 refine B4.fix (pf:=JY) _ (J2 (fn:=Tryz.f110) (by kernel_rfl) (by kernel_rfl) (by kernel_rfl) ?_);intro args ret Hc h;unfold JY at h;split at h
 ·rename_i z t l p;obtain⟨L,h⟩:=C7 h;obtain⟨O,h⟩:=C7 h;obtain⟨P,h⟩:=C7 h;obtain⟨rfl,rfl⟩:=J6 h;refine⟨rfl,rfl,λC hP Q Γ w Vs hG H R=>?_⟩;obtain⟨U,V,rfl,Z,hv⟩:=R.arr2;obtain⟨u,rfl,rfl⟩:=hv.inv_str;have m:=L4 O;have hn:=L4 P;have Y:=Z.inv_s;have c:∀(a:Option Addr) (cap:Nat),l=[]->Calls j8 110 #[.slice a 0 cap,.string u] w λe w'=>∃V,e = .returned V/\ap1 w.heap.size w w'/\VP Γ (A5 []) w' (.s (.str (aj1 (l.map elS) u.data.toList))) V:=by
   intro a cap T;subst T;refine(Any.strings_Join_none Tryz.lays156 Tryz.Builder_Extra_156 a cap u w).mono ?_;rintro e w' ⟨rfl,rfl⟩;exact⟨_,rfl,ae2 _ _,VP.mk_str _⟩
  cases Y with
  | nil=>exact c _ _ rfl
  | emp=>exact c _ _ rfl
  | sl _ _ g off n cap sz Vc I M hm ht S W y K=>
   subst I;have N:=HX L;have J:∀i (h:i<l.length),∃b:ByteArray,(l[i])=[SV.str b.data.toList]/\w.cell? ⟨g,off+i,none⟩=some (.string b):=by
    intro i B;have d:=ae3.1 L (l[i]) (ak1 B);unfold isS at d;split at d
    ·rename_i x r;have k:=y i B 0 (by rw[r];simp);have o:=K i B 0 (by rw[r];simp);simp only[r,List.getElem_cons_zero] at o;obtain⟨b,f,rfl⟩:=o.inv_str;rw[f] at k;exact⟨b,r,by simpa using k⟩
    ·cases d
   obtain⟨xs,q,A⟩:∃xs:List ByteArray,xs.map (·.data.toList)=l.map elS/\∀(j:Nat) x,xs[j]? = some x->w.cell? ⟨g,off+j,none⟩=some (.string x):=by
    refine⟨(l.map elS).map λs=>⟨s.toArray⟩,by simp[Function.comp_def],?_⟩;intro j x d;simp only[List.getElem?_map] at d;cases D:l[j]? with
    | none=>simp[D] at d
    | some el=>
     obtain⟨F,rfl⟩:=List.getElem?_eq_some_iff.1 D;obtain⟨b,f,v⟩:=J j F;simp only[D,ad9,p5] at d;rw[f] at d;simp[elS,SV.gS] at d;rw[<-d];exact v
   have G:xs.length=l.length:=by
    have:=congrArg o0 q;simpa using this
   rw[<-q] at m ⊢;have f:g<w.heap.size:=H g S;have X:l.length<=140737488355328:=by omega
   refine(G▸Any.strings_Join Tryz.lays156 Tryz.Builder_Extra_156 g off cap xs u w A f (by omega) (by omega) (by omega)).mono ?_;rintro e w' ⟨rfl,hw⟩;exact⟨_,rfl,hw,VP.mk_str _⟩
 ·cases h
theorem OY(b:Nat)(f:b<=9223372036854775808):B4 j8 GX 60 (Mm b):=by
 induction b with
 | zero=>
  intro args ret c h;exfalso;unfold Mm Jl at h;split at h
  ·rename_i n g;obtain⟨a,h⟩:=C7 h;have:=E2.1 a;omega
  ·cases h
 | succ b d=>
  refine B4.fix (pf:=Jl (b+1)) _ (J3 [] (C₀:=CA b) (N7.ok (l:=[(60,Mm b)]) rfl ⟨d (by omega),trivial⟩) (J1 rfl (by kernel_rfl)) follows ?_);intro args ret c h;unfold Jl at h;split at h
  ·rename_i n;obtain⟨a,h⟩:=C7 h;obtain⟨rfl,rfl⟩:=J6 h;have e:=(A89 b noY () 0 n).trans (ZC b (by omega) n a);exact⟨rfl,rfl,rfl,1,_,_,e,rfl⟩
  ·cases h
theorem UF:B4 j8 GX 60 AQ:=OY 4294967296 (by omega)
end
section
open Go Go.Proofs
set_option maxRecDepth 100000
section
theorem UE:B4 j8 GX 147 Ky:=λargs ret a h=>by
 have:M3 (Ky args)=none:=by unfold Ky IE;split<;>rfl
 rw[this] at h;cases h
theorem Bt4:B4 j8 GX 78 VG:=xf [] (A56 LF) VH rfl trivial rfl (by kernel_rfl) follows λargs=>by
 unfold VH;split
 ·rename_i s p;exact λa=>⟨rfl,rfl,rfl,_,_,(Dj1 LF noY () 0 s p).trans (Cb0 s p a),rfl⟩
 ·trivial
theorem Af7:B4 j8 GX 52 IJ:=xf [] (A53 LF) UX rfl ⟨Bt4,trivial⟩ rfl (by kernel_rfl) follows λargs=>by
 unfold UX;split
 ·rename_i s p;exact λa=>⟨rfl,rfl,rfl,_,_,(Dh2 LF noY () 0 s p).trans (B86 s p a),rfl⟩
 ·trivial
theorem C95:B4 j8 GX 141 A17:=xf [] (A57 LF) VK rfl trivial rfl (by kernel_rfl) follows λargs=>by
 unfold VK;split
 ·rename_i s p;exact λa=>⟨rfl,rfl,rfl,_,_,(Dj3 LF noY () 0 s p).trans (Cb1 s p a),rfl⟩
 ·trivial
theorem D58:B4 j8 GX 115 Cn7:=xf [] (A54 LF) UY rfl ⟨C95,trivial⟩ rfl (by kernel_rfl) follows λargs=>by
 unfold UY;split
 ·rename_i s p;exact λa=>⟨rfl,rfl,rfl,_,_,(Dh4 LF noY () 0 s p).trans (B87 s p a),rfl⟩
 ·trivial
theorem Dt5:B4 j8 GX 124 Bv0:=xf [] (YD LF) IT rfl ⟨C95,trivial⟩ rfl (by kernel_rfl) follows λargs=>by
 unfold IT;split
 ·rename_i s p;exact λa=>⟨rfl,rfl,rfl,_,_,(Cw9 LF noY () 0 s p).trans (Bc5 s p a),rfl⟩
 ·trivial
theorem Dv5:B4 j8 GX 105 Bw7:=xf [] (YP LF) KB rfl ⟨Dt5,trivial⟩ rfl (by kernel_rfl) follows λargs=>by
 unfold KB;split
 ·rename_i s p;exact λa=>⟨rfl,rfl,rfl,_,_,(C64 LF noY () 0 s p).trans (Br0 s p a),rfl⟩
 ·trivial
theorem Dt0:B4 j8 GX 73 Bu7:=xf [0,0] (XZ LF) IO rfl ⟨Bt4,trivial⟩ rfl (by kernel_rfl) follows λargs=>by
 unfold IO;split
 ·rename_i s p;exact λa=>⟨rfl,rfl,rfl,_,_,(Cw1 LF noY () 0 s p).trans (Bb4 s p a),rfl⟩
 ·trivial
theorem C86:B4 j8 GX 50 A10:=xf [0,0] (A47 LF) UK rfl ⟨Dt0,trivial⟩ rfl (by kernel_rfl) follows λargs=>by
 unfold UK;split
 ·rename_i s p;exact λa=>⟨rfl,rfl,rfl,_,_,(Dd7 LF noY () 0 s p).trans (B59 s p a),rfl⟩
 ·trivial
theorem C87:B4 j8 GX 129 Ah0:=xf [1] (Ew LF) AR rfl ⟨UE,Da8,Bt6,trivial⟩ rfl (by kernel_rfl) follows λargs=>by
 unfold AR;split
 ·rename_i s p v n;exact λb=>λc=>λd=>λe=>(let⟨h,f,a,g⟩:=Am8 s p v n b c d e;⟨rfl,rfl,rfl,h,f,(SD LF noY () 0 s p v n).trans a,g⟩)
 ·trivial
theorem PB:B4 j8 GX 108 Wt:=xf [1] (LB LF) BK rfl ⟨C87,trivial⟩ rfl (by kernel_rfl) follows λargs=>by
 unfold BK;split
 ·rename_i s p;exact λa=>λb=>⟨rfl,rfl,rfl,_,_,(Cj1 LF noY () 0 s p).trans (Ay4 s p a b),rfl⟩
 ·trivial
theorem C94:B4 j8 GX 48 A16:=xf [] (Uu LF) VF rfl trivial rfl (by kernel_rfl) follows λargs=>by
 unfold VF;split
 ·rename_i s;exact λa=>⟨rfl,rfl,rfl,_,_,(Di9 LF noY () 0 s).trans (Ca8 s a),rfl⟩
 ·trivial
theorem C88:B4 j8 GX 126 A12:=xf [] (A51 LF) UV rfl ⟨Af7,trivial⟩ rfl (by kernel_rfl) follows λargs=>by
 unfold UV;split
 ·rename_i s;exact λa=>⟨rfl,rfl,rfl,_,_,(Dg9 LF noY () 0 s).trans (B83 s a),rfl⟩
 ·trivial
theorem Bt1:B4 j8 GX 128 UM:=xf [0,0] (X7 LF) UN rfl trivial rfl (by kernel_rfl) follows λargs=>by
 unfold UN;split
 ·rename_i s base;exact λa=>λb=>⟨rfl,rfl,rfl,_,_,(De8 LF noY () 0 s base).trans (B65 s base a b),rfl⟩
 ·trivial
theorem Dy2:B4 j8 GX 127 Co0:=xf [0,0] (Cr9 LF) A18 rfl ⟨C88,Bt1,trivial⟩ rfl (by kernel_rfl) follows λargs=>by
 unfold A18;split
 ·rename_i s;exact λa=>⟨rfl,rfl,rfl,_,_,(D17 LF noY () 0 s).trans (Cy3 s a),rfl⟩
 ·trivial
theorem B44:B4 j8 GX 125 VT:=xf [1] (YF LF) IX rfl ⟨PB,trivial⟩ rfl (by kernel_rfl) follows λargs=>by
 unfold IX;split
 ·rename_i s;exact λa=>⟨rfl,rfl,rfl,_,_,(Cz0 LF noY () 0 s).trans (Be2 s a),rfl⟩
 ·trivial
theorem UG:B4 j8 GX 106 Rp:=xf [] (CB LF) Tv rfl ⟨B44,C88,Dy2,Bt1,trivial⟩ rfl (by kernel_rfl) follows λargs=>by
 unfold Tv;split
 ·rename_i s;exact λa=>⟨rfl,rfl,rfl,_,_,(Bd2 LF noY () 0 s).trans (ZZ s a),rfl⟩
 ·trivial
theorem D62:B4 j8 GX 107 Co2:=xf [0,0] (Uw LF) VX rfl ⟨B44,Dy2,trivial⟩ rfl (by kernel_rfl) follows λargs=>by
 unfold VX;split
 ·rename_i s;exact λa=>⟨rfl,rfl,rfl,_,_,(Dl4 LF noY () 0 s).trans (Cd2 s a),rfl⟩
 ·trivial
theorem Eb5:B4 j8 GX 166 Dw2:=xf [0,0] (LD LF) A33 rfl ⟨PB,Bt1,C92,trivial⟩ rfl (by kernel_rfl) follows λargs=>by
 unfold A33;split
 ·rename_i s;exact λa=>⟨rfl,rfl,rfl,_,_,(D39 LF noY () 0 s).trans (C79 s a),rfl⟩
 ·trivial
theorem Eb4:B4 j8 GX 83 Dw1:=xf [] (LC LF) A32 rfl ⟨C92,trivial⟩ rfl (by kernel_rfl) follows λargs=>by
 unfold A32;split
 ·rename_i v;exact λa=>⟨rfl,rfl,rfl,_,_,(D38 LF noY () 0 v).trans (C77 v a),rfl⟩
 ·trivial
theorem Cl8:B4 j8 GX 67 QM:=xf [] (Dm LF) Tw rfl trivial rfl (by kernel_rfl) follows λargs=>by
 unfold Tw;split
 ·rename_i s;exact λa=>⟨rfl,rfl,rfl,_,_,(Bh0 LF noY () 0 s).trans (Ab5 s a),rfl⟩
 ·trivial
theorem Da3:B4 j8 GX 39 A25:=xf [] (Uz LF) WH rfl trivial rfl (by kernel_rfl) follows λargs=>by
 unfold WH;split
 ·rename_i s;exact λa=>⟨rfl,rfl,rfl,_,_,(Dn4 LF noY () 0 s).trans (Cf4 s a),rfl⟩
 ·trivial
theorem Rm:B4 j8 GX 44 Kz:=xf [1] (Hr LF) BF rfl trivial rfl (by kernel_rfl) follows λargs=>by
 unfold BF;split
 ·rename_i s c;exact λb=>λd=>(let⟨g,e,a,f⟩:=At8 s c b d;⟨rfl,rfl,rfl,g,e,(Cg6 LF noY () 0 s c).trans a,f⟩)
 ·trivial
theorem D65:B4 j8 GX 92 Co4:=xf [] (Kj LF) WC rfl trivial rfl (by kernel_rfl) follows λargs=>by
 unfold WC;split
 ·rename_i b;exact λa=>⟨rfl,rfl,rfl,_,_,(Dm4 LF noY () 0 b).trans (Ce3 b a),rfl⟩
 ·trivial
theorem Da4:B4 j8 GX 68 A26:=xf [0,0] (Q5 LF) WJ rfl ⟨D65,trivial⟩ rfl (by kernel_rfl) follows λargs=>by
 unfold WJ;split
 ·rename_i s;exact λa=>⟨rfl,rfl,rfl,_,_,(Dn6 LF noY () 0 s).trans (Cf5 s a),rfl⟩
 ·trivial
theorem A06:B4 j8 GX 66 JK:=xf [1] (KX LF) BD rfl ⟨Rm,trivial⟩ rfl (by kernel_rfl) follows λargs=>by
 unfold BD;split
 ·rename_i s;exact λa=>⟨rfl,rfl,rfl,_,_,(Cg0 LF noY () 0 s).trans (As8 s a),rfl⟩
 ·trivial
theorem OZ:B4 j8 GX 42 Ub:=xf [] (Va LF) Pq rfl ⟨A06,Cl8,Da4,trivial⟩ rfl (by kernel_rfl) follows λargs=>by
 unfold Pq;split
 ·rename_i s;exact λa=>⟨rfl,rfl,rfl,_,_,(As7 LF noY () 0 s).trans (QB s a),rfl⟩
 ·trivial
theorem Du6:B4 j8 GX 43 Bw0:=xf [0,0] (My LF) JM rfl ⟨A06,Da4,trivial⟩ rfl (by kernel_rfl) follows λargs=>by
 unfold JM;split
 ·rename_i s;exact λa=>⟨rfl,rfl,rfl,_,_,(C28 LF noY () 0 s).trans (Bm3 s a),rfl⟩
 ·trivial
theorem D64:B4 j8 GX 119 Co3:=xf [0,0] (Ux LF) WB rfl ⟨UF,trivial⟩ rfl (by kernel_rfl) follows λargs=>by
 unfold WB;split
 ·rename_i s;exact λa=>⟨rfl,rfl,rfl,_,_,(Dm2 LF noY () 0 s).trans (Ce2 s a),rfl⟩
 ·trivial
theorem D69:B4 j8 GX 90 Co8:=xf [0,0] (Vd LF) WQ rfl ⟨Rm,D64,trivial⟩ rfl (by kernel_rfl) follows λargs=>by
 unfold WQ;split
 ·rename_i s;exact λa=>⟨rfl,rfl,rfl,_,_,(Do7 LF noY () 0 s).trans (Ch6 s a),rfl⟩
 ·trivial
theorem D68:B4 j8 GX 37 Co7:=xf [] (A62 LF) WO rfl ⟨UF,trivial⟩ rfl (by kernel_rfl) follows λargs=>by
 unfold WO;split
 ·rename_i v;exact λa=>⟨rfl,rfl,rfl,_,_,(Do5 LF noY () 0 v).trans (Ch4 v a),rfl⟩
 ·trivial
theorem Cl7:B4 j8 GX 129 AS:=by
 refine B4.fix (pf:=Tu) _ (Cz (C₀:=Ew LF) (N7.ok (l:=[(147,Ky),(148,A28),(149,JV)]) rfl ⟨UE,Da8,Bt6,trivial⟩) (J1 rfl (by kernel_rfl)) follows ?_);intro args ret f h;unfold Tu at h;split at h
 ·rename_i s p v n;obtain⟨a,h⟩:=C7 h;obtain⟨b,h⟩:=C7 h;obtain⟨c,h⟩:=C7 h;obtain⟨d,h⟩:=C7 h;obtain⟨rfl,rfl⟩:=J6 h;have e:=(SD LF noY () 0 s p v n).trans (MC s p v n a b c d);exact⟨rfl,1,_,[],e,rfl,rfl⟩
 ·cases h
theorem Cm4:B4 j8 GX 108 QQ:=by
 refine B4.fix (pf:=Uf) _ (Cz (C₀:=CG LF) (N7.ok (l:=[(129,AS)]) rfl ⟨Cl7,trivial⟩) (J1 rfl (by kernel_rfl)) follows ?_);intro args ret c h;unfold Uf at h;split at h
 ·rename_i s p;obtain⟨a,h⟩:=C7 h;obtain⟨b,h⟩:=C7 h;obtain⟨rfl,rfl⟩:=J6 h;have e:=(Bq7 LF noY () 0 s p).trans (Ae1 s p a b);exact⟨rfl,1,_,[],e,rfl,rfl⟩
 ·cases h
end
section
variable {W R : Type} (L : Nat) (Q : F6) (Y : Yh W) (s : W) (k : Out -> St W -> Option R)
noncomputable abbrev Di:Code:=C6 ak7
noncomputable def Ao(L:Nat):Cfg:=B8 L [165] (A2 [(5,[0,1,0,0,10,0])]) [] (A2 [(16,[2,0]),(15,[0,3,10,0]),(10,[0,3,10,0]),(12,[0,3,10,0]),(14,[0,3,10,0]),(8,[2,0]),(13,[0,3,1,8,0,32]),(11,[0,3,1,8,0,18]),(9,[0,3,1,8,0,5]),(7,[0,3,1,8,0]),(6,[0,3,0,9,0]),(5,[0,3,10,0,0]),(4,[0,3,10,0]),(3,[0,3]),(2,[2,0]),(1,[0,12]),(0,[0])]) [] (A2 [(0,[4]),(1,[0,3,10,0]),(2,[0,3,10,0])]) (some [2,0]) [] [] []
noncomputable def Xt{R:Type}(i:By)(v1 c g h:Int)(d:Bool)(e:By->Int->Int->Int->Option R)(f:Unit->Option R):Option R:=cond d (vl (wu8 ((wu8 (c-65))+10)) λa=>vl (bOr .u16 (Tc .u16 v1 (4:Int)) (Em a)) λb=>e i b g h) (f ())
abbrev SC(b:Code):Prop:=∀(k:Out->St W->Option R) c v1 b2 a n4 b5,B3 (Ao L) Q Y b ⟨gp [(0,pS c),(3,p16 v1),(1,p8 b2),(8,pI a),(0,pI n4),(32,pB b5)] 15,[],s⟩ k=Xt c v1 b2 a n4 b5 (λc v1 d a=>k .normal ⟨gp [(0,pS c),(3,p16 v1),(10,pI d),(0,pI a)] 48,[],s⟩) (λ_=>k .ret ⟨gp [(2,p16 (0:Int)),(0,pB false)] 61,[],s⟩)
theorem A91:SC (R:=R) L Q Y s (cd [1,1,1,0,1,0,0,1,1,0,0,1,1,0,1,1,1,1,1] Di):=by intro k e v1 a c d b;unfold Xt;kernel_rfl
noncomputable def Xu{R:Type}(o:By)(v1 a l m:Int)(r:Bool)(f:By->Int->Int->Int->Option R)(q:Unit->Option R):Option R:=cond r (vl (wu8 ((wu8 (a-97))+10)) λg=>vl (bOr .u16 (Tc .u16 v1 (4:Int)) (Em g)) λh=>f o h l m) (cond (not (ltI a 65)) (Xt o v1 a l m (not (ltI 70 a)) (λn p i j=>f n p i j) (λ_=>q ())) (Xt o v1 a l m false (λd e b c=>f d e b c) (λ_=>q ())))
abbrev CX(b:Code):Prop:=∀(k:Out->St W->Option R) c v1 b2 a n4 b5,B3 (Ao L) Q Y b ⟨gp [(0,pS c),(3,p16 v1),(1,p8 b2),(8,pI a),(0,pI n4),(18,pB b5)] 29,[],s⟩ k=Xu c v1 b2 a n4 b5 (λc v1 d a=>k .normal ⟨gp [(0,pS c),(3,p16 v1),(10,pI d),(0,pI a)] 48,[],s⟩) (λ_=>k .ret ⟨gp [(2,p16 (0:Int)),(0,pB false)] 61,[],s⟩)
theorem A92(a:Code)(b:SC (R:=R) L Q Y s a):CX (R:=R) L Q Y s (cd [1,1,1,0,1,0,0,1,1,0,0,1,1,0,1,1,1] (G6 [1,1,1,0,1,0,0,1,1,0,0,1,1,0,1,1,1,1,1] a Di)):=by intro k g v1 c e f d;unfold Xu;simp only[<-b k];kernel_rfl
theorem A93:CX (R:=R) L Q Y s (cd [1,1,1,0,1,0,0,1,1,0,0,1,1,0,1,1,1] Di):=by intro k e v1 a c d b;exact j5 (by kernel_rfl) (A92 L Q Y s (cd [1,1,1,0,1,0,0,1,1,0,0,1,1,0,1,1,1,1,1] Di) (A91 L Q Y s) k e v1 a c d b)
noncomputable def Xv{R:Type}(p:By)(v1 a n o:Int)(r:Bool)(j:By->Int->Int->Int->Option R)(q:Unit->Option R):Option R:=cond r (vl (Em (wu8 (a-48))) λl=>vl (bOr .u16 (Tc .u16 v1 (4:Int)) l) λm=>j p m n o) (cond (not (ltI a 97)) (Xu p v1 a n o (not (ltI 102 a)) (λf h b c=>j f h b c) (λ_=>q ())) (Xu p v1 a n o false (λg i d e=>j g i d e) (λ_=>q ())))
abbrev Sc(b:Code):Prop:=∀(k:Out->St W->Option R) c v1 b2 a n4 b5,B3 (Ao L) Q Y b ⟨gp [(0,pS c),(3,p16 v1),(1,p8 b2),(8,pI a),(0,pI n4),(5,pB b5)] 42,[],s⟩ k=Xv c v1 b2 a n4 b5 (λc v1 d a=>k .normal ⟨gp [(0,pS c),(3,p16 v1),(10,pI d),(0,pI a)] 48,[],s⟩) (λ_=>k .ret ⟨gp [(2,p16 (0:Int)),(0,pB false)] 61,[],s⟩)
theorem A94(a:Code)(b:CX (R:=R) L Q Y s a):Sc (R:=R) L Q Y s (cd [1,1,1,0,1,0,0,1,1,0,0,1,1,0,1] (G6 [1,1,1,0,1,0,0,1,1,0,0,1,1,0,1,1,1] a Di)):=by intro k g v1 c e f d;unfold Xv;simp only[<-b k];kernel_rfl
theorem A95:Sc (R:=R) L Q Y s (cd [1,1,1,0,1,0,0,1,1,0,0,1,1,0,1] Di):=by intro k e v1 a c d b;exact j5 (by kernel_rfl) (A94 L Q Y s (cd [1,1,1,0,1,0,0,1,1,0,0,1,1,0,1,1,1] Di) (A93 L Q Y s) k e v1 a c d b)
noncomputable def Gc{R:Type}(L n:Nat)(b:By)(v1 q a:Int)(o:Unit->Option R)(p:Int->Option R):Option R:=match n with|0=>none|n+1=>cond (ltI a q) (cond (inR a b.length) (cond (not (ltI (bAt b a) (48:Int))) (Xv b v1 (bAt b a) q a (not (ltI 57 (bAt b a))) (λi l c d=>vl (A1 (d+1)) λe=>Gc L n i l c e o p) (λ_=>o ())) (Xv b v1 (bAt b a) q a false (λj m f g=>vl (A1 (g+1)) λh=>Gc L n j m f h o p) (λ_=>o ()))) none) (p v1)
theorem A96(a:Code)(b:Sc (R:=R) L Q Y s a)(n:Nat)(d:By)(v1 i c:Int):D0 0 ((Ao L).keep 5) (bd (Ao L) Q Y (cd [1,1,1,0,1,0,0] (G6 [1,1,1,0,1,0,0,1,1,0,0,1,1,0,1] a Di))) n ⟨gp [(0,pS d),(3,p16 v1),(10,pI i),(0,pI c)] 48,[],s⟩ k =
 Gc L n d v1 i c (λ_=>k .ret ⟨gp [(2,p16 (0:Int)),(0,pB false)] 61,[],s⟩) (λv0=>k (.exit 0) ⟨gp [(4,p16 v0)] 60,[],s⟩):=by
 induction n generalizing d v1 i c with
 | zero=>rfl
 | succ n q=>rw[Gc];exact let p:=(E1 2 (E1 1 (E0 (Ao L) Q Y (cd [1,1,1,0,1,0,0,1,1,1] Di) (lpK 0 ((Ao L).keep 5) (bd (Ao L) Q Y (cd [1,1,1,0,1,0,0] (G6 [1,1,1,0,1,0,0,1,1,0,0,1,1,0,1] a Di))) n k))));(j5 (by kernel_rfl) (A0 (A0 (A0 ((b p d v1 (bAt d c) i c (not (ltI 57 (bAt d c)))).trans (congr (congr rfl (fx4 λj m e r=>(j5 (by kernel_rfl) (A4 λf=>(q j m e f))))) (by kernel_rfl))) ((b p d v1 (bAt d c) i c false).trans (congr (congr rfl (fx4 λl o g t=>(j5 (by kernel_rfl) (A4 λh=>(q l o g h))))) (by kernel_rfl)))) rfl) rfl))
noncomputable def Cu2{R:Type}(L:Nat)(c:By)(b:Int->Bool->Option R):Option R:=cond (c==[]) (b 0 false) (cond (ltI 4 (c.length:Int)) (b 0 false) (Gc L L c 0 (c.length:Int) 0 (λ_=>b 0 false) (λa=>b a true)))
theorem Dg0(a:Code)(b:Sc (R:=PV × List Blk × W) L Q Y s a)(c:By):B3 (Ao L) Q Y (cd [] (G6 [1,1,1,0,1,0,0,1,1,0,0,1,1,0,1] a Di)) ⟨[pS c]++tps 64,[],s⟩ (F3 (Ao L) ak7)=Cu2 L c (λd e=>some (.tup [p16 d,pB e],[],s)):=by unfold Cu2;exact(j5 (by kernel_rfl) (A0 rfl (A0 rfl ((A96 L Q Y s (E1 0 (E0 (Ao L) Q Y (cd [1,1,1,1] Di) (F3 (Ao L) ak7))) a b L c 0 (c.length:Int) 0).trans (by kernel_rfl)))))
theorem Dg1(d:Nat)(s0):evC (Ao L) (d+1) W Y 165 [pS s0] [] s=Cu2 L s0 (λa b=>some (.tup [p16 a,pB b],[],s)):=
 (evE (fn:=ak7) (by kernel_rfl)).trans (j5 (by kernel_rfl) (Dg0 L (evC (Ao L) d) Y s (cd [1,1,1,0,1,0,0,1,1,0,0,1,1,0,1] Di) (A95 L (evC (Ao L) d) Y s) s0))
noncomputable abbrev Bx1:Code:=C6 ao3
noncomputable def Ms(L:Nat):Cfg:=B8 L [146] (A2 [(6,[1,2,0,0,0,10,0,0])]) [(108,Wt),(165,Cn3),(166,Dw2)] (A2 [(16,[4,0]),(15,[1,4,0,10,0,0]),(14,[6]),(13,[4,0]),(12,[6,5,39]),(11,[1,4,0,0,3,0]),(10,[1,4,0,10,0,0]),(9,[1,4,0,0,0,0,7,0,0,9]),(8,[1,4,0,0,0,0,0,6,0,0]),(7,[1,4,0,0,0,8,0,0]),(6,[1,4,0,10,0,0,0]),(5,[1,4,0,10,0,0]),(4,[1,4,0]),(3,[0,0,4]),(2,[4,0]),(1,[0,0,13]),(0,[0,0])]) [165,166] (A2 [(0,[6]),(1,[1,4,0,10,0,0])]) (some [4,0]) [] [] []
noncomputable def Fb{R:Type}(L n:Nat)(a:Bool)(c:LL)(l b:Int)(d:LL)(f:LL->Option R)(g:LL->Option R):Option R:=match n with|0=>none|n+1=>cond (ltI b l) (cond (inR b c.length) (cond (okE Ol c (b8 b) 0) (cond (A3 (o0 (gX c (b8 b) 0))) (vl (↑(O4 (grp (gX c (b8 b) 0))):Int) λh=>cond (p4 (grp (gX c (b8 b) 0))) (cond (G2 (d.length+1)) (Fb L n a c l (A1 (b+1)) (d++[[(SV.int .u16 h)]]) f g) none) (cond (A3 (o0 (gX c (b8 b) 0))) (vl (↑(O4 (v4B (gX c (b8 b) 0))):Int) λe=>cond (not (p4 (v4B (gX c (b8 b) 0)))) (f d) (cond (not a) (f d) (vl (A1 ((c.length:Int)-1)) λi=>cond (ltI b i) (f d) (vl (Pl .u32 e (16:Int)) λj=>cond (G2 (d.length+2)) (g (d++[[(SV.int .u16 (Em j))],[(SV.int .u16 (Em e))]])) none)))) none)) none) none) none) (g d)
theorem Am6(n last0 l1 n2 n3 l4):D0 1 ((Ms L).keep 6) (bd (Ms L) Q Y (cd [1,0,1,1,1,1,0,1,0,0] Bx1)) n ⟨gp [(1,pB last0),(4,.fl 0),(0,.s (.sl false false 1 l1)),(10,.s (.sl false false 1 l1)),(0,pI n2),(0,pI n3)] 42,[.arr true 31 1 l4],s⟩ k =
 Fb L n last0 l1 n2 n3 l4 (λa=>k .ret ⟨gp [(4,.fl 1),(0,pB false)] 57,[.arr true 31 1 a,.arr true 31 1 []],s⟩) (λa=>k (.exit 0) ⟨gp [(6,.fl 0)] 56,[.arr true 31 1 a],s⟩):=by
 induction n generalizing last0 l1 n2 n3 l4 with
 | zero=>rfl
 | succ n b=>rw[Fb];simp only[<-b];kernel_rfl
noncomputable def By7{R:Type}(L:Nat)(e:By)(a:Bool)(f:LL->Option R)(g:LL->Option R):Option R:=cond (e==[]) (f []) (cond (A3 e.length) (cond (1==1) (vl (D2 (pcs (j2 ([58]:List UInt8) 0 0) e)) λb=>Fb L L a b (b.length:Int) 0 [] (λd=>g d) (λc=>f c)) none) none)
theorem Cu3(d:Nat)(s0 last1):evC (Ms L) (d+1) W Y 146 [pS s0,pB last1] [] s=By7 L s0 last1 (λb=>some (.tup [.fl 0,pB true],[.arr true 31 1 b],s)) (λb=>some (.tup [.fl 1,pB false],[.arr true 31 1 b,.arr true 31 1 []],s)):=by refine(evE (fn:=ao3) (by kernel_rfl)).trans ?_;generalize evC (Ms L) d=Q;unfold By7;exact(j5 (by kernel_rfl) (A0 rfl (A0 (A0 (A4 λa=>((Am6 L Q Y s (E1 0 (E0 (Ms L) Q Y (cd [1,0,1,1,1,1,1] Bx1) (F3 (Ms L) ao3))) L last1 a (a.length:Int) 0 []).trans (by kernel_rfl))) rfl) rfl)))
noncomputable abbrev Cr5:Code:=C6 ak3
noncomputable def EN(L:Nat):Cfg:=B8 L [122] (A2 []) [(46,A29),(146,Bu4)] (A2 [(10,[2,0]),(9,[2,1]),(8,[2,1,5]),(7,[2,0]),(6,[2,1,3,1,45]),(5,[2,1,2,0,0,0,0,0]),(4,[2,1,2,0,0,0,0]),(3,[2,1,1,0,0,0]),(2,[2,1,0,0,0]),(1,[0,1,1]),(0,[0,1])]) [46] (A2 []) (some [2,0]) [] [] []
noncomputable def Rk{R:Type}(p o d:LL)(q:LL->LL->Option R):Option R:=cond (decide (d.length=8)) (cond (decide (8<=d.length)) (vl ((x8 0 d)++((x8 8 p)++(ae1 (0+(min p.length 8)) d))) λc=>vl (A1 ((8:Int)-(o.length:Int))) λb=>cond (decide (c.length=8)) (cond (I9 b (8:Int) 8) (cond (decide (((b8 b)+(8-(b8 b)))<=c.length)) (vl ((x8 (b8 b) c)++((x8 (8-(b8 b)) o)++(ae1 ((b8 b)+(min o.length (8-(b8 b)))) c))) λa=>cond ((decide (8=(a.length*1)))&&(okS ⟨true,true,[.int .u16,.int .u16,.int .u16,.int .u16,.int .u16,.int .u16,.int .u16,.int .u16]⟩ (b9 a) 0)) (vl (SV.gI (j2 (b9 a) 0 SV.nilp)) λf=>vl (SV.gI (j2 (b9 a) 1 SV.nilp)) λg=>vl (SV.gI (j2 (b9 a) 2 SV.nilp)) λh=>vl (SV.gI (j2 (b9 a) 3 SV.nilp)) λi=>vl (SV.gI (j2 (b9 a) 4 SV.nilp)) λj=>vl (SV.gI (j2 (b9 a) 5 SV.nilp)) λl=>vl (SV.gI (j2 (b9 a) 6 SV.nilp)) λm=>vl (SV.gI (j2 (b9 a) 7 SV.nilp)) λn=>cond (decide (8=(d.length*1))) (vl (U5 1 d.length [(SV.int .u16 f),(SV.int .u16 g),(SV.int .u16 h),(SV.int .u16 i),(SV.int .u16 j),(SV.int .u16 l),(SV.int .u16 m),(SV.int .u16 n)]) λe=>q e a) none) none) none) none) none) none) none
abbrev Az5(b:Code):Prop:=∀(k:Out->St W->Option R) x_z0 x1 y_z2 y3 b4 l5,B3 (EN L) Q Y b ⟨gp [(2,.ptr 0 0 0),(1,.ptr 1 0 0),(3,.s (.sl x_z0 x_z0 1 x1)),(1,.s (.sl y_z2 y_z2 1 y3)),(45,pB b4)] 11,[.arr false 32 1 l5,.arr false 32 1 l5],s⟩ k=Rk x1 y3 l5 (λa c=>k .ret ⟨gp [(2,.ptr 0 0 0),(0,pB true)] 64,[.arr false 32 1 a,.arr false 32 1 c],s⟩)
theorem Cl3:Az5 (R:=R) L Q Y s (cd [1,1,1,1,1,1,1] Cr5):=by intro k a e b f c d;unfold Rk;kernel_rfl
noncomputable def v6p{R:Type}(L:Nat)(h:By)(g:Int->Int->Int->Int->Int->Int->Int->Int->Bool->LL->LL->Option R):Option R:=cond (A3 h.length) (vl ((w8 h ([58,58]:List UInt8))).1 λj=>vl (((w8 h ([58,58]:List UInt8))).2).1 λe=>cond (A3 j.length) (vl (D3 (gvs j (not (((w8 h ([58,58]:List UInt8))).2).2))) λf=>cond (A3 e.length) (vl (A1 ((f.length:Int)+(↑(o0 (D3 (gvs e true))):Int))) λi=>cond (not (p4 (P6 j (not (((w8 h ([58,58]:List UInt8))).2).2)))) (g 0 0 0 0 0 0 0 0 false (a8 8 [(SV.int .u16 (0:Int))]) (a8 8 [(SV.int .u16 (0:Int))])) (cond (not (p4 (P6 e true))) (g 0 0 0 0 0 0 0 0 false (a8 8 [(SV.int .u16 (0:Int))]) (a8 8 [(SV.int .u16 (0:Int))])) (cond (not (((w8 h ([58,58]:List UInt8))).2).2) (cond (i !=8) (g 0 0 0 0 0 0 0 0 false (a8 8 [(SV.int .u16 (0:Int))]) (a8 8 [(SV.int .u16 (0:Int))])) (cond (((w8 h ([58,58]:List UInt8))).2).2 (cond (ltI 7 i) (g 0 0 0 0 0 0 0 0 false (a8 8 [(SV.int .u16 (0:Int))]) (a8 8 [(SV.int .u16 (0:Int))])) (Rk f (D3 (gvs e true)) (a8 8 [(SV.int .u16 (0:Int))]) (λa l=>cond ((decide (8=(a.length*1)))&&(okS ⟨true,true,[.int .u16,.int .u16,.int .u16,.int .u16,.int .u16,.int .u16,.int .u16,.int .u16]⟩ (b9 a) 0)) (g (SV.gI (j2 (b9 a) 0 SV.nilp)) (SV.gI (j2 (b9 a) 1 SV.nilp)) (SV.gI (j2 (b9 a) 2 SV.nilp)) (SV.gI (j2 (b9 a) 3 SV.nilp)) (SV.gI (j2 (b9 a) 4 SV.nilp)) (SV.gI (j2 (b9 a) 5 SV.nilp)) (SV.gI (j2 (b9 a) 6 SV.nilp)) (SV.gI (j2 (b9 a) 7 SV.nilp)) true a l) none))) (Rk f (D3 (gvs e true)) (a8 8 [(SV.int .u16 (0:Int))]) (λb m=>cond ((decide (8=(b.length*1)))&&(okS ⟨true,true,[.int .u16,.int .u16,.int .u16,.int .u16,.int .u16,.int .u16,.int .u16,.int .u16]⟩ (b9 b) 0)) (g (SV.gI (j2 (b9 b) 0 SV.nilp)) (SV.gI (j2 (b9 b) 1 SV.nilp)) (SV.gI (j2 (b9 b) 2 SV.nilp)) (SV.gI (j2 (b9 b) 3 SV.nilp)) (SV.gI (j2 (b9 b) 4 SV.nilp)) (SV.gI (j2 (b9 b) 5 SV.nilp)) (SV.gI (j2 (b9 b) 6 SV.nilp)) (SV.gI (j2 (b9 b) 7 SV.nilp)) true b m) none)))) (cond (((w8 h ([58,58]:List UInt8))).2).2 (cond (ltI 7 i) (g 0 0 0 0 0 0 0 0 false (a8 8 [(SV.int .u16 (0:Int))]) (a8 8 [(SV.int .u16 (0:Int))])) (Rk f (D3 (gvs e true)) (a8 8 [(SV.int .u16 (0:Int))]) (λc n=>cond ((decide (8=(c.length*1)))&&(okS ⟨true,true,[.int .u16,.int .u16,.int .u16,.int .u16,.int .u16,.int .u16,.int .u16,.int .u16]⟩ (b9 c) 0)) (g (SV.gI (j2 (b9 c) 0 SV.nilp)) (SV.gI (j2 (b9 c) 1 SV.nilp)) (SV.gI (j2 (b9 c) 2 SV.nilp)) (SV.gI (j2 (b9 c) 3 SV.nilp)) (SV.gI (j2 (b9 c) 4 SV.nilp)) (SV.gI (j2 (b9 c) 5 SV.nilp)) (SV.gI (j2 (b9 c) 6 SV.nilp)) (SV.gI (j2 (b9 c) 7 SV.nilp)) true c n) none))) (Rk f (D3 (gvs e true)) (a8 8 [(SV.int .u16 (0:Int))]) (λd o=>cond ((decide (8=(d.length*1)))&&(okS ⟨true,true,[.int .u16,.int .u16,.int .u16,.int .u16,.int .u16,.int .u16,.int .u16,.int .u16]⟩ (b9 d) 0)) (g (SV.gI (j2 (b9 d) 0 SV.nilp)) (SV.gI (j2 (b9 d) 1 SV.nilp)) (SV.gI (j2 (b9 d) 2 SV.nilp)) (SV.gI (j2 (b9 d) 3 SV.nilp)) (SV.gI (j2 (b9 d) 4 SV.nilp)) (SV.gI (j2 (b9 d) 5 SV.nilp)) (SV.gI (j2 (b9 d) 6 SV.nilp)) (SV.gI (j2 (b9 d) 7 SV.nilp)) true d o) none)))))) none) none) none
theorem D45(b:Code)(a:Az5 (R:=PV × List Blk × W) L Q Y s b)(f:By):B3 (EN L) Q Y (cd [] (G6 [1,1,1,1,1,1,1] b Cr5)) ⟨[pS f]++tps 67,[],s⟩ (F3 (EN L) ak3)=v6p L f (λj l m n o p q r r8 i l10=>some (.tup [.agg [p16 j,p16 l,p16 m,p16 n,p16 o,p16 p,p16 q,p16 r],pB r8],[.arr false 32 1 i,.arr false 32 1 l10],s)):=by unfold v6p;exact let h:=(F3 (EN L) ak3);(j5 (by kernel_rfl) (A0 (A4 λe=>(A4 λc=>(A0 (A4 λd=>(A0 (A4 λg=>(A0 rfl (A0 rfl (A0 (A0 rfl (A0 (A0 rfl ((a h (v8 (gvs e (not (((w8 f ([58,58]:List UInt8))).2).2))) d (v8 (gvs c true)) (D3 (gvs c true)) (ltI 7 g) (a8 8 [(SV.int .u16 (0:Int))])).trans (by kernel_rfl))) ((a h (v8 (gvs e (not (((w8 f ([58,58]:List UInt8))).2).2))) d (v8 (gvs c true)) (D3 (gvs c true)) false (a8 8 [(SV.int .u16 (0:Int))])).trans (by kernel_rfl)))) (A0 (A0 rfl ((a h (v8 (gvs e (not (((w8 f ([58,58]:List UInt8))).2).2))) d (v8 (gvs c true)) (D3 (gvs c true)) (ltI 7 g) (a8 8 [(SV.int .u16 (0:Int))])).trans (by kernel_rfl))) ((a h (v8 (gvs e (not (((w8 f ([58,58]:List UInt8))).2).2))) d (v8 (gvs c true)) (D3 (gvs c true)) false (a8 8 [(SV.int .u16 (0:Int))])).trans (by kernel_rfl))))))) rfl)) rfl))) rfl))
theorem D46(d:Nat)(s0):evC (EN L) (d+1) W Y 122 [pS s0] [] s=v6p L s0 (λb c e f g h i j r8 a l10=>some (.tup [.agg [p16 b,p16 c,p16 e,p16 f,p16 g,p16 h,p16 i,p16 j],pB r8],[.arr false 32 1 a,.arr false 32 1 l10],s)):=
 (evE (fn:=ak3) (by kernel_rfl)).trans (j5 (by kernel_rfl) (D45 L (evC (EN L) d) Y s (cd [1,1,1,1,1,1,1] Cr5) (Cl3 L (evC (EN L) d) Y s) s0))
noncomputable abbrev Rw:Code:=C6 an8
noncomputable def Aa(L:Nat):Cfg:=B8 L [112] (A2 [(6,[1,0,0,0,0,0,0,0]),(3,[1,0,0,0,0,2])]) [] (A2 [(11,[2,0]),(10,[1,2,0,2]),(9,[1,2,0,2]),(8,[1,2,0,0,0,0,18]),(7,[1,2,0,0,0,0]),(6,[1,2,0,0,0,0,13]),(5,[1,2,0,0,0,0]),(4,[1,2,0,0,1]),(3,[1,2,0,2,0]),(2,[1,2,0,2]),(1,[1,2,0]),(0,[1])]) [] (A2 [(0,[4,0]),(1,[1,2,0,2]),(2,[1,2,0,0,0,0]),(3,[1,2,0,0,0,0])]) (some [2,0]) [] [] []
noncomputable def Jk{R:Type}(L n:Nat)(b a c d:Int)(e:LL)(f:Int->Int->Int->Int->LL->Option R):Option R:=match n with|0=>none|n+1=>cond (ltI (A1 (c+d)) (8:Int)) (cond (inR (A1 (c+d)) 8) (cond (okE ⟨true,false,[.int .u16]⟩ e (b8 (A1 (c+d))) 0) (vl (gE e (b8 (A1 (c+d))) 0) λg=>cond (g==0) (Jk L n b a c (A1 (d+1)) e f) (f b a c d e)) none) none) (f b a c d e)
theorem A08(n b a c e d):D0 1 ((Aa L).keep 6) (bd (Aa L) Q Y (cd [1,1,0,1,0,0,1,1,0,0,1,1,0,0,0] Rw)) n ⟨gp [(1,.ptr 0 0 0),(2,pI b),(0,pI a),(0,pI c),(0,pI e),(0,pI c)] 24,[.arr false 32 1 d],s⟩ k =
 Jk L n b a c e d (λb a c e d=>k (.exit 2) ⟨gp [(1,.ptr 0 0 0),(2,pI b),(0,pI a),(0,pI c),(0,pI e),(0,pI c)] 24,[.arr false 32 1 d],s⟩):=by
 induction n generalizing b a c e d with
 | zero=>rfl
 | succ n f=>rw[Jk];simp only[<-f];kernel_rfl
noncomputable def Fo{R:Type}(L n:Nat)(e b j:Int)(i:LL)(h:Int->Int->LL->Option R):Option R:=match n with|0=>none|n+1=>cond (ltI j 8) (Jk L L e b j 0 i (λd a c g f=>cond (ltI a g) (Fo L n c g (A1 (c+1)) f h) (Fo L n d a (A1 (c+1)) f h))) (h e b i)
theorem A09(n b a n2 l3):D0 1 ((Aa L).keep 3) (bd (Aa L) Q Y (cd [1,1,0,1,0,0] Rw)) n ⟨gp [(1,.ptr 0 0 0),(2,pI b),(0,pI a),(2,pI n2)] 24,[.arr false 32 1 l3],s⟩ k =
 Fo L n b a n2 l3 (λb a i=>k (.exit 0) ⟨gp [(4,pI b),(0,pI a)] 27,[.arr false 32 1 i],s⟩):=by
 induction n generalizing b a n2 l3 with
 | zero=>rfl
 | succ n h=>rw[Fo];exact(j5 (by kernel_rfl) (A0 ((A08 L Q Y s (E1 2 (E0 (Aa L) Q Y (cd [1,1,0,1,0,0,1,1,0,0,1,1,1] Rw) (E1 1 (E0 (Aa L) Q Y (cd [1,1,0,1,0,0,1,1,1] Rw) (lpK 1 ((Aa L).keep 3) (bd (Aa L) Q Y (cd [1,1,0,1,0,0] Rw)) n k))))) L b a n2 0 l3).trans (congr rfl (fx5 λe c d g f=>(j5 (by kernel_rfl) (A0 (h d g (A1 (d+1)) f) (h e c (A1 (d+1)) f)))))) rfl))
noncomputable def B52{R:Type}(L:Nat)(d e f g h i j l:Int)(m:Int->Int->LL->Option R):Option R:=Fo L L 0 0 0 [[(SV.int .u16 d)],[(SV.int .u16 e)],[(SV.int .u16 f)],[(SV.int .u16 g)],[(SV.int .u16 h)],[(SV.int .u16 i)],[(SV.int .u16 j)],[(SV.int .u16 l)]] (λb a c=>m b a c)
theorem Dc1(d:Nat)(a0 a1 a2 a3 a4 a5 a6 a7):evC (Aa L) (d+1) W Y 112 [.agg [p16 a0,p16 a1,p16 a2,p16 a3,p16 a4,p16 a5,p16 a6,p16 a7]] [] s=B52 L a0 a1 a2 a3 a4 a5 a6 a7 (λb c a=>some (.tup [pI b,pI c],[.arr false 32 1 a],s)):=by refine(evE (fn:=an8) (by kernel_rfl)).trans ?_;generalize evC (Aa L) d=Q;unfold B52;exact(j5 (by kernel_rfl) ((A09 L Q Y s (E1 0 (E0 (Aa L) Q Y (cd [1,1,1] Rw) (F3 (Aa L) an8))) L 0 0 0 [[(SV.int .u16 a0)],[(SV.int .u16 a1)],[(SV.int .u16 a2)],[(SV.int .u16 a3)],[(SV.int .u16 a4)],[(SV.int .u16 a5)],[(SV.int .u16 a6)],[(SV.int .u16 a7)]]).trans (by kernel_rfl)))
noncomputable abbrev Dx0:Code:=C6 an9
noncomputable def LE(L:Nat):Cfg:=B8 L [113] (A2 [(3,[2,0,2,0,0])]) [(136,Cn2),(110,XA)] (A2 [(7,[2]),(6,[3,2,0,0]),(5,[3,2,0,0]),(4,[3,1,0,0,0]),(3,[3,2,0,0,0]),(2,[3,2,0,0]),(1,[0,2]),(0,[0])]) [136,110] (A2 [(0,[3]),(1,[3,2,0,0])]) (some [2]) [] [] []
noncomputable def Wn{R:Type}(L n:Nat)(h g:Bool)(c:LL)(f b:Int)(d:LL)(e:LL->Option R):Option R:=match n with|0=>none|n+1=>cond (ltI b f) (cond (inR b c.length) (cond (okE ⟨true,false,[.int .u16]⟩ c (b8 b) 0) (vl (D50 (gE c (b8 b) 0)) λa=>cond (ltN a 65536) (cond ((16:Int)==16) (cond (G2 (d.length+1)) (Wn L n h g c f (A1 (b+1)) (d++[[(SV.str (P9 (b8 a)))]]) e) none) none) none) none) none) (e d)
theorem Cl2(n z0 t1 l2 n3 n4 l5):D0 1 ((LE L).keep 3) (bd (LE L) Q Y (cd [1,1,0,1,0,0] Dx0)) n ⟨gp [(3,.fl 0),(2,.s (.sl z0 t1 1 l2)),(0,pI n3),(0,pI n4)] 12,[.arr true 9 1 l5],s⟩ k =
 Wn L n z0 t1 l2 n3 n4 l5 (λb=>k (.exit 0) ⟨gp [(3,.fl 0)] 17,[.arr true 9 1 b],s⟩):=by
 induction n generalizing z0 t1 l2 n3 n4 l5 with
 | zero=>rfl
 | succ n a=>rw[Wn];simp only[<-a];kernel_rfl
noncomputable def v6j{R:Type}(L:Nat)(c b:Bool)(e:LL)(f:By->LL->Option R):Option R:=Wn L L c b e (e.length:Int) 0 [] (λa=>cond (ac8 a isS) (cond (A3 (o0 (aj1 (ab4 elS a) ([58]:List UInt8)))) (cond (A3 a.length) (vl (aj1 (ab4 elS a) ([58]:List UInt8)) λd=>f d a) none) none) none)
theorem D43(d:Nat)(l_z0 l_t1 l2):evC (LE L) (d+1) W Y 113 [.s (.sl l_z0 l_t1 1 l2)] [] s=v6j L l_z0 l_t1 l2 (λb a=>some (pS b,[.arr true 9 1 a],s)):=by refine(evE (fn:=an9) (by kernel_rfl)).trans ?_;generalize evC (LE L) d=Q;unfold v6j;exact(j5 (by kernel_rfl) ((Cl2 L Q Y s (E1 0 (E0 (LE L) Q Y (cd [1,1,1] Dx0) (F3 (LE L) an9))) L l_z0 l_t1 l2 (l2.length:Int) 0 []).trans (by kernel_rfl)))
noncomputable def Cs0(L:Nat):Cfg:=B8 L [84] (A2 []) [(112,Bw8),(113,Dw4)] (A2 [(4,[2]),(3,[2]),(2,[1,1,0,6]),(1,[1,1,0]),(0,[1])]) [112,113] (A2 []) (some [2]) [] [] []
noncomputable def v6f{R:Type}(L:Nat)(c d e f g h i j:Int)(p:By->LL->Option R):Option R:=cond (ok8 c d e f g h i j) (vl (↑((zGo (n8 c d e f g h i j) 0 0 0)).1:Int) λa=>vl (↑((zGo (n8 c d e f g h i j) 0 0 0)).2:Int) λb=>cond (ltI b 2) (cond (ac8 [[(SV.int .u16 c)],[(SV.int .u16 d)],[(SV.int .u16 e)],[(SV.int .u16 f)],[(SV.int .u16 g)],[(SV.int .u16 h)],[(SV.int .u16 i)],[(SV.int .u16 j)]] Yf) (cond (ag3 8 8) (vl (K8 (ab4 elN [[(SV.int .u16 c)],[(SV.int .u16 d)],[(SV.int .u16 e)],[(SV.int .u16 f)],[(SV.int .u16 g)],[(SV.int .u16 h)],[(SV.int .u16 i)],[(SV.int .u16 j)]])) λo=>p o [[(SV.int .u16 c)],[(SV.int .u16 d)],[(SV.int .u16 e)],[(SV.int .u16 f)],[(SV.int .u16 g)],[(SV.int .u16 h)],[(SV.int .u16 i)],[(SV.int .u16 j)]]) none) none) (cond (I9 0 a 8) (cond (ac8 (x8 ((b8 a)-0) [[(SV.int .u16 c)],[(SV.int .u16 d)],[(SV.int .u16 e)],[(SV.int .u16 f)],[(SV.int .u16 g)],[(SV.int .u16 h)],[(SV.int .u16 i)],[(SV.int .u16 j)]]) Yf) (cond (ag3 (o0 (x8 ((b8 a)-0) [[(SV.int .u16 c)],[(SV.int .u16 d)],[(SV.int .u16 e)],[(SV.int .u16 f)],[(SV.int .u16 g)],[(SV.int .u16 h)],[(SV.int .u16 i)],[(SV.int .u16 j)]])) 8) (vl (K8 (ab4 elN (x8 ((b8 a)-0) [[(SV.int .u16 c)],[(SV.int .u16 d)],[(SV.int .u16 e)],[(SV.int .u16 f)],[(SV.int .u16 g)],[(SV.int .u16 h)],[(SV.int .u16 i)],[(SV.int .u16 j)]]))) λl=>cond (E8 l.length 2) (vl (l++[58,58]) λm=>cond (I9 (A1 (a+b)) (8:Int) 8) (cond (ac8 (x8 (8-(b8 (A1 (a+b)))) (ae1 (b8 (A1 (a+b))) [[(SV.int .u16 c)],[(SV.int .u16 d)],[(SV.int .u16 e)],[(SV.int .u16 f)],[(SV.int .u16 g)],[(SV.int .u16 h)],[(SV.int .u16 i)],[(SV.int .u16 j)]])) Yf) (cond (ag3 (o0 (x8 (8-(b8 (A1 (a+b)))) (ae1 (b8 (A1 (a+b))) [[(SV.int .u16 c)],[(SV.int .u16 d)],[(SV.int .u16 e)],[(SV.int .u16 f)],[(SV.int .u16 g)],[(SV.int .u16 h)],[(SV.int .u16 i)],[(SV.int .u16 j)]]))) 8) (vl (K8 (ab4 elN (x8 (8-(b8 (A1 (a+b)))) (ae1 (b8 (A1 (a+b))) [[(SV.int .u16 c)],[(SV.int .u16 d)],[(SV.int .u16 e)],[(SV.int .u16 f)],[(SV.int .u16 g)],[(SV.int .u16 h)],[(SV.int .u16 i)],[(SV.int .u16 j)]])))) λn=>cond (E8 m.length n.length) (p (m++n) [[(SV.int .u16 c)],[(SV.int .u16 d)],[(SV.int .u16 e)],[(SV.int .u16 f)],[(SV.int .u16 g)],[(SV.int .u16 h)],[(SV.int .u16 i)],[(SV.int .u16 j)]]) none) none) none) none) none) none) none) none)) none
theorem D41(d:Nat)(a0 a1 a2 a3 a4 a5 a6 a7):evC (Cs0 L) (d+1) W Y 84 [.agg [p16 a0,p16 a1,p16 a2,p16 a3,p16 a4,p16 a5,p16 a6,p16 a7]] [] s=v6f L a0 a1 a2 a3 a4 a5 a6 a7 (λb a=>some (pS b,[.arr false 32 1 a],s)):=by refine(evE (fn:=Tryz.f84) (by kernel_rfl)).trans ?_;generalize evC (Cs0 L) d=Q;unfold v6f;kernel_rfl
noncomputable abbrev Dj:Code:=C6 am2
noncomputable def Aq(L:Nat):Cfg:=B8 L [91] (A2 [(5,[0,1,0,0,0])]) [] (A2 [(15,[2,0]),(6,[0,3,0]),(10,[0,3,0]),(12,[0,3,0]),(14,[0,3,0]),(8,[2,0]),(13,[0,3,0,0,44]),(11,[0,3,0,0,30]),(9,[0,3,0,0,17]),(7,[0,3,0,0]),(5,[0,3,0,12]),(4,[0,3,0]),(3,[0,3]),(2,[2,0]),(1,[0,13]),(0,[0])]) [] (A2 [(0,[4]),(1,[0,3,0]),(2,[0,3,0])]) (some [2,0]) [] [] []
noncomputable def Zc{R:Type}(j:By)(i f d:Int)(e:Bool)(g:By->Int->Int->Option R)(h:Unit->Option R):Option R:=cond e (vl (A1 (wu8 (d-65))) λa=>vl (A1 ((A1 (i*16))+a)) λb=>vl (A1 (b+10)) λc=>g j c f) (h ())
abbrev TJ(b:Code):Prop:=∀(k:Out->St W->Option R) d c a b3 b4,B3 (Aq L) Q Y b ⟨gp [(0,pS d),(3,pI c),(0,pI a),(0,p8 b3),(44,pB b4)] 15,[],s⟩ k=Zc d c a b3 b4 (λd c a=>k .normal ⟨gp [(0,pS d),(3,pI c),(0,pI a)] 61,[],s⟩) (λ_=>k .ret ⟨gp [(2,p16 (0:Int)),(0,pB false)] 63,[],s⟩)
theorem Bi4:TJ (R:=R) L Q Y s (cd [1,1,1,0,1,0,0,1,0,0,1,0,1,1,1,1,1] Dj):=by intro k e d c a b;unfold Zc;kernel_rfl
noncomputable def Zd{R:Type}(o:By)(m f a:Int)(q:Bool)(g:By->Int->Int->Option R)(p:Unit->Option R):Option R:=cond q (vl (A1 (wu8 (a-97))) λh=>vl (A1 ((A1 (m*16))+h)) λi=>vl (A1 (i+10)) λj=>g o j f) (cond (not (ltI a 65)) (Zc o m f a (not (ltI 70 a)) (λn l b=>g n l b) (λ_=>p ())) (Zc o m f a false (λe d c=>g e d c) (λ_=>p ())))
abbrev DT(b:Code):Prop:=∀(k:Out->St W->Option R) d c a b3 b4,B3 (Aq L) Q Y b ⟨gp [(0,pS d),(3,pI c),(0,pI a),(0,p8 b3),(30,pB b4)] 29,[],s⟩ k=Zd d c a b3 b4 (λd c a=>k .normal ⟨gp [(0,pS d),(3,pI c),(0,pI a)] 61,[],s⟩) (λ_=>k .ret ⟨gp [(2,p16 (0:Int)),(0,pB false)] 63,[],s⟩)
theorem Bi5(a:Code)(b:TJ (R:=R) L Q Y s a):DT (R:=R) L Q Y s (cd [1,1,1,0,1,0,0,1,0,0,1,0,1,1,1] (G6 [1,1,1,0,1,0,0,1,0,0,1,0,1,1,1,1,1] a Dj)):=by intro k g f e c d;unfold Zd;simp only[<-b k];kernel_rfl
theorem Bi6:DT (R:=R) L Q Y s (cd [1,1,1,0,1,0,0,1,0,0,1,0,1,1,1] Dj):=by intro k e d c a b;exact j5 (by kernel_rfl) (Bi5 L Q Y s (cd [1,1,1,0,1,0,0,1,0,0,1,0,1,1,1,1,1] Dj) (Bi4 L Q Y s) k e d c a b)
noncomputable def Ze{R:Type}(n:By)(m h a:Int)(p:Bool)(i:By->Int->Int->Option R)(o:Unit->Option R):Option R:=cond p (vl (A1 (wu8 (a-48))) λj=>vl (A1 ((A1 (m*16))+j)) λl=>i n l h) (cond (not (ltI a 97)) (Zd n m h a (not (ltI 102 a)) (λf d b=>i f d b) (λ_=>o ())) (Zd n m h a false (λg e c=>i g e c) (λ_=>o ())))
abbrev So(b:Code):Prop:=∀(k:Out->St W->Option R) d c a b3 b4,B3 (Aq L) Q Y b ⟨gp [(0,pS d),(3,pI c),(0,pI a),(0,p8 b3),(17,pB b4)] 42,[],s⟩ k=Ze d c a b3 b4 (λd c a=>k .normal ⟨gp [(0,pS d),(3,pI c),(0,pI a)] 61,[],s⟩) (λ_=>k .ret ⟨gp [(2,p16 (0:Int)),(0,pB false)] 63,[],s⟩)
theorem Bi7(a:Code)(b:DT (R:=R) L Q Y s a):So (R:=R) L Q Y s (cd [1,1,1,0,1,0,0,1,0,0,1,0,1] (G6 [1,1,1,0,1,0,0,1,0,0,1,0,1,1,1] a Dj)):=by intro k g f e c d;unfold Ze;simp only[<-b k];kernel_rfl
theorem Bi8:So (R:=R) L Q Y s (cd [1,1,1,0,1,0,0,1,0,0,1,0,1] Dj):=by intro k e d c a b;exact j5 (by kernel_rfl) (Bi7 L Q Y s (cd [1,1,1,0,1,0,0,1,0,0,1,0,1,1,1] Dj) (Bi6 L Q Y s) k e d c a b)
noncomputable def Gl{R:Type}(L n:Nat)(b:By)(o a:Int)(l:Unit->Option R)(m:Int->Option R):Option R:=match n with|0=>none|n+1=>cond (ltI a (b.length:Int)) (cond (inR a b.length) (cond (not (ltI (bAt b a) (48:Int))) (Ze b o a (bAt b a) (not (ltI 57 (bAt b a))) (λi e c=>vl (A1 (c+1)) λf=>Gl L n i e f l m) (λ_=>l ())) (Ze b o a (bAt b a) false (λj g d=>vl (A1 (d+1)) λh=>Gl L n j g h l m) (λ_=>l ()))) none) (m o)
theorem Bi9(a:Code)(b:So (R:=R) L Q Y s a)(n:Nat)(d:By)(i c:Int):D0 0 ((Aq L).keep 5) (bd (Aq L) Q Y (cd [1,1,1,0,1,0,0] (G6 [1,1,1,0,1,0,0,1,0,0,1,0,1] a Dj))) n ⟨gp [(0,pS d),(3,pI i),(0,pI c)] 61,[],s⟩ k =
 Gl L n d i c (λ_=>k .ret ⟨gp [(2,p16 (0:Int)),(0,pB false)] 63,[],s⟩) (λn0=>k (.exit 0) ⟨gp [(4,pI n0)] 62,[],s⟩):=by
 induction n generalizing d i c with
 | zero=>rfl
 | succ n q=>rw[Gl];exact let m:=(E1 2 (E1 1 (E0 (Aq L) Q Y (cd [1,1,1,0,1,0,0,1,1] Dj) (lpK 0 ((Aq L).keep 5) (bd (Aq L) Q Y (cd [1,1,1,0,1,0,0] (G6 [1,1,1,0,1,0,0,1,0,0,1,0,1] a Dj))) n k))));(j5 (by kernel_rfl) (A0 (A0 (A0 ((b m d i c (bAt d c) (not (ltI 57 (bAt d c)))).trans (congr (congr rfl (fx3 λj e o=>(j5 (by kernel_rfl) (A4 λf=>(q j e f))))) (by kernel_rfl))) ((b m d i c (bAt d c) false).trans (congr (congr rfl (fx3 λl g p=>(j5 (by kernel_rfl) (A4 λh=>(q l g h))))) (by kernel_rfl)))) rfl) rfl))
noncomputable def C08{R:Type}(L:Nat)(c:By)(b:Int->Bool->Option R):Option R:=cond (ltI (c.length:Int) (1:Int)) (b 0 false) (cond (ltI 4 (c.length:Int)) (b 0 false) (Gl L L c 0 0 (λ_=>b 0 false) (λa=>b (Em a) true)))
theorem Dm9(a:Code)(b:So (R:=PV × List Blk × W) L Q Y s a)(c:By):B3 (Aq L) Q Y (cd [] (G6 [1,1,1,0,1,0,0,1,0,0,1,0,1] a Dj)) ⟨[pS c]++tps 66,[],s⟩ (F3 (Aq L) am2)=C08 L c (λd e=>some (.tup [p16 d,pB e],[],s)):=by unfold C08;exact(j5 (by kernel_rfl) (A0 rfl (A0 rfl ((Bi9 L Q Y s (E1 0 (E0 (Aq L) Q Y (cd [1,1,1,1] Dj) (F3 (Aq L) am2))) a b L c 0 0).trans (by kernel_rfl)))))
theorem Dn0(d:Nat)(s0):evC (Aq L) (d+1) W Y 91 [pS s0] [] s=C08 L s0 (λa b=>some (.tup [p16 a,pB b],[],s)):=
 (evE (fn:=am2) (by kernel_rfl)).trans (j5 (by kernel_rfl) (Dm9 L (evC (Aq L) d) Y s (cd [1,1,1,0,1,0,0,1,0,0,1,0,1] Dj) (Bi8 L (evC (Aq L) d) Y s) s0))
noncomputable abbrev Fy:Code:=C6 am0
noncomputable def T3(L:Nat):Cfg:=B8 L [64] (A2 [(6,[1,2,0,0,0,0])]) [(44,Kz),(90,Co8),(91,Co5)] (A2 [(15,[4,0]),(7,[1,4,0,0]),(14,[1,4,0,0]),(13,[4,0]),(12,[1,4,0,0,2,47]),(11,[1,4,0,0,2,0]),(10,[1,4,0,0]),(9,[1,4,0,0,0,31]),(8,[1,4,0,0,0,0]),(6,[1,4,0,0,11]),(5,[1,4,0,0]),(4,[1,4,0]),(3,[0,0,4]),(2,[4,0]),(1,[0,0,12]),(0,[0,0])]) [90,91] (A2 [(0,[6]),(1,[1,4,0,0])]) (some [4,0]) [] [] []
noncomputable def Lw{R:Type}(a:Bool)(g:LL)(f d:Int)(e:Bool)(c:LL)(h:Bool->LL->Int->LL->Option R)(i:Bool->LL->Int->Int->Bool->LL->Option R):Option R:=cond e (vl (Pl .u32 d (16:Int)) λb=>cond (G2 (c.length+2)) (h a g f (c++[[(SV.int .u16 (Em b))],[(SV.int .u16 (Em d))]])) none) (i a g f d e c)
abbrev Vu(b:Code):Prop:=∀(k:Out->St W->Option R) a d c g e f,B3 (T3 L) Q Y b ⟨gp [(1,pB a),(4,.fl 0),(0,.s (.sl false false 1 d)),(0,pI c),(0,p32 g),(31,pB e)] 23,[.arr true 31 1 f],s⟩ k=Lw a d c g e f (λa d c h=>k (.exit 1) ⟨gp [(1,pB a),(4,.fl 0),(0,.s (.sl false false 1 d)),(0,pI c)] 56,[.arr true 31 1 h],s⟩) (λa d c g e f=>k .normal ⟨gp [(1,pB a),(4,.fl 0),(0,.s (.sl false false 1 d)),(0,pI c),(0,p32 g),(31,pB e)] 23,[.arr true 31 1 f],s⟩)
theorem Ar9:Vu (R:=R) L Q Y s (cd [1,1,1,1,0,1,0,0,1,0,0,0,1,1] Fy):=by intro k a e c f b d;unfold Lw;kernel_rfl
noncomputable def Lx{R:Type}(a:Bool)(c:LL)(b:Int)(e:LL)(f:LL->Option R)(g:Bool->LL->Int->LL->Option R):Option R:=cond (inR b c.length) (cond (okE Ol c (b8 b) 0) (cond (A3 (o0 (gX c (b8 b) 0))) (vl (↑(O4 (grp (gX c (b8 b) 0))):Int) λd=>cond (not (p4 (grp (gX c (b8 b) 0)))) (f e) (cond (G2 (e.length+1)) (g a c b (e++[[(SV.int .u16 d)]])) none)) none) none) none
abbrev Vv(b:Code):Prop:=∀(k:Out->St W->Option R) a d c v3 b4 l5,B3 (T3 L) Q Y b ⟨gp [(1,pB a),(4,.fl 0),(0,.s (.sl false false 1 d)),(0,pI c),(0,p32 v3),(31,pB b4)] 23,[.arr true 31 1 l5],s⟩ k=Lx a d c l5 (λe=>k .ret ⟨gp [(4,.fl 1),(0,pB false)] 59,[.arr true 31 1 e,.arr true 31 1 []],s⟩) (λa d c f=>k .normal ⟨gp [(1,pB a),(4,.fl 0),(0,.s (.sl false false 1 d)),(0,pI c)] 56,[.arr true 31 1 f],s⟩)
theorem As0:Vv (R:=R) L Q Y s (cd [1,1,1,1,0,1,0,0,1,0,0,1] Fy):=by intro k a e c f b d;unfold Lx;kernel_rfl
noncomputable def R9{R:Type}(L n:Nat)(a:Bool)(m:LL)(l:Int)(l3:LL)(o:LL->Option R)(p:LL->Option R):Option R:=match n with|0=>none|n+1=>cond (ltI l (m.length:Int)) (cond (inR l m.length) (cond (okE Ol m (b8 l) 0) (cond (A3 (o0 (gX m (b8 l) 0))) (vl (↑(O4 (v4B (gX m (b8 l) 0))):Int) λq=>cond (p4 (v4B (gX m (b8 l) 0))) (cond a (vl (A1 ((m.length:Int)-1)) λa9=>Lw a m l q (l==a9) l3 (λb Z r B=>vl (A1 (r+1)) λP=>R9 L n b Z P B o p) (λc a0 t b3 b0 C=>Lx c a0 t C (λD=>o D) (λd a1 u F=>vl (A1 (u+1)) λS=>R9 L n d a1 S F o p))) (Lw a m l q false l3 (λe a2 v G=>vl (A1 (v+1)) λT=>R9 L n e a2 T G o p) (λf a3 w b4 b1 H=>Lx f a3 w H (λI=>o I) (λg a4 x J=>vl (A1 (x+1)) λU=>R9 L n g a4 U J o p)))) (Lw a m l q false l3 (λh a5 y K=>vl (A1 (y+1)) λV=>R9 L n h a5 V K o p) (λi a6 z b5 b2 M=>Lx i a6 z M (λN=>o N) (λj a7 A O=>vl (A1 (A+1)) λX=>R9 L n j a7 X O o p)))) none) none) none) (p l3)
theorem As1(b:Code)(c:Vu (R:=R) L Q Y s b)(a:Code)(d:Vv (R:=R) L Q Y s a)(n:Nat)(e:Bool)(v:LL)(q:Int)(u:LL):D0 1 ((T3 L).keep 6) (bd (T3 L) Q Y (cd [1,1,1,1,0,1,0,0] (G6 [1,1,1,1,0,1,0,0,1,0,0,1] a (G6 [1,1,1,1,0,1,0,0,1,0,0,0,1,1] b Fy)))) n ⟨gp [(1,pB e),(4,.fl 0),(0,.s (.sl false false 1 v)),(0,pI q)] 56,[.arr true 31 1 u],s⟩ k =
 R9 L n e v q u (λl0=>k .ret ⟨gp [(4,.fl 1),(0,pB false)] 59,[.arr true 31 1 l0,.arr true 31 1 []],s⟩) (λl0=>k (.exit 0) ⟨gp [(6,.fl 0)] 58,[.arr true 31 1 l0],s⟩):=by
 induction n generalizing e v q u with
 | zero=>rfl
 | succ n t=>rw[R9];exact let K0:=(E1 1 (E0 (T3 L) Q Y (cd [1,1,1,1,0,1,0,0,1,1] Fy) (lpK 1 ((T3 L).keep 6) (bd (T3 L) Q Y (cd [1,1,1,1,0,1,0,0] (G6 [1,1,1,1,0,1,0,0,1,0,0,1] a (G6 [1,1,1,1,0,1,0,0,1,0,0,0,1,1] b Fy)))) n k)));let K1:=(E0 (T3 L) Q Y a K0);(j5 (by kernel_rfl) (A0 (A0 (A0 (A0 (A4 λr=>(A0 (A0 (A4 λb0=>((c K1 e v q r (q==b0) u).trans (congr (congr rfl (fx4 λf V b1 C=>(j5 (by kernel_rfl) (A4 λN=>(t f V N C))))) (fx6 λg X z a6 w D=>(j5 (by kernel_rfl) ((d K0 g X z a6 w D).trans (congr (congr rfl (by kernel_rfl)) (fx4 λh Z b2 F=>(j5 (by kernel_rfl) (A4 λO=>(t h Z O F))))))))))) ((c K1 e v q r false u).trans (congr (congr rfl (fx4 λi a0 b3 G=>(j5 (by kernel_rfl) (A4 λP=>(t i a0 P G))))) (fx6 λj a1 A a7 x H=>(j5 (by kernel_rfl) ((d K0 j a1 A a7 x H).trans (congr (congr rfl (by kernel_rfl)) (fx4 λl a2 b4 I=>(j5 (by kernel_rfl) (A4 λS=>(t l a2 S I))))))))))) ((c K1 e v q r false u).trans (congr (congr rfl (fx4 λm a3 b5 J=>(j5 (by kernel_rfl) (A4 λT=>(t m a3 T J))))) (fx6 λo a4 B a9 y K=>(j5 (by kernel_rfl) ((d K0 o a4 B a9 y K).trans (congr (congr rfl (by kernel_rfl)) (fx4 λp a5 b6 M=>(j5 (by kernel_rfl) (A4 λU=>(t p a5 U M)))))))))))) rfl) rfl) rfl) rfl))
noncomputable def Ar8{R:Type}(L:Nat)(e:By)(a:Bool)(f:LL->Option R)(g:LL->Option R):Option R:=cond (e==[]) (f []) (cond (A3 e.length) (vl (D2 (pcs (u8n (58:Int)) e)) λd=>R9 L L a d 0 [] (λb=>g b) (λc=>f c)) none)
theorem C09(a:Code)(c:Vu (R:=PV × List Blk × W) L Q Y s a)(b:Code)(d:Vv (R:=PV × List Blk × W) L Q Y s b)(h:By)(e:Bool):B3 (T3 L) Q Y (cd [] (G6 [1,1,1,1,0,1,0,0,1,0,0,1] b (G6 [1,1,1,1,0,1,0,0,1,0,0,0,1,1] a Fy))) ⟨[pS h,pB e]++tps 63,[],s⟩ (F3 (T3 L) am0)=Ar8 L h e (λg=>some (.tup [.fl 0,pB true],[.arr true 31 1 g],s)) (λg=>some (.tup [.fl 1,pB false],[.arr true 31 1 g,.arr true 31 1 []],s)):=by unfold Ar8;exact(j5 (by kernel_rfl) (A0 rfl (A0 (A4 λf=>((As1 L Q Y s (E1 0 (E0 (T3 L) Q Y (cd [1,1,1,1,1] Fy) (F3 (T3 L) am0))) a c b d L e f 0 []).trans (by kernel_rfl))) rfl)))
theorem C10(d:Nat)(s0 last1):evC (T3 L) (d+1) W Y 64 [pS s0,pB last1] [] s=Ar8 L s0 last1 (λa=>some (.tup [.fl 0,pB true],[.arr true 31 1 a],s)) (λa=>some (.tup [.fl 1,pB false],[.arr true 31 1 a,.arr true 31 1 []],s)):=
 (evE (fn:=am0) (by kernel_rfl)).trans (j5 (by kernel_rfl) (C09 L (evC (T3 L) d) Y s (cd [1,1,1,1,0,1,0,0,1,0,0,0,1,1] Fy) (Ar9 L (evC (T3 L) d) Y s) (cd [1,1,1,1,0,1,0,0,1,0,0,1] Fy) (As0 L (evC (T3 L) d) Y s) s0 last1))
noncomputable abbrev RC:Code:=C6 aq8
noncomputable def Dn(L:Nat):Cfg:=B8 L [63] (A2 [(2,[0,1,0])]) [] (A2 [(6,[2]),(3,[0,2]),(5,[2]),(4,[0,2,17]),(2,[0,2,4]),(1,[0,2]),(0,[0])]) [] (A2 [(0,[]),(1,[0,2])]) (some [2]) [] [] []
noncomputable def V8{R:Type}(L n:Nat)(b:By)(a:Int)(c:Int->Option R)(d:Unit->Option R):Option R:=match n with|0=>none|n+1=>cond (ltI (A1 (a+1)) (b.length:Int)) (cond (inR a b.length) (cond ((bAt b a)==58) (cond (inR (A1 (a+1)) b.length) (vl (bAt b (A1 (a+1))) λe=>cond (e==58) (c a) (V8 L n b (A1 (a+1)) c d)) none) (V8 L n b (A1 (a+1)) c d)) none) (d ())
theorem PS(n s0 i1):D0 0 ((Dn L).keep 2) (bd (Dn L) Q Y (cd [1,0,1,0,0] RC)) n ⟨gp [(0,pS s0),(2,pI i1)] 19,[],s⟩ k =
 V8 L n s0 i1 (λn0=>k .ret ⟨gp [(2,pI n0)] 20,[],s⟩) (λ_=>k (.exit 0) ⟨gp [] 23,[],s⟩):=by
 induction n generalizing s0 i1 with
 | zero=>rfl
 | succ n a=>rw[V8];simp only[<-a];kernel_rfl
noncomputable def HN{R:Type}(L:Nat)(c:By)(b:Int->Option R):Option R:=V8 L L c 0 (λa=>b a) (λ_=>b (-1))
theorem Bh1(d:Nat)(s0):evC (Dn L) (d+1) W Y 63 [pS s0] [] s=HN L s0 (λa=>some (pI a,[],s)):=by refine(evE (fn:=aq8) (by kernel_rfl)).trans ?_;generalize evC (Dn L) d=Q;unfold HN;exact(j5 (by kernel_rfl) ((PS L Q Y s (E1 0 (E0 (Dn L) Q Y (cd [1,1] RC) (F3 (Dn L) aq8))) L s0 0).trans (by kernel_rfl)))
noncomputable abbrev Up:Code:=C6 aj3
noncomputable def Ar(L:Nat):Cfg:=B8 L [40] (A2 [(21,[2,0,0,6,2]),(17,[2,0,0,4,1,1]),(8,[2,0,0,1,1])]) [(63,QN),(64,Bv4)] (A2 [(24,[2,0]),(22,[2,1,6,2]),(23,[2,1,6,2]),(21,[2,1,6,2,73]),(20,[2,1,6,2]),(18,[2,1,4,1,1]),(19,[2,1,4,1,1]),(17,[2,1,4,1,1,62]),(16,[2,1,4,1,1]),(15,[2,0]),(14,[2,1,4,1,59]),(13,[2,1,4,0,0,0]),(12,[0,1,1,0,3,0]),(11,[2,0]),(9,[2,1,1,1]),(10,[2,1,1,1]),(8,[2,1,1,1,24]),(7,[2,1,1,1]),(6,[2,0]),(5,[2,1,1,23]),(4,[2,1,1,0]),(3,[0,1,1,0,12]),(2,[0,1,1,0]),(1,[0,1,1]),(0,[0,1])]) [63] (A2 [(4,[2,1]),(5,[2,1,6,2]),(2,[2,1,6]),(3,[2,1,4,1,1]),(0,[2,1]),(1,[2,1,1,1])]) (some [2,0]) [] [] []
noncomputable def Og{R:Type}(L n:Nat)(b:Bool)(c:LL)(a:Int)(g d:LL)(f:LL->LL->Option R):Option R:=match n with|0=>none|n+1=>cond (ltI a 8) (cond (inR a c.length) (cond (okE ⟨true,false,[.int .u16]⟩ c (b8 a) 0) (cond (inR a 8) (cond (decide ((b8 a)<d.length)) (vl (ac9 d (b8 a) (G4 (j2 d (b8 a) []) 0 [(SV.int .u16 (gE c (b8 a) 0))])) λe=>Og L n b c (A1 (a+1)) g e f) none) none) none) none) (f g d)
theorem Bp0(n l_z0 a i2 l3 l4):D0 2 ((Ar L).keep 8) (bd (Ar L) Q Y (cd [1,1,1,0,1,0,1,1,0,1,0,0] Up)) n ⟨gp [(2,.ptr 0 0 0),(1,.ptr 1 0 0),(1,.s (.sl l_z0 l_z0 1 a)),(1,pI i2)] 93,[.arr false 32 1 l3,.arr false 32 1 l4],s⟩ k =
 Og L n l_z0 a i2 l3 l4 (λc a=>k (.exit 0) ⟨gp [(2,.ptr 0 0 0),(1,.ptr 1 0 0)] 97,[.arr false 32 1 c,.arr false 32 1 a],s⟩):=by
 induction n generalizing l_z0 a i2 l3 l4 with
 | zero=>rfl
 | succ n b=>rw[Og];simp only[<-b];kernel_rfl
noncomputable def Oh{R:Type}(L n:Nat)(e:Bool)(d:LL)(b:Bool)(i:LL)(a:Int)(h f:LL)(g:Bool->LL->LL->LL->Option R):Option R:=match n with|0=>none|n+1=>cond (ltI a (d.length:Int)) (cond (inR a d.length) (cond (okE ⟨true,false,[.int .u16]⟩ d (b8 a) 0) (cond (inR a 8) (cond (decide ((b8 a)<f.length)) (vl (ac9 f (b8 a) (G4 (j2 f (b8 a) []) 0 [(SV.int .u16 (gE d (b8 a) 0))])) λc=>Oh L n e d b i (A1 (a+1)) h c g) none) none) none) none) (g b i h f)
theorem Bp1(n l_z0 l1 r_z2 r3 i4 l5 l6):D0 2 ((Ar L).keep 17) (bd (Ar L) Q Y (cd [1,1,1,1,1,1,1,0,1,0,0] Up)) n ⟨gp [(2,.ptr 0 0 0),(1,.ptr 1 0 0),(4,.s (.sl l_z0 l_z0 1 l1)),(1,.s (.sl r_z2 r_z2 1 r3)),(1,pI i4)] 88,[.arr false 32 1 l5,.arr false 32 1 l6],s⟩ k =
 Oh L n l_z0 l1 r_z2 r3 i4 l5 l6 (λa e c d=>k (.exit 2) ⟨gp [(2,.ptr 0 0 0),(1,.ptr 1 0 0),(6,.s (.sl a a 1 e))] 90,[.arr false 32 1 c,.arr false 32 1 d],s⟩):=by
 induction n generalizing l_z0 l1 r_z2 r3 i4 l5 l6 with
 | zero=>rfl
 | succ n b=>rw[Oh];simp only[<-b];kernel_rfl
noncomputable def Oi{R:Type}(L n:Nat)(e:Bool)(c:LL)(b:Int)(h f:LL)(g:LL->LL->Option R):Option R:=match n with|0=>none|n+1=>cond (ltI b (c.length:Int)) (vl (A1 ((8:Int)-(c.length:Int))) λa=>cond (inR b c.length) (cond (okE ⟨true,false,[.int .u16]⟩ c (b8 b) 0) (cond (inR (A1 (a+b)) 8) (cond (decide ((b8 (A1 (a+b)))<f.length)) (vl (ac9 f (b8 (A1 (a+b))) (G4 (j2 f (b8 (A1 (a+b))) []) 0 [(SV.int .u16 (gE c (b8 b) 0))])) λd=>Oi L n e c (A1 (b+1)) h d g) none) none) none) none) (g h f)
theorem Bp2(n r_z0 r1 i2 l3 l4):D0 2 ((Ar L).keep 21) (bd (Ar L) Q Y (cd [1,1,1,1,1,1,1,1,0,1,0,0] Up)) n ⟨gp [(2,.ptr 0 0 0),(1,.ptr 1 0 0),(6,.s (.sl r_z0 r_z0 1 r1)),(2,pI i2)] 87,[.arr false 32 1 l3,.arr false 32 1 l4],s⟩ k =
 Oi L n r_z0 r1 i2 l3 l4 (λb c=>k (.exit 4) ⟨gp [(2,.ptr 0 0 0),(1,.ptr 1 0 0)] 97,[.arr false 32 1 b,.arr false 32 1 c],s⟩):=by
 induction n generalizing r_z0 r1 i2 l3 l4 with
 | zero=>rfl
 | succ n a=>rw[Oi];simp only[<-a];kernel_rfl
noncomputable def C42{R:Type}(L:Nat)(e:By)(j:Int->Int->Int->Int->Int->Int->Int->Int->Bool->LL->LL->Option R):Option R:=cond (A3 e.length) (cond (ltI (LN e) (0:Int)) (cond (A3 e.length) (cond (not (p4 (P6 e true))) (j 0 0 0 0 0 0 0 0 false (a8 8 [(SV.int .u16 (0:Int))]) (a8 8 [(SV.int .u16 (0:Int))])) (cond ((↑(o0 (D3 (gvs e true))):Int)!=8) (j 0 0 0 0 0 0 0 0 false (a8 8 [(SV.int .u16 (0:Int))]) (a8 8 [(SV.int .u16 (0:Int))])) (Og L L (v8 (gvs e true)) (D3 (gvs e true)) 0 (a8 8 [(SV.int .u16 (0:Int))]) (a8 8 [(SV.int .u16 (0:Int))]) (λn a=>cond ((decide (8=(a.length*1)))&&(okS ⟨true,true,[.int .u16,.int .u16,.int .u16,.int .u16,.int .u16,.int .u16,.int .u16,.int .u16]⟩ (b9 a) 0)) (vl (SV.gI (j2 (b9 a) 0 SV.nilp)) λo=>vl (SV.gI (j2 (b9 a) 1 SV.nilp)) λp=>vl (SV.gI (j2 (b9 a) 2 SV.nilp)) λq=>vl (SV.gI (j2 (b9 a) 3 SV.nilp)) λr=>vl (SV.gI (j2 (b9 a) 4 SV.nilp)) λt=>vl (SV.gI (j2 (b9 a) 5 SV.nilp)) λu=>vl (SV.gI (j2 (b9 a) 6 SV.nilp)) λv=>vl (SV.gI (j2 (b9 a) 7 SV.nilp)) λw=>cond (decide (8=(n.length*1))) (vl (U5 1 n.length [(SV.int .u16 o),(SV.int .u16 p),(SV.int .u16 q),(SV.int .u16 r),(SV.int .u16 t),(SV.int .u16 u),(SV.int .u16 v),(SV.int .u16 w)]) λb=>cond ((decide (8=(b.length*1)))&&(okS ⟨true,true,[.int .u16,.int .u16,.int .u16,.int .u16,.int .u16,.int .u16,.int .u16,.int .u16]⟩ (b9 b) 0)) (j (SV.gI (j2 (b9 b) 0 SV.nilp)) (SV.gI (j2 (b9 b) 1 SV.nilp)) (SV.gI (j2 (b9 b) 2 SV.nilp)) (SV.gI (j2 (b9 b) 3 SV.nilp)) (SV.gI (j2 (b9 b) 4 SV.nilp)) (SV.gI (j2 (b9 b) 5 SV.nilp)) (SV.gI (j2 (b9 b) 6 SV.nilp)) (SV.gI (j2 (b9 b) 7 SV.nilp)) true b a) none) none) none)))) none) (cond (I9 0 (LN e) e.length) (vl (cut e 0 (LN e)) λf=>cond (A3 f.length) (vl (A1 ((LN e)+2)) λG=>cond (I9 G (e.length:Int) e.length) (vl (cut e G (e.length:Int)) λg=>cond (A3 g.length) (cond (not (p4 (P6 f false))) (j 0 0 0 0 0 0 0 0 false (a8 8 [(SV.int .u16 (0:Int))]) (a8 8 [(SV.int .u16 (0:Int))])) (cond (not (p4 (P6 g true))) (j 0 0 0 0 0 0 0 0 false (a8 8 [(SV.int .u16 (0:Int))]) (a8 8 [(SV.int .u16 (0:Int))])) (vl (A1 ((↑(o0 (D3 (gvs f false))):Int)+(↑(o0 (D3 (gvs g true))):Int))) λI=>cond (ltI 7 I) (j 0 0 0 0 0 0 0 0 false (a8 8 [(SV.int .u16 (0:Int))]) (a8 8 [(SV.int .u16 (0:Int))])) (Oh L L (v8 (gvs f false)) (D3 (gvs f false)) (v8 (gvs g true)) (D3 (gvs g true)) 0 (a8 8 [(SV.int .u16 (0:Int))]) (a8 8 [(SV.int .u16 (0:Int))]) (λh H l m=>Oi L L h H 0 l m (λi c=>cond ((decide (8=(c.length*1)))&&(okS ⟨true,true,[.int .u16,.int .u16,.int .u16,.int .u16,.int .u16,.int .u16,.int .u16,.int .u16]⟩ (b9 c) 0)) (vl (SV.gI (j2 (b9 c) 0 SV.nilp)) λx=>vl (SV.gI (j2 (b9 c) 1 SV.nilp)) λy=>vl (SV.gI (j2 (b9 c) 2 SV.nilp)) λz=>vl (SV.gI (j2 (b9 c) 3 SV.nilp)) λA=>vl (SV.gI (j2 (b9 c) 4 SV.nilp)) λB=>vl (SV.gI (j2 (b9 c) 5 SV.nilp)) λC=>vl (SV.gI (j2 (b9 c) 6 SV.nilp)) λD=>vl (SV.gI (j2 (b9 c) 7 SV.nilp)) λF=>cond (decide (8=(i.length*1))) (vl (U5 1 i.length [(SV.int .u16 x),(SV.int .u16 y),(SV.int .u16 z),(SV.int .u16 A),(SV.int .u16 B),(SV.int .u16 C),(SV.int .u16 D),(SV.int .u16 F)]) λd=>cond ((decide (8=(d.length*1)))&&(okS ⟨true,true,[.int .u16,.int .u16,.int .u16,.int .u16,.int .u16,.int .u16,.int .u16,.int .u16]⟩ (b9 d) 0)) (j (SV.gI (j2 (b9 d) 0 SV.nilp)) (SV.gI (j2 (b9 d) 1 SV.nilp)) (SV.gI (j2 (b9 d) 2 SV.nilp)) (SV.gI (j2 (b9 d) 3 SV.nilp)) (SV.gI (j2 (b9 d) 4 SV.nilp)) (SV.gI (j2 (b9 d) 5 SV.nilp)) (SV.gI (j2 (b9 d) 6 SV.nilp)) (SV.gI (j2 (b9 d) 7 SV.nilp)) true d c) none) none) none)))))) none) none) none) none)) none
theorem Dp1(d:Nat)(s0):evC (Ar L) (d+1) W Y 40 [pS s0] [] s=C42 L s0 (λl m n o p q r t r8 h l10=>some (.tup [.agg [p16 l,p16 m,p16 n,p16 o,p16 p,p16 q,p16 r,p16 t],pB r8],[.arr false 32 1 h,.arr false 32 1 l10],s)):=by refine(evE (fn:=aj3) (by kernel_rfl)).trans ?_;generalize evC (Ar L) d=Q;unfold C42;exact(j5 (by kernel_rfl) (A0 (A0 (A0 (A0 rfl (A0 rfl ((Bp0 L Q Y s (E1 0 (E0 (Ar L) Q Y (cd [1,1,1,0,1,0,1,1,1] Up) (E0 (Ar L) Q Y (cd [1,1,1,1] Up) (F3 (Ar L) aj3)))) L (v8 (gvs s0 true)) (D3 (gvs s0 true)) 0 (a8 8 [(SV.int .u16 (0:Int))]) (a8 8 [(SV.int .u16 (0:Int))])).trans (by kernel_rfl)))) rfl) (A0 (A4 λf=>(A0 (A4 λi=>(A0 (A4 λg=>(A0 (A0 rfl (A0 rfl (A4 λj=>(A0 rfl ((Bp1 L Q Y s (E1 2 (E0 (Ar L) Q Y (cd [1,1,1,1,1,1,1,1] Up) (F3 (Ar L) aj3))) L (v8 (gvs f false)) (D3 (gvs f false)) (v8 (gvs g true)) (D3 (gvs g true)) 0 (a8 8 [(SV.int .u16 (0:Int))]) (a8 8 [(SV.int .u16 (0:Int))])).trans (congr rfl (fx4 λa e b c=>(j5 (by kernel_rfl) ((Bp2 L Q Y s (E1 4 (E0 (Ar L) Q Y (cd [1,1,1,1,1,1,1,1,1] Up) (F3 (Ar L) aj3))) L a e 0 b c).trans (by kernel_rfl)))))))))) rfl)) rfl)) rfl)) rfl)) rfl))
noncomputable abbrev Bx5:Code:=C6 aq7
noncomputable def Mw(L:Nat):Cfg:=B8 L [62] (A2 [(3,[2,0,0])]) [] (A2 [(6,[2]),(4,[3,0]),(5,[3,0]),(3,[3,0,6]),(2,[3,0]),(1,[0,2]),(0,[0])]) [] (A2 [(0,[3]),(1,[3,0])]) (some [2]) [] [] []
noncomputable def Bb{R:Type}(L n:Nat)(a:By)(v1:Int)(f:By->Option R):Option R:=match n with|0=>none|n+1=>cond (ltI 0 v1) (vl (Em ((aa7 v1 (16:Int))+1)) λb=>cond (I9 (aa7 v1 (16:Int)) b 16) (vl (cut ([48,49,50,51,52,53,54,55,56,57,97,98,99,100,101,102]:List UInt8) (aa7 v1 (16:Int)) b) λd=>cond (E8 d.length a.length) (vl (Em (aa2 v1 (16:Int))) λg=>Bb L n (d++a) g f) none) none) (cond (a==[]) (vl (Em ((aa7 v1 (16:Int))+1)) λc=>cond (I9 (aa7 v1 (16:Int)) c 16) (vl (cut ([48,49,50,51,52,53,54,55,56,57,97,98,99,100,101,102]:List UInt8) (aa7 v1 (16:Int)) c) λe=>cond (E8 e.length a.length) (vl (Em (aa2 v1 (16:Int))) λh=>Bb L n (e++a) h f) none) none) (f a))
theorem As3(n a v1):D0 0 ((Mw L).keep 3) (bd (Mw L) Q Y (cd [1,1,0,1,0,0] Bx5)) n ⟨gp [(3,pS a),(0,p16 v1)] 18,[],s⟩ k =
 Bb L n a v1 (λa=>k (.exit 0) ⟨gp [(3,pS a)] 19,[],s⟩):=by
 induction n generalizing a v1 with
 | zero=>rfl
 | succ n b=>rw[Bb];simp only[<-b];kernel_rfl
noncomputable def B21{R:Type}(L:Nat)(b:Int)(c:By->Option R):Option R:=Bb L L ([]:List UInt8) b (λa=>c a)
theorem C14(d:Nat)(g0):evC (Mw L) (d+1) W Y 62 [p16 g0] [] s=B21 L g0 (λa=>some (pS a,[],s)):=by refine(evE (fn:=aq7) (by kernel_rfl)).trans ?_;generalize evC (Mw L) d=Q;unfold B21;exact(j5 (by kernel_rfl) ((As3 L Q Y s (E1 0 (E0 (Mw L) Q Y (cd [1,1,1] Bx5) (F3 (Mw L) aq7))) L ([]:List UInt8) g0).trans (by kernel_rfl)))
noncomputable abbrev Py:Code:=C6 al9
noncomputable def Y8(L:Nat):Cfg:=B8 L [38] (A2 [(12,[1,0,0,0,2,0]),(6,[1,0,0,0,0,0]),(3,[1,0,0,0,0])]) [(62,Bv7)] (A2 [(20,[2]),(13,[1,1,0,2,0]),(19,[1,1,0,2,0]),(18,[1,1,0,2,0]),(17,[1,1,0,2,0,45]),(16,[1,1,0,2,0]),(15,[1,1,0,2,0]),(14,[1,1,0,2,0,29]),(12,[1,1,0,2,0,24]),(11,[1,1,0,2,0]),(10,[1,1,0,2]),(4,[1,1,0,0]),(9,[1,1,0,0]),(8,[1,1,0,0,0,22]),(7,[1,1,0,0,0]),(6,[1,1,0,0,0,17]),(5,[1,1,0,0,0]),(3,[1,1,0,0,4]),(2,[1,1,0,0]),(1,[1,1,0]),(0,[1])]) [62] (A2 [(4,[7]),(5,[1,1,0,2,0]),(0,[1,1,0]),(1,[1,1,0,0]),(2,[1,1,0,0,0]),(3,[1,1,0,0,0])]) (some [2]) [] [] []
noncomputable def Of{R:Type}(L n:Nat)(b a c d:Int)(e:LL)(f:Int->Int->Int->Int->LL->Option R):Option R:=match n with|0=>none|n+1=>cond (ltI (A1 (c+d)) (8:Int)) (cond (inR (A1 (c+d)) 8) (cond (okE ⟨true,false,[.int .u16]⟩ e (b8 (A1 (c+d))) 0) (vl (gE e (b8 (A1 (c+d))) 0) λg=>cond (g==0) (Of L n b a c (A1 (d+1)) e f) (f b a c d e)) none) none) (f b a c d e)
theorem Bo7(n b a c e d):D0 1 ((Y8 L).keep 6) (bd (Y8 L) Q Y (cd [1,1,0,1,0,0,1,0,0,1,0,0,0] Py)) n ⟨gp [(1,.ptr 0 0 0),(1,pI b),(0,pI a),(0,pI c),(0,pI e)] 57,[.arr false 32 1 d],s⟩ k =
 Of L n b a c e d (λb a c e d=>k (.exit 2) ⟨gp [(1,.ptr 0 0 0),(1,pI b),(0,pI a),(0,pI c),(0,pI e)] 57,[.arr false 32 1 d],s⟩):=by
 induction n generalizing b a c e d with
 | zero=>rfl
 | succ n f=>rw[Of];simp only[<-f];kernel_rfl
noncomputable def Kc{R:Type}(L n:Nat)(e b i:Int)(j:LL)(h:Int->Int->LL->Option R):Option R:=match n with|0=>none|n+1=>cond (ltI i 8) (Of L L e b i 0 j (λd a c g f=>cond (ltI a g) (Kc L n c g (A1 (c+1)) f h) (Kc L n d a (A1 (c+1)) f h))) (h e b j)
theorem Bo8(n b a i2 l3):D0 1 ((Y8 L).keep 3) (bd (Y8 L) Q Y (cd [1,1,0,1,0,0] Py)) n ⟨gp [(1,.ptr 0 0 0),(1,pI b),(0,pI a),(0,pI i2)] 58,[.arr false 32 1 l3],s⟩ k =
 Kc L n b a i2 l3 (λb a i=>k (.exit 0) ⟨gp [(1,.ptr 0 0 0),(1,pI b),(0,pI a)] 59,[.arr false 32 1 i],s⟩):=by
 induction n generalizing b a i2 l3 with
 | zero=>rfl
 | succ n h=>rw[Kc];exact(j5 (by kernel_rfl) (A0 ((Bo7 L Q Y s (E1 2 (E0 (Y8 L) Q Y (cd [1,1,0,1,0,0,1,0,0,1,1] Py) (E1 1 (E0 (Y8 L) Q Y (cd [1,1,0,1,0,0,1,1] Py) (lpK 1 ((Y8 L).keep 3) (bd (Y8 L) Q Y (cd [1,1,0,1,0,0] Py)) n k))))) L b a i2 0 l3).trans (congr rfl (fx5 λe c d g f=>(j5 (by kernel_rfl) (A0 (h d g (A1 (d+1)) f) (h e c (A1 (d+1)) f)))))) rfl))
noncomputable def U4{R:Type}(L n:Nat)(e a:Int)(d:By)(b:Int)(c:LL)(l:By->LL->Option R):Option R:=match n with|0=>none|n+1=>cond (ltI b 8) (cond (b==e) (cond (E8 d.length 2) (vl (d++[58,58]) λp=>vl (A1 (a-1)) λm=>vl (A1 ((A1 (b+m))+1)) λo=>U4 L n e a p o c l) none) (cond (not (d==[])) (vl (A1 ((d.length:Int)-1)) λf=>cond (inR f d.length) (cond ((bAt d f)!=58) (cond (E8 d.length 1) (vl (d++[58]) λg=>cond (inR b 8) (cond (okE ⟨true,false,[.int .u16]⟩ c (b8 b) 0) (cond (ltN (gE c (b8 b) 0) 65536) (vl (P9 (b8 (gE c (b8 b) 0))) λh=>cond (E8 g.length h.length) (U4 L n e a (g++h) (A1 (b+1)) c l) none) none) none) none) none) (cond (inR b 8) (cond (okE ⟨true,false,[.int .u16]⟩ c (b8 b) 0) (cond (ltN (gE c (b8 b) 0) 65536) (vl (P9 (b8 (gE c (b8 b) 0))) λi=>cond (E8 d.length i.length) (U4 L n e a (d++i) (A1 (b+1)) c l) none) none) none) none)) none) (cond (inR b 8) (cond (okE ⟨true,false,[.int .u16]⟩ c (b8 b) 0) (cond (ltN (gE c (b8 b) 0) 65536) (vl (P9 (b8 (gE c (b8 b) 0))) λj=>cond (E8 d.length j.length) (U4 L n e a (d++j) (A1 (b+1)) c l) none) none) none) none))) (l d c)
theorem Bo9(n at0 most1 s2 i3 l4):D0 1 ((Y8 L).keep 12) (bd (Y8 L) Q Y (cd [1,1,1,1,0,1,0,0] Py)) n ⟨gp [(1,.ptr 0 0 0),(1,pI at0),(0,pI most1),(2,pS s2),(0,pI i3)] 55,[.arr false 32 1 l4],s⟩ k =
 U4 L n at0 most1 s2 i3 l4 (λc b=>k (.exit 4) ⟨gp [(7,pS c)] 56,[.arr false 32 1 b],s⟩):=by
 induction n generalizing at0 most1 s2 i3 l4 with
 | zero=>rfl
 | succ n a=>rw[U4];simp only[<-a];kernel_rfl
noncomputable def Do8{R:Type}(L:Nat)(f g h i j l m n:Int)(o:By->LL->Option R):Option R:=Kc L L (-1) 1 0 [[(SV.int .u16 f)],[(SV.int .u16 g)],[(SV.int .u16 h)],[(SV.int .u16 i)],[(SV.int .u16 j)],[(SV.int .u16 l)],[(SV.int .u16 m)],[(SV.int .u16 n)]] (λb a e=>U4 L L b a ([]:List UInt8) 0 e (λd c=>o d c))
theorem Do9(d:Nat)(a0 a1 a2 a3 a4 a5 a6 a7):evC (Y8 L) (d+1) W Y 38 [.agg [p16 a0,p16 a1,p16 a2,p16 a3,p16 a4,p16 a5,p16 a6,p16 a7]] [] s=Do8 L a0 a1 a2 a3 a4 a5 a6 a7 (λf e=>some (pS f,[.arr false 32 1 e],s)):=by refine(evE (fn:=al9) (by kernel_rfl)).trans ?_;generalize evC (Y8 L) d=Q;unfold Do8;exact(j5 (by kernel_rfl) ((Bo8 L Q Y s (E1 0 (E0 (Y8 L) Q Y (cd [1,1,1] Py) (F3 (Y8 L) al9))) L (-1) 1 0 [[(SV.int .u16 a0)],[(SV.int .u16 a1)],[(SV.int .u16 a2)],[(SV.int .u16 a3)],[(SV.int .u16 a4)],[(SV.int .u16 a5)],[(SV.int .u16 a6)],[(SV.int .u16 a7)]]).trans (congr rfl (fx3 λb a c=>(j5 (by kernel_rfl) ((Bo9 L Q Y s (E1 4 (E0 (Y8 L) Q Y (cd [1,1,1,1,1] Py) (F3 (Y8 L) al9))) L b a ([]:List UInt8) 0 c).trans (by kernel_rfl)))))))
noncomputable def KV(L:Nat):Cfg:=B8 L [151] (A2 []) [] (A2 [(1,[2]),(0,[0])]) [] (A2 []) (some [2]) [] [] []
noncomputable def Ab1{R:Type}(L:Nat)(n0:Int)(a:Bool->Option R):Option R:=cond (not (ltI n0 0)) (cond (not (ltI 1114111 n0)) (cond (ltI n0 55296) (a true) (a (ltI 57343 n0))) (a false)) (a false)
theorem Cd4(d:Nat)(n0):evC (KV L) (d+1) W Y 151 [pI n0] [] s=Ab1 L n0 (λa=>some (pB a,[],s)):=by refine(evE (fn:=Tryz.f151) (by kernel_rfl)).trans ?_;generalize evC (KV L) d=Q;unfold Ab1;kernel_rfl
noncomputable abbrev Pw:Code:=C6 ak6
noncomputable def Y6(L:Nat):Cfg:=B8 L [153] (A2 [(6,[0,5,0])]) [] (A2 [(9,[6]),(8,[0,6]),(7,[0,6]),(6,[0,6,11]),(5,[0,6]),(4,[0]),(2,[0,0]),(3,[0,0]),(1,[0,0,6]),(0,[0,0,0])]) [] (A2 [(0,[0,6]),(1,[0,6])]) (some [6]) [] [] []
noncomputable def Hh{R:Type}(L n:Nat)(a b:Int)(e:Int->Int->Option R):Option R:=match n with|0=>none|n+1=>cond (ltI 455 a) (vl (A1 (aa2 a (35:Int))) λc=>vl (A1 (b+36)) λd=>Hh L n c d e) (e a b)
theorem Aa6(n a b):D0 0 ((Y6 L).keep 6) (bd (Y6 L) Q Y (cd [1,1,1,1,0,0,0] Pw)) n ⟨gp [(0,pI a),(6,pI b)] 23,[],s⟩ k =
 Hh L n a b (λa b=>k (.exit 0) ⟨gp [(0,pI a),(6,pI b)] 23,[],s⟩):=by
 induction n generalizing a b with
 | zero=>rfl
 | succ n c=>rw[Hh];simp only[<-c];kernel_rfl
noncomputable def Hg{R:Type}(L:Nat)(c b:Int)(i:Int->Option R):Option R:=cond (b !=0) (vl (A1 (aa2 c b)) λh=>Hh L L (A1 (c+h)) 0 (λa e=>vl (A1 ((36:Int)*a)) λf=>vl (A1 (a+38)) λd=>cond (d !=0) (vl (A1 (aa2 f d)) λg=>i (A1 (e+g))) none)) none
abbrev FJ(b:Code):Prop:=∀(k:Out->St W->Option R) delta0 count1,B3 (Y6 L) Q Y b ⟨gp [(0,pI delta0),(0,pI count1)] 29,[],s⟩ k=Hg L delta0 count1 (λn0=>k .ret ⟨gp [(6,pI n0)] 24,[],s⟩)
theorem Aa5:FJ (R:=R) L Q Y s (cd [1,1] Pw):=by intro k a b;unfold Hg;exact(j5 (by kernel_rfl) (A0 (A4 λc=>((Aa6 L Q Y s (E1 0 (E0 (Y6 L) Q Y (cd [1,1,1,1,1] Pw) k)) L (A1 (a+c)) 0).trans (by kernel_rfl))) rfl))
noncomputable def NJ{R:Type}(L:Nat)(b a:Int)(c:Bool)(h:Int->Option R):Option R:=cond c (vl (A1 (aa2 b (700:Int))) λf=>Hg L f a (λd=>h d)) (vl (A1 (aa2 b (2:Int))) λg=>Hg L g a (λe=>h e))
theorem Cb9(e:Code)(a:FJ (R:=PV × List Blk × W) L Q Y s e)(c b:Int)(d:Bool):B3 (Y6 L) Q Y (cd [] (G6 [1,1] e Pw)) ⟨[pI c,pI b,pB d]++tps 28,[],s⟩ (F3 (Y6 L) ak6)=NJ L c b d (λi=>some (pI i,[],s)):=by unfold NJ;exact let h:=(F3 (Y6 L) ak6);(j5 (by kernel_rfl) (A0 (A4 λf=>((a h f b).trans (by kernel_rfl))) (A4 λg=>((a h g b).trans (by kernel_rfl)))))
theorem Cc0(d:Nat)(delta0 count1 first2):evC (Y6 L) (d+1) W Y 153 [pI delta0,pI count1,pB first2] [] s=NJ L delta0 count1 first2 (λa=>some (pI a,[],s)):=
 (evE (fn:=ak6) (by kernel_rfl)).trans (j5 (by kernel_rfl) (Cb9 L (evC (Y6 L) d) Y s (cd [1,1] Pw) (Aa5 L (evC (Y6 L) d) Y s) delta0 count1 first2))
noncomputable def A59(L:Nat):Cfg:=B8 L [169] (A2 []) [] (A2 [(3,[2]),(2,[2]),(1,[0,3]),(0,[0])]) [] (A2 []) (some [2]) [] [] []
noncomputable def Dk8{R:Type}(L:Nat)(a:Int)(d:Int->Option R):Option R:=cond (ltI a 26) (vl (wu8 (A1 ((97:Int)+a))) λb=>d b) (vl (A1 ((A1 ((48:Int)+a))-26)) λc=>d (wu8 c))
theorem Dk9(d:Nat)(d0):evC (A59 L) (d+1) W Y 169 [pI d0] [] s=Dk8 L d0 (λa=>some (p8 a,[],s)):=by refine(evE (fn:=Tryz.f169) (by kernel_rfl)).trans ?_;generalize evC (A59 L) d=Q;unfold Dk8;kernel_rfl
noncomputable abbrev Un:Code:=C6 ak8
noncomputable def Ki(L:Nat):Cfg:=B8 L [179] (A2 []) [] (A2 [(7,[2]),(2,[2]),(4,[2]),(6,[2]),(5,[0,22]),(3,[0,12]),(1,[0,2]),(0,[0])]) [] (A2 [(0,[])]) (some [2]) [] [] []
noncomputable def Yx{R:Type}(a:Int)(g:Bool)(e:Int->Option R)(f:Int->Bool->Option R):Option R:=cond g (vl (A1 (wu8 (a-65))) λb=>e b) (cond (not (ltI a 48)) (cond (not (ltI 57 a)) (vl (A1 (wu8 (a-48))) λc=>vl (A1 (c+26)) λd=>e d) (f a (not (ltI 57 a)))) (f a false))
abbrev TD(b:Code):Prop:=∀(k:Out->St W->Option R) a c,B3 (Ki L) Q Y b ⟨gp [(0,p8 a),(12,pB c)] 20,[],s⟩ k=Yx a c (λn0=>k .ret ⟨gp [(2,pI n0)] 31,[],s⟩) (λa c=>k .normal ⟨gp [(0,p8 a),(22,pB c)] 10,[],s⟩)
theorem Bf9:TD (R:=R) L Q Y s (cd [1,0,0,1,1,1] Un):=by intro k a b;unfold Yx;kernel_rfl
noncomputable def Yy{R:Type}(a:Int)(l:Bool)(f:Int->Option R)(j:Int->Bool->Option R):Option R:=cond l (vl (A1 (wu8 (a-97))) λg=>f g) (cond (not (ltI a 65)) (Yx a (not (ltI 90 a)) (λh=>f h) (λb c=>j b c)) (Yx a false (λi=>f i) (λd e=>j d e)))
abbrev DP(b:Code):Prop:=∀(k:Out->St W->Option R) a c,B3 (Ki L) Q Y b ⟨gp [(0,p8 a),(2,pB c)] 30,[],s⟩ k=Yy a c (λn0=>k .ret ⟨gp [(2,pI n0)] 31,[],s⟩) (λa c=>k .normal ⟨gp [(0,p8 a),(22,pB c)] 10,[],s⟩)
theorem Bg0(a:Code)(b:TD (R:=R) L Q Y s a):DP (R:=R) L Q Y s (cd [1,0,0,1] (G6 [1,0,0,1,1,1] a Un)):=by intro k c d;unfold Yy;simp only[<-b k];kernel_rfl
theorem Bg1:DP (R:=R) L Q Y s (cd [1,0,0,1] Un):=by intro k a b;exact j5 (by kernel_rfl) (Bg0 L Q Y s (cd [1,0,0,1,1,1] Un) (Bf9 L Q Y s) k a b)
noncomputable def Cz7{R:Type}(L:Nat)(c:Int)(d:Int->Option R):Option R:=cond (not (ltI c 97)) (Yy c (not (ltI 122 c)) (λa=>d a) (λe f=>d (-1))) (Yy c false (λb=>d b) (λg h=>d (-1)))
theorem Dl9(b:Code)(a:DP (R:=PV × List Blk × W) L Q Y s b)(c:Int):B3 (Ki L) Q Y (cd [] (G6 [1,0,0,1] b Un)) ⟨[p8 c]++tps 33,[],s⟩ (F3 (Ki L) ak8)=Cz7 L c (λe=>some (pI e,[],s)):=by unfold Cz7;exact let d:=(E1 0 (E0 (Ki L) Q Y (cd [1,1] Un) (F3 (Ki L) ak8)));(j5 (by kernel_rfl) (A0 ((a d c (not (ltI 122 c))).trans (by kernel_rfl)) ((a d c false).trans (by kernel_rfl))))
theorem Dm0(d:Nat)(b0):evC (Ki L) (d+1) W Y 179 [p8 b0] [] s=Cz7 L b0 (λa=>some (pI a,[],s)):=
 (evE (fn:=ak8) (by kernel_rfl)).trans (j5 (by kernel_rfl) (Dl9 L (evC (Ki L) d) Y s (cd [1,0,0,1] Un) (Bg1 L (evC (Ki L) d) Y s) b0))
end
theorem D90(a b:Nat)(c:a<65536)(d:b<65536):bOr .u16 (a:Int) (b:Int)=((a ||| b:Nat):Int):=by
 unfold bOr;rw[show ac5 .u16=16 from rfl,Dz4 16 a b (by omega) (by omega)];have:a ||| b<2 ^ 16:=ag4 (by omega) (by omega)
 exact Kx
theorem Ea7(a m:Nat)(h:a*2 ^ m<65536)(b:m<=16):Tc .u16 (a:Int) (m:Int)=((a*2 ^ m:Nat):Int):=by
 unfold Tc;rw[j4,show ac5 .u16=16 from rfl,af0 b];have:(a:Int)*2 ^ m=((a*2 ^ m:Nat):Int):=by simp
 rw[this];exact Kx
theorem Bq8(v d:Nat)(b:v<4096)(a:d<16):bOr .u16 (Tc .u16 (v:Int) 4) (d:Int)=((v*16+d:Nat):Int):=by have:=Ea7 v 4 (by omega) (by omega);rw[show((4:Nat):Int)=4 from rfl] at this;rw[this,D90 _ _ (by omega) (by omega),HJ v d 4 (by omega)]
theorem Cu0{R:Type}{c:Unit->Option R}{f:Int->Option R}(s:By)(B:s.length<=4):∀(r i v n:Nat),i+r=s.length->r<n->v<16 ^ i->
  Gc LF n s (v:Int) (s.length:Int) (i:Int) c f=match Ak v (s.drop i) with|some w=>f (w:Int)|none=>c ():=by
 intro r
 induction r with
 | zero=>
  intro i v n l o p;obtain⟨n,rfl⟩:∃m,n=m+1:=⟨n-1,by omega⟩
  rw[Gc];rw[A6,j9 (by omega)];rfl
 | succ r q=>
  intro i v n l o p;obtain⟨n,rfl⟩:∃m,n=m+1:=⟨n-1,by omega⟩
  rw[Gc,D6 s i (by omega)];rw[D4];have k:=(s.getD i 0).toNat_lt;generalize s.getD i 0=b at *;have j:((i:Int)+1)=((i+1:Nat):Int):=by omega
  have A:16 ^ i<=4096:=by
   have:i=0\/i=1\/i=2\/i=3:=by omega
   rcases this with rfl|rfl|rfl|rfl<;>decide
  simp (disch:=omega) only[B9,K7,cond_true,vl,D1,Xv,Xu,Xt];rw[j];simp only[Ak];have go:∀d:Nat,d<16->Gc LF n s ((v*16+d:Nat):Int) (s.length:Int) ((i+1:Nat):Int) c f=match Ak (v*16+d) (s.drop (i+1)) with|some w=>f (w:Int)|none=>c ():=
   λd z=>q (i+1) _ n (by omega) (by omega) (by rw[x7];omega)
  rcases Dq b with⟨g,h,e⟩|⟨g,h,e⟩|⟨g,h,e⟩|⟨g,h,y,e⟩
  ·have a:Em (wu8 ((b.toNat:Int)-48))=((dig b:Nat):Int):=by rw[N6,Kx];omega
   simp (disch:=omega) only[B9,E6,j7,j6,cond_false,cond_true,a,Bq8,if_pos (show dig b<16 by omega)];exact go _ (by omega)
  ·have a:Em (wu8 (wu8 ((b.toNat:Int)-97)+10))=((dig b:Nat):Int):=by rw[Af6 (n:=(b.toNat:Int)-97) (by omega) (by omega),N6,Kx];omega
   simp (disch:=omega) only[B9,E6,j7,j6,cond_false,cond_true,a,Bq8,if_pos (show dig b<16 by omega)];exact go _ (by omega)
  ·have a:Em (wu8 (wu8 ((b.toNat:Int)-65)+10))=((dig b:Nat):Int):=by rw[Af6 (n:=(b.toNat:Int)-65) (by omega) (by omega),N6,Kx];omega
   simp (disch:=omega) only[B9,E6,j7,j6,cond_false,cond_true,a,Bq8,if_pos (show dig b<16 by omega)];exact go _ (by omega)
  ·rw[if_neg (show ¬dig b<16 by omega)];by_cases t:b.toNat<48
   ·simp (disch:=omega) only[B9,E6,j7,j6,cond_false,cond_true]
   ·by_cases u:b.toNat<65
    ·simp (disch:=omega) only[B9,E6,j7,j6,cond_false,cond_true]
    ·by_cases x:b.toNat<97
     ·simp (disch:=omega) only[B9,E6,j7,j6,cond_false,cond_true]
     ·simp (disch:=omega) only[B9,E6,j7,j6,cond_false,cond_true]
theorem B78{R:Type}{c:Int->Bool->Option R}(s:By)(d:A3 s.length=true):Cu2 LF s c=c (O4 (grp s):Int) (grp s).isSome:=by
 have:=C5;unfold Cu2 grp;by_cases a:s=[]
 ·subst a;rfl
 ·rw[show(s==([]:By))=false from beq_eq_false_iff_ne.2 a];by_cases b:4<s.length
  ·rw[A9,if_pos (.inr b)];rfl
  ·rw[A6,if_neg (by intro h;rcases h with h|h;exact a h;exact b h)];refine j5 (Cu0 s (by omega) s.length 0 0 LF (by omega) (by omega) (by decide)) ?_;rw[p7];cases Ak 0 s<;>rfl
theorem Am3:∀(s:By) (v w m:Nat),v<16 ^ m->Ak v s=some w->w<16 ^ (m+s.length)
 | [],v,w,m,a,h=>by simp only[Ak,p5] at h;subst h;simpa using a
 | b::r,v,w,m,a,h=>by
  simp only[Ak] at h;split at h
  ·have:=Am3 r (v*16+dig b) w (m+1) (by rw[x7];omega) h;grind
  ·cases h
theorem Cu1{s:By}{v:Nat}(h:grp s=some v):v<65536:=by
 unfold grp at h;split at h
 ·cases h
 ·rename_i a;have:=Am3 s 0 v 0 (by decide) h;have b:s.length<=4:=by omega
  have:16 ^ (0+s.length)<=16 ^ 4:=Nat.pow_le_pow_right (by omega) (by omega);omega
theorem Ce6{R:Type}{c:Unit->Option R}{f:Int->Option R}(s:By)(B:s.length<=4):∀(r i v n:Nat),i+r=s.length->r<n->v<16 ^ i->
  Gl LF n s (v:Int) (i:Int) c f=match Ak v (s.drop i) with|some w=>f (w:Int)|none=>c ():=by
 intro r
 induction r with
 | zero=>
  intro i v n l o p;obtain⟨n,rfl⟩:∃m,n=m+1:=⟨n-1,by omega⟩
  rw[Gl];rw[A6,j9 (by omega)];rfl
 | succ r q=>
  intro i v n l o p;obtain⟨n,rfl⟩:∃m,n=m+1:=⟨n-1,by omega⟩
  rw[Gl,D6 s i (by omega)];rw[D4];have k:=(s.getD i 0).toNat_lt;generalize s.getD i 0=b at *;have j:((i:Int)+1)=((i+1:Nat):Int):=by omega
  have A:16 ^ i<=4096:=by
   have:i=0\/i=1\/i=2\/i=3:=by omega
   rcases this with rfl|rfl|rfl|rfl<;>decide
  simp (disch:=omega) only[B9,K7,cond_true,vl,D1,Ze,Zd,Zc];rw[j];simp only[Ak];have go:∀d:Nat,d<16->Gl LF n s ((v*16+d:Nat):Int) ((i+1:Nat):Int) c f=match Ak (v*16+d) (s.drop (i+1)) with|some w=>f (w:Int)|none=>c ():=
   λd z=>q (i+1) _ n (by omega) (by omega) (by rw[x7];omega)
  rcases Dq b with⟨g,h,e⟩|⟨g,h,e⟩|⟨g,h,e⟩|⟨g,h,y,e⟩
  ·have a:wu8 ((b.toNat:Int)-48)=(b.toNat:Int)-48:=N6;simp (disch:=omega) only[B9,E6,j7,j6,cond_false,cond_true,a,D1,if_pos (show dig b<16 by omega)];rw[show(v:Int)*16+((b.toNat:Int)-48)=((v*16+dig b:Nat):Int) by omega];exact go _ (by omega)
  ·have a:wu8 ((b.toNat:Int)-97)=(b.toNat:Int)-97:=N6;simp (disch:=omega) only[B9,E6,j7,j6,cond_false,cond_true,a,D1,if_pos (show dig b<16 by omega)];rw[show(v:Int)*16+((b.toNat:Int)-97)+10=((v*16+dig b:Nat):Int) by omega];exact go _ (by omega)
  ·have a:wu8 ((b.toNat:Int)-65)=(b.toNat:Int)-65:=N6;simp (disch:=omega) only[B9,E6,j7,j6,cond_false,cond_true,a,D1,if_pos (show dig b<16 by omega)];rw[show(v:Int)*16+((b.toNat:Int)-65)+10=((v*16+dig b:Nat):Int) by omega];exact go _ (by omega)
  ·rw[if_neg (show ¬dig b<16 by omega)];by_cases t:b.toNat<48
   ·simp (disch:=omega) only[B9,E6,j7,j6,cond_false,cond_true]
   ·by_cases u:b.toNat<65
    ·simp (disch:=omega) only[B9,E6,j7,j6,cond_false,cond_true]
    ·by_cases x:b.toNat<97
     ·simp (disch:=omega) only[B9,E6,j7,j6,cond_false,cond_true]
     ·simp (disch:=omega) only[B9,E6,j7,j6,cond_false,cond_true]
theorem Ce7{R:Type}{b:Int->Bool->Option R}(s:By)(f:A3 s.length=true):C08 LF s b=b (O4 (grp s):Int) (grp s).isSome:=by
 have:=C5;unfold C08;by_cases a:s=[]
 ·subst a;rfl
 ·have g:0<s.length:=ad8.2 a;rw[A6];by_cases c:4<s.length
  ·rw[A9];unfold grp;rw[if_pos (.inr c)];rfl
  ·rw[A6];refine j5 (Ce6 s (by omega) s.length 0 0 LF (by omega) (by omega) (by decide)) ?_;have e:grp s=Ak 0 s:=by
    unfold grp;grind
   rw[p7,<-e];cases d:grp s with
   | none=>rfl
   | some w=>
    have:=Cu1 d;simp only[O4,o9,o8];rw[Kx]
theorem H9(l:List Nat):(D3 l).length=l.length:=by simp[D3]
theorem Mi(a b:List Nat):D3 (a++b)=D3 a++D3 b:=by simp[D3]
theorem AG(l:List Nat):(D3 l).isEmpty=l.isEmpty:=by cases l<;>rfl
theorem Np{l:List Nat}{i:Nat}(h:i<l.length):okE ⟨true,false,[.int .u16]⟩ (D3 l) i 0=true:=by unfold okE D3;simp[k9,h,okS,SV.has]
theorem Vi(l:List Nat)(i:Nat):gE (D3 l) i 0=(l.getD i 0:Int):=by
 unfold gE gC D3;by_cases h:i<l.length
 ·simp[k9,o7 h,SV.gI]
 ·simp[k9,List.getElem?_eq_none (show l.length<=i by omega),SV.gI]
theorem Ll:∀(last:Bool) (l:List By) (r:List Nat),Db last l=some r->r.length<=2*l.length
 | last,[],r,h=>by simp only[Db,p5] at h;subst h;simp
 | last,x::l,r,h=>by
  simp only[Db] at h;split at h
  ·cases a:Db last l with
   | none=>simp[a] at h
   | some q=>
    simp only[a,ad9,p5] at h;subst h;have:=Ll last l q a;grind
  grind
theorem Bs5{s:By}{v:Nat}(h:v4B s=some v):v<4294967296:=by
 unfold v4B at h;split at h
 ·rename_i a;have:=B10 (pcs 46 s) 0 v 0 (by decide) h;grind
 ·cases h
theorem By6:∀(last:Bool) (l:List By) (r:List Nat),Db last l=some r->∀x∈r,x<65536
 | last,[],r,h,x,a=>by simp only[Db,p5] at h;subst h;simp at a
 | last,y::l,r,h,x,a=>by
  simp only[Db] at h;split at h
  ·rename_i v c;cases b:Db last l with
   | none=>simp[b] at h
   | some q=>
    simp only[b,ad9,p5] at h;subst h;rcases an1.1 a with rfl|a
    ·exact Cu1 c
    ·exact By6 last l q b x a
  ·split at h
   ·rename_i v c;split at h
    ·simp only[p5] at h;subst h;have:=Bs5 c;grind
    grind
   ·cases h
theorem A97{R:Type}{k0:LL->Option R}{k1:LL->Option R}(last:Bool)(l:List By)(C:l.length<=1000000001)(w:∀x∈l,x.length<=1000000000):∀(r i n:Nat) (d:List Nat),i+r=l.length->r<n->d.length<=2*i->
  (∀q,Db last (l.drop i)=some q->Fb LF n last (D2 l) (l.length:Int) (i:Int) (D3 d) k0 k1=k1 (D3 (d++q)))/\
  (Db last (l.drop i)=none->∃k,Fb LF n last (D2 l) (l.length:Int) (i:Int) (D3 d) k0 k1=k0 k):=by
 intro r
 induction r with
 | zero=>
  intro i n d u y t;obtain⟨n,rfl⟩:∃m,n=m+1:=⟨n-1,by omega⟩
  rw[Fb,j9 (by omega)];rw[A6];refine⟨λq a=>?_,λh=>(by cases h)⟩;simp only[Db,p5] at a;subst a;simp
 | succ r B=>
  intro i n d u y t;obtain⟨n,rfl⟩:∃m,n=m+1:=⟨n-1,by omega⟩
  rw[Fb,Kq l i (by omega)];have G:=w _ (SY (show i<l.length by omega));have f:((i:Int)+1)=((i+1:Nat):Int):=by omega
  simp (disch:=omega) only[B9,E3,K7,cond_true,j4,Q2,U1,E7,vl,H9,F9,D1];rw[f];simp only[Db];cases D:grp (l.getD i []) with
  | some v=>
   simp only[o8,cond_true,O4,o9];have c:D3 d++[[SV.int .u16 (v:Int)]]=D3 (d++[v]):=by rw[Mi];rfl
   rw[c];have:=B (i+1) n (d++[v]) (by omega) (by omega) (by simp<;>omega);refine⟨λq a=>?_,λh=>?_⟩
   ·cases b:Db last (l.drop (i+1)) with
    | none=>simp[b] at a
    | some j=>
     simp only[b,ad9,p5] at a;subst a;rw[this.1 j b];simp
   ·cases b:Db last (l.drop (i+1)) with
    | none=>exact this.2 b
    | some j=>simp[b] at h
  | none=>
   simp only[ae0,cond_false];cases z:v4B (l.getD i []) with
   | none=>
    simp only[ae0,j6,cond_true];exact⟨λq a=>(by cases a),λ_=>⟨_,rfl⟩⟩
   | some v=>
    have A:=Bs5 z;simp only[o8,j7,cond_false,O4,o9];cases last with
    | false=>
     simp only[j6,cond_true,p9,false_and,if_false];exact⟨λq a=>(by cases a),λ_=>⟨_,rfl⟩⟩
    | true=>
     simp only[j7,cond_false,true_and];by_cases F:r=0
     ·have e:l.drop (i+1)=[]:=j9 (by omega);rw[A6,e,if_pos rfl,show(16:Int)=((16:Nat):Int) from rfl,Sv .u32 v 16 (by decide)];refine⟨λq a=>?_,λh=>(by cases h)⟩;simp only[p5] at a;subst a;have o:Em ((v / 2 ^ 16:Nat):Int)=((v / 65536:Nat):Int):=Kx;have p:Em (v:Int)=((v % 65536:Nat):Int):=A01 v;rw[o,p,Mi];rfl
     ·have g:l.drop (i+1)≠[]:=by
       rw[Kq l (i+1) (by omega)];simp
      rw[A9,if_neg g];exact⟨λq a=>(by cases a),λ_=>⟨_,rfl⟩⟩
theorem Af(c:UInt8){s:By}(a:s.length<=1000000000):(pcs c s).length<=1000000001:=by have:=Jv c s;grind
theorem A98(s:By)(last:Bool)(f:A3 s.length=true):∃r H,By7 LF s last (λl=>rv (.tup [.fl 0,.s (.bool true)]) [.arr true 31 1 l]) (λl=>rv (.tup [.fl 1,.s (.bool false)]) [.arr true 31 1 l,.arr true 31 1 []])=rv r H/\
  r.stab [1,0] H = .tup [.s (.sl (gvs s last).isEmpty (gvs s last).isEmpty 1 (D3 (gvs s last))),.s (.bool (P6 s last).isSome)]:=by
 have d:=L4 f;have:=C5;unfold By7 gvs P6;by_cases c:s=[]
 ·subst c;exact⟨_,_,rfl,rfl⟩
 ·rw[show(s==([]:By))=false from beq_eq_false_iff_ne.2 c,f,if_neg c];simp only[cond_false,cond_true,vl,aa8,E3,show((1:Nat)==1)=true from rfl];obtain⟨a,b⟩:=A97 (k0:=λl=>rv (.tup [.fl 1,.s (.bool false)]) [.arr true 31 1 l,.arr true 31 1 []]) (k1:=λl=>rv (.tup [.fl 0,.s (.bool true)]) [.arr true 31 1 l]) last (pcs 58 s) (Af 58 d) (λx h=>ad5 (Cr h).2 d) (pcs 58 s).length 0 LF [] (by omega) (by have:=Af 58 d;omega) (by simp);rw[p7] at a b;cases g:Db last (pcs 58 s) with
  | some q=>
   refine⟨_,_,a q g,?_⟩;simp[PV.stab,Qi,Sz,PV.snap,N5,AG]
  | none=>
   obtain⟨i,e⟩:=b g;refine⟨_,_,e,?_⟩;simp[PV.stab,Qi,Sz,PV.snap,N5,D3]
theorem MA:∀(s:By) (v:Nat) (b:UInt8),b∈s->16<=dig b->Ak v s=none
 | c::r,v,b,h,a=>by
  simp only[Ak];rcases an1.1 h with rfl|h
  ·grind
  ·split
   ·exact MA r _ b h a
   ·rfl
theorem Bs6{s:By}{v:Nat}(h:v4B s=some v):grp s=none:=by
 unfold v4B at h;split at h
 ·rename_i a;have b:(46:UInt8)∈s:=by
   apply ag1;intro c;rw[Lv c] at a;simp at a
  unfold grp;split
  ·rfl
  ·exact MA s 0 46 b (by decide)
 ·cases h
theorem Bj0{R:Type}{k0:LL->Option R}{k1:LL->Option R}(last:Bool)(l:List By)(I:l.length<=1000000001)(D:∀x∈l,x.length<=1000000000):∀(r i n:Nat) (d:List Nat),i+r=l.length->r<n->d.length<=2*i->
  (∀q,Db last (l.drop i)=some q->R9 LF n last (D2 l) (i:Int) (D3 d) k0 k1=k1 (D3 (d++q)))/\
  (Db last (l.drop i)=none->∃k,R9 LF n last (D2 l) (i:Int) (D3 d) k0 k1=k0 k):=by
 intro r
 induction r with
 | zero=>
  intro i n d C F B;obtain⟨n,rfl⟩:∃m,n=m+1:=⟨n-1,by omega⟩
  rw[R9,j9 (by omega)];rw[E3,A6];refine⟨λq a=>?_,λh=>(by cases h)⟩;simp only[Db,p5] at a;subst a;simp
 | succ r y=>
  intro i n d C F B;obtain⟨n,rfl⟩:∃m,n=m+1:=⟨n-1,by omega⟩
  rw[R9,Kq l i (by omega)];have L:=D _ (SY (show i<l.length by omega));have t:((i:Int)+1)=((i+1:Nat):Int):=by omega
  have w:A1 ((l.length:Int)-1)=((l.length-1:Nat):Int):=by rw[A7];omega
  simp (disch:=omega) only[B9,E3,K7,cond_true,j4,Q2,U1,E7,vl,Lw,Lx,H9,F9,D1,cond_false];rw[t];simp only[Db];have e:∀(f:v4B (l.getD i [])=none\/(last=false\/l.drop (i+1)≠[])),
    (∀q,(match grp (l.getD i []) with|some v=>(Db last (l.drop (i+1))).map (v::·)|none=>match v4B (l.getD i []) with|some v=>if last=true/\l.drop (i+1)=[] then some [v / 65536,v % 65536] else none|none=>none)=some q->
     (cond (!(grp (l.getD i [])).isSome) (k0 (D3 d)) (R9 LF n last (D2 l) ((i+1:Nat):Int) (D3 d++[[SV.int .u16 (O4 (grp (l.getD i [])):Int)]]) k0 k1))=k1 (D3 (d++q)))/\
    ((match grp (l.getD i []) with|some v=>(Db last (l.drop (i+1))).map (v::·)|none=>match v4B (l.getD i []) with|some v=>if last=true/\l.drop (i+1)=[] then some [v / 65536,v % 65536] else none|none=>none)=none->
     ∃k,(cond (!(grp (l.getD i [])).isSome) (k0 (D3 d)) (R9 LF n last (D2 l) ((i+1:Nat):Int) (D3 d++[[SV.int .u16 (O4 (grp (l.getD i [])):Int)]]) k0 k1))=k0 k):=by
   intro f;cases J:grp (l.getD i []) with
   | some v=>
    simp only[o8,j7,cond_false,O4,o9];have c:D3 d++[[SV.int .u16 (v:Int)]]=D3 (d++[v]):=by rw[Mi];rfl
    rw[c];have:=y (i+1) n (d++[v]) (by omega) (by omega) (by simp<;>omega);refine⟨λq a=>?_,λh=>?_⟩
    ·cases b:Db last (l.drop (i+1)) with
     | none=>simp[b] at a
     | some z=>
      simp only[b,ad9,p5] at a;subst a;rw[this.1 z b];simp
    ·cases b:Db last (l.drop (i+1)) with
     | none=>exact this.2 b
     | some z=>simp[b] at h
   | none=>
    simp only[ae0,j6,cond_true];refine⟨λq a=>?_,λ_=>⟨_,rfl⟩⟩;exfalso;cases g:v4B (l.getD i []) with
    | none=>rw[g] at a;cases a
    | some v=>
     rw[g] at a;rcases f with h|h|h
     ·rw[g] at h;cases h
     ·simp only[h,p9,false_and,if_false] at a;cases a
     ·simp only[if_neg (λhc:last=true/\l.drop (i+1)=[]=>h hc.2)] at a;cases a
  cases f:v4B (l.getD i []) with
  | none=>
   simp only[ae0,cond_false];have:=e (.inl f);simp only[f] at this;exact this
  | some v=>
   have H:=Bs5 f;have p:=Bs6 f;simp only[o8,cond_true,O4,o9];cases last with
   | false=>
    simp only[cond_false];have:=e (.inr (.inl rfl));simp only[f,O4] at this;exact this
   | true=>
    simp only[cond_true];by_cases K:r=0
    ·have j:l.drop (i+1)=[]:=j9 (by omega);have o:((i:Int)==(l.length:Int)-1)=true:=by rw[beq_iff_eq];omega
     rw[o,p,j];simp only[cond_true,and_self,if_true,p5];refine⟨λq a=>?_,λh=>(by cases h)⟩;subst a;rw[show(16:Int)=((16:Nat):Int) from rfl,Sv .u32 v 16 (by decide)];have w:Em ((v / 2 ^ 16:Nat):Int)=((v / 65536:Nat):Int):=Kx;have A:Em (v:Int)=((v % 65536:Nat):Int):=A01 v;rw[w,A];have c:D3 d++[[SV.int .u16 ((v / 65536:Nat):Int)],[SV.int .u16 ((v % 65536:Nat):Int)]]=D3 (d++[v / 65536,v % 65536]):=by rw[Mi];rfl
     rw[c];have G:0<n:=by omega
     exact(y (i+1) n (d++[v / 65536,v % 65536]) (by omega) (by omega) (by simp<;>omega)).1 [] (by rw[j];rfl) |>.trans (by simp)
    ·have u:l.drop (i+1)≠[]:=by
      rw[Kq l (i+1) (by omega)];simp
     have o:((i:Int)==(l.length:Int)-1)=false:=by rw[beq_eq_false_iff_ne];omega
     rw[o];simp only[cond_false];have:=e (.inr (.inr u));simp only[f,O4] at this;exact this
theorem Bj1(s:By)(last:Bool)(f:A3 s.length=true):∃r H,Ar8 LF s last (λl=>rv (.tup [.fl 0,.s (.bool true)]) [.arr true 31 1 l]) (λl=>rv (.tup [.fl 1,.s (.bool false)]) [.arr true 31 1 l,.arr true 31 1 []])=rv r H/\
  r.stab [1,0] H = .tup [.s (.sl (gvs s last).isEmpty (gvs s last).isEmpty 1 (D3 (gvs s last))),.s (.bool (P6 s last).isSome)]:=by
 have d:=L4 f;have:=C5;unfold Ar8 gvs P6;by_cases c:s=[]
 ·subst c;exact⟨_,_,rfl,rfl⟩
 ·rw[show(s==([]:By))=false from beq_eq_false_iff_ne.2 c,f,if_neg c];simp only[cond_false,cond_true,vl,show u8n 58=58 from rfl];obtain⟨a,b⟩:=Bj0 (k0:=λl=>rv (.tup [.fl 1,.s (.bool false)]) [.arr true 31 1 l,.arr true 31 1 []]) (k1:=λl=>rv (.tup [.fl 0,.s (.bool true)]) [.arr true 31 1 l]) last (pcs 58 s) (Af 58 d) (λx h=>ad5 (Cr h).2 d) (pcs 58 s).length 0 LF [] (by omega) (by have:=Af 58 d;omega) (by simp);rw[p7] at a b;cases g:Db last (pcs 58 s) with
  | some q=>
   refine⟨_,_,a q g,?_⟩;simp[PV.stab,Qi,Sz,PV.snap,N5,AG]
  | none=>
   obtain⟨i,e⟩:=b g;refine⟨_,_,e,?_⟩;simp[PV.stab,Qi,Sz,PV.snap,N5,D3]
theorem Di4{j:Type}{W:List j}(h:W.length=8):∃a b c d e f g i,W=[a,b,c,d,e,f,g,i]:=by
 match W,h with
 | [a,b,c,d,e,f,g,i],_=>exact⟨a,b,c,d,e,f,g,i,rfl⟩
def r8(n:Nat):LL:=a8 n [SV.int .u16 0]
theorem Bg2(n:Nat):r8 n=D3 (a8 n 0):=by simp[r8,D3]
theorem MD{s:By}{last:Bool}{q:List Nat}(h:P6 s last=some q):gvs s last=q:=by unfold gvs;rw[h];rfl
theorem Dd8(s:By):(w8 s [58,58]).1.length<=s.length/\(w8 s [58,58]).2.1.length<=s.length:=by unfold w8;grind
theorem B39{R:Type}{K:LL->LL->Option R}(X Y:List Nat)(h:X.length+Y.length<=8) :
  Rk (D3 X) (D3 Y) (r8 8) K=K (D3 (X++a8 (8-X.length-Y.length) 0++Y)) (D3 (X++a8 (8-X.length-Y.length) 0++Y)):=by
 unfold Rk;have n:(x8 0 (r8 8)++(x8 8 (D3 X)++ae1 (0+min (D3 X).length 8) (r8 8)))=D3 (X++a8 (8-X.length) 0):=by
  rw[H9,af0 (show X.length<=8 by omega),p6 (l:=D3 X) (i:=8) (by rw[H9];omega),Mi,af4,Bg2,ac1,y5];unfold D3;rw[<-am9,List.drop_replicate]
 have m:A1 (8-(Y.length:Int))=((8-Y.length:Nat):Int):=by rw[A7];omega
 have o:(D3 (X++a8 (8-X.length) 0)).length=8:=by simp[H9]<;>omega
 have j:(x8 (8-Y.length) (D3 (X++a8 (8-X.length) 0))++(x8 (8-(8-Y.length)) (D3 Y)++ae1 (8-Y.length+min Y.length (8-(8-Y.length))) (D3 (X++a8 (8-X.length) 0))))=D3 (X++a8 (8-X.length-Y.length) 0++Y):=by
  rw[j9 (by rw[o];omega),p6 (l:=D3 Y) (by rw[H9];omega),Mi (X++_) Y,aa5]
  congr 1
  unfold D3;rw[<-an0,List.take_append,p6 (by omega),List.take_replicate];grind
 have k:(X++a8 (8-X.length-Y.length) 0++Y).length=8:=by simp<;>omega
 simp only[vl];rw[n];simp only[H9,m,j4];rw[j];simp only[H9];rw[show(r8 8).length=8 from rfl,show o0 (X++a8 (8-X.length) (0:Nat))=8 by simp<;>omega,I4,decide_eq_true (show 8-Y.length+(8-(8-Y.length))<=8 by omega)];simp only[decide_true,cond_true,Nat.le_refl,k];generalize (X++a8 (8-X.length-Y.length) 0++Y)=W at *;obtain⟨a,b,c,d,e,f,g,i,rfl⟩:=Di4 k;rfl
theorem C84{R:Type}{k0:Int->Int->Int->Int->Int->Int->Int->Int->Bool->LL->LL->Option R}(s:By)(r:A3 s.length=true) :
  ∃l q,v6p LF s k0=k0 (v6c 0 s) (v6c 1 s) (v6c 2 s) (v6c 3 s) (v6c 4 s) (v6c 5 s) (v6c 6 s) (v6c 7 s) (v6B s).isSome l q:=by
 have C:=L4 r;have w:=Dd8 s;unfold v6p v6c;rw[r];have bad:∀(h:v6B s=none),k0 0 0 0 0 0 0 0 0 false (r8 8) (r8 8)=k0 ((((v6B s).getD z8).getD 0 0:Nat):Int) ((((v6B s).getD z8).getD 1 0:Nat):Int) ((((v6B s).getD z8).getD 2 0:Nat):Int) ((((v6B s).getD z8).getD 3 0:Nat):Int) ((((v6B s).getD z8).getD 4 0:Nat):Int) ((((v6B s).getD z8).getD 5 0:Nat):Int) ((((v6B s).getD z8).getD 6 0:Nat):Int) ((((v6B s).getD z8).getD 7 0:Nat):Int) (v6B s).isSome (r8 8) (r8 8):=by
  intro h;rw[h];rfl
 simp (disch:=omega) only[cond_true,vl,E7];have j:v6B s=match P6 (w8 s [58,58]).1 (!(w8 s [58,58]).2.2),P6 (w8 s [58,58]).2.1 true with
  | some x,some y=>if (w8 s [58,58]).2.2 then (if x.length+y.length<=7 then some (x++a8 (8-x.length-y.length) 0++y) else none)
   else if x.length+y.length=8 then some (x++y) else none
  | _,_=>none:=rfl
 generalize (w8 s [58,58]).1=A at *;generalize (w8 s [58,58]).2.1=B at *;generalize (w8 s [58,58]).2.2=o at *;cases k:P6 A (!o) with
 | none=>exact⟨_,_,bad (by rw[j,k])⟩
 | some X=>
  cases m:P6 B true with
  | none=>exact⟨_,_,bad (by rw[j,k,m])⟩
  | some Y=>
   have u:X.length<=2000000002:=by
    unfold P6 at k;split at k
    ·grind
    ·have:=Ll _ _ _ k;have:=Af 58 (s:=A) (by omega);omega
   have v:Y.length<=2000000002:=by
    unfold P6 at m;split at m
    ·grind
    ·have:=Ll _ _ _ m;have:=Af 58 (s:=B) (by omega);omega
   rw[k,m] at j;simp only[MD k,MD m,H9,o8,j7,cond_false];rw[A7];have n:∀(W:List Nat),W.length=8->v6B s=some W->∃l q,(cond ((decide (8=(D3 W).length*1))&&(okS ⟨true,true,[.int .u16,.int .u16,.int .u16,.int .u16,.int .u16,.int .u16,.int .u16,.int .u16]⟩ (b9 (D3 W)) 0))
     (k0 (SV.gI (j2 (b9 (D3 W)) 0 SV.nilp)) (SV.gI (j2 (b9 (D3 W)) 1 SV.nilp)) (SV.gI (j2 (b9 (D3 W)) 2 SV.nilp)) (SV.gI (j2 (b9 (D3 W)) 3 SV.nilp)) (SV.gI (j2 (b9 (D3 W)) 4 SV.nilp)) (SV.gI (j2 (b9 (D3 W)) 5 SV.nilp)) (SV.gI (j2 (b9 (D3 W)) 6 SV.nilp)) (SV.gI (j2 (b9 (D3 W)) 7 SV.nilp)) true (D3 W) (D3 W)) none) =
     k0 ((((v6B s).getD z8).getD 0 0:Nat):Int) ((((v6B s).getD z8).getD 1 0:Nat):Int) ((((v6B s).getD z8).getD 2 0:Nat):Int) ((((v6B s).getD z8).getD 3 0:Nat):Int) ((((v6B s).getD z8).getD 4 0:Nat):Int) ((((v6B s).getD z8).getD 5 0:Nat):Int) ((((v6B s).getD z8).getD 6 0:Nat):Int) ((((v6B s).getD z8).getD 7 0:Nat):Int) (v6B s).isSome l q:=by
    intro W t h;rw[h];obtain⟨a,b,c,d,e,f,g,i,rfl⟩:=Di4 t;exact⟨_,_,rfl⟩
   cases o with
   | false=>
    simp only[j6,cond_true,p9,if_false] at j ⊢;by_cases p:X.length+Y.length=8
    ·rw[if_pos p] at j;rw[show((X.length:Int)+(Y.length:Int)!=8)=false by simp;omega];simp only[cond_false];rw[show(a8 8 [SV.int ah7 0])=r8 8 from rfl,B39 X Y (by omega)];have z:8-X.length-Y.length=0:=by omega
     rw[z];simp only[List.replicate_zero,aa5];exact n (X++Y) (by simp<;>omega) j
    ·rw[if_neg p] at j;rw[show((X.length:Int)+(Y.length:Int)!=8)=true by simp;omega];exact⟨_,_,bad j⟩
   | true=>
    simp only[j7,cond_false,cond_true,if_true] at j ⊢;by_cases p:X.length+Y.length<=7
    ·rw[if_pos p] at j;rw[A6];simp only[cond_false];rw[show(a8 8 [SV.int ah7 0])=r8 8 from rfl,B39 X Y (by omega)];exact n _ (by simp<;>omega) j
    ·rw[if_neg p] at j;rw[A9];exact⟨_,_,bad j⟩
theorem Ad0(P T:List Nat)(t v:Nat):ac9 (D3 (P++t::T)) P.length (G4 (j2 (D3 (P++t::T)) P.length []) 0 [SV.int .u16 (v:Int)])=D3 (P++v::T):=by
 have a:j2 (D3 (P++t::T)) P.length []=[SV.int .u16 (t:Int)]:=by
  simp[D3,k9]
 rw[a];simp only[G4,ai4];simp[D3]
theorem C57(X T:List Nat)(i:Nat)(h:i<X.length):X.take (i+1)++T=X.take i++X.getD i 0::T:=by rw[List.take_add_one,o7 h,k9,o7 h,aa3];rfl
theorem D27{R:Type}{k0:LL->LL->Option R}(z:Bool)(X:List Nat)(h:X.length=8)(c:LL):∀(r i n:Nat),i+r=8->r<n->Og LF n z (D3 X) (i:Int) c (D3 (X.take i++a8 r 0)) k0=k0 c (D3 X):=by
 intro r
 induction r with
 | zero=>
  intro i n d f;obtain⟨n,rfl⟩:∃m,n=m+1:=⟨n-1,by omega⟩
  rw[Og];rw[A6,p6 (by omega)];simp
 | succ r g=>
  intro i n d f;obtain⟨n,rfl⟩:∃m,n=m+1:=⟨n-1,by omega⟩
  rw[Og];have a:((i:Int)+1)=((i+1:Nat):Int):=by omega
  have e:(X.take i).length=i:=by rw[y9];omega
  have b:=Ad0 (X.take i) (a8 r 0) 0 (X.getD i 0);rw[e] at b;simp (disch:=first|omega|(simp[H9];omega)) only[B9,H9,K7,cond_true,j4,Np,Vi,vl,D1,af3,b];rw[decide_eq_true (show i<o0 (X.take i++(0:Nat)::a8 r (0:Nat)) by simp<;>omega),a];simp only[cond_true];have:=g (i+1) n (by omega) (by omega);rw[C57 X _ i (by omega)] at this;exact this
theorem D28{R:Type}{k0:Bool->LL->LL->LL->Option R}(z:Bool)(X:List Nat)(k:X.length<=8)(e:Bool)(d c:LL):∀(r i n:Nat),i+r=X.length->r<n->Oh LF n z (D3 X) e d (i:Int) c (D3 (X.take i++a8 (8-i) 0)) k0=k0 e d c (D3 (X++a8 (8-X.length) 0)):=by
 intro r
 induction r with
 | zero=>
  intro i n f h;obtain⟨n,rfl⟩:∃m,n=m+1:=⟨n-1,by omega⟩
  rw[Oh];rw[H9,A6,p6 (by omega),show i=X.length by omega];rfl
 | succ r j=>
  intro i n f h;obtain⟨n,rfl⟩:∃m,n=m+1:=⟨n-1,by omega⟩
  rw[Oh];have a:((i:Int)+1)=((i+1:Nat):Int):=by omega
  have g:(X.take i).length=i:=by rw[y9];omega
  have b:=Ad0 (X.take i) (a8 (7-i) 0) 0 (X.getD i 0);rw[g] at b;rw[show 8-i=7-i+1 by omega,af3];simp (disch:=first|omega|(simp[H9];omega)) only[B9,H9,K7,cond_true,j4,Np,Vi,vl,D1,b];rw[decide_eq_true (show i<o0 (X.take i++(0:Nat)::a8 (7-i) (0:Nat)) by simp<;>omega),a];simp only[cond_true];have:=j (i+1) n (by omega) (by omega);rw[C57 X _ i (by omega),show 8-(i+1)=7-i by omega] at this;exact this
theorem D29{R:Type}{k0:LL->LL->Option R}(z:Bool)(Y P:List Nat)(o:P.length+Y.length=8)(e:LL):∀(r i n:Nat) (T:List Nat),i+r=Y.length->r<n->T.length=r->Oi LF n z (D3 Y) (i:Int) e (D3 (P++Y.take i++T)) k0=k0 e (D3 (P++Y)):=by
 intro r
 induction r with
 | zero=>
  intro i n T h k a;obtain⟨n,rfl⟩:∃m,n=m+1:=⟨n-1,by omega⟩
  rw[Oi];rw[H9,A6,p6 (by omega),List.length_eq_zero_iff.1 a];simp
 | succ r l=>
  intro i n T h k a;obtain⟨n,rfl⟩:∃m,n=m+1:=⟨n-1,by omega⟩
  obtain⟨t,T,rfl⟩:∃t b,T=t::b:=by
   match T,a with
   | t::b,_=>exact⟨t,b,rfl⟩
  rw[Oi];have c:((i:Int)+1)=((i+1:Nat):Int):=by omega
  have j:(P++Y.take i).length=P.length+i:=by simp<;>omega
  have d:=Ad0 (P++Y.take i) T t (Y.getD i 0);rw[j] at d;have f:A1 (8-(Y.length:Int))=(P.length:Int):=by rw[A7];omega
  have g:A1 ((P.length:Int)+(i:Int))=((P.length+i:Nat):Int):=by rw[A7];rfl
  simp (disch:=first|omega|(simp[H9];omega)) only[B9,H9,K7,cond_true,j4,Np,Vi,vl,f,g,D1,d];rw[decide_eq_true (show P.length+i<o0 (P++Y.take i++t::T) by simp<;>omega),c];simp only[cond_true];have:=l (i+1) n T (by omega) (by omega) (by simpa using a);rw[aa3,C57 Y _ i (by omega),<-aa3] at this;exact this
theorem Ch9{R:Type}{k0:Int->Int->Int->Int->Int->Int->Int->Int->Bool->LL->LL->Option R}(s:By)(B:A3 s.length=true) :
  ∃l L,C42 LF s k0=k0 (v6c 0 s) (v6c 1 s) (v6c 2 s) (v6c 3 s) (v6c 4 s) (v6c 5 s) (v6c 6 s) (v6c 7 s) (v6B s).isSome l L:=by
 have M:=L4 B;have F:=C5;unfold C42 v6c;rw[B];have bad:∀(h:v6B s=none),k0 0 0 0 0 0 0 0 0 false (r8 8) (r8 8)=k0 ((((v6B s).getD z8).getD 0 0:Nat):Int) ((((v6B s).getD z8).getD 1 0:Nat):Int) ((((v6B s).getD z8).getD 2 0:Nat):Int) ((((v6B s).getD z8).getD 3 0:Nat):Int) ((((v6B s).getD z8).getD 4 0:Nat):Int) ((((v6B s).getD z8).getD 5 0:Nat):Int) ((((v6B s).getD z8).getD 6 0:Nat):Int) ((((v6B s).getD z8).getD 7 0:Nat):Int) (v6B s).isSome (r8 8) (r8 8):=by
  intro h;rw[h];rfl
 have j:v6B s=match P6 (w8 s [58,58]).1 (!(w8 s [58,58]).2.2),P6 (w8 s [58,58]).2.1 true with
  | some x,some y=>if (w8 s [58,58]).2.2 then (if x.length+y.length<=7 then some (x++a8 (8-x.length-y.length) 0++y) else none)
   else if x.length+y.length=8 then some (x++y) else none
  | _,_=>none:=rfl
 have J:=Lib.index_room s [58,58];have I:=ao6 s [58,58];simp only[cond_true];by_cases C:LN s<0
 ·have n:w8 s [58,58]=(s,[],false):=by
   unfold w8;rw[if_neg (by unfold LN at C;omega)]
  rw[n] at j;simp only[j6,p9,if_false] at j;rw[B9 C];simp only[cond_true];cases m:P6 s true with
  | none=>
   rw[m] at j;exact⟨_,_,bad j⟩
  | some X=>
   have o:P6 [] true=some []:=rfl;have A:X.length<=2000000002:=by
    unfold P6 at m;split at m
    ·cases m;simp
    ·have:=Ll _ _ _ m;have:=Af 58 (s:=s) (by omega);omega
   rw[m,o] at j;simp only[ae8,ah0,aa5] at j;simp only[o8,j7,cond_false,MD m,H9];by_cases p:X.length=8
   ·rw[if_pos p] at j;rw[show((X.length:Int)!=8)=false by simp;omega];simp only[cond_false];rw[show(a8 8 [SV.int ah7 0])=r8 8 from rfl];have h:=λK=>D27 (R:=R) (k0:=K) X.isEmpty X p (r8 8) 8 0 LF (by omega) (by omega)
    simp only[ac1,y5] at h;rw[<-Bg2] at h;rw[show((0:Nat):Int)=0 from rfl] at h;rw[h];rw[j];clear h j m bad;obtain⟨a,b,c,d,e,f,g,i,rfl⟩:=Di4 p;exact⟨_,_,rfl⟩
   ·rw[if_neg p] at j;rw[show((X.length:Int)!=8)=true by simp;omega];exact⟨_,_,bad j⟩
 ·have r:0<=LN s:=by omega
  have q:=J r;obtain⟨k,t⟩:=o6 r;have w:k+2<=s.length:=by
   have:LN s+2<=(s.length:Int):=q;omega
  have n:w8 s [58,58]=(s.take k,s.drop (k+2),true):=by
   unfold w8;have:w6 s [58,58]=(k:Int):=t;rw[R0,this];rfl
  rw[n] at j;simp only[j7,if_true] at j;have D:A1 ((k:Int)+2)=((k+2:Nat):Int):=by rw[A7];rfl
  rw[t,A6,I4];simp only[cond_false,cond_true,vl,D,L2,Q6,j4];rw[E7 (by simp<;>omega),I4,E7 (by simp<;>omega)];simp only[cond_true];cases m:P6 (s.take k) false with
  | none=>
   rw[m] at j;exact⟨_,_,bad j⟩
  | some X=>
   cases o:P6 (s.drop (k+2)) true with
   | none=>
    rw[m,o] at j;exact⟨_,_,bad j⟩
   | some Y=>
    have A:X.length<=2000000002:=by
     unfold P6 at m;split at m
     ·cases m;simp
     ·have:=Ll _ _ _ m;have:=Af 58 (s:=s.take k) (by simp<;>omega);omega
    have H:Y.length<=2000000002:=by
     unfold P6 at o;split at o
     ·cases o;simp
     ·have:=Ll _ _ _ o;have:=Af 58 (s:=s.drop (k+2)) (by simp<;>omega);omega
    rw[m,o] at j;simp only[o8,j7,cond_false,MD m,MD o,H9];rw[A7];by_cases p:X.length+Y.length<=7
    ·simp only[if_pos p] at j;rw[A6];simp only[cond_false];rw[show(a8 8 [SV.int ah7 0])=r8 8 from rfl];have v:=λK=>D28 (R:=R) (k0:=K) X.isEmpty X (by omega) Y.isEmpty (D3 Y) (r8 8) X.length 0 LF (by omega) (by omega)
     simp only[ac1,y5] at v;rw[show(8-0:Nat)=8 from rfl,<-Bg2,show((0:Nat):Int)=0 from rfl] at v;rw[v];have u:X++a8 (8-X.length) 0=(X++a8 (8-X.length-Y.length) 0)++x8 0 Y++a8 Y.length 0:=by
      simp only[ac1,aa5,aa3];rw[List.replicate_append_replicate]
      congr 2
      omega
     have z:=λK=>D29 (R:=R) (k0:=K) Y.isEmpty Y (X++a8 (8-X.length-Y.length) 0) (by simp<;>omega) (r8 8) Y.length 0 LF (a8 Y.length 0) (by omega) (by omega) (by simp)
     rw[<-u,show((0:Nat):Int)=0 from rfl] at z;rw[z];rw[j];have G:o0 (X++a8 (8-X.length-Y.length) 0++Y)=8:=by simp<;>omega
     clear v z u j m o bad;generalize (X++a8 (8-X.length-Y.length) 0++Y)=W at *;obtain⟨a,b,c,d,e,f,g,i,rfl⟩:=Di4 G;exact⟨_,_,rfl⟩
    ·simp only[if_neg p] at j;rw[A9];exact⟨_,_,bad j⟩
theorem NZ{x:Nat}{r:List Nat}:Oc (x::r)=if x=0 then Oc r+1 else 0:=by unfold Oc;by_cases h:x=0<;>simp[h]
theorem HU(l:List Nat):Oc l<=l.length:=by unfold Oc;exact(List.takeWhile_sublist _).length_le
theorem Dc2{R:Type}{k0:Int->Int->Int->Int->LL->Option R}(W:List Nat)(l:W.length=8)(b a:Int)(i:Nat):∀(r j n:Nat),i+j+r=8->r<n->
  Jk LF n b a (i:Int) (j:Int) (D3 W) k0=k0 b a (i:Int) ((j+Oc (W.drop (i+j)):Nat):Int) (D3 W):=by
 intro r
 induction r with
 | zero=>
  intro j n f g;obtain⟨n,rfl⟩:∃m,n=m+1:=⟨n-1,by omega⟩
  rw[Jk];rw[A7,A6,j9 (by omega)];rfl
 | succ r k=>
  intro j n f g;obtain⟨n,rfl⟩:∃m,n=m+1:=⟨n-1,by omega⟩
  rw[Jk];have c:A1 ((i:Int)+(j:Int))=((i+j:Nat):Int):=by rw[A7];rfl
  have d:A1 ((j:Int)+1)=((j+1:Nat):Int):=by rw[A7];rfl
  have e:W.drop (i+j)=W.getD (i+j) 0::W.drop (i+(j+1)):=by
   rw[k9,o7 (by omega),o9,<-an2,aa9]
  simp (disch:=first|omega|(simp[H9];omega)) only[c,d,B9,K7,cond_true,j4,Np,Vi,vl];rw[e,NZ];by_cases h:W.getD (i+j) 0=0
  ·rw[h,if_pos rfl,show(((0:Nat):Int)==0)=true from rfl,cond_true,k (j+1) n (by omega) (by omega)]
   congr 2
   omega
  ·rw[if_neg h,show(((W.getD (i+j) 0:Nat):Int)==0)=false by rw[beq_eq_false_iff_ne];omega];rfl
theorem Cm5{R:Type}{k0:Int->Int->LL->Option R}(W:List Nat)(f:W.length=8):∀(r i n z m:Nat),i+r=8->r<n->z<=8->m<=8->
  Fo LF n (z:Int) (m:Int) (i:Int) (D3 W) k0=k0 ((zGo (W.drop i) i z m).1:Nat) ((zGo (W.drop i) i z m).2:Nat) (D3 W):=by
 intro r
 induction r with
 | zero=>
  intro i n z m j o c l;obtain⟨n,rfl⟩:∃m,n=m+1:=⟨n-1,by omega⟩
  rw[Fo];rw[A6,j9 (by omega)];rfl
 | succ r d=>
  intro i n z m j o c l;obtain⟨n,rfl⟩:∃m,n=m+1:=⟨n-1,by omega⟩
  have e:=C5;rw[Fo];have a:=λK=>Dc2 (R:=R) (k0:=K) W f (z:Int) (m:Int) i r.succ 0 LF (by omega) (by omega)
  rw[show((0:Nat):Int)=0 from rfl] at a;simp only[af4,ah0] at a;rw[A9,cond_true,a];have g:W.drop i=W.getD i 0::W.drop (i+1):=by
   rw[k9,o7 (by omega),o9,aa9]
  have k:=HU (W.drop i);rw[ac0] at k;have b:A1 ((i:Int)+1)=((i+1:Nat):Int):=by rw[A7];rfl
  rw[b];have c:zGo (W.drop i) i z m=if m<Oc (W.drop i) then zGo (W.drop (i+1)) (i+1) i (Oc (W.drop i)) else zGo (W.drop (i+1)) (i+1) z m:=by
   rw[g];rfl
  rw[c];by_cases h:m<Oc (W.drop i)
  ·rw[if_pos h,A9,cond_true];exact d (i+1) n i (Oc (W.drop i)) (by omega) (by omega) (by omega) (by omega)
  ·rw[if_neg h,A6,cond_false];exact d (i+1) n z m (by omega) (by omega) (by omega) (by omega)
theorem Sg{a b c d e f g i:Int}(h:ok8 a b c d e f g i=true):∃j k l m n o p q:Nat,a=j/\b=k/\c=l/\d=m/\e=n/\f=o/\g=p/\i=q/\j<65536/\k<65536/\l<65536/\m<65536/\n<65536/\o<65536/\p<65536/\q<65536:=by simp only[ok8,am8,List.all_nil,ag8,ad4,E2] at h;exact⟨a.toNat,b.toNat,c.toNat,d.toNat,e.toNat,f.toNat,g.toNat,i.toNat,by omega,by omega,by omega,by omega,by omega,by omega,by omega,by omega,by omega,by omega,by omega,by omega,by omega,by omega,by omega,by omega⟩
theorem Bu2{R:Type}{j:Int->Int->LL->Option R}(a b c d e f g i:Int)(t:ok8 a b c d e f g i=true):B52 LF a b c d e f g i j=j ((zGo (n8 a b c d e f g i) 0 0 0).1:Nat) ((zGo (n8 a b c d e f g i) 0 0 0).2:Nat) (D3 (n8 a b c d e f g i)):=by obtain⟨k,l,m,n,o,p,q,r,rfl,rfl,rfl,rfl,rfl,rfl,rfl,rfl,h⟩:=Sg t;have:=C5;unfold B52;exact Cm5 [k,l,m,n,o,p,q,r] rfl 8 0 LF 0 0 rfl (by omega) (by omega) (by omega)
theorem Z0{n:Nat}(h:n<16):P9 n=[Lm n]:=by rw[P9,dif_pos h]
theorem X2{n:Nat}(h:¬n<16):P9 n=P9 (n / 16)++[Lm (n % 16)]:=by rw[P9,dif_neg h]
theorem Xz:∀n:Nat,n<65536->1<=(P9 n).length/\(P9 n).length<=4:=by
 intro n d;by_cases a:n<16
 ·rw[Z0 a];simp
 rw[X2 a];by_cases b:n / 16<16
 ·rw[Z0 b];simp
 rw[X2 b];by_cases c:n / 16 / 16<16
 ·rw[Z0 c];simp
 rw[X2 c,Z0 (show n / 16 / 16 / 16<16 by omega)];simp
theorem GZ(d:Nat)(h:d<16):Lm d≠58:=by
 have:∀d:Fin 16,Lm d.val≠58:=by decide
 exact this ⟨d,h⟩
theorem B82(n:Nat):∃p d,P9 n=p++[d]/\d≠58:=by
 by_cases a:n<16
 ·exact⟨[],_,by rw[Z0 a];rfl,GZ n a⟩
 ·exact⟨_,_,X2 a,GZ _ (by omega)⟩
theorem Cu8(d:Nat)(h:d<16):cut ([48,49,50,51,52,53,54,55,56,57,97,98,99,100,101,102]:By) (d:Int) ((d+1:Nat):Int)=[Lm d]:=by
 have:∀d:Fin 16,(([48,49,50,51,52,53,54,55,56,57,97,98,99,100,101,102]:By).take (d.val+1)).drop d.val=[Lm d.val]:=by decide
 rw[Fz];exact this ⟨d,h⟩
theorem Bj4{R:Type}{c:By->Option R}:∀(v n:Nat) (s:By),v<65536->v+1<n->s.length+v<=70000->(0<v\/s=[])->
  Bb LF n s (v:Int) c=c (P9 v++s):=by
 intro v
 induction v using af1 with
 | _ v q=>
  intro n s w r u h;obtain⟨n,rfl⟩:∃m,n=m+1:=⟨n-1,by omega⟩
  have l:aa7 (v:Int) 16=((v % 16:Nat):Int):=Cx v 16;have k:aa2 (v:Int) 16=((v / 16:Nat):Int):=N4 v 16;have i:Em (((v % 16:Nat):Int)+1)=((v % 16+1:Nat):Int):=by rw[Kx];rfl
  have j:Em ((v / 16:Nat):Int)=((v / 16:Nat):Int):=Kx;have last:∀(m:Nat) (t:By),t≠[]->Bb LF (m+1) t 0 c=c t:=by
   intro m t o;rw[Bb];rw[A6,show(t==([]:By))=false from beq_eq_false_iff_ne.2 o];rfl
  have a:(vl (Em ((aa7 (v:Int) 16)+1)) λd=>
    cond (I9 (aa7 (v:Int) 16) d 16)
    (vl (cut (([48,49,50,51,52,53,54,55,56,57,97,98,99,100,101,102]:List UInt8)) (aa7 (v:Int) 16) d) λe=>
     cond (E8 (o0 e) (o0 s))
     (vl (Em (aa2 (v:Int) 16)) λg=>Bb LF n (e++s) g c) none) none)=c (P9 v++s):=by
   simp only[vl,l,k,i,j];rw[I4,Cu8 _ (by omega),G3 (by simp;omega)];simp only[cond_true];by_cases b:v<16
   ·rw[Z0 b,Nat.mod_eq_of_lt b,show v / 16=0 by omega];obtain⟨n,rfl⟩:∃m,n=m+1:=⟨n-1,by omega⟩
    exact last n _ (by simp)
   ·rw[q (v / 16) (by omega) n _ (by omega) (by omega) (by simp;omega) (.inl (by omega)),X2 b];simp
  rw[Bb];by_cases p:0<v
  ·rw[A9,cond_true];exact a
  ·have f:s=[]:=by rcases h with h|h;omega;exact h
   rw[A6,cond_false,show(s==([]:By))=true by simpa using f,cond_true];exact a
theorem Bj5{R:Type}{b:By->Option R}(v:Int)(c:ltN v 65536=true):B21 LF v b=b (P9 v.toNat):=by obtain⟨a,d⟩:=E2.1 c;obtain⟨m,rfl⟩:=o6 a;have:=C5;unfold B21;refine j5 (Bj4 m LF [] (by omega) (by omega) (by simp<;>omega) (.inr rfl)) ?_;grind
theorem Ab6{R:Type}{c:Int->Option R}{d:Unit->Option R}(s:By)(x:s.length<=1000000000):∀(r i n:Nat),i+r=s.length->r<n->
  V8 LF n s (i:Int) c d=if w6 (s.drop i) [58,58]=-1 then d () else c ((i:Int)+w6 (s.drop i) [58,58]):=by
 intro r
 induction r with
 | zero=>
  intro i n q u;obtain⟨n,rfl⟩:∃m,n=m+1:=⟨n-1,by omega⟩
  rw[V8];rw[A7,A6,j9 (by omega)];rfl
 | succ r h=>
  intro i n q u;obtain⟨n,rfl⟩:∃m,n=m+1:=⟨n-1,by omega⟩
  rw[V8];have f:A1 ((i:Int)+1)=((i+1:Nat):Int):=by rw[A7];rfl
  rw[f];by_cases t:i+1<s.length
  ·have h:=h (i+1) n (by omega) (by omega);rw[D6 s i (by omega)];have e:=D6 s (i+1) t;have p:=ao6 (s.drop (i+1)) [58,58];have l:w6 (s.getD i 0::s.drop (i+1)) [58,58]=if ([58,58]:By).isPrefixOf (s.getD i 0::s.drop (i+1)) then 0 else if w6 (s.drop (i+1)) [58,58]==-1 then -1 else w6 (s.drop (i+1)) [58,58]+1:=by
    rw[w6]
   have o:([58,58]:By).isPrefixOf (s.getD i 0::s.drop (i+1))=(s.getD i 0==58&&s.getD (i+1) 0==58):=by
    rw[e];simp only[x9,ag8];rw[ai7 (a:=(58:UInt8)),ai7 (a:=(58:UInt8)) (b:=s.getD (i+1) 0)]
   have j:=S6 (s.getD i 0) 58 (by omega);have k:=S6 (s.getD (i+1) 0) 58 (by omega);rw[show((58:Nat):Int)=58 from rfl,show ab9 58=(58:UInt8) from rfl] at j k;have next:V8 LF n s ((i+1:Nat):Int) c d=if (if w6 (s.drop (i+1)) [58,58]==-1 then (-1:Int) else w6 (s.drop (i+1)) [58,58]+1)=-1 then d () else c ((i:Int)+(if w6 (s.drop (i+1)) [58,58]==-1 then -1 else w6 (s.drop (i+1)) [58,58]+1)):=by
    rw[h];by_cases g:w6 (s.drop (i+1)) [58,58]=-1
    ·rw[g];rfl
    ·rw[if_neg g,show(w6 (s.drop (i+1)) [58,58]==-1)=false from beq_eq_false_iff_ne.2 g];simp only[p9,if_false];rw[G1]
     congr 1
     omega
   rw[l,o,A9,F2,F2];simp only[cond_true,D4,vl,j,k];cases v:(s.getD i 0==58) with
   | false=>
    simp only[cond_false,Bool.false_and,p9,if_false];exact next
   | true=>
    cases w:(s.getD (i+1) 0==58) with
    | false=>
     simp only[cond_true,cond_false,Bool.and_false,p9,if_false];exact next
    | true=>
     simp
  ·rw[A6,D6 s i (by omega),j9 (show s.length<=i+1 by omega)];have:w6 [s.getD i 0] [58,58]=-1:=by
    rw[w6];simp[x9,w6]
   rw[this];rfl
theorem Ab7{R:Type}{a:Int->Option R}(s:By)(b:A3 s.length=true):HN LF s a=a (LN s):=by have c:=L4 b;have:=C5;unfold HN LN;refine j5 (Ab6 s c s.length 0 LF (by omega) (by omega)) ?_;grind
theorem Nt(n:Nat):ptI (n:Int)=W4 n:=rfl
theorem Aq9{R:Type}{a:Bool->Option R}(n:Int):Ab1 LF n a=a (ptI n):=by
 unfold Ab1;by_cases h:n<0
 ·rw[B9 h];have:ptI n=false:=by
   cases n with
   | ofNat m=>exact absurd h (by simp)
   | negSucc m=>rfl
  grind
 ·obtain⟨m,rfl⟩:=o6 (show 0<=n by omega);rw[A6,Nt];unfold W4;by_cases b:1114111<m
  ·rw[A9];have:ag3 m 1114111=false:=by rw[ai8,ne_eq,Nat.ble_eq];omega
   grind
  ·rw[A6];have:ag3 m 1114111=true:=by rw[Nat.ble_eq];omega
   rw[this];by_cases c:m<55296
   ·rw[A9];have:Nat.blt m 55296=true:=by rw[Nat.blt_eq];omega
    grind
   ·rw[A6];have e:Nat.blt m 55296=false:=by rw[ai8,ne_eq,Nat.blt_eq];omega
    rw[e];simp only[j6,cond_true,cond_false,Bool.false_or,am6]
    congr 1
theorem KI{d k:Nat}(h:455<d):BQ d k=BQ (d / 35) (k+36):=by rw[BQ,dif_pos h]
theorem Uh{d k:Nat}(h:¬ 455<d):BQ d k=k+36*d / (d+38):=by rw[BQ,dif_neg h]
theorem Aq0{R:Type}{k0:Int->Int->Option R}:∀(d n k:Nat),d<2305843009213693952->d<n->k+d<=4611686018427387904->
  ∃a b,a<=455/\b<=k+d/\BQ d k=b+36*a / (a+38)/\Hh LF n (d:Int) (k:Int) k0=k0 (a:Int) (b:Int):=by
 intro d
 induction d using af1 with
 | _ d l=>
  intro n k p r q;obtain⟨n,rfl⟩:∃m,n=m+1:=⟨n-1,by omega⟩
  rw[Hh];by_cases h:455<d
  ·obtain⟨a,b,g,o,i,j⟩:=l (d / 35) (by omega) n (k+36) (by omega) (by omega) (by omega);refine⟨a,b,g,by omega,by rw[KI h];exact i,?_⟩;have e:aa2 (d:Int) 35=((d / 35:Nat):Int):=N4 d 35;have c:A1 ((d / 35:Nat):Int)=((d / 35:Nat):Int):=A7;have f:A1 ((k:Int)+36)=((k+36:Nat):Int):=by rw[A7];rfl
   rw[A9];simp only[cond_true,vl,e,c,f];exact j
  ·refine⟨d,k,by omega,by omega,Uh h,?_⟩;rw[A6];rfl
theorem Aq1{R:Type}{k0:Int->Option R}(d c:Int)(f:Bool)(z:ltN d 1152921504606846976=true)(A:ltN c 1000000=true)(B:ltI 0 c=true):NJ LF d c f k0=k0 (R5 d.toNat c.toNat f:Nat):=by
 obtain⟨k,F⟩:=E2.1 z;obtain⟨j,D⟩:=E2.1 A;obtain⟨d,rfl⟩:=o6 k;obtain⟨c,rfl⟩:=o6 j;have J:=Nm.1 B;have C:=C5;have key:∀x:Nat,x<1152921504606846976->Hg LF (x:Int) (c:Int) k0=k0 ((BQ (x+x / c) 0:Nat):Int):=by
  intro x L;have G:x / c<=x:=ae9 _ _;unfold Hg;have g:aa2 (x:Int) (c:Int)=((x / c:Nat):Int):=N4 x c;generalize x / c=q at *;have h:A1 (q:Int)=(q:Int):=A7;have o:A1 ((x:Int)+(q:Int))=((x+q:Nat):Int):=by rw[A7];rfl
  rw[show((c:Int)!=0)=true by simp;omega];simp only[cond_true,vl,g,h,o];obtain⟨a,n,H,I,w,y⟩:=Aq0 (R:=R) (k0:=λb l=>vl (A1 ((36)*b)) λm=>vl (A1 (b+(38))) λe=>cond (e !=(0)) (vl (A1 (aa2 m e)) λi=>k0 (A1 (l+i))) none) (x+q) LF 0 (by omega) (by omega) (by omega);refine j5 y ?_;have K:36*a / (a+38)<=36*a:=ae9 _ _;have p:A1 (36*(a:Int))=((36*a:Nat):Int):=by rw[A7];rfl
  have r:A1 ((a:Int)+38)=((a+38:Nat):Int):=by rw[A7];rfl
  have t:aa2 ((36*a:Nat):Int) ((a+38:Nat):Int)=((36*a / (a+38):Nat):Int):=N4 _ _;have u:A1 ((36*a / (a+38):Nat):Int)=((36*a / (a+38):Nat):Int):=A7;have v:A1 ((n:Int)+((36*a / (a+38):Nat):Int))=((n+36*a / (a+38):Nat):Int):=by rw[A7];rfl
  simp only[vl,p,r,t,u,v];rw[show(((a+38:Nat):Int)!=0)=true by simp;omega,w];rfl
 unfold NJ R5;rw[j4,j4];cases f with
 | true=>
  have g:aa2 (d:Int) 700=((d / 700:Nat):Int):=N4 d 700;have h:A1 ((d / 700:Nat):Int)=((d / 700:Nat):Int):=A7;simp only[cond_true,vl,g,h,if_true];exact key _ (by omega)
 | false=>
  have g:aa2 (d:Int) 2=((d / 2:Nat):Int):=N4 d 2;have h:A1 ((d / 2:Nat):Int)=((d / 2:Nat):Int):=A7;simp only[cond_false,vl,g,h,p9,if_false];exact key _ (by omega)
theorem RO{d:Nat}(h:d<36):(Ba d).toNat=if d<26 then 97+d else 22+d:=by unfold Ba;split<;>simp<;>omega
theorem Cc9{R:Type}{b:Int->Option R}(d:Int)(c:ltN d 36=true):Dk8 LF d b=b ((Ba d.toNat).toNat:Nat):=by
 obtain⟨a,e⟩:=E2.1 c;obtain⟨d,rfl⟩:=o6 a;unfold Dk8;rw[j4,RO (by omega)];by_cases h:d<26
 ·rw[A9,if_pos h];simp only[cond_true,vl]
  congr 1
  rw[A7,N6];rfl
 ·rw[A6,if_neg h];simp only[cond_false,vl]
  congr 1
  rw[D1 (n:=48+(d:Int)) (by omega) (by omega),A7,N6];omega
theorem GG(b:UInt8):(97<=b.toNat/\b.toNat<=122/\Pi b=some (b.toNat-97))\/(65<=b.toNat/\b.toNat<=90/\Pi b=some (b.toNat-65))\/(48<=b.toNat/\b.toNat<=57/\Pi b=some (b.toNat-22))\/(¬(97<=b.toNat/\b.toNat<=122)/\¬(65<=b.toNat/\b.toNat<=90)/\¬(48<=b.toNat/\b.toNat<=57)/\Pi b=none):=by unfold Pi;grind
theorem Cd7{R:Type}{g:Int->Option R}(b:Int)(h:inR b 256=true):Cz7 LF b g=g (E5 (u8n b)):=by
 simp only[inR,ad4,decide_eq_true_eq] at h;have j:b=((u8n b).toNat:Int):=by
  unfold u8n;simp;omega
 generalize u8n b=c at *;subst j;have i:=c.toNat_lt;unfold Cz7 E5;simp only[Yy,Yx,vl];rcases GG c with⟨d,f,e⟩|⟨d,f,e⟩|⟨d,f,e⟩|⟨d,f,o,e⟩
 ·have a:A1 (wu8 ((c.toNat:Int)-97))=((c.toNat-97:Nat):Int):=by
   rw[N6,A7];omega
  simp (disch:=omega) only[B9,E6,j7,j6,cond_false,cond_true,a,e]
 ·have a:A1 (wu8 ((c.toNat:Int)-65))=((c.toNat-65:Nat):Int):=by
   rw[N6,A7];omega
  simp (disch:=omega) only[B9,E6,j7,j6,cond_false,cond_true,a,e]
 ·have a:A1 (A1 (wu8 ((c.toNat:Int)-48))+26)=((c.toNat-22:Nat):Int):=by
   rw[N6,D1 (n:=(c.toNat:Int)-48) (by omega) (by omega),A7];omega
  simp (disch:=omega) only[B9,E6,j7,j6,cond_false,cond_true,a,e]
 ·rw[e];by_cases k:c.toNat<48
  ·simp (disch:=omega) only[B9,E6,j7,j6,cond_false,cond_true]
  ·by_cases l:c.toNat<65
   ·simp (disch:=omega) only[B9,E6,j7,j6,cond_false,cond_true]
   ·by_cases m:c.toNat<97
    ·simp (disch:=omega) only[B9,E6,j7,j6,cond_false,cond_true]
    ·simp (disch:=omega) only[B9,E6,j7,j6,cond_false,cond_true]
theorem Dq2{l:LL}(h:l.all Yf=true):∃W:List Nat,l=D3 W/\(∀x∈W,x<65536):=by
 induction l with
 | nil=>exact⟨[],rfl,by simp⟩
 | cons x r c=>
  simp only[am8,ad4] at h;obtain⟨W,rfl,e⟩:=c h.2;have a:=h.1;unfold Yf at a;split at a
  ·rename_i n;obtain⟨b,d⟩:=E2.1 a;obtain⟨m,rfl⟩:=o6 b;refine⟨m::W,rfl,?_⟩;grind
  ·cases a
theorem Ae7{W:List Nat}(h:∀x∈W,x<65536):(D3 W).all Yf=true:=by rw[ae3];intro x a;simp only[D3,ao9] at a;obtain⟨n,b,rfl⟩:=a;have:=h n b;exact Tj (v:=(n:Int)) (n:=65536) (by omega) (by omega)
theorem Xk(W:List Nat):(D3 W).map elN=W:=by
 unfold D3;rw[aj2]
 conv=>rhs;rw[<-aq1 W]
 apply af2;intro x _;simp[elN,SV.gI]
theorem Al3(l:List By):(D2 l).map elS=l:=by
 unfold D2;rw[aj2]
 conv=>rhs;rw[<-aq1 l]
 apply af2;intro x _;simp[elS,SV.gS]
theorem C52(l:List By):(D2 l).all isS=true:=by rw[ae3];intro x a;simp only[D2,ao9] at a;obtain⟨n,b,rfl⟩:=a;rfl
theorem Ax8{P:List Nat->Prop}(a:P [])(b:∀l x,P l->P (l++[x]))(l:List Nat):P l:=by
 have:∀r:List Nat,P r.reverse:=by
  intro r
  induction r with
  | nil=>exact a
  | cons x r c=>rw[List.reverse_cons];exact b _ _ c
 have:=this l.reverse;grind
theorem B95(l:List By)(x p:By)(h:l≠[]):aj1 (l++[x]) p=aj1 l p++p++x:=by
 cases l with
 | nil=>exact absurd rfl h
 | cons y r=>
  rw[ak0,am7,am7];unfold Lib.joinTail;simp
theorem Hd:K8 []=[]:=rfl
theorem Lp(n:Nat):K8 [n]=P9 n:=by unfold K8;exact Lib.join_one _ _
theorem Vk(l:List Nat)(n:Nat)(h:l≠[]):K8 (l++[n])=K8 l++[58]++P9 n:=by unfold K8;rw[List.map_append,List.map_singleton,B95 _ _ _ (by simpa using h)]
theorem Bv:∀l:List Nat,(∀x∈l,x<65536)->(K8 l).length<=5*l.length:=by
 refine Ax8 ?_ ?_
 ·intro _;simp[Hd]
 ·intro l n c h;have d:=c (λx b=>h x (by simp[b]));have e:=Xz n (h n (by simp));by_cases a:l=[]
  ·subst a;rw[y5,Lp];simp;omega
  ·rw[Vk l n a];simp;omega
theorem Ba8:∀(l:List Nat) (h:l≠[]),∃q d,K8 l=q++[d]/\d≠58:=by
 refine Ax8 ?_ ?_
 ·grind
 ·intro l n _ _;obtain⟨q,d,c,a⟩:=B82 n;by_cases b:l=[]
  ·subst b;exact⟨q,d,by rw[y5,Lp,c],a⟩
  ·exact⟨K8 l++[58]++q,d,by rw[Vk l n b,c];simp,a⟩
theorem C82{R:Type}{c:LL->Option R}(z t:Bool)(W:List Nat)(l:∀x∈W,x<65536)(p:W.length<=8):∀(r i n:Nat) (d:List By),i+r=W.length->r<n->d.length=i->
  Wn LF n z t (D3 W) (W.length:Int) (i:Int) (D2 d) c=c (D2 (d++(W.drop i).map P9)):=by
 intro r
 induction r with
 | zero=>
  intro i n d h j f;obtain⟨n,rfl⟩:∃m,n=m+1:=⟨n-1,by omega⟩
  rw[Wn];rw[A6,j9 (by omega)];simp
 | succ r k=>
  intro i n d h j f;obtain⟨n,rfl⟩:∃m,n=m+1:=⟨n-1,by omega⟩
  rw[Wn];have b:W.drop i=W.getD i 0::W.drop (i+1):=by
   rw[k9,o7 (by omega),o9,aa9]
  have o:W.getD i 0<65536:=by
   rw[k9,o7 (by omega),o9];simp_all
  have e:A1 ((i:Int)+1)=((i+1:Nat):Int):=by rw[A7];rfl
  rw[b];generalize g:W.getD i 0=x at *;simp (disch:=omega) only[B9,K7,cond_true,H9,j4,Np,Vi,vl,e,g,Af5,Tj,E3,F9,show((16:Int)==16)=true from rfl];have a:D2 d++[[SV.str (P9 x)]]=D2 (d++[P9 x]):=by rw[AD];rfl
  rw[a,k (i+1) n _ (by omega) (by omega) (by simp;omega)];simp
theorem C83{R:Type}{k0:By->LL->Option R}(z t:Bool)(l:LL)(c:l.all Yf=true)(a:ag3 l.length 8=true):∃g,v6j LF z t l k0=k0 (K8 (l.map elN)) g:=by
 obtain⟨W,rfl,b⟩:=Dq2 c;have f:W.length<=8:=by rw[H9] at a;exact ah6 a
 have d:=C5;refine⟨D2 (W.map P9),?_⟩;unfold v6j;rw[H9];refine j5 (C82 z t W b f W.length 0 LF [] (by omega) (by omega) rfl) ?_;have e:=Bv W b;unfold K8 at e;rw[y5,p7,C52,Al3,Xk,E3,J9,E7 (by simp;omega)];rfl
theorem Ag2:∀(l:List Nat) (i z m:Nat),z+m<=i+l.length->(zGo l i z m).1+(zGo l i z m).2<=i+l.length
 | [],i,z,m,h=>by simpa[zGo] using h
 | x::r,i,z,m,h=>by
  have a:=HU (x::r);simp only[zGo];simp only[ab2] at h a ⊢;split
  ·have:=Ag2 r (i+1) i (Oc (x::r)) (by omega);omega
  ·have:=Ag2 r (i+1) z m (by omega);omega
theorem C81{R:Type}{k0:By->LL->Option R}(p r t u v w y A:Int)(G:ok8 p r t u v w y A=true):∃l,v6f LF p r t u v w y A k0=k0 (Am (n8 p r t u v w y A)) l:=by
 obtain⟨a,b,c,d,e,f,g,j,rfl,rfl,rfl,rfl,rfl,rfl,rfl,rfl,h⟩:=Sg G;have C:n8 a b c d e f g j=[a,b,c,d,e,f,g,j]:=rfl;refine⟨D3 [a,b,c,d,e,f,g,j],?_⟩;unfold v6f;rw[G,C,cond_true];have o:([[SV.int .u16 (a:Int)],[SV.int .u16 (b:Int)],[SV.int .u16 (c:Int)],[SV.int .u16 (d:Int)],[SV.int .u16 (e:Int)],[SV.int .u16 (f:Int)],[SV.int .u16 (g:Int)],[SV.int .u16 (j:Int)]]:LL)=D3 [a,b,c,d,e,f,g,j]:=rfl;rw[o];have B:∀x∈[a,b,c,d,e,f,g,j],x<65536:=by simp_all
 have n:[a,b,c,d,e,f,g,j].length=8:=rfl;have k:=Ag2 [a,b,c,d,e,f,g,j] 0 0 0 (by simp);unfold Am;generalize [a,b,c,d,e,f,g,j]=W at *;generalize zGo W 0 0 0=q at *;obtain⟨z,m⟩:=q;rw[n] at k;simp only[vl] at k ⊢;have N:∀i,(D3 W).take i=D3 (W.take i):=λi=>by unfold D3;rw[an0]
 have J:∀i,(D3 W).drop i=D3 (W.drop i):=λi=>by unfold D3;rw[am9]
 by_cases I:m<2
 ·rw[if_pos I,A9,cond_true,Ae7 B,Xk];rfl
 ·have K:A1 ((z:Int)+(m:Int))=((z+m:Nat):Int):=by rw[A7];rfl
  have hA:∀x∈W.take z,x<65536:=λx D=>B x (ae6 D)
  have H:∀x∈W.drop (z+m),x<65536:=λx D=>B x (ad2 D)
  have O:=Bv _ hA;have P:=Bv _ H;have L:(W.take z).length<=8:=by rw[y9];omega
  have M:(W.drop (z+m)).length<=8:=by rw[ac0];omega
  rw[if_neg I,A6,cond_false,I4,K];simp only[j4,Nat.sub_zero];rw[N,J,Ae7 hA,Xk,H9,ah5 L,G3 (by omega),I4];have F:(D3 (W.drop (z+m))).take (8-(z+m))=D3 (W.drop (z+m)):=p6 (by rw[H9,ac0];omega);rw[F,Ae7 H,Xk,H9,ah5 M,G3 (by simp;omega)];simp
theorem Dp0{R:Type}{k0:Int->Int->Int->Int->LL->Option R}(W:List Nat)(l:W.length=8)(b a:Int)(i:Nat):∀(r j n:Nat),i+j+r=8->r<n->
  Of LF n b a (i:Int) (j:Int) (D3 W) k0=k0 b a (i:Int) ((j+Oc (W.drop (i+j)):Nat):Int) (D3 W):=by
 intro r
 induction r with
 | zero=>
  intro j n f g;obtain⟨n,rfl⟩:∃m,n=m+1:=⟨n-1,by omega⟩
  rw[Of];rw[A7,A6,j9 (by omega)];rfl
 | succ r k=>
  intro j n f g;obtain⟨n,rfl⟩:∃m,n=m+1:=⟨n-1,by omega⟩
  rw[Of];have c:A1 ((i:Int)+(j:Int))=((i+j:Nat):Int):=by rw[A7];rfl
  have d:A1 ((j:Int)+1)=((j+1:Nat):Int):=by rw[A7];rfl
  have e:W.drop (i+j)=W.getD (i+j) 0::W.drop (i+(j+1)):=by
   rw[k9,o7 (by omega),o9,<-an2,aa9]
  simp (disch:=first|omega|(simp[H9];omega)) only[c,d,B9,K7,cond_true,j4,Np,Vi,vl];rw[e,NZ];by_cases h:W.getD (i+j) 0=0
  ·rw[h,if_pos rfl,show(((0:Nat):Int)==0)=true from rfl,cond_true,k (j+1) n (by omega) (by omega)]
   congr 2
   omega
  ·rw[if_neg h,show(((W.getD (i+j) 0:Nat):Int)==0)=false by rw[beq_eq_false_iff_ne];omega];rfl
def RR(z m:Nat)(a b:Int):Prop:=(2<=m/\a=z/\b=m)\/(m<2/\a=-1/\b=1)
theorem C41{R:Type}{k0:Int->Int->LL->Option R}(W:List Nat)(o:W.length=8):∀(r i n z m:Nat) (a b:Int),i+r=8->r<n->z<=8->m<=8->RR z m a b->
  ∃g j,RR (zGo (W.drop i) i z m).1 (zGo (W.drop i) i z m).2 g j/\Kc LF n a b (i:Int) (D3 W) k0=k0 g j (D3 W):=by
 intro r
 induction r with
 | zero=>
  intro i n z m a b t w e v h;obtain⟨n,rfl⟩:∃m,n=m+1:=⟨n-1,by omega⟩
  rw[Kc];rw[A6,j9 (by omega)];exact⟨a,b,h,rfl⟩
 | succ r f=>
  intro i n z m a b t w e v h;obtain⟨n,rfl⟩:∃m,n=m+1:=⟨n-1,by omega⟩
  have l:=C5;rw[Kc];have c:=λK=>Dp0 (R:=R) (k0:=K) W o a b i r.succ 0 LF (by omega) (by omega)
  rw[show((0:Nat):Int)=0 from rfl] at c;simp only[af4,ah0] at c;rw[A9,cond_true,c];have p:W.drop i=W.getD i 0::W.drop (i+1):=by
   rw[k9,o7 (by omega),o9,aa9]
  have u:=HU (W.drop i);rw[ac0] at u;have d:A1 ((i:Int)+1)=((i+1:Nat):Int):=by rw[A7];rfl
  rw[d];have e:zGo (W.drop i) i z m=if m<Oc (W.drop i) then zGo (W.drop (i+1)) (i+1) i (Oc (W.drop i)) else zGo (W.drop (i+1)) (i+1) z m:=by
   rw[p];rfl
  rw[e];generalize Oc (W.drop i)=q at *;unfold RR at h;by_cases k:m<q
  ·rw[if_pos k];by_cases x:q<2
   ·rw[A6,cond_false];exact f (i+1) n i q a b (by omega) (by omega) (by omega) (by omega) (by unfold RR;omega)
   ·rw[A9,cond_true];exact f (i+1) n i q i q (by omega) (by omega) (by omega) (by omega) (by unfold RR;omega)
  ·rw[if_neg k,A6,cond_false];exact f (i+1) n z m a b (by omega) (by omega) (by omega) (by omega) h
theorem RX(q:By)(d:UInt8):(q++[d]).getD q.length 0=d:=by simp
theorem Ch8{R:Type}{k:By->LL->Option R}(W:List Nat)(u:W.length=8)(v:∀x∈W,x<65536)(a b:Int)(s c:By)(i n:Nat)(w:i<8)(o:(i:Int)≠a)(j:s.length<=1000)
  (h:(s=[]/\c=P9 (W.getD i 0))\/(∃q d,s=q++[d]/\d≠58/\c=s++[58]++P9 (W.getD i 0))\/(∃q,s=q++[58]/\c=s++P9 (W.getD i 0))) :
  U4 LF (n+1) a b s (i:Int) (D3 W) k=U4 LF n a b c ((i+1:Nat):Int) (D3 W) k:=by
 rw[U4];have t:W.getD i 0<65536:=by simp_all
 have m:A1 ((i:Int)+1)=((i+1:Nat):Int):=by rw[A7];rfl
 have y:=Xz _ t;rw[A9,show((i:Int)==a)=false from beq_eq_false_iff_ne.2 o];generalize r:W.getD i 0=x at *;have ok:=Np (l:=W) (i:=i) (by omega);simp (disch:=omega) only[cond_true,cond_false,K7,j4,ok,Vi,r,Tj,vl,m];rcases h with⟨rfl,rfl⟩|⟨q,d,rfl,p,rfl⟩|⟨q,rfl,rfl⟩
 ·have e:E8 ([]:By).length (P9 x).length=true:=G3 (by simp;omega);rw[e];rfl
 ·have f:A1 (((q++[d]).length:Int)-1)=((q.length:Nat):Int):=by rw[A7];simp
  rw[show((q++[d])==([]:By))=false by simp,f,K7 (by omega) (by simp<;>omega),D4,RX];have g:(d.toNat:Int)≠58:=by
   intro h;apply p;apply UInt8.toNat.inj;grind
  rw[show((d.toNat:Int)!=58)=true from bne_iff_ne.2 g,G3 (by simp at j ⊢;omega),G3 (by simp at j ⊢;omega)];rfl
 ·have f:A1 (((q++[58]).length:Int)-1)=((q.length:Nat):Int):=by rw[A7];simp
  rw[show((q++[(58:UInt8)])==([]:By))=false by simp,f,K7 (by omega) (by simp<;>omega),D4,RX];have e:E8 (q++[(58:UInt8)]).length (P9 x).length=true:=G3 (by simp at j ⊢;omega);rw[e];rfl
theorem Cj3(W:List Nat)(i:Nat)(h:i<W.length):W.take (i+1)=W.take i++[W.getD i 0]:=by simp_all
theorem OG{R:Type}{k0:By->LL->Option R}(W:List Nat)(m:W.length=8)(f:∀x∈W,x<65536)(a b:Int)(e:Nat)(I:e<=8)(p:By)(z:p=[]\/∃q,p=q++[58])(A:p.length<=100)(o:Nat)(w:o<=8) :
  ∀(r i n:Nat),i+r=e->o<=i->(∀j:Nat,i<=j->j<e->(j:Int)≠a)->
   U4 LF (n+r) a b (p++K8 ((W.take i).drop o)) (i:Int) (D3 W) k0=U4 LF n a b (p++K8 ((W.take e).drop o)) (e:Int) (D3 W) k0:=by
 intro r
 induction r with
 | zero=>
  intro i n u w _;rw[show i=e by omega];rfl
 | succ r G=>
  intro i n u y g;rw[show n+(r+1)=(n+r)+1 by omega];have h:((W.take i).drop o).length=i-o:=by rw[ac0,y9];omega
  have v:=Bv ((W.take i).drop o) (λx F=>f x (ae6 (ad2 F)));have D:(W.take (i+1)).drop o=(W.take i).drop o++[W.getD i 0]:=by
   rw[Cj3 W i (by omega),ac2 (by rw[y9];omega)]
  have C:(p++K8 ((W.take i).drop o)).length<=1000:=by rw[ac6];omega
  rw[Ch8 W m f a b (p++K8 ((W.take i).drop o)) (p++K8 ((W.take (i+1)).drop o)) i (n+r) (by omega) (g i (by omega) (by omega)) C]
  ·exact G (i+1) n (by omega) (by omega) (λj H k=>g j (by omega) k)
  ·rw[D];generalize (W.take i).drop o=l at *;by_cases c:l=[]
   ·subst c;rw[y5,Lp,Hd,aa5];rcases z with rfl|⟨q,rfl⟩
    ·exact .inl ⟨rfl,rfl⟩
    ·exact .inr (.inr ⟨q,rfl,rfl⟩)
   ·obtain⟨q,d,B,t⟩:=Ba8 l c;refine .inr (.inl ⟨p++q,d,by rw[B,aa3],t,?_⟩);rw[Vk l _ c];simp
theorem Ch7{R:Type}{k0:By->LL->Option R}(A B C D F G H I:Int)(V:ok8 A B C D F G H I=true):Do8 LF A B C D F G H I k0=k0 (Am (n8 A B C D F G H I)) (D3 (n8 A B C D F G H I)):=by
 obtain⟨g,i,k,l,o,p,r,t,rfl,rfl,rfl,rfl,rfl,rfl,rfl,rfl,h⟩:=Sg V;have K:n8 g i k l o p r t=[g,i,k,l,o,p,r,t]:=rfl;unfold Do8;rw[K];have y:([[SV.int .u16 (g:Int)],[SV.int .u16 (i:Int)],[SV.int .u16 (k:Int)],[SV.int .u16 (l:Int)],[SV.int .u16 (o:Int)],[SV.int .u16 (p:Int)],[SV.int .u16 (r:Int)],[SV.int .u16 (t:Int)]]:LL)=D3 [g,i,k,l,o,p,r,t]:=rfl;rw[y];have J:∀x∈[g,i,k,l,o,p,r,t],x<65536:=by simp_all
 have e:[g,i,k,l,o,p,r,t].length=8:=rfl;have w:=Ag2 [g,i,k,l,o,p,r,t] 0 0 0 (by simp);have X:=C5;generalize [g,i,k,l,o,p,r,t]=W at *;obtain⟨a,b,L,Y⟩:=C41 (R:=R) (k0:=λv f M=>U4 LF LF v f [] 0 M (λd c=>k0 d c)) W e 8 0 LF 0 0 (-1) 1 (by omega) (by omega) (by omega) (by omega) (.inr ⟨by omega,rfl,rfl⟩);refine j5 Y ?_;rw[p7] at L;unfold Am;generalize zGo W 0 0 0=q at *;obtain⟨z,m⟩:=q;rw[e] at w;simp only at w L ⊢;have stop:∀(n:Nat) (s:By),0<n->U4 LF n a b s ((8:Nat):Int) (D3 W) (λd c=>k0 d c)=k0 s (D3 W):=by
  intro n s O;obtain⟨n,rfl⟩:∃m,n=m+1:=⟨n-1,by omega⟩
  rw[U4];simp_all
 rcases L with⟨N,rfl,rfl⟩|⟨N,rfl,rfl⟩
 ·rw[G1];have u:=OG (R:=R) (k0:=λd c=>k0 d c) W e J (z:Int) (m:Int) z (by omega) [] (.inl rfl) (by simp) 0 (by omega) z 0 (LF-z) (by omega) (by omega) (λj _ h2=>by omega);rw[show LF-z+z=LF by omega] at u;simp only[ac1,p7,Hd,y5] at u;refine j5 u ?_;obtain⟨n,O⟩:∃n,LF-z=n+8+1:=⟨LF-z-9,by omega⟩
  rw[O,U4];have hA:∀x∈W.take z,x<65536:=λx Z=>J x (ae6 Z)
  have la:=Bv _ hA;have l1:(W.take z).length<=8:=by rw[y9];omega
  have S:A1 ((m:Int)-1)=((m-1:Nat):Int):=by rw[A7];omega
  have T:A1 ((z:Int)+((m-1:Nat):Int))=((z+(m-1):Nat):Int):=by rw[A7];omega
  have U:A1 (((z+(m-1):Nat):Int)+1)=((z+m:Nat):Int):=by rw[A7];omega
  rw[A9,G3 (by omega)];simp only[beq_self_eq_true,cond_true,vl,S,T,U];have P:=OG (R:=R) (k0:=λd c=>k0 d c) W e J (z:Int) (m:Int) 8 (by omega) (K8 (W.take z)++[58,58]) (.inr ⟨K8 (W.take z)++[58],by simp⟩) (by simp;omega) (z+m) (by omega) (8-(z+m)) (z+m) (n+(z+m)) (by omega) (by omega) (λj h1 _=>by omega);rw[show n+(z+m)+(8-(z+m))=n+8 by omega] at P;have Q:(W.take (z+m)).drop (z+m)=[]:=j9 (by rw[y9];omega);rw[Q,Hd,aa5] at P;grind
 ·rw[if_pos N];have u:=OG (R:=R) (k0:=λd c=>k0 d c) W e J (-1) 1 8 (by omega) [] (.inl rfl) (by simp) 0 (by omega) 8 0 (LF-8) (by omega) (by omega) (λj _ _=>by omega);rw[show LF-8+8=LF by omega] at u;simp only[ac1,p7,Hd,y5] at u;grind
section
variable {W R : Type} (L : Nat) (Y : F6) (Q : Yh W) (s : W) (k : Out -> St W -> Option R)
noncomputable def XX(L:Nat):Cfg:=B8 L [160] (A2 []) [] (A2 [(1,[2]),(0,[0])]) [] (A2 []) (some [2]) [] [] []
noncomputable def Dx4{R:Type}(L:Nat)(a:Unit->Option R):Option R:=a ()
theorem Cv7(d:Nat):evC (XX L) (d+1) W Q 160 [pI (16:Int)] [] s=Dx4 L  (λ_=>some (pB true,[],s)):=by refine(evE (fn:=Tryz.f160) (by kernel_rfl)).trans ?_;generalize evC (XX L) d=Y;unfold Dx4;kernel_rfl
noncomputable abbrev XP:Code:=C6 ao2
noncomputable def Jo(L:Nat):Cfg:=B8 L [140] (A2 [(11,[0,0,1,0,5,0,0,0,0,0,0]),(18,[0,0,1,0,5,0,0,0,3])]) [(160,VC),(161,Dy4)] (A2 [(30,[10,0]),(29,[10,0]),(28,[0,9,0,0,0,80]),(27,[0,3,5,0,0,0]),(26,[0,3,5,0,0,0]),(25,[0,3,5,0,0,0,75]),(16,[0,2,0,5,0,0,0]),(15,[0,0,1,0,5,0,0,0]),(14,[0,0,1,0,5,0,0,0,0,0,0]),(13,[0,0,1,0,5,0,0,0,0,0,0]),(12,[0,0,1,0,5,0,0,0,0,0,0]),(11,[0,0,1,0,5,0,0,0,0,0,0,29]),(10,[0,0,1,0,5,0,0,0,0,0,0]),(9,[0,0,0,0,0,5,0,0,0,0,0]),(8,[0,0,0,0,0,5,0,0,0,0]),(24,[0,2,0,5,0,0,0]),(23,[0,0,1,0,5,0,0,0]),(22,[0,0,1,0,5,0,0,0,3]),(21,[0,2,0,5,0,0,0,3,0]),(20,[0,0,1,0,5,0,0,0,3,0]),(19,[0,0,1,0,5,0,0,0,3]),(18,[0,0,1,0,5,0,0,0,3,50]),(17,[0,0,1,0,5,0,0,0,3]),(7,[0,0,0,0,0,5,0,0,0,20]),(6,[0,0,0,0,0,5,0,0,0]),(5,[0,0,0,0,0,5,0,0,0,16]),(4,[0,0,0,0,0,5,0,0,0]),(3,[0,0,0,0,0,5,0,0]),(2,[0,0,0,0,0,5,0]),(1,[0,0,0,0,0,5,0,16]),(0,[0,0,0,0,0,5,0])]) [160,161] (A2 [(0,[0,0,1,0,5,0,0,0]),(1,[0,0,1,0,5,0,0,0,0,0,0]),(2,[0,0,1,0,5,0,0,0]),(3,[0,0,1,0,5,0,0,0,3])]) (some [10,0]) [] [] []
noncomputable def Lj{R:Type}(L n:Nat)(b a:Bool)(c:LL)(g d:Int)(f:LL)(j:Bool->Bool->LL->Int->Int->LL->Option R):Option R:=match n with|0=>none|n+1=>cond (not (ltI g 16)) (vl (A41 .u64 g (15:Int)) λe=>cond (inR e 36) (vl (bAt (([48,49,50,51,52,53,54,55,56,57,97,98,99,100,101,102,103,104,105,106,107,108,109,110,111,112,113,114,115,116]:List UInt8)++[117,118,119,120,121,122]) e) λi=>cond (inR (A1 (d-1)) 65) (cond (decide ((b8 (A1 (d-1)))<f.length)) (vl (ac9 f (b8 (A1 (d-1))) (G4 (j2 f (b8 (A1 (d-1))) []) 0 [(SV.int .u8 i)])) λh=>Lj L n b a c (Pl .u64 g (4:Int)) (A1 (d-1)) h j) none) none) none) (j b a c g d f)
theorem Al6(n b a c f d e):D0 2 ((Jo L).keep 11) (bd (Jo L) Y Q (cd [1,1,1,1,1,0,1,0,1,1,1,0,0,0] XP)) n ⟨gp [(0,.s (.sl b a 0 c)),(0,p64 f),(1,pB false),(0,pB false),(5,.fl 0),(0,pS ([]:List UInt8)),(0,.ptr 1 0 0),(0,pI d),(0,p64 (4:Int)),(0,p64 (16:Int)),(0,p64 (15:Int))] 85,[.arr true 5 1 [],.arr false 153 1 e],s⟩ k =
 Lj L n b a c f d e (λb a c f d e=>k (.exit 0) ⟨gp [(0,.s (.sl b a 0 c)),(0,p64 f),(1,pB false),(0,pB false),(5,.fl 0),(0,pS ([]:List UInt8)),(0,.ptr 1 0 0),(0,pI d)] 88,[.arr true 5 1 [],.arr false 153 1 e],s⟩):=by
 induction n generalizing b a c f d e with
 | zero=>rfl
 | succ n g=>rw[Lj];simp only[<-g];kernel_rfl
noncomputable def Al5{R:Type}(L:Nat)(e d:Bool)(ds:LL)(v:Int)(m:By->LL->Option R):Option R:=cond ((16:Int)==16) (cond ((16:Int)==16) (Lj L L e d ds v 65 (a8 65 [(SV.int .u8 (0:Int))]) (λg f j i a c=>cond (inR i 36) (vl (bAt (([48,49,50,51,52,53,54,55,56,57,97,98,99,100,101,102,103,104,105,106,107,108,109,110,111,112,113,114,115,116]:List UInt8)++[117,118,119,120,121,122]) i) λl=>cond (inR (A1 (a-1)) 65) (cond (decide ((b8 (A1 (a-1)))<c.length)) (vl (ac9 c (b8 (A1 (a-1))) (G4 (j2 c (b8 (A1 (a-1))) []) 0 [(SV.int .u8 l)])) λb=>cond (decide (b.length=65)) (cond (I9 (A1 (a-1)) (65:Int) 65) (cond (ac8 (x8 (65-(b8 (A1 (a-1)))) (ae1 (b8 (A1 (a-1))) b)) Pk) (vl (ab4 Nb (x8 (65-(b8 (A1 (a-1)))) (ae1 (b8 (A1 (a-1))) b))) λh=>m h b) none) none) none) none) none) none)) none) none
theorem Ct5(d:Nat)(ds_z ds_t ds v):evC (Jo L) (d+1) W Q 140 [.s (.sl ds_z ds_t 0 ds),p64 v,pI (16:Int),pB false,pB false] [] s=Al5 L ds_z ds_t ds v (λb a=>some (.tup [.fl 0,pS b],[.arr true 5 1 [],.arr false 153 1 a],s)):=by refine(evE (fn:=ao2) (by kernel_rfl)).trans ?_;generalize evC (Jo L) d=Y;unfold Al5;exact(j5 (by kernel_rfl) (A0 (A0 ((Al6 L Y Q s (E1 0 (E0 (Jo L) Y Q (cd [1,1,1,1,1,0,1,0,1,1,1,1] XP) (E0 (Jo L) Y Q (cd [1,1,1,1,1,1] XP) (F3 (Jo L) ao2)))) L ds_z ds_t ds v 65 (a8 65 [(SV.int .u8 (0:Int))])).trans (by kernel_rfl)) rfl) rfl))
noncomputable def XW(L:Nat):Cfg:=B8 L [156] (A2 []) [(140,UP)] (A2 [(9,[4]),(8,[8]),(7,[4]),(6,[5,0]),(5,[0,4,0]),(4,[0,4]),(3,[4]),(2,[0,11]),(1,[0,0,8]),(0,[0,0])]) [] (A2 []) (some [4]) [] [] []
noncomputable def Bz4{R:Type}(L:Nat)(v:Int)(a:By->Option R):Option R:=cond (ltN v 65536) (cond ((16:Int)==16) (a (P9 (b8 v))) none) none
theorem Cv1(d:Nat)(v):evC (XW L) (d+1) W Q 156 [p64 v,pI (16:Int)] [] s=Bz4 L v (λa=>some (pS a,[],s)):=by refine(evE (fn:=Tryz.f156) (by kernel_rfl)).trans ?_;generalize evC (XW L) d=Y;unfold Bz4;kernel_rfl
noncomputable def A49(L:Nat):Cfg:=B8 L [136] (A2 []) [(156,VB)] (A2 [(1,[4]),(0,[0,0])]) [156] (A2 []) (some [4]) [] [] []
noncomputable def Df5{R:Type}(L:Nat)(v:Int)(a:By->Option R):Option R:=cond (ltN v 65536) (cond ((16:Int)==16) (a (P9 (b8 v))) none) none
theorem Df6(d:Nat)(v):evC (A49 L) (d+1) W Q 136 [p64 v,pI (16:Int)] [] s=Df5 L v (λa=>some (pS a,[],s)):=by refine(evE (fn:=Tryz.f136) (by kernel_rfl)).trans ?_;generalize evC (A49 L) d=Y;unfold Df5;kernel_rfl
end
end
section
open Go Go.Proofs Go.Sort
set_option maxRecDepth 100000
theorem D88(x:Nat)(h:x<65536):A41 .u64 (x:Int) 15=((x % 16:Nat):Int):=by unfold A41;rw[show ac5 .u64=64 from rfl,show(15:Int)=((15:Nat):Int) from rfl,Dx1 64 x 15 (by omega) (by omega),show x &&& 15=x % 16 from ae4 x 4];exact Af5 (by omega) (by omega)
theorem Ec7(x:Nat):Pl .u64 (x:Int) 4=((x / 16:Nat):Int):=by unfold Pl;show Int.fdiv (x:Int) 16=_;grind
theorem By2(d:Nat)(h:d<16):bAt (([48,49,50,51,52,53,54,55,56,57,97,98,99,100,101,102,103,104,105,106,107,108,109,110,111,112,113,114,115,116]:List UInt8)++([117,118,119,120,121,122]:List UInt8)) (d:Int)=((Lm d).toNat:Int):=by
 have:∀d:Fin 16,bAt (([48,49,50,51,52,53,54,55,56,57,97,98,99,100,101,102,103,104,105,106,107,108,109,110,111,112,113,114,115,116]:List UInt8)++([117,118,119,120,121,122]:List UInt8)) (d.val:Int)=((Lm d.val).toNat:Int):=by decide
 exact this ⟨d,h⟩
def Vh(i:Nat)(s:By):LL:=a8 i [SV.int .u8 0]++s.map E4
theorem LM(i:Nat)(s:By):(Vh i s).length=i+s.length:=by simp[Vh]
theorem Ak3(i:Nat)(s:By)(c:UInt8):ac9 (Vh (i+1) s) i (G4 (j2 (Vh (i+1) s) i []) 0 [SV.int .u8 (c.toNat:Int)])=Vh i (c::s):=by
 have a:j2 (Vh (i+1) s) i []=[SV.int .u8 0]:=by
  unfold Vh;grind
 rw[a];unfold Vh;rw[List.replicate_succ',aa3,ah4 _ _ (by simp),List.length_replicate,ap0];rfl
theorem A86{R:Type}(z t:Bool)(l:LL){e:Bool->Bool->LL->Int->Int->LL->Option R}:∀(v i n:Nat) (s:By),v<65536->v<n->i+s.length=65->(P9 v).length+s.length<=60->
  ∃(u a:Nat) (b:By),u<16/\Lm u::b=P9 v++s/\a+b.length=65/\Lj LF n z t l (v:Int) (i:Int) (Vh i s) e=e z t l (u:Int) (a:Int) (Vh a b):=by
 intro v
 induction v using af1 with
 | _ v w=>
  intro i n s r y q x;obtain⟨n,rfl⟩:∃m,n=m+1:=⟨n-1,by omega⟩
  rw[Lj];by_cases h:v<16
  ·refine⟨v,i,s,h,by rw[Z0 h];rfl,q,?_⟩;rw[A9];rfl
  ·have d:=X2 h;have c:(P9 v).length=(P9 (v / 16)).length+1:=by rw[d];simp
   obtain⟨j,rfl⟩:∃j,i=j+1:=⟨i-1,by omega⟩
   have f:A1 (((j+1:Nat):Int)-1)=(j:Int):=by rw[A7];omega
   obtain⟨u,a,b,g,k,o,p⟩:=w (v / 16) (by omega) j n (Lm (v % 16)::s) (by omega) (by omega) (by rw[ab2];omega) (by rw[ab2];omega);refine⟨u,a,b,g,by rw[k,d];simp,o,?_⟩;rw[A6,j6,cond_true,D88 v r];simp only[vl];rw[Ec7,f,j4,F2,By2 _ (by omega),F2];simp only[cond_true];rw[Ak3,LM,show(decide (j<j+1+s.length))=true from decide_eq_true (by omega)];exact p
theorem B74{R:Type}{k0:By->LL->Option R}(z t:Bool)(l:LL)(v:Int)(f:ltN v 65536=true):∃p,Al5 LF z t l v k0=k0 (P9 v.toNat) p:=by
 obtain⟨d,m⟩:=E2.1 f;obtain⟨v,rfl⟩:=o6 d;have k:=C5;have r:=Xz v (by omega);rw[j4];unfold Al5;have o:(a8 65 [SV.int .u8 (0:Int)])=Vh 65 []:=by unfold Vh;rw[ao8,aa5]
 rw[o];obtain⟨u,i,s,g,c,q,h⟩:=A86 (R:=R) z t l v 65 LF [] (by omega) (by omega) rfl (by rw[ae8];omega);rw[aa5] at c;have n:s.length<=3:=by have:=congrArg o0 c;rw[ab2] at this;omega
 obtain⟨j,rfl⟩:∃j,i=j+1:=⟨i-1,by omega⟩
 refine⟨Vh j (Lm u::s),?_⟩;rw[show((16:Int)==16)=true from rfl,cond_true,cond_true];refine j5 h ?_;have e:A1 (((j+1:Nat):Int)-1)=(j:Int):=by rw[A7];omega
 simp only[vl];rw[e,j4,F2,By2 u g,F2];simp only[cond_true];have a:(Lm u::s).length=s.length+1:=rfl;have b:((Vh j (Lm u::s)).drop j).take (65-j)=(Lm u::s).map E4:=by
  unfold Vh;rw[al4 (by simp),p6 (by rw[ae7,a];omega)]
 rw[Ak3,LM,LM,show(decide (j<j+1+s.length))=true from decide_eq_true (by omega),a,show(decide (j+(s.length+1)=65))=true from decide_eq_true (by omega),I4,b,Y4,Z3,c];rfl
theorem A87(z t:Bool)(l:LL)(v:Int)(c:ltN v 65536=true):∃r H,Al5 LF z t l v (λb a=>rv (.tup [.fl 0,.s (.str b)]) [.arr true 5 1 [],.arr false 153 1 a])=rv r H/\r.stab [1,0] H = .tup [.s (.sl true true 1 []),.s (.str (P9 v.toNat))]:=by obtain⟨d,e⟩:=B74 (k0:=(λb a=>rv (.tup [.fl 0,.s (.str b)]) [.arr true 5 1 [],.arr false 153 1 a])) z t l v c;exact⟨_,_,e,rfl⟩
theorem B76{C:Cfg}{St:Nat->Prop}{w:World}(c:GOK C St w)(d:C.G=GX):TabAt 5 ai9 w:=by obtain⟨e,f,b⟩:=ZD (g:=5) (k:=.u8) (zs:=ai9.map λn:Nat=>(n:Int)) c d rfl;intro j a;rw[GY b j (by rw[ae7];exact a)];simp[k9,o7 a]
theorem Ec8:B4 j8 GX 161 Dy4:=by
 refine B4.fix (pf:=Cp3) _ (J2 (fn:=Tryz.f161) (by kernel_rfl) (by kernel_rfl) (by kernel_rfl) ?_);intro args ret i h;unfold Cp3 at h;split at h
 ·rename_i x;obtain⟨b,h⟩:=C7 h;obtain⟨rfl,rfl⟩:=J6 h;obtain rfl:x=16:=eq_of_beq b;refine⟨rfl,rfl,λC k a l w j c f d=>?_⟩;obtain⟨U,rfl,g⟩:=d.arr1;obtain rfl:=g.inv_int;refine(Any7.bits_TrailingZeros Tryz.lays7_27 16 (by omega) w (λ_=>B76 c a)).mono ?_;rintro e w' ⟨rfl,rfl⟩;exact⟨_,rfl,ae2 _ _,VP.mk_int _ _⟩
 ·cases h
theorem Ds8:B4 j8 GX 160 VC:=by
 refine B4.fix (pf:=IL) _ (J3 [] (C₀:=XX LF) (N7.ok (l:=[]) rfl trivial) (J1 rfl (by kernel_rfl)) follows ?_);intro args ret b h;unfold IL at h;split at h
 ·rename_i x;obtain⟨a,h⟩:=C7 h;obtain⟨rfl,rfl⟩:=J6 h;obtain rfl:x=16:=eq_of_beq a;exact⟨rfl,rfl,rfl,1,_,_,Cv7 LF noY () 0,rfl⟩
 ·cases h
theorem Ds4:B4 j8 GX 140 UP:=by
 refine B4.fix (pf:=IF) _ (J3 [1,0] (C₀:=Jo LF) (N7.ok (l:=[(160,VC),(161,Dy4)]) rfl ⟨Ds8,Ec8,trivial⟩) (J1 rfl (by kernel_rfl)) follows ?_);intro args ret k h;unfold IF at h;split at h
 ·rename_i c a ds v b neg app;obtain⟨d,h⟩:=C7 h;obtain⟨f,h⟩:=C7 h;obtain⟨g,h⟩:=C7 h;obtain⟨i,h⟩:=C7 h;obtain⟨rfl,rfl⟩:=J6 h;obtain rfl:b=16:=eq_of_beq f;obtain rfl:neg=false:=by simpa using g
  obtain rfl:app=false:=by simpa using i
  obtain⟨r,H,e,j⟩:=A87 c a ds v d;exact⟨rfl,rfl,rfl,1,r,H,(Ct5 LF noY () 0 c a ds v).trans e,j⟩
 ·cases h
theorem Ds7:B4 j8 GX 156 VB:=by
 refine B4.fix (pf:=IK) _ (J3 [] (C₀:=XW LF) (N7.ok (l:=[(140,UP)]) rfl ⟨Ds4,trivial⟩) (J1 rfl (by kernel_rfl)) follows ?_);intro args ret f h;unfold IK at h;split at h
 ·rename_i v b;obtain⟨a,h⟩:=C7 h;obtain⟨c,h⟩:=C7 h;obtain⟨rfl,rfl⟩:=J6 h;obtain rfl:b=16:=eq_of_beq c;have e:Bz4 LF v (λd=>rv (.s (.str d)) [])=rv (.s (.str (P9 v.toNat))) []:=by
   unfold Bz4;rw[a];rfl
  exact⟨rfl,rfl,rfl,1,_,_,(Cv1 LF noY () 0 v).trans e,rfl⟩
 ·cases h
theorem D53:B4 j8 GX 136 Cn2:=by
 refine B4.fix (pf:=UQ) _ (J3 [] (C₀:=A49 LF) (N7.ok (l:=[(156,VB)]) rfl ⟨Ds7,trivial⟩) (J1 rfl (by kernel_rfl)) follows ?_);intro args ret f h;unfold UQ at h;split at h
 ·rename_i v b;obtain⟨a,h⟩:=C7 h;obtain⟨c,h⟩:=C7 h;obtain⟨rfl,rfl⟩:=J6 h;obtain rfl:b=16:=eq_of_beq c;have e:Df5 LF v (λd=>rv (.s (.str d)) [])=rv (.s (.str (P9 v.toNat))) []:=by
   unfold Df5;rw[a];rfl
  exact⟨rfl,rfl,rfl,1,_,_,(Df6 LF noY () 0 v).trans e,rfl⟩
 ·cases h
end
section
open Go Go.Proofs
theorem D44(z t:Bool)(l:LL)(c:l.all Yf=true)(d:ag3 l.length 8=true):∃r H,v6j LF z t l (λb a=>rv (.s (.str b)) [.arr true 9 1 a])=rv r H/\r.stab [] H = .s (.str (K8 (l.map elN))):=by obtain⟨f,e⟩:=C83 (k0:=(λb a=>rv (.s (.str b)) [.arr true 9 1 a])) z t l c d;exact⟨_,_,e,rfl⟩
theorem D42(a b c d f g h i:Int)(l:ok8 a b c d f g h i=true):∃r H,v6f LF a b c d f g h i (λk j=>rv (.s (.str k)) [.arr false 32 1 j])=rv r H/\r.stab [] H = .s (.str (Am (n8 a b c d f g h i))):=by obtain⟨m,e⟩:=C81 (k0:=(λk j=>rv (.s (.str k)) [.arr false 32 1 j])) a b c d f g h i l;exact⟨_,_,e,rfl⟩
def v6V(s:By):PV:=.tup [.agg [.s (.int .u16 (v6c 0 s)),.s (.int .u16 (v6c 1 s)),.s (.int .u16 (v6c 2 s)),.s (.int .u16 (v6c 3 s)),.s (.int .u16 (v6c 4 s)),.s (.int .u16 (v6c 5 s)),.s (.int .u16 (v6c 6 s)),.s (.int .u16 (v6c 7 s))],.s (.bool (v6B s).isSome)]
theorem D47(s:By)(k:A3 s.length=true):∃r H,v6p LF s (λb c d f g h i j r8 a l10=>rv (.tup [.agg [.s (.int .u16 b),.s (.int .u16 c),.s (.int .u16 d),.s (.int .u16 f),.s (.int .u16 g),.s (.int .u16 h),.s (.int .u16 i),.s (.int .u16 j)],.s (.bool r8)]) [.arr false 32 1 a,.arr false 32 1 l10])=rv r H/\r.stab [0,0] H=v6V s:=by obtain⟨l,m,e⟩:=C84 (k0:=(λb c d f g h i j r8 a l10=>rv (.tup [.agg [.s (.int .u16 b),.s (.int .u16 c),.s (.int .u16 d),.s (.int .u16 f),.s (.int .u16 g),.s (.int .u16 h),.s (.int .u16 i),.s (.int .u16 j)],.s (.bool r8)]) [.arr false 32 1 a,.arr false 32 1 l10])) s k;exact⟨_,_,e,rfl⟩
theorem Dp2(s:By)(k:A3 s.length=true):∃r H,C42 LF s (λb c d f g h i j r8 a l10=>rv (.tup [.agg [.s (.int .u16 b),.s (.int .u16 c),.s (.int .u16 d),.s (.int .u16 f),.s (.int .u16 g),.s (.int .u16 h),.s (.int .u16 i),.s (.int .u16 j)],.s (.bool r8)]) [.arr false 32 1 a,.arr false 32 1 l10])=rv r H/\r.stab [0,0] H=v6V s:=by obtain⟨l,m,e⟩:=Ch9 (k0:=(λb c d f g h i j r8 a l10=>rv (.tup [.agg [.s (.int .u16 b),.s (.int .u16 c),.s (.int .u16 d),.s (.int .u16 f),.s (.int .u16 g),.s (.int .u16 h),.s (.int .u16 i),.s (.int .u16 j)],.s (.bool r8)]) [.arr false 32 1 a,.arr false 32 1 l10])) s k;exact⟨_,_,e,rfl⟩
set_option maxRecDepth 100000
section
theorem D54:B4 j8 GX 165 Cn3:=xf [0,0] (Ao LF) UR rfl trivial rfl (by kernel_rfl) follows λargs=>by
 unfold UR;split
 ·rename_i s;exact λa=>⟨rfl,rfl,rfl,_,_,(Dg1 LF noY () 0 s).trans (B78 s a),rfl⟩
 ·trivial
theorem Ds5:B4 j8 GX 146 Bu4:=xf [1,0] (Ms LF) IH rfl ⟨PB,D54,Eb5,trivial⟩ rfl (by kernel_rfl) follows λargs=>by
 unfold IH;split
 ·rename_i s last;exact λb=>(let⟨e,c,a,d⟩:=A98 s last b;⟨rfl,rfl,rfl,e,c,(Cu3 LF noY () 0 s last).trans a,d⟩)
 ·trivial
theorem Eb8:B4 j8 GX 122 Dw5:=xf [0,0] (EN LF) A36 rfl ⟨Da9,Ds5,trivial⟩ rfl (by kernel_rfl) follows λargs=>by
 unfold A36;split
 ·rename_i s;exact λb=>(let⟨e,c,a,d⟩:=D47 s b;⟨rfl,rfl,rfl,e,c,(D46 LF noY () 0 s).trans a,d⟩)
 ·trivial
theorem Dv6:B4 j8 GX 112 Bw8:=xf [0,0] (Aa LF) KH rfl trivial rfl (by kernel_rfl) follows λargs=>by
 unfold KH;split
 ·rename_i a b c d e f g h;exact λi=>⟨rfl,rfl,rfl,_,_,(Dc1 LF noY () 0 a b c d e f g h).trans (Bu2 a b c d e f g h i),rfl⟩
 ·trivial
theorem Eb7:B4 j8 GX 113 Dw4:=xf [] (LE LF) A35 rfl ⟨D53,B48,trivial⟩ rfl (by kernel_rfl) follows λargs=>by
 unfold A35;split
 ·rename_i b a l;exact λd=>λe=>(let⟨h,f,c,g⟩:=D44 b a l d e;⟨rfl,rfl,rfl,h,f,(D43 LF noY () 0 b a l).trans c,g⟩)
 ·trivial
theorem Eb6:B4 j8 GX 84 Dw3:=xf [] (Cs0 LF) A34 rfl ⟨Dv6,Eb7,trivial⟩ rfl (by kernel_rfl) follows λargs=>by
 unfold A34;split
 ·rename_i a b c d e f g h;exact λj=>(let⟨m,k,i,l⟩:=D42 a b c d e f g h j;⟨rfl,rfl,rfl,m,k,(D41 LF noY () 0 a b c d e f g h).trans i,l⟩)
 ·trivial
theorem D66:B4 j8 GX 91 Co5:=xf [0,0] (Aq LF) WE rfl trivial rfl (by kernel_rfl) follows λargs=>by
 unfold WE;split
 ·rename_i s;exact λa=>⟨rfl,rfl,rfl,_,_,(Dn0 LF noY () 0 s).trans (Ce7 s a),rfl⟩
 ·trivial
theorem Du0:B4 j8 GX 64 Bv4:=xf [1,0] (T3 LF) JC rfl ⟨Rm,D69,D66,trivial⟩ rfl (by kernel_rfl) follows λargs=>by
 unfold JC;split
 ·rename_i s last;exact λb=>(let⟨e,c,a,d⟩:=Bj1 s last b;⟨rfl,rfl,rfl,e,c,(C10 LF noY () 0 s last).trans a,d⟩)
 ·trivial
theorem Cl9:B4 j8 GX 63 QN:=xf [] (Dn LF) Tx rfl trivial rfl (by kernel_rfl) follows λargs=>by
 unfold Tx;split
 ·rename_i s;exact λa=>⟨rfl,rfl,rfl,_,_,(Bh1 LF noY () 0 s).trans (Ab7 s a),rfl⟩
 ·trivial
theorem D71:B4 j8 GX 40 Cp0:=xf [0,0] (Ar LF) WS rfl ⟨Cl9,Du0,trivial⟩ rfl (by kernel_rfl) follows λargs=>by
 unfold WS;split
 ·rename_i s;exact λb=>(let⟨e,c,a,d⟩:=Dp2 s b;⟨rfl,rfl,rfl,e,c,(Dp1 LF noY () 0 s).trans a,d⟩)
 ·trivial
theorem Du3:B4 j8 GX 62 Bv7:=xf [] (Mw LF) JF rfl trivial rfl (by kernel_rfl) follows λargs=>by
 unfold JF;split
 ·rename_i v;exact λa=>⟨rfl,rfl,rfl,_,_,(C14 LF noY () 0 v).trans (Bj5 v a),rfl⟩
 ·trivial
theorem D70:B4 j8 GX 38 Co9:=xf [] (Y8 LF) WR rfl ⟨Du3,trivial⟩ rfl (by kernel_rfl) follows λargs=>by
 unfold WR;split
 ·rename_i a b c d e f g h;exact λi=>⟨rfl,rfl,rfl,_,_,(Do9 LF noY () 0 a b c d e f g h).trans (Ch7 a b c d e f g h i),rfl⟩
 ·trivial
theorem A04:B4 j8 GX 151 Pp:=xf [] (KV LF) AY rfl trivial rfl (by kernel_rfl) follows λargs=>by
 unfold AY;split
 ·rename_i n;exact⟨rfl,rfl,rfl,_,_,(Cd4 LF noY () 0 n).trans (Aq9 n ),rfl⟩
 ·trivial
theorem A03:B4 j8 GX 153 Po:=xf [] (Y6 LF) AX rfl trivial rfl (by kernel_rfl) follows λargs=>by
 unfold AX;split
 ·rename_i d c f;exact λa=>λb=>λe=>⟨rfl,rfl,rfl,_,_,(Cc0 LF noY () 0 d c f).trans (Aq1 d c f a b e),rfl⟩
 ·trivial
theorem D61:B4 j8 GX 169 A19:=xf [] (A59 LF) VV rfl trivial rfl (by kernel_rfl) follows λargs=>by
 unfold VV;split
 ·rename_i d;exact λa=>⟨rfl,rfl,rfl,_,_,(Dk9 LF noY () 0 d).trans (Cc9 d a),rfl⟩
 ·trivial
theorem D63:B4 j8 GX 179 A21:=xf [] (Ki LF) VZ rfl trivial rfl (by kernel_rfl) follows λargs=>by
 unfold VZ;split
 ·rename_i b;exact λa=>⟨rfl,rfl,rfl,_,_,(Dm0 LF noY () 0 b).trans (Cd7 b a),rfl⟩
 ·trivial
end
section
variable {W R : Type} (L : Nat) (Y : F6) (Q : Yh W) (s : W) (k : Out -> St W -> Option R)
noncomputable def A60(L:Nat):Cfg:=B8 L [168] (A2 []) [] (A2 [(2,[2]),(1,[1,1]),(0,[1])]) [] (A2 []) (some [2]) [] [] []
noncomputable def D23{R:Type}(L:Nat)(b:Int)(a:Int->Option R):Option R:=a b
theorem Dl7(d:Nat)(b):evC (A60 L) (d+1) W Q 168 [pI b] [] s=D23 L b (λn0=>some (.fnr (Fn.func 176) [] [.ptr 1 0 0,.ptr 0 0 0],[.box [pI n0],.box [pI (0:Int)]],s)):=by refine(evE (fn:=Tryz.f168) (by kernel_rfl)).trans ?_;generalize evC (A60 L) d=Y;unfold D23;kernel_rfl
noncomputable def YG(L:Nat):Cfg:=B8 L [176] (A2 []) [] (A2 [(2,[2]),(1,[0,0]),(0,[0,0])]) [] (A2 []) (some [2]) [] [] []
noncomputable def B15{R:Type}(L:Nat)(k b:Int)(d:Int->Int->Int->Option R):Option R:=vl (A1 ((A1 (k+36))-b)) λa=>vl (if ((26:Int)<(if ((1:Int) > a) then (1:Int) else a)) then (26:Int) else (if ((1:Int) > a) then (1:Int) else a)) λc=>d c (A1 (k+36)) b
theorem Cz5(d:Nat)(k b):evC (YG L) (d+1) W Q 176 [.ptr 0 0 0,.ptr 1 0 0] [.box [pI k],.box [pI b]] s=B15 L k b (λe a c=>some (pI e,[.box [pI a],.box [pI c]],s)):=by refine(evE (fn:=Tryz.f176) (by kernel_rfl)).trans ?_;generalize evC (YG L) d=Y;unfold B15;kernel_rfl
noncomputable abbrev Dz0:Code:=C6 ao4
noncomputable def CC(L:Nat):Cfg:=B8 L [152] (A2 [(2,[0,0,4,0])]) [(168,IY),(169,A19)] (A2 [(6,[0,0,5]),(5,[0,0,5,0]),(4,[6]),(3,[0,0,5,0,6]),(2,[0,0,5,0]),(1,[0,0,5]),(0,[0,0,0])]) [169] (A2 [(0,[6]),(1,[0,0,5])]) (some [6]) [(176,Rq)] [] [176]
noncomputable def Ju{R:Type}(L n:Nat)(f:Int)(p:Bool)(g:LL)(a b:Int)(o:Bool->LL->Int->Int->Option R):Option R:=match n with|0=>none|n+1=>cond (ltN b 1000000000000) (cond (ltN a 1000000) (cond (ltI f (M0 b a)) (cond (ltN f 36) (vl (↑(ar3 (Ba (b8 f))):Int) λh=>cond (G2 (g.length+1)) (o p (g++[[(SV.int .u8 h)]]) a (al6 b (36:Int))) none) none) (vl (A1 (f-(M0 b a))) λi=>vl (A1 ((36:Int)-(M0 b a))) λc=>cond (c !=0) (vl (A1 ((M0 b a)+(aa7 i c))) λd=>cond (ltN d 36) (vl (↑(ar3 (Ba (b8 d))):Int) λj=>cond (G2 (g.length+1)) (vl (A1 (f-(M0 b a))) λl=>vl (A1 ((36:Int)-(M0 b a))) λe=>cond (e !=0) (vl (A1 (aa2 l e)) λm=>Ju L n m p (g++[[(SV.int .u8 j)]]) a (al6 b (36:Int)) o) none) none) none) none)) none) none
theorem Bd8(n q0 z1 l2 a n4):D0 3 ((CC L).keep 2) (bd (CC L) Y Q (cd [1,1,0,0] Dz0)) n ⟨gp [(0,.fl 0),(0,pI q0),(5,.fnr (Fn.func 176) [] [.ptr 2 0 0,.ptr 1 0 0])] 31,[.arr z1 5 1 l2,.box [pI a],.box [pI n4]],s⟩ k =
 Ju L n q0 z1 l2 a n4 (λe c d a=>k .ret ⟨gp [(6,.fl 0)] 32,[.arr e 5 1 c,.box [pI d],.box [pI a]],s⟩):=by
 induction n generalizing q0 z1 l2 a n4 with
 | zero=>rfl
 | succ n b=>rw[Ju];simp only[<-b];kernel_rfl
noncomputable def D20{R:Type}(L:Nat)(q b:Int)(z:Bool)(l:LL)(f:Bool->LL->Int->Int->Option R):Option R:=Ju L L q z l b 0 (λe a c d=>f e a c d)
theorem Dk5(d:Nat)(q b z l):evC (CC L) (d+1) W Q 152 [.fl 0,pI q,pI b] [.arr z 5 1 l] s=D20 L q b z l (λf a c e=>some (.fl 0,[.arr f 5 1 a,.box [pI c],.box [pI e]],s)):=by refine(evE (fn:=ao4) (by kernel_rfl)).trans ?_;generalize evC (CC L) d=Y;unfold D20;exact(j5 (by kernel_rfl) ((Bd8 L Y Q s (E1 0 (F3 (CC L) ao4)) L q z l b 0).trans (by kernel_rfl)))
noncomputable abbrev Fr:Code:=C6 ak5
noncomputable def R6(L:Nat):Cfg:=B8 L [132] (A2 [(29,[0,1,0,0,2,0,0,0,0,61,0,0]),(21,[0,1,0,0,2,0,0,0,0,0,38,0,0]),(17,[0,1,0,0,2,0,0,0,0]),(5,[0,1,0,0,15,0,0])]) [(151,Pp),(153,Po)] (A2 [(40,[2,0]),(18,[0,3,2,0,0,0,0]),(39,[0,3,2,0,0,0,0]),(38,[0,3,2,0,0,0,0,61,0,0]),(32,[0,3,2,0,0,0,0,61,0,0]),(37,[0,3,2,0,0,0,0,61,0,0]),(36,[0,3,2,0,0,0,0,61,0,0]),(35,[0,3,2,0,1,0,61,0,0]),(34,[0,3,2,0,0,1,61,0,0]),(33,[0,3,2,0,0,0,0,61,0,0,9]),(31,[0,3,2,0,0,0,0,4,56,0,0,3]),(30,[0,3,2,0,0,0,0,4,56,0,0]),(29,[0,3,2,0,0,0,0,61,0,0,0]),(28,[0,3,2,0,0,0,0,61,0,0]),(27,[0,3,2,0,0,0,0]),(26,[0,3,2,1,0,0,0]),(25,[0,3,2,0,0,0,0,0,38,0,0]),(24,[0,3,2,0,0,0,0,0,38,0,0]),(23,[0,3,2,0,0,0,0,0,1,36,0,0,5]),(22,[0,3,2,0,0,0,0,0,1,36,0,0]),(21,[0,3,2,0,0,0,0,0,38,0,0,0]),(20,[0,3,2,0,0,0,0,0,38,0,0]),(19,[0,3,2,0,0,0,0,0]),(17,[0,3,2,0,0,0,0,36]),(16,[0,3,2,0,0,0,0]),(15,[0,3,2,0,0,0]),(14,[0,3,2]),(13,[0,3,2,32]),(12,[0,3,2]),(11,[0,3,15,0,0]),(10,[0,3,15,0,0]),(9,[0,3,1,13,0,0,7]),(8,[2,0]),(7,[0,3,1,13,0,0,5]),(6,[0,3,1,13,0,0]),(5,[0,3,15,0,0,0]),(4,[0,3,15,0,0]),(3,[0,3]),(2,[2,0]),(1,[0,18]),(0,[0])]) [151,153] (A2 [(2,[4]),(3,[0,3,2,0,0,0,0]),(6,[0,3,2,0,0,0,0]),(7,[0,3,2,0,0,0,0,61,0,0]),(8,[0,3,2,0,0,0,0,61,0,0]),(4,[0,3,2,0,0,0,0,0]),(5,[0,3,2,0,0,0,0,0,38,0,0]),(0,[0,3]),(1,[0,3,15,0,0])]) (some [2,0]) [(152,VR)] [] [152]
noncomputable def V7{R:Type}(L n:Nat)(c b:Bool)(a:LL)(i e:Int)(f:LL)(g:LL->Option R)(h:Bool->Bool->LL->LL->Option R):Option R:=match n with|0=>none|n+1=>cond (ltI e i) (cond (inR e a.length) (cond (okE Mh a (b8 e) 0) (vl (gE a (b8 e) 0) λd=>cond (not (ptI d)) (g f) (cond (ltI d 128) (cond (G2 (f.length+1)) (V7 L n c b a i (A1 (e+1)) (f++[[(SV.int .u8 (wu8 d))]]) g h) none) (V7 L n c b a i (A1 (e+1)) f g h))) none) none) (h c b a f)
theorem Be9(n b a c n3 n4 l5):D0 1 ((R6 L).keep 5) (bd (R6 L) Y Q (cd [1,1,1,0,1,0,0] Fr)) n ⟨gp [(0,.s (.sl b a 1 c)),(3,.fl 0),(15,.s (.sl b a 1 c)),(0,pI n3),(0,pI n4)] 84,[.arr true 5 1 l5],s⟩ k =
 V7 L n b a c n3 n4 l5 (λe=>k .ret ⟨gp [(2,pS ([]:List UInt8)),(0,pI (2:Int))] 103,[.arr true 5 1 e],s⟩) (λb a c f=>k (.exit 0) ⟨gp [(0,.s (.sl b a 1 c)),(3,.fl 0)] 102,[.arr true 5 1 f],s⟩):=by
 induction n generalizing b a c n3 n4 l5 with
 | zero=>rfl
 | succ n d=>rw[V7];simp only[<-d];kernel_rfl
noncomputable def Jx{R:Type}(L n:Nat)(c b:Bool)(a:LL)(d o e f g m q h:Int)(i:LL)(p:Bool->Bool->LL->Int->Int->Int->Int->Int->Int->LL->Option R):Option R:=match n with|0=>none|n+1=>cond (ltI h q) (cond (inR h a.length) (cond (okE Mh a (b8 h) 0) (vl (gE a (b8 h) 0) λj=>cond (not (ltI j o)) (vl (if (j<m) then j else m) λl=>Jx L n c b a d o e f g l q (A1 (h+1)) i p) (Jx L n c b a d o e f g m q (A1 (h+1)) i p)) none) none) (p c b a d o e f g m i)
theorem Bf0(n b a c d i e f g h n9 n10 l11):D0 1 ((R6 L).keep 21) (bd (R6 L) Y Q (cd [1,1,1,1,1,1,1,0,1,0,0,1,0,0,1,0,1,0,0] Fr)) n ⟨gp [(0,.s (.sl b a 1 c)),(3,.fl 0),(2,pI d),(0,pI i),(0,pI e),(0,pI f),(0,pI g),(0,pI h),(38,.s (.sl b a 1 c)),(0,pI n9),(0,pI n10)] 53,[.arr true 5 1 l11],s⟩ k =
 Jx L n b a c d i e f g h n9 n10 l11 (λb a c d i e f g h l=>k (.exit 4) ⟨gp [(0,.s (.sl b a 1 c)),(3,.fl 0),(2,pI d),(0,pI i),(0,pI e),(0,pI f),(0,pI g),(0,pI h)] 94,[.arr true 5 1 l],s⟩):=by
 induction n generalizing b a c d i e f g h n9 n10 l11 with
 | zero=>rfl
 | succ n j=>rw[Jx];simp only[<-j];kernel_rfl
noncomputable def Cs{R:Type}(L n:Nat)(d c:Bool)(a:LL)(e m b g f i l:Int)(l10:LL)(t:Bool->Bool->LL->Int->Int->Int->Int->Int->LL->Option R):Option R:=match n with|0=>none|n+1=>cond (ltI l i) (cond (inR l a.length) (cond (okE Mh a (b8 l) 0) (vl (gE a (b8 l) 0) λj=>cond (ltI j m) (vl (A1 (b+1)) λp=>Cs L n d c a e m p g f i (A1 (l+1)) l10 t) (cond (j==m) (cond (ltN b 1152921504606846976) (cond (ltN g 1000000) (cond (ag3 l10.length 100000) (vl (aq0 l10 (ab4 E4 (Q7 (b8 b) 0 (b8 g)))) λo=>vl (A1 (f+1)) λh=>cond (ltN b 1152921504606846976) (cond (ltN h 1000000) (cond (ltI 0 h) (vl (↑(R5 (b8 b) (b8 h) (f==e)):Int) λq=>vl (A1 (f+1)) λr=>Cs L n d c a e m 0 q r i (A1 (l+1)) o t) none) none) none) none) none) none) (Cs L n d c a e m b g f i (A1 (l+1)) l10 t))) none) none) (t d c a e m b g f l10)
theorem Bf1(n b a c d h e f g n8v n9 l10):D0 1 ((R6 L).keep 29) (bd (R6 L) Y Q (cd [1,1,1,1,1,1,1,0,1,0,0,1,0,0,1,1,1,1,0,1,0,0] Fr)) n ⟨gp [(0,.s (.sl b a 1 c)),(3,.fl 0),(2,pI d),(0,pI h),(0,pI e),(0,pI f),(0,pI g),(61,.s (.sl b a 1 c)),(0,pI n8v),(0,pI n9)] 31,[.arr true 5 1 l10],s⟩ k =
 Cs L n b a c d h e f g n8v n9 l10 (λb a c d h e f g j=>k (.exit 6) ⟨gp [(0,.s (.sl b a 1 c)),(3,.fl 0),(2,pI d),(0,pI h),(0,pI e),(0,pI f),(0,pI g)] 95,[.arr true 5 1 j],s⟩):=by
 induction n generalizing b a c d h e f g n8v n9 l10 with
 | zero=>rfl
 | succ n i=>rw[Cs];simp only[<-i];kernel_rfl
noncomputable def Gi{R:Type}(L n:Nat)(j i:Bool)(b:LL)(v K w y u:Int)(J:LL)(I:LL->Option R):Option R:=match n with|0=>none|n+1=>cond (ltI u (b.length:Int)) (Jx L L j i b v K w y u 1114112 (b.length:Int) 0 J (λe c a l B o q g x z=>vl (A1 (g+1)) λC=>vl (A1 ((A1 (x-B))*C)) λD=>Cs L L e c a l x (A1 (o+D)) q g (a.length:Int) 0 z (λf d h m F p r t A=>vl (A1 (p+1)) λG=>vl (A1 (F+1)) λH=>Gi L n f d h m H G r t A I))) (I J)
theorem NN(n points_z0 points_t1 points2 basic3 n4 delta5 bias6 done7 l8):D0 1 ((R6 L).keep 17) (bd (R6 L) Y Q (cd [1,1,1,1,1,1,1,0,1,0,0] Fr)) n ⟨gp [(0,.s (.sl points_z0 points_t1 1 points2)),(3,.fl 0),(2,pI basic3),(0,pI n4),(0,pI delta5),(0,pI bias6),(0,pI done7)] 95,[.arr true 5 1 l8],s⟩ k =
 Gi L n points_z0 points_t1 points2 basic3 n4 delta5 bias6 done7 l8 (λB=>k (.exit 2) ⟨gp [(4,.fl 0)] 102,[.arr true 5 1 B],s⟩):=by
 induction n generalizing points_z0 points_t1 points2 basic3 n4 delta5 bias6 done7 l8 with
 | zero=>rfl
 | succ n A=>rw[Gi];exact(j5 (by kernel_rfl) (A0 ((Bf0 L Y Q s (E1 4 (E0 (R6 L) Y Q (cd [1,1,1,1,1,1,1,0,1,0,0,1,0,0,1,1] Fr) (E1 3 (E0 (R6 L) Y Q (cd [1,1,1,1,1,1,1,0,1,0,0,1,1] Fr) (lpK 1 ((R6 L).keep 17) (bd (R6 L) Y Q (cd [1,1,1,1,1,1,1,0,1,0,0] Fr)) n k))))) L points_z0 points_t1 points2 basic3 n4 delta5 bias6 done7 1114112 (points2.length:Int) 0 l8).trans (congr rfl (Df7 λd b a g x i j m t q=>(j5 (by kernel_rfl) (A4 λy=>(A4 λu=>((Bf1 L Y Q s (E1 6 (E0 (R6 L) Y Q (cd [1,1,1,1,1,1,1,0,1,0,0,1,0,0,1,1,1,1,1] Fr) (E1 3 (E0 (R6 L) Y Q (cd [1,1,1,1,1,1,1,0,1,0,0,1,1] Fr) (lpK 1 ((R6 L).keep 17) (bd (R6 L) Y Q (cd [1,1,1,1,1,1,1,0,1,0,0] Fr)) n k))))) L d b a g t (A1 (i+u)) j m (a.length:Int) 0 q).trans (congr rfl (fx9 λe c f h z p l o r=>(j5 (by kernel_rfl) (A4 λv=>(A4 λw=>(A e c f h w v l o r))))))))))))) rfl))
noncomputable def Aq7{R:Type}(L:Nat)(l j:Bool)(p:LL)(m:Unit->Option R)(h:By->Int->LL->Option R):Option R:=cond (ltI 256 (p.length:Int)) (m ()) (V7 L L l j p (p.length:Int) 0 [] (λi=>h ([]:List UInt8) 2 i) (λb a c g=>vl (g.length:Int) λf=>cond (ltI 0 f) (cond (G2 (g.length+1)) (Gi L L b a c f 128 0 72 f (g++[[(SV.int .u8 (45:Int))]]) (λd=>cond (ac8 d Pk) (h (ab4 Nb d) 0 d) none)) none) (Gi L L b a c f 128 0 72 f g (λe=>cond (ac8 e Pk) (h (ab4 Nb e) 0 e) none))))
theorem Dl0(d:Nat)(p_z p_t p):evC (R6 L) (d+1) W Q 132 [.s (.sl p_z p_t 1 p)] [] s=Aq7 L p_z p_t p (λ_=>some (.tup [pS ([]:List UInt8),pI (3:Int)],[],s)) (λi j h=>some (.tup [pS i,pI j],[.arr true 5 1 h],s)):=by refine(evE (fn:=ak5) (by kernel_rfl)).trans ?_;generalize evC (R6 L) d=Y;unfold Aq7;exact let g:=(E1 2 (E0 (R6 L) Y Q (cd [1,1,1,1,1,1,1,1] Fr) (F3 (R6 L) ak5)));(j5 (by kernel_rfl) (A0 rfl ((Be9 L Y Q s (E1 0 (E0 (R6 L) Y Q (cd [1,1,1,1] Fr) (F3 (R6 L) ak5))) L p_z p_t p (p.length:Int) 0 []).trans (congr (congr rfl (by kernel_rfl)) (fx4 λb a c f=>(j5 (by kernel_rfl) (A4 λe=>(A0 (A0 ((NN L Y Q s g L b a c e 128 0 72 e (f++[[(SV.int .u8 (45:Int))]])).trans (by kernel_rfl)) rfl) ((NN L Y Q s g L b a c e 128 0 72 e f).trans (by kernel_rfl))))))))))
end
theorem AE(k b:Nat):M0 ((36*k:Nat):Int) (b:Int)=(thr k b:Int):=by unfold M0 thr;omega
theorem Cd5{R:Type}{a:Int->Option R}(b:Int):D23 LF b a=a b:=rfl
theorem Bf5{R:Type}{a:Int->Int->Int->Option R}(k b:Int)(e:ltN k 1000000000000=true)(f:ltN b 1000000=true):B15 LF k b a=a (M0 k b) (al6 k 36) b:=by
 obtain⟨g,h⟩:=E2.1 e;obtain⟨i,j⟩:=E2.1 f;unfold B15;have c:A1 (k+36)=k+36:=A7;have d:A1 (k+36-b)=k+36-b:=A7;simp only[vl,c,d];have:(if (26:Int)<(if (1:Int) > k+36-b then (1:Int) else k+36-b) then (26:Int) else (if (1:Int) > k+36-b then (1:Int) else k+36-b))=M0 k b:=by
  unfold M0;omega
 grind
theorem Sb{q k b:Nat}(h:q<thr k b):Q7 q k b=[Ba q]:=by rw[Q7,dif_pos h]
theorem CO{q k b:Nat}(h:¬q<thr k b):Q7 q k b=Ba (thr k b+(q-thr k b) % (36-thr k b))::Q7 ((q-thr k b) / (36-thr k b)) (k+1) b:=by rw[Q7,dif_neg h]
theorem YX{x y m:Nat}(a:10<=y)(h:x<10*m):x / y<m:=by have b:x / y<=x / 10:=Nat.div_le_div_left a (by omega);omega
theorem A83(b:Nat):∀(r q k:Nat),q<10 ^ r->(Q7 q k b).length<=r+1:=by
 intro r
 induction r with
 | zero=>
  intro q k h;have c:=X4 k b;rw[Sb (by simp at h;omega)];simp
 | succ r d=>
  intro q k h;have c:=X4 k b;by_cases a:q<thr k b
  ·rw[Sb a];simp
  ·rw[CO a,ab2];have:=d ((q-thr k b) / (36-thr k b)) (k+1) (YX (by omega) (by rw[x7] at h;omega));omega
theorem Cc1(z:Bool)(b:Nat)(K:b<1000000):∀(r q k n:Nat) (l:LL),q<10 ^ r->q<1152921504606846976->k+r<=1000->r<n->l.length+r<=200000->
  ∃(d f:Int),∀(R:Type) (a:Bool->LL->Int->Int->Option R),Ju LF n (q:Int) z l (b:Int) ((36*k:Nat):Int) a=a z (l++(Q7 q k b).map E4) d f:=by
 have c:∀(q k n:Nat) (l:LL),q<thr k b->k<=1000->l.length<=200000->∃(d f:Int),∀(R:Type) (a:Bool->LL->Int->Int->Option R),Ju LF (n+1) (q:Int) z l (b:Int) ((36*k:Nat):Int) a=a z (l++(Q7 q k b).map E4) d f:=by
  intro q k n l g i j;have p:=X4 k b;refine⟨(b:Int),al6 ((36*k:Nat):Int) 36,λR a=>?_⟩;rw[Ju];rw[N0,N0,AE,A9,N0,Sb g];simp only[vl,cond_true,j4];rw[F9 (by omega)];rfl
 intro r
 induction r with
 | zero=>
  intro q k n l h _ i H j;have p:=X4 k b;obtain⟨n,rfl⟩:∃m,n=m+1:=⟨n-1,by omega⟩
  exact c q k n l (by simp at h;omega) (by omega) (by omega)
 | succ r I=>
  intro q k n l h o i H j;have p:=X4 k b;obtain⟨n,rfl⟩:∃m,n=m+1:=⟨n-1,by omega⟩
  by_cases g:q<thr k b
  ·exact c q k n l g (by omega) (by omega)
  ·have D:(q-thr k b) / (36-thr k b)<10 ^ r:=YX (by omega) (by rw[x7] at h;omega);have F:(q-thr k b) / (36-thr k b)<=q:=ad5 (ae9 _ _) (by omega);have G:(q-thr k b) % (36-thr k b)<36-thr k b:=Nat.mod_lt _ (by omega);obtain⟨d,f,e⟩:=I ((q-thr k b) / (36-thr k b)) (k+1) n (l++[E4 (Ba (thr k b+(q-thr k b) % (36-thr k b)))]) D (by omega) (by omega) (by omega) (by rw[ac6,ab5];omega);refine⟨d,f,λR a=>?_⟩;rw[Ju];have t:A1 ((q:Int)-(thr k b:Int))=((q-thr k b:Nat):Int):=by rw[A7];omega
   have u:A1 ((36:Int)-(thr k b:Int))=((36-thr k b:Nat):Int):=by rw[A7];omega
   have v:aa7 ((q-thr k b:Nat):Int) ((36-thr k b:Nat):Int)=(((q-thr k b) % (36-thr k b):Nat):Int):=Cx _ _;have w:aa2 ((q-thr k b:Nat):Int) ((36-thr k b:Nat):Int)=(((q-thr k b) / (36-thr k b):Nat):Int):=N4 _ _;have C:((((36-thr k b:Nat):Int))!=0)=true:=by rw[bne_iff_ne];omega
   rw[N0,N0,AE,A6];simp only[vl,t,u,v,w,C,cond_true,cond_false];rw[CO g];generalize hA:(q-thr k b) / (36-thr k b)=A at *;generalize J:(q-thr k b) % (36-thr k b)=B at *;have x:A1 ((thr k b:Int)+(B:Int))=((thr k b+B:Nat):Int):=by rw[A7];rfl
   have y:A1 (A:Int)=(A:Int):=A7;rw[x,y,N0,F9 (by omega),j4,show al6 ((36*k:Nat):Int) 36=((36*(k+1):Nat):Int) from(by show((36*k:Nat):Int)+36=_;omega)];refine j5 (e R a) ?_;simp[aa3]
theorem Cc2(q b:Int)(z:Bool)(l:LL)(h:ltN q 1152921504606846976=true)(i:ltN b 1000000=true)(j:ag3 l.length 100000=true) :
  ∃(c d:Int),∀(R:Type) (a:Bool->LL->Int->Int->Option R),D20 LF q b z l a=a z (aq0 l ((Q7 q.toNat 0 b.toNat).map E4)) c d:=by
 obtain⟨f,m⟩:=E2.1 h;obtain⟨g,n⟩:=E2.1 i;obtain⟨q,rfl⟩:=o6 f;obtain⟨b,rfl⟩:=o6 g;have o:=ah6 j;have k:=C5;obtain⟨c,d,e⟩:=Cc1 z b (by omega) 19 q 0 LF l (by omega) (by omega) (by omega) (by omega) (by omega);exact⟨c,d,λR a=>e R _⟩
end
end Go.Proofs.YtkegcjamihlmmaaGreatDoor.E
