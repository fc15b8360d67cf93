/-
  Parts of the proof, merged by a program of the prover's own; no condition.
-/
import Derived.Test.YtddlcgjamdbinaaGreatDoorKXS4
import Derived.Lib.MapLaws
import Derived.Lib.TrimUEq
import Derived.Lib.ValidLaws
import Derived.Shelf.LaysM
import Derived.Shelf.Slices.CompactS
import Derived.Shelf.Slices.In.SortNone
import Derived.Shelf.Small.Strs
import Derived.Shelf.Sort.Plain
import Derived.Shelf.Spec.SlicesInsert
import Derived.Shelf.Spec.SlicesInsertGrow
import Derived.Shelf.Spec.TrailingZeros
import Derived.Shelf.Strconv.Itoa3
import Derived.Shelf.Strings.Count
import Derived.Shelf.Strings.Cut
import Derived.Shelf.Strings.IndexAnyAll
import Derived.Shelf.Strings.OnBuilder
import Derived.Shelf.Strings.Search3
import Derived.Shelf.Unicode.ValidAny
import Derived.Shelf.Utf8.RuneCount
import Derived.Test.YtddlcgjamdbinaaGreatDoorProg
open Int renaming toNat_natCast->c9,toNat->j6,eq_ofNat_of_zero_le->z7,add->ad3,tdiv->ah9,tmod->aj3,mul_nonneg->am3
open Eq renaming trans->j0
open List renaming length->j1,length_cons->j2,length_drop->j7,getD_eq_getElem?_getD->j8,length_append->k9,drop_of_length_le->o0,length_eq_zero_iff->o5,length_map->o9,drop_zero->p7,replicate->v8,getD->w9,length_take->x3,getElem?_eq_getElem->x7,length_nil->x9,countP_le_length->aa5,toArray->aa7,length_pos_iff->ab2,map->ab6,append_assoc->ab7,all_cons->ac3,map_congr_left->ac5,append_nil->ac8,all_eq_true->ac9,nil_append->ad4,drop->ad6,length_singleton->ae2,mem_of_mem_drop->ae7,mem_of_mem_take->ae8,isPrefixOf->ae9,map_map->af0,take->af3,all->af5,countP_cons_of_neg->ag6,all_map->ag9,map_nil->ah0,take_of_length_le->ah1,drop_left'->ah4,map_append->ah5,countP_pos_iff->ai4,getD_cons_zero->ai5,any_cons->ai7,map_cons->ai8,set->aj8,isEmpty_iff->ak8,take_length->ak9,append->al9,drop_drop->am4,take_left->am5,mem_cons->an0,isEmpty->ao7,map_id->aq0
open Bool renaming not_false->j4,not_true->j5,and_eq_true->p5,false_eq_true->v7,eq_false_iff->ab0,true_and->ad0,eq_iff_iff->ad2,and_true->ae4,false_or->ae5,not_eq_true->ak6,or_eq_true->am0,false_and->am2
open Option.some renaming injEq->j9,inj->ah7
open Go.Proofs.Tryz renaming prog->o6,underlying3->o8,zeroValue3->p4,underlying4->p6,zeroValue4->p9,underlying9->s8,zeroValue9->w6,underlying0->x4,underlying5->x5,sizeOf3->y5,zeroValue0->y7,zeroValue5->y8,sizeOf4->aa1,underlying79->aa2,isAgg3->aa3,zeroValue79->aa6,sizeOf9->aa8,isAgg4->aa9,sizeOf0->ab3,sizeOf5->ab4,isAgg9->ab5,isAgg0->ac0,isAgg5->ac1,underlying25->ac2,sizeOf79->ac4,zeroValue25->ac6,isAgg79->ac7,sizeOf25->ad1,underlying115->ad5,isAgg25->ae0,zeroValue115->ae1,func137->af1,func165->af2,sizeOf115->af6,underlying185->af7,underlying22->ag1,zeroValue185->ag2,isAgg115->ag4,zeroValue22->ag8,func139->ah2,func140->ah3,sizeOf185->ai2,f129->ai3,isAgg185->ai9,sizeOf22->aj0,underlying190->aj1,underlying191->aj2,func136->aj9,func164->ak0,func183->ak1,isAgg22->ak2,underlying20->ak3,underlying83->ak4,zeroValue190->ak5,f106->al1,f126->al2,f130->al3,f138->al4,f167->al5,zeroValue20->al6,zeroValue83->al7,f34->am7,sizeOf190->am8,sizeOf191->am9,isAgg190->an1,isAgg191->an2,sizeOf20->an3,sizeOf83->an4,f112->an6,f141->an7,f143->an8,f146->an9,f156->ao0,f161->ao1,f173->ao2,func104->ap1,func128->ap2,func170->ap3,func180->ap4,func191->ap5,func192->ap6,isAgg20->ap7,isAgg83->ap8,f60->aq2,f68->aq3,f99->aq4,func85->aq5
open Go.Lib renaming decodeL->o7,indexByte->x6,decodeL_width->ad8,join->ae6,runeCountL->af4,decodeL_drop->ag5,decodeL_le->ai0,decodeL_N->ai6,deBruijn64tab->aj4,decodeL_ascii->aj5,firstTab->aj6,runeCountFrom->aj7,decodeL_rune->ak7,decodeN->al8,index->an5,cut->ao3,indexAny->ao4,pow10Tab->ao5,validGoD->ao6
open Nat renaming ble->s9,ble_eq->y9,le_refl->ab8,zero_le->ab9,ble_eq_true_of_le->ae3,div_le_self->ah6,le_of_ble_eq_true->ah8,mul_le_mul->ai1,mod_lt->am6,pow_succ->ao8,zero_add->ao9
open Exists renaming intro->w8
open Go.Shelf renaming Ren->x8
open UInt8 renaming ofNat->aa0,toNat_inj->am1,toNat->aq6
open Go.Utf8 renaming decode->aa4
open Option renaming map_some->ab1,isSome_map->ag0,isSome->ag3,bind_some->ag7,getD_some->al0
open Go.Fn renaming func->ad7
open Go.RowKit.Below renaming refl->ad9
open Classical renaming byContradiction->af8
open Function renaming comp_def->af9
open Go.RowKit renaming Below->ap0
open Go.Proofs.LaysM renaming n171->ap9
open Go.Proofs.Lays renaming n137->aq7,n138->aq8,n143->aq9,n145->ar0,n153->ar1,n156->ar2,n190->ar3,n194->ar4,n195->ar5,n196->ar6
open Go.Proofs.Lays2 renaming n21->ar7
open Go.Proofs.Lays7 renaming n27->ar8
set_option maxRecDepth 100000
variable{R:Type}
namespace Go.Proofs.YtddlcgjamdbinaaGreatDoor.E
set_option linter.all false
section
open Go Go.Proofs
section
variable {W R : Type} (L : Nat) (Q : G4) (Y : Yh W) (s : W) (k : Out -> St W -> Option R)
noncomputable def CN(L:Nat):Cfg:=D0 L [107] (A4 []) [] (A4 [(1,[2]),(0,[0])]) [] (A4 []) (some [2]) [] [] []
noncomputable def Ag2(L:Nat)(a:Int)(b:Bool->Option R):Option R:=b (ltI (8:Int) a)
def Bp2(d:Nat)(a:Int):evC (CN L) (d+1) W Y 107 [.s (.int .i64 a)] [] s=Ag2 L a (λb=>some (.s (.bool b),[],s)):=by refine(evE (fn:=Tryz.f107) (by kernel_rfl)).trans ?_;generalize evC (CN L) d=Q;unfold Ag2;kernel_rfl
noncomputable abbrev Xj:Code:=D4 al4
noncomputable def Da(L:Nat):Cfg:=D0 L [138] (A4 []) [] (A4 [(5,[2]),(2,[2]),(4,[2]),(3,[10]),(1,[0,2]),(0,[0])]) [] (A4 [(0,[])]) (some [2]) [] [] []
noncomputable def Na(a:Int)(d:Bool)(b:Unit->Option R)(c:Bool->Option R):Option R:=cond d (b ()) (cond (ltI (57343:Int) a) (cond (not (ltI (1114111:Int) a)) (b ()) (c (not (ltI (1114111:Int) a)))) (c false))
abbrev GE(b:Code):Prop:=∀(k:Out->St W->Option R) (c:Int) (a:Bool),A9 (Da L) Q Y b ⟨gp [(0,.s (.int .i32 c)),(2,.s (.bool a))] 13,[],s⟩ k=Na c a (λ_=>k .ret ⟨gp [(2,.s (.bool true))] 14,[],s⟩) (λd=>k .normal ⟨gp [(10,.s (.bool d))] 6,[],s⟩)
def Ai0:GE (R:=R) L Q Y s (cd [1,0,0,1] Xj):=by intro k b a;unfold Na;kernel_rfl
noncomputable def OO(L:Nat)(b:Int)(a:Bool->Option R):Option R:=cond (not (ltI b (0:Int))) (Na b (ltI b (55296:Int)) (λ_=>a true) (λc=>a false)) (Na b false (λ_=>a true) (λd=>a false))
def Cj8(b:Code)(a:GE (R:=PV × List Blk × W) L Q Y s b)(c:Int):A9 (Da L) Q Y (cd [] (I2 [1,0,0,1] b Xj)) ⟨[.s (.int .i32 c)]++tps 16,[],s⟩ (G1 (Da L) al4)=OO L c (λc=>some (.s (.bool c),[],s)):=by unfold OO;exact let d:=(F0 0 (F5 (Da L) Q Y (cd [1,1] Xj) (G1 (Da L) al4)));(j0 (by kernel_rfl) (A0 ((a d c (ltI c (55296:Int))).trans (by kernel_rfl)) ((a d c false).trans (by kernel_rfl))))
def Cj9(d:Nat)(a:Int):evC (Da L) (d+1) W Y 138 [.s (.int .i32 a)] [] s=OO L a (λa=>some (.s (.bool a),[],s)):=
 (evE (fn:=al4) (by kernel_rfl)).trans (j0 (by kernel_rfl) (Cj8 L (evC (Da L) d) Y s (cd [1,0,0,1] Xj) (Ai0 L (evC (Da L) d) Y s) a))
noncomputable abbrev Bl:Code:=D4 al1
noncomputable def N3(L:Nat):Cfg:=D0 L [106] (A4 [(38,[4,170]),(29,[0,3,2,0,0,4,0,0]),(25,[0,3,2,0,0,4,0]),(12,[0,3,2,0,0,2]),(5,[0,3,2,0,0])]) [(104,Xe),(138,JV)] (A4 [(35,[4]),(42,[4]),(41,[4]),(40,[5,169,5]),(39,[5,0,168]),(38,[175,0,0]),(37,[175]),(44,[4]),(33,[4]),(22,[4]),(21,[8,0,3,94]),(20,[8,0,3]),(26,[0,6,0,0,4,0]),(32,[4]),(30,[0,6,0,0,4,0,0]),(31,[0,6,0,0,4,0,0,139]),(29,[0,6,0,0,4,0,0,126]),(28,[0,6,0,0,4,0,0]),(27,[0,6,0,0,4,0,123]),(25,[0,6,0,0,4,0,108]),(24,[0,6,0,0,4,0]),(23,[0,6,0,0,4]),(19,[4]),(18,[0,6,0,0,88]),(17,[0,6,0,0,0]),(16,[0,6,0,0,0]),(15,[4]),(13,[0,6,0,0,2]),(14,[0,6,0,0,2,51]),(12,[0,6,0,0,2,38]),(11,[0,6,0,0,2]),(10,[0,6,0,0]),(9,[4]),(8,[0,6,0,0,1,31]),(7,[0,6,0,0,1]),(6,[0,6,0,0,23]),(5,[0,6,0,0,16]),(4,[0,6,0,0]),(3,[0,6,0,0]),(2,[0,6,0]),(1,[0,6]),(43,[0,0,181]),(36,[0,0,169]),(34,[0,0,158]),(0,[0,0])]) [104,138] (A4 [(0,[4]),(9,[]),(10,[175]),(5,[]),(6,[0,6,0,0,4,0]),(7,[8,0]),(8,[0,6,0,0,4,0,0]),(1,[]),(2,[0,6,0,0]),(3,[8,0]),(4,[0,6,0,0,2])]) (some [4]) [] [] []
noncomputable def Ew(L n:Nat)(self:Nat->Option R)(a:Nat)(c:Int->Nat->Option R)(d:Nat->Option R):Option R:=cond (decide (a<3)) (vl ((aa4 ⟨aa7 (([47,63,35]:By))⟩ a)).1 λb=>cond (b==(65533:Int)) (c (↑a:Int) (a+((aa4 ⟨aa7 (([47,63,35]:By))⟩ a)).2)) (self (a+((aa4 ⟨aa7 (([47,63,35]:By))⟩ a)).2))) (d a)
noncomputable def Az(L n:Nat)(a:Nat)(b:Int->Nat->Option R)(c:Nat->Option R):Option R:=Cy3 (α:=Nat->Option R) (λ_=>none) (λn self a=>Ew L n self a b c) n a
def Fw(L n:Nat)(a:Nat)(b:Int->Nat->Option R)(c:Nat->Option R):Az L (n+1) a b c=Ew L n (λa=>Az L n a b c) a b c:=rfl
def Af8(n:Nat)(a:Nat):E0 1 ((N3 L).keep 38) (bd (N3 L) Q Y (cd [1,0,1,1,1,0,0,1,0,0] Bl)) n ⟨gp [(175,.it 0)] 11,[.iter (([47,63,35]:By)) a],s⟩ k =
 Az L n a (λn0 c=>k .ret ⟨gp [(4,.s (.int .i64 n0))] 182,[.iter (([47,63,35]:By)) c],s⟩) (λa=>k (.exit 9) ⟨gp [] 187,[.iter (([47,63,35]:By)) a],s⟩):=by
 induction n generalizing a with
 | zero=>rfl
 | succ n b=>rw[Fw];unfold Ew;exact(j0 (by kernel_rfl) (A0 (A5 λd=>(A0 rfl (b (a+((aa4 ⟨aa7 (([47,63,35]:By))⟩ a)).2)))) rfl))
noncomputable def Ws(L n:Nat)(self:Kbj R)(b:By)(a f c:Int)(g:Int->Int->Option R):Option R:=cond (ltI c (↑(j1 b):Int)) (cond (inR (A1 (f-c)) 3) (vl (bAt (([47,63,35]:By)) (A1 (f-c))) λd=>cond (inR (A1 (a-c)) (j1 b)) (vl (bAt b (A1 (a-c))) λe=>cond (d !=e) (none) (self b a f (A1 (c+(1:Int))))) (none)) (none)) (g a f)
noncomputable def Mu(L n:Nat)(b:By)(a c d:Int)(e:Int->Int->Option R):Option R:=Cy3 (α:=Kbj R) (λ_ _ _ _=>none) (λn self b a c d=>Ws L n self b a c d e) n b a c d
def Ax5(L n:Nat)(b:By)(a c d:Int)(e:Int->Int->Option R):Mu L (n+1) b a c d e=Ws L n (λb a c d=>Mu L n b a c d e) b a c d e:=rfl
def AI(n:Nat)(b:By)(a d e:Int):E0 0 ((N3 L).keep 12) (bd (N3 L) Q Y (cd [1,0,1,1,1,1,1,1,0,1,1,1,1,0,0,0,1,0,0,1,0,1,0,0] Bl)) n ⟨gp [(0,.s (.str (([47,63,35]:By)))),(6,.s (.str b)),(0,.s (.int .i64 a)),(0,.s (.int .i64 d)),(2,.s (.int .i64 e))] 174,[],s⟩ k =
 Mu L n b a d e (λc h=>k (.exit 3) ⟨gp [(8,.s (.int .i64 c)),(0,.s (.int .i64 h))] 177,[],s⟩):=by
 induction n generalizing b a d e with
 | zero=>rfl
 | succ n i=>rw[Ax5];unfold Ws;exact(j0 (by kernel_rfl) (A0 (A0 (A5 λf=>(A0 (A5 λg=>(A0 rfl (i b a d (A1 (e+(1:Int)))))) rfl)) rfl) rfl))
noncomputable def Pe(L n:Nat)(self:By->Int->Option R)(b:By)(a:Int)(m:Int->Option R)(o:Unit->Option R):Option R:=cond (ltI a (3:Int)) (cond (inR a 3) (vl (bAt (([47,63,35]:By)) a) λj=>cond (inR a (j1 b)) (cond (j !=(bAt b a)) (vl (A1 (a+(1:Int))) λe=>cond (L3 e (3:Int) 3) (vl (cut (([47,63,35]:By)) e (3:Int)) λg=>cond (inR a (j1 b)) (cond (A2 (j1 g)) (cond (inR (bAt b a) 256) (vl (x6 g (u8n (bAt b a))) λf=>cond (ltI f (0:Int)) (m (-1)) (vl (A1 (f+(1:Int))) λl=>Mu L L b a (A1 (a+l)) 1 (λc h=>m (A1 (h-c))))) (none)) (none)) (none)) (none)) (Mu L L b a a 1 (λd i=>m (A1 (i-d))))) (none)) (none)) (o ())
noncomputable def Im(L n:Nat)(b:By)(a:Int)(c:Int->Option R)(d:Unit->Option R):Option R:=Cy3 (α:=By->Int->Option R) (λ_ _=>none) (λn self b a=>Pe L n self b a c d) n b a
def GB(L n:Nat)(b:By)(a:Int)(c:Int->Option R)(d:Unit->Option R):Im L (n+1) b a c d=Pe L n (λb a=>Im L n b a c d) b a c d:=rfl
def Af9(n:Nat)(b:By)(a:Int):E0 0 ((N3 L).keep 5) (bd (N3 L) Q Y (cd [1,0,1,1,1,1,1,1,0,1,1,1,1,0,0,0] Bl)) n ⟨gp [(0,.s (.str (([47,63,35]:By)))),(6,.s (.str b)),(0,.s (.int .i64 a)),(0,.s (.int .i64 a))] 177,[],s⟩ k =
 Im L n b a (λn0=>k .ret ⟨gp [(4,.s (.int .i64 n0))] 182,[],s⟩) (λ_=>k (.exit 1) ⟨gp [] 187,[],s⟩):=by
 induction n generalizing b a with
 | zero=>rfl
 | succ n i=>rw[GB];unfold Pe;exact let d:=(F0 3 (F5 (N3 L) Q Y (cd [1,0,1,1,1,1,1,1,0,1,1,1,1,0,0,0,1,0,0,1,1] Bl) (F0 2 (lpK 0 ((N3 L).keep 5) (bd (N3 L) Q Y (cd [1,0,1,1,1,1,1,1,0,1,1,1,1,0,0,0] Bl)) n k))));(j0 (by kernel_rfl) (A0 (A0 (A5 λe=>(A0 (A0 (A5 λf=>(A0 (A5 λh=>(A0 (A0 (A0 (A5 λg=>(A0 rfl (A5 λc=>((AI L Q Y s d L b a (A1 (a+c)) 1).trans (by kernel_rfl))))) rfl) rfl) rfl)) rfl)) ((AI L Q Y s d L b a a 1).trans (by kernel_rfl))) rfl)) rfl) rfl))
noncomputable def Mt(L:Nat)(b:Int)(l:Bool)(d:Int->Option R)(j:Int->Nat->Option R):Option R:=cond l (cond (inR (wu8 b) 256) (vl (x6 (([47,63,35]:By)) (u8n (wu8 b))) λg=>d g) (none)) (cond (b==(65533:Int)) (Az L L 0 (λi e=>j i e) (λf=>j (-1) f)) (cond (not (OP b)) (d (-1)) (vl (Utf8.encode b).data.toList λc=>vl (A1 ((↑(j1 c):Int)-(1:Int))) λh=>Im L L c h (λa=>d a) (λ_=>d (-1)))))
abbrev GA(b:Code):Prop:=∀(k:Out->St W->Option R) (c:Int) (a:Bool),A9 (N3 L) Q Y b ⟨gp [(0,.s (.str (([47,63,35]:By)))),(0,.s (.int .i32 c)),(158,.s (.bool a))] 26,[],s⟩ k=Mt L c a (λn0=>k .ret ⟨gp [(4,.s (.int .i64 n0))] 182,[],s⟩) (λn0 d=>k .ret ⟨gp [(4,.s (.int .i64 n0))] 182,[.iter (([47,63,35]:By)) d],s⟩)
def Af7:GA (R:=R) L Q Y s (cd [1,0,1] Bl):=by intro k e d;unfold Mt;exact(j0 (by kernel_rfl) (A0 (A0 (A5 λc=>rfl) rfl) (A0 ((Af8 L Q Y s (F0 9 (F5 (N3 L) Q Y (cd [1,0,1,1,1,0,1] Bl) k)) L 0).trans (by kernel_rfl)) (A0 rfl (A5 λb=>(A5 λa=>((Af9 L Q Y s (F0 1 (F5 (N3 L) Q Y (cd [1,0,1,1,1,1,1,1,0,1,1,1,1,1] Bl) k)) L b a).trans (by kernel_rfl))))))))
noncomputable def OF(L:Nat)(r:Int)(g:Int->Option R)(h:Int->Nat->Option R):Option R:=cond (not (ltI r (0:Int))) (Mt L r (ltI r (128:Int)) (λc=>g c) (λd a=>h d a)) (Mt L r false (λe=>g e) (λf b=>h f b))
def Ch1(b:Code)(a:GA (R:=PV × List Blk × W) L Q Y s b)(r:Int):A9 (N3 L) Q Y (cd [] (I2 [1,0,1] b Bl)) ⟨[.s (.str (([47,63,35]:By))),.s (.int .i32 r)]++tps 185,[],s⟩ (G1 (N3 L) al1)=OF L r (λc=>some (.s (.int .i64 c),[],s)) (λc e=>some (.s (.int .i64 c),[.iter (([47,63,35]:By)) e],s)):=by unfold OF;exact let d:=(F0 0 (G1 (N3 L) al1));(j0 (by kernel_rfl) (A0 ((a d r (ltI r (128:Int))).trans (by kernel_rfl)) ((a d r false).trans (by kernel_rfl))))
def Ch2(d:Nat)(r:Int):evC (N3 L) (d+1) W Y 106 [.s (.str (([47,63,35]:By))),.s (.int .i32 r)] [] s=OF L r (λa=>some (.s (.int .i64 a),[],s)) (λa b=>some (.s (.int .i64 a),[.iter (([47,63,35]:By)) b],s)):=
 (evE (fn:=al1) (by kernel_rfl)).trans (j0 (by kernel_rfl) (Ch1 L (evC (N3 L) d) Y s (cd [1,0,1] Bl) (Af7 L (evC (N3 L) d) Y s) r))
noncomputable abbrev Al8:Code:=D4 aq3
noncomputable def Iw(L:Nat):Cfg:=D0 L [68] (A4 [(18,[1,2,40]),(12,[0,3,1,1])]) [(106,JL),(107,BS),(108,Qo)] (A4 [(22,[4]),(21,[4]),(20,[1,7,35,7]),(19,[1,7,0,34]),(18,[1,43,0,0]),(17,[1,43]),(16,[4]),(13,[0,5,1]),(15,[4]),(14,[0,5,1,33]),(12,[0,5,1,27]),(11,[0,5,1]),(10,[0,0,4,25]),(9,[0,0,4,0]),(8,[0,0,24]),(7,[4]),(6,[0,4]),(5,[0,4,14]),(4,[0,4]),(3,[0,0,13]),(2,[4]),(1,[0,0,10]),(0,[0,0])]) [106,107] (A4 [(2,[]),(3,[1,43]),(0,[]),(1,[0,5,1])]) (some [4]) [] [] []
noncomputable def Ah(L n:Nat)(self:By->Nat->Option R)(b:By)(a:Nat)(d:Int->(List Blk)->Option R)(e:By->Nat->Option R):Option R:=cond (decide (a<(j1 b))) (vl ((aa4 ⟨aa7 b⟩ a)).1 λc=>cond (DJ (([47,63,35]:By))) (cond (ltN c 1114112) (cond (not (ltI (irn c) (0:Int))) (d (↑a:Int) [(Blk.iter b (a+((aa4 ⟨aa7 b⟩ a)).2))]) (self b (a+((aa4 ⟨aa7 b⟩ a)).2))) (none)) (none)) (e b a)
noncomputable def Ms(L n:Nat)(b:By)(a:Nat)(c:Int->(List Blk)->Option R)(d:By->Nat->Option R):Option R:=Cy3 (α:=By->Nat->Option R) (λ_ _=>none) (λn self b a=>Ah L n self b a c d) n b a
def Ct(L n:Nat)(b:By)(a:Nat)(c:Int->(List Blk)->Option R)(d:By->Nat->Option R):Ms L (n+1) b a c d=Ah L n (λb a=>Ms L n b a c d) b a c d:=rfl
def Af6(n:Nat)(b:By)(a:Nat):E0 1 ((Iw L).keep 18) (bd (Iw L) Q Y (cd [1,1,1,1,0,1,0,0] Al8)) n ⟨gp [(1,.s (.str (([47,63,35]:By)))),(43,.it 0)] 9,[.iter b a],s⟩ k =
 Ms L n b a (λn0 c=>k .ret ⟨gp [(4,.s (.int .i64 n0))] 50,c,s⟩) (λb a=>k (.exit 2) ⟨gp [] 55,[.iter b a],s⟩):=by
 induction n generalizing b a with
 | zero=>rfl
 | succ n d=>rw[Ct];unfold Ah;exact(j0 (by kernel_rfl) (A0 (A5 λe=>(A0 (A0 (A0 rfl (d b (a+((aa4 ⟨aa7 b⟩ a)).2))) rfl) rfl)) rfl))
noncomputable def Af5(L:Nat)(t:By)(e:Int->(List Blk)->Option R):Option R:=cond (ltI (8:Int) (↑(j1 t):Int)) (none) (Ms L L t 0 (λc a=>e c a) (λd b=>e (-1) [(Blk.iter d b)]))
def Cg9(d:Nat)(t:By):evC (Iw L) (d+1) W Y 68 [.s (.str t),.s (.str (([47,63,35]:By)))] [] s=Af5 L t (λb a=>some (.s (.int .i64 b),a,s)):=by refine(evE (fn:=aq3) (by kernel_rfl)).trans ?_;generalize evC (Iw L) d=Q;unfold Af5;exact(j0 (by kernel_rfl) (A0 rfl ((Af6 L Q Y s (F0 2 (F5 (Iw L) Q Y (cd [1,1,1,1,1] Al8) (G1 (Iw L) aq3))) L t 0).trans (by kernel_rfl))))
end
end
section
open Go
def CS{c:UInt8}{s:By}(h:c∉s):ao3 s [c]=(s,[],false):=by unfold ao3;rw[Wf h,ae (by decide)]
def Iy{c:UInt8}{p r:By}(h:c∉p):ao3 (p++c::r) [c]=(p,r,true):=by unfold ao3;rw[DI h,U9,c9,am5,ae2];rw[show p++c::r=(p++[c])++r by simp,ah4 (by simp)]
def Zg:Int->By->Option Int
 | n,[]=>some n
 | n,b::r=>if 48<=b.toNat/\b.toNat<=57 then Zg (min (10*max n 0+((b.toNat-48:Nat):Int)) 65536) r else none
def Ab8:∀(s:By) (n:Int),Zh n s=(Zg n s).bind λm=>if m<65536 then some m else none
 | [],n=>rfl
 | b::r,n=>by
  rw[Zh,Zg];split
  ·exact Ab8 r _
  ·rfl
def MZ:∀(s:By) (n p:Int),-1<=n->Zh n s=some p->-1<=p/\p<65536
 | [],n,p,a,h=>by
  rw[Zh] at h;split at h
  ·rename_i c;obtain rfl:=ah7 h;exact⟨a,c⟩
  ·cases h
 | b::r,n,p,a,h=>by
  rw[Zh] at h;split at h
  ·exact MZ r _ p (by omega) h
  ·cases h
def Rt(s:By):Prop:=∀b∈s,ctl b=false
def D77(s:By):Prop:=∀b∈s,Ai b=false
structure CU (u:Y0):Prop where
 ns:G3 u.sch=false->Fh u.sch=true/\C5 u.sch=u.sch/\u.user=[]/\u.host=M9/\u.port=-1/\Rt u.rest
 sp:G3 u.sch=true->Rt u.user/\D77 u.user/\Ga u.host/\N7 u.host=true/\(u.port=-1\/(0<=u.port/\u.port<=65535/\u.port≠Jb u.sch))/\(∃r,u.rest=47::r)/\Rt u.rest
def Da4{s:By}:s.any ctl=false↔Rt s:=by unfold Rt;rw[List.any_eq_false];exact⟨λh b a=>by simpa using h b a,λh b a=>by simp[h b a]⟩
def Ri{e user c a:By}(h:(R8 e user c a).2=0):∃f b,(R8 e user c a).1=⟨e,user,f,b,c⟩/\Ga f/\N7 f=true/\(b=-1\/(0<=b/\b<=65535/\b≠Jb e)):=by
 unfold R8 at h ⊢;cases i:Rq a with
 | none=>rw[i] at h;simp at h
 | some q=>
  obtain⟨name,tail⟩:=q;rw[i] at h;simp only at h ⊢;by_cases g:tail≠[]/\tail.head?≠some 58
  ·rw[ac g] at h;simp at h
  ·rw[ae g] at h ⊢;by_cases d:(D7 name).2≠0
   ·rw[ac d] at h;exact absurd h d
   ·rw[ae d] at h ⊢;cases j:Zh (-1) (tail.drop 1) with
    | none=>rw[j] at h;simp at h
    | some p=>
     have o:=MZ _ _ _ (by omega) j;obtain⟨m,n⟩:=Cc0 name;refine⟨_,_,rfl,m,n (by simpa using d),?_⟩;split
     ·exact .inl rfl
     ·rename_i l;by_cases k:p=-1
      ·exact .inl k
      ·exact .inr ⟨by omega,by omega,l⟩
def Oa{c user b a:By}(h:(R8 c user b a).2≠0):(R8 c user b a).1=De:=by
 unfold R8 at h ⊢;split
 ·rfl
 ·rename_i name tail f;rw[f] at h;simp only at h ⊢;split
  ·rfl
  ·rename_i d;rw[ae d] at h;split
   ·rfl
   ·rename_i e;rw[ae e] at h;split
    ·rfl
    ·rename_i p g;rw[g] at h;exact absurd rfl h
def Bc1(s:By):C5 (C5 s)=C5 s:=by
 unfold C5;rw[af0];apply ac5;intro b _;show Y6 (Y6 b)=Y6 b;rcases M0 b with⟨_,e⟩|⟨_,e⟩|⟨c,d,e⟩
 ·rw[e,e]
 ·rw[e,e]
 ·rcases M0 (Y6 b) with⟨_,a⟩|⟨_,a⟩|⟨f,g,_⟩
  ·exact a
  ·exact a
  ·omega
def Bb9(b:UInt8):Y5 (Y6 b)=Y5 b:=by
 rw[ad2,Cc,Cc];rcases M0 b with⟨_,e⟩|⟨_,e⟩|⟨a,c,e⟩
 ·rw[e]
 ·rw[e]
 ·omega
def Aa9{b c:UInt8}(f:c.toNat<65):Y6 b=c↔b=c:=by
 rcases M0 b with⟨_,e⟩|⟨_,e⟩|⟨a,d,e⟩
 ·rw[e]
 ·rw[e]
 ·constructor
  ·intro h;rw[h] at e;omega
  ·intro h;subst h;omega
def Aw8(b:UInt8):Bw (Y6 b)=Bw b:=by
 rw[ad2,FY,FY,Aa9 (by decide),Aa9 (by decide),Aa9 (by decide)];rcases M0 b with⟨_,e⟩|⟨_,e⟩|⟨a,c,e⟩
 ·rw[e]
 ·rw[e]
 ·constructor
  ·rintro(h|h|h|h)<;>first|omega|exact .inr (.inr (.inr h))
  ·rintro(h|h|h|h)<;>first|omega|exact .inr (.inr (.inr h))
def Ax0(s:By):Fh (C5 s)=Fh s:=by
 cases s with
 | nil=>rfl
 | cons b r=>
  show(Y5 (Y6 b)&&(r.map Y6).all Bw)=(Y5 b&&r.all Bw)
  rw[Bb9,ag9]
  congr 1
  apply List.all_congr rfl;intro b;exact Aw8 b
def Ag0(r:By):∃t,Z2 r=47::t:=by
 unfold Z2;split
 ·rename_i h;cases r with
  | nil=>cases h
  | cons b t=>
   obtain rfl:=ah7 h;exact⟨t,rfl⟩
 ·exact⟨r,rfl⟩
def Ax6{r:By}(h:Rt r):Rt (Z2 r):=by
 unfold Z2;split
 ·exact h
 ·intro b a;rcases an0.1 a with rfl|a
  ·decide
  ·exact h b a
def Cc6{j c a:By}(p:G3 j=true)(q:Rt a)(i:D77 a)(o:Rt c)(f:∃r,c=47::r)(h:(J2 j c a).2=0):CU (J2 j c a).1:=by
 unfold J2 at h ⊢;by_cases n:0<=N1 64 a
 ·rw[ac n] at h ⊢;obtain⟨t,g,e,k,l,m⟩:=Ri h;rw[e];exact⟨λh=>(by rw[p] at h;cases h),λ_=>⟨λb d=>q b (ae8 d),λb d=>i b (ae8 d),k,l,m,f,o⟩⟩
 ·rw[ae n] at h ⊢;obtain⟨t,g,e,k,l,m⟩:=Ri h;rw[e];exact⟨λh=>(by rw[p] at h;cases h),λ_=>⟨λb d=>(by cases d),λb d=>(by cases d),k,l,m,f,o⟩⟩
def At2{s:By}(h:(H3 s).2=0):CU (H3 s).1:=by
 unfold H3 at h ⊢;cases f:s.any ctl with
 | true=>rw[f] at h;simp at h
 | false=>
  rw[f] at h;have j:=Da4.1 f;simp only[v7,if_false] at h ⊢;rcases Aj 58 s with c|⟨p,r,rfl,c⟩
  ·rw[CS c] at h;simp at h
  ·rw[Iy c] at h ⊢;have k:Rt p:=λb d=>j b (by simp[d])
   have g:Rt r:=λb d=>j b (by simp[d])
   cases a:Fh p with
   | false=>rw[a] at h;simp at h
   | true=>
    rw[a] at h;simp only[j5,Bool.or_self,v7,if_false] at h ⊢;cases e:G3 (C5 p) with
    | false=>
     simp only[j4,if_true];exact⟨λ_=>⟨by rw[Ax0];exact a,Bc1 p,rfl,rfl,rfl,g⟩,λh=>(by simp only at h;rw[e] at h;cases h)⟩
    | true=>
     rw[e] at h;simp only[j5,v7,if_false] at h ⊢;cases i:([47,47]:By).isPrefixOf r with
     | false=>rw[i] at h;simp at h
     | true=>
      rw[i] at h;simp only[j5,v7,if_false] at h ⊢;exact Cc6 e (λb d=>g b (ae7 (ae8 d))) (Bo6 _) (Ax6 λb d=>g b (ae7 (ae7 d))) (Ag0 _) h
def Bf4{d b a:By}(h:(J2 d b a).2≠0):(J2 d b a).1=De:=by
 unfold J2 at h ⊢;split
 ·rename_i c;rw[ac c] at h;exact Oa h
 ·rename_i c;rw[ae c] at h;exact Oa h
def TH{s:By}(h:(H3 s).2≠0):(H3 s).1=De:=by
 unfold H3 at h ⊢;split
 ·rfl
 ·rename_i b;rw[ae b] at h;split
  ·rfl
  ·rename_i c;rw[ae c] at h;split
   ·rename_i a;rw[ac a] at h;exact absurd rfl h
   ·rename_i a;rw[ae a] at h;split
    ·rfl
    ·rename_i d;rw[ae d] at h;exact Bf4 h
def Yt(c user b a:By):(R8 c user b a).1.sch.length<=c.length/\(R8 c user b a).1.user.length<=user.length/\(R8 c user b a).1.rest.length<=b.length:=by
 by_cases h:(R8 c user b a).2=0
 ·obtain⟨f,d,e,_⟩:=Ri h;rw[e];exact⟨ab8 _,ab8 _,ab8 _⟩
 ·rw[Oa h];exact⟨ab9 _,ab9 _,ab9 _⟩
def Bf5(c b a:By):(J2 c b a).1.sch.length<=c.length/\(J2 c b a).1.user.length<=a.length/\(J2 c b a).1.rest.length<=b.length:=by
 unfold J2;split
 ·obtain⟨d,e,f⟩:=Yt c (a.take (N1 64 a).toNat) b (a.drop ((N1 64 a).toNat+1));rw[x3] at e;exact⟨d,by omega,f⟩
 ·obtain⟨d,e,f⟩:=Yt c [] b a;simp only[x9] at e;exact⟨d,by omega,f⟩
def Ax7(r:By):(Z2 r).length<=r.length+1:=by
 unfold Z2;split
 ·omega
 ·simp
def Cc1(s:By):(H3 s).1.sch.length<=s.length/\(H3 s).1.user.length<=s.length/\(H3 s).1.rest.length<=s.length+1:=by
 have z:De.sch.length<=s.length/\De.user.length<=s.length/\De.rest.length<=s.length+1:=⟨ab9 _,ab9 _,ab9 _⟩
 unfold H3;split
 ·exact z
 ·rcases Aj 58 s with a|⟨p,r,rfl,a⟩
  ·rw[CS a];exact z
  ·rw[Iy a];have b:(p++58::r).length=p.length+r.length+1:=by rw[k9,j2];omega
   simp only;split
   ·exact z
   ·split
    ·simp only[Aq,x9];omega
    ·split
     ·exact z
     ·obtain⟨c,d,e⟩:=Bf5 (C5 p) (Z2 ((r.drop 2).drop (N8 (r.drop 2)))) ((r.drop 2).take (N8 (r.drop 2)));have f:=Ax7 ((r.drop 2).drop (N8 (r.drop 2)));simp only[x3,j7,Aq] at c d e f;omega
structure Aj4 (u:Y0):Prop where
 host:Ga u.host
 port:-1<=u.port/\u.port<65536
def DQ:Ga M9:=⟨by decide,B37,by decide⟩
def CU.ok{u:Y0}(h:CU u):Aj4 u:=by
 cases hs:G3 u.sch with
 | false=>
  obtain⟨_,_,_,a4,a5,_⟩:=h.ns hs;exact⟨by rw[a4];exact DQ,by omega⟩
 | true=>
  obtain⟨_,_,a3,_,a5,_⟩:=h.sp hs;exact⟨a3,by omega⟩
def At3(s:By):Aj4 (H3 s).1:=by
 by_cases h:(H3 s).2=0
 ·exact(At2 h).ok
 ·rw[TH h];exact⟨DQ,by decide,by decide⟩
def Cv9{m n j l:By}{h v4:Nat}{a b c d e f g i:Nat}{k:Int}(o:h<4):mkU m n (h:Int) j (v4:Int) (n8 a b c d e f g i) k l=⟨m,n,⟨h,j,v4,[a,b,c,d,e,f,g,i]⟩,k,l⟩:=by unfold mkU Cv7 n8;rw[ac (E7.2 ⟨by omega,by omega⟩)];simp only[c9]
def TG(s:By):Aj4 (C7 s).1:=by
 unfold C7;split
 ·exact⟨DQ,by decide,by decide⟩
 ·exact At3 s
def Be0{s:By}(h:(C7 s).2≠0):(C7 s).1=De:=by
 unfold C7 at h ⊢;split
 ·rfl
 ·rename_i c;rw[ae c] at h;exact TH h
def TF{s:By}(h:(C7 s).2=0):CU (C7 s).1:=by
 unfold C7 at h ⊢;split
 ·rename_i c;rw[ac c] at h;cases h
 ·rename_i c;rw[ae c] at h;exact At2 h
def NI(s:By):(C7 s).1.sch.length<=s.length/\(C7 s).1.user.length<=s.length/\(C7 s).1.rest.length<=s.length+1:=by
 unfold C7;split
 ·exact⟨ab9 _,ab9 _,ab9 _⟩
 ·exact Cc1 s
def Lf(c:UInt8):∀s:By,x6 s c=match We c s with|some k=>(k:Int)|none=>-1
 | []=>rfl
 | b::r=>by
  have a:=Lf c r;unfold x6 We;by_cases h:b=c
  ·rw[ac h,ac (by simpa using h)];rfl
  ·rw[ae h,ae (by simpa using h),a];cases We c r with
   | none=>rfl
   | some k=>
    have e:((k:Int)==-1)=false:=by rw[beq_eq_false_iff_ne];omega
    simp only[ab1,e,v7,if_false];rfl
def Ch4(b:UInt8):isl.contains b=Ai b:=by rw[ad2];simp[isl,Ai,or_assoc]
def Jp(b:UInt8)(r:By):N8 (b::r)=if Ai b then 0 else N8 r+1:=by unfold N8;rw[List.takeWhile_cons];cases h:Ai b<;>simp
def OI:∀s:By,N8 s<=s.length
 | []=>ab8 _
 | b::r=>by
  have:=OI r;rw[Jp,j2];split<;>omega
def Le:∀s:By,ao4 s isl=if N8 s<s.length then (N8 s:Int) else -1
 | []=>rfl
 | b::r=>by
  have c:=Le r;have d:=OI r;rw[ao4,Ch4,Jp,j2,c];cases Ai b with
  | true=>simp
  | false=>
   simp only[v7,if_false];by_cases h:N8 r<r.length
   ·have e:((N8 r:Int)==-1)=false:=by rw[beq_eq_false_iff_ne];omega
    have a:N8 r+1<r.length+1:=by omega
    simp only[ac h,ac a,e,v7,if_false];rfl
   ·have a:¬N8 r+1<r.length+1:=by omega
    simp only[ae h,ae a];rfl
def Dx2(b:UInt8)(t:By)(g:128<=b.toNat):128<=(o7 (b::t)).1/\(o7 (b::t)).1<1114112/\1<=(o7 (b::t)).2/\(o7 (b::t)).2<=t.length+1/\∀i,i<(o7 (b::t)).2->128<=((b::t).getD i 0).toNat:=by
 have d:=ai0 (b::t) (by simp);have l:=ad8 (b::t);have n:=ak7 (b::t);rw[j2] at d;refine⟨?_,by omega,l,d,?_⟩;all_goals
  clear d l n;rw[ai6];rcases Lib.decodeN_shape (b::t).length ((b::t).getD 0 0).toNat ((b::t).getD 1 0).toNat ((b::t).getD 2 0).toNat ((b::t).getD 3 0).toNat with⟨c,e⟩|⟨h,j,k,f,e⟩|⟨h,j,k,m,f,p,e⟩|⟨h,j,k,m,o,f,q,e⟩|e
  all_goals rw[e]
 ·exact absurd g (by simp at c;omega)
 ·exact f
 ·simp only;omega
 ·simp only;omega
 ·simp only;omega
 ·exact absurd g (by simp at c;omega)
 ·intro i a;have:i=0\/i=1:=by simp only at a;omega
  rcases this with rfl|rfl<;>omega
 ·intro i a;have:i=0\/i=1\/i=2:=by simp only at a;omega
  rcases this with rfl|rfl|rfl<;>omega
 ·intro i a;have:i=0\/i=1\/i=2\/i=3:=by simp only at a;omega
  rcases this with rfl|rfl|rfl|rfl<;>omega
 ·intro i a;have:i=0:=by simp only at a;omega
  subst this;exact g
def C16{b:UInt8}(h:128<=b.toNat):Ai b=false:=by
 unfold Ai;have n:∀c:UInt8,c.toNat<128->(b==c)=false:=λc a=>by
  rw[beq_eq_false_iff_ne];rintro rfl;omega
 rw[n 47 (by decide),n 63 (by decide),n 35 (by decide)];rfl
def Ct8{r:Int}(h:128<=r):irn r=-1:=by unfold irn;rw[I9,I9,I9]
def Dy3(b:UInt8):ltI (irn (b.toNat:Int)) 0 = !Ai b:=by
 have e:∀c:UInt8,((b.toNat:Int)=(c.toNat:Int))=(b=c):=λc=>propext ⟨λh=>am1.1 (by omega),λh=>by rw[h]⟩
 have g:((b.toNat:Int)=47)=(b=47):=e 47;have i:((b.toNat:Int)=63)=(b=63):=e 63;have j:((b.toNat:Int)=35)=(b=35):=e 35;unfold irn Ai;simp only[g,i,j];by_cases a:b=47
 ·subst a;rfl
 ·by_cases d:b=63
  ·subst d;rfl
  ·by_cases f:b=35
   ·subst f;rfl
   ·have n:∀c,b≠c->(b==c)=false:=λc h=>by rwa [beq_eq_false_iff_ne]
    rw[ae a,ae d,ae f,n _ a,n _ d,n _ f];rfl
end
section
open Go Go.Proofs
section
variable {W R : Type} (Y : Nat) (J : G4) (Q : Yh W) (s : W) (k : Out -> St W -> Option R)
noncomputable def YD(Y:Nat):Cfg:=D0 Y [98] (A4 []) [] (A4 [(1,[6]),(0,[3,0,0])]) [] (A4 []) (some [6]) [] [] []
noncomputable def Cv1(Y:Nat)(d b:By)(a:Int)(c:By->By->Int->Option R):Option R:=c d b a
def Cv2(d:Nat)(a sep1 sepSave2):evC (YD Y) (d+1) W Q 98 [pS a,pS sep1,pI sepSave2] [] s=Cv1 Y a sep1 sepSave2 (λa c b=>some (.fnr (ad7 126) [] [.ptr 1 0 0,.ptr 0 0 0,.ptr 2 0 0],[.box [pS a],.box [pS c],.box [pI b]],s)):=by refine(evE (fn:=Tryz.f98) (by kernel_rfl)).trans ?_;generalize evC (YD Y) d=J;unfold Cv1;kernel_rfl
noncomputable def A64(Y:Nat):Cfg:=D0 Y [59] (A4 []) [(98,VV)] (A4 [(1,[4]),(0,[0,0])]) [] (A4 []) (some [4]) [] [] []
noncomputable def D03(Y:Nat)(c a:By)(b:By->By->Option R):Option R:=b c a
def Do0(d:Nat)(a sep1):evC (A64 Y) (d+1) W Q 59 [pS a,pS sep1] [] s=D03 Y a sep1 (λa b=>some (.fnr (ad7 126) [] [.ptr 1 0 0,.ptr 0 0 0,.ptr 2 0 0],[.box [pS a],.box [pS b],.box [pI (0:Int)]],s)):=by refine(evE (fn:=Tryz.f59) (by kernel_rfl)).trans ?_;generalize evC (A64 Y) d=J;unfold D03;kernel_rfl
noncomputable abbrev QS:Code:=D4 am7
noncomputable def Qx(Y:Nat):Cfg:=D0 Y [34] (A4 []) [(58,Sl),(59,JO),(60,VX)] (A4 [(7,[2]),(6,[2]),(5,[2,13]),(4,[2,0]),(3,[2,9]),(2,[2]),(1,[0,1,7]),(0,[0,1])]) [58,60] (A4 [(0,[2]),(1,[2])]) (some [2]) [] [(126,Sp)] []
noncomputable def HA(Y:Nat)(a:By)(xs:List By)(self:Unit->Option R)(c:Unit->Option R)(b:Unit->Option R):Option R:=cond (A2 a.length) (cond (not (L4 a)) (b ()) (self ())) none
noncomputable def LZ(Y:Nat)(L:List By)(b:Unit->Option R)(c:Unit->Option R):Option R:=Cy4 (α:=Unit->Option R) (λ_=>b ()) (λa xs self _=>HA Y a xs self  b c) L ()
def Aq5(Y:Nat)(a:By)(xs:List By)(b:Unit->Option R)(c:Unit->Option R):LZ Y (a::xs)  b c=HA Y a xs (λ_=>LZ Y xs  b c)  b c:=rfl
def B83(L:List By):U4 #[13] (gp [(2,.ptr 0 0 0),(9,.fnr (ad7 126) [] [.bad,.bad,.bad])] 4) (bd (Qx Y) J Q (cd [1,1,0,1,0,0] QS)) (bd (Qx Y) J Q (cd [1,1,0,1,0,1] QS)) (L.map (λ(a:By)=>([pS a]:List PV))) [.box [pB false],.dead,.dead,.dead] s (rgK (gp [(2,.ptr 0 0 0),(9,.fnr (ad7 126) [] [.bad,.bad,.bad])] 4) (λH=>W4 H [2,1,3] [.box [.bad],.box [.bad],.box [.bad]]) k) =
 LZ Y L  (λ_=>k .normal ⟨gp [(2,.ptr 0 0 0),(9,.fnr (ad7 126) [] [.bad,.bad,.bad])] 4,[.box [pB false],.box [.bad],.box [.bad],.box [.bad]],s⟩) (λ_=>k .ret ⟨gp [(2,.ptr 0 0 0),(9,.fnr (ad7 126) [] [.bad,.bad,.bad])] 4,[.box [pB false],.box [.bad],.box [.bad],.box [.bad]],s⟩):=by
 induction L with
 | nil=>rfl
 | cons a xs b=>rw[Aq5];unfold HA;exact(j0 (by kernel_rfl) (A0 (A0 rfl b) rfl))
noncomputable def ZW(Y:Nat)(a:By)(b:Unit->Option R)(c:Unit->Option R):Option R:=cond ((A2 a.length)&&((1==1)&&((0:Int)==0))) (LZ Y (pcs (w9 ([46]:By) 0 0) a)  b c) none
abbrev Aq4(b:Code):Prop:=∀(k:Out->St W->Option R) s0,A9 (Qx Y) J Q b ⟨gp [(2,.ptr 0 0 0),(9,.fnr (ad7 126) [] [.ptr 2 0 0,.ptr 1 0 0,.ptr 3 0 0])] 4,[.box [pB false],.box [pS s0],.box [pS ([46]:By)],.box [pI (0:Int)]],s⟩ k=ZW Y s0 (λ_=>k .normal ⟨gp [(2,.ptr 0 0 0),(9,.fnr (ad7 126) [] [.bad,.bad,.bad])] 4,[.box [pB false],.box [.bad],.box [.bad],.box [.bad]],s⟩) (λ_=>k .ret ⟨gp [(2,.ptr 0 0 0),(9,.fnr (ad7 126) [] [.bad,.bad,.bad])] 4,[.box [pB false],.box [.bad],.box [.bad],.box [.bad]],s⟩)
def B82:Aq4 (R:=R) Y J Q s (cd [1,1,0,1,0] QS):=by intro k a;unfold ZW;exact((Bx0 [1,1,0,1,0] (by kernel_rfl)).trans (by kernel_rfl)).trans (Oh (B83 Y J Q s k (pcs (w9 ([46]:By) 0 0) a) ))
noncomputable def hvn(Y:Nat)(a:By)(b:Unit->Option R)(c:Bool->Bool->Option R):Option R:=cond (ltI 253 (a.length:Int)) (b ()) (cond (A2 a.length) (cond (F8 a) (b ()) (ZW Y a (λ_=>c true true) (λ_=>c false false))) none)
def Dx9(a:Code)(c:Aq4 (R:=PV × List Blk × W) Y J Q s a)(b:By):A9 (Qx Y) J Q (cd [] (I2 [1,1,0,1,0] a QS)) ⟨[pS b]++tps 16,[],s⟩ (G1 (Qx Y) am7)=hvn Y b (λ_=>some (pB false,[.box [pB false]],s)) (λe d=>some (pB e,[.box [pB d],.box [.bad],.box [.bad],.box [.bad]],s)):=by unfold hvn;exact(j0 (by kernel_rfl) (A0 rfl (A0 (A0 rfl ((c (F0 0 (F5 (Qx Y) J Q (cd [1,1,1] QS) (G1 (Qx Y) am7))) b).trans (by kernel_rfl))) rfl)))
def Dy0(d:Nat)(name0):evC (Qx Y) (d+1) W Q 34 [pS name0] [] s=hvn Y name0 (λ_=>some (pB false,[.box [pB false]],s)) (λb a=>some (pB b,[.box [pB a],.box [.bad],.box [.bad],.box [.bad]],s)):=
 (evE (fn:=am7) (by kernel_rfl)).trans (j0 (by kernel_rfl) (Dx9 Y (evC (Qx Y) d) Q s (cd [1,1,0,1,0] QS) (B82 Y (evC (Qx Y) d) Q s) name0))
noncomputable abbrev Xi:Code:=D4 al2
noncomputable def Bt(Y:Nat):Cfg:=D0 Y [126] (A4 [(5,[0,0,0,0]),(1,[0,1])]) [(127,Xc),(128,JJ)] (A4 [(10,[]),(9,[0,0,0,0]),(8,[0,0,0,0,3,34]),(7,[0,0,0,0,3,0]),(6,[0,0,0,0,3,25]),(5,[0,0,0,0,3]),(4,[0,1]),(3,[0,1,3,18]),(2,[0,1,3]),(1,[0,1,11]),(0,[0,0,0,0,7])]) [128] (A4 [(2,[0,1]),(3,[0,0,0,0]),(0,[]),(1,[0,1])]) (some []) [] [] []
noncomputable def OK{W R:Type}(Q:Yh W)(Y n:Nat)(d a:By)(c:Int)(s:W)(b:By->By->Int->W->Option R):Option R:=match n with|0=>none|n+1=>cond (ltI 0 (a.length:Int)) none (b d a c s)
def Ay3(n:Nat)(b c:By)(a:Int)(s:W):E0 3 ((Bt Y).keep 1) (bd (Bt Y) J Q (cd [0,1,0,0,0,0] Xi)) n ⟨gp [(0,.yd),(1,.ptr 1 0 0)] 49,[.box [pS b],.box [pS c],.box [pI a]],s⟩ k =
 OK Q Y n b c a s (λb c a s=>k (.exit 0) ⟨gp [] 52,[.box [pS b],.box [pS c],.box [pI a]],s⟩):=by
 induction n generalizing b c a s with
 | zero=>rfl
 | succ n d=>rw[OK];kernel_rfl
noncomputable def V0{W R:Type}(Q:Yh W)(Y n:Nat)(c a:By)(g:Int)(s:W)(i:By->By->Int->W->Option R)(j:By->By->Int->W->Option R):Option R:=match n with
 | 0=>none
 | n+1=>
  cond (A2 a.length)
   (cond (ltI (an5 a c) (0:Int))
   (i c a g s)
   (vl (A1 ((an5 a c)+g)) λe=>
    cond (L3 0 e a.length)
    (ydK (Q [pS (cut a 0 e)] s) λd b=>
     (cond (not d)
     (j c a g b)
     (vl (A1 ((an5 a c)+(c.length:Int))) λf=>
      cond (L3 f (a.length:Int) a.length)
      (vl (cut a f (a.length:Int)) λh=>
       V0 Q Y n c h g b i j)
      none)))
    none))
   none
def Ay4(n:Nat)(b c:By)(a:Int)(s:W):E0 3 ((Bt Y).keep 5) (bd (Bt Y) J Q (cd [1,0,0,0] Xi)) n ⟨gp [(0,.yd),(0,.ptr 0 0 0),(0,.ptr 1 0 0),(0,.ptr 2 0 0)] 48,[.box [pS b],.box [pS c],.box [pI a]],s⟩ k =
 V0 Q Y n b c a s (λb c a s=>k (.exit 2) ⟨gp [(0,.yd),(1,.ptr 1 0 0)] 49,[.box [pS b],.box [pS c],.box [pI a]],s⟩) (λb c a s=>k .ret ⟨gp [] 52,[.box [pS b],.box [pS c],.box [pI a]],s⟩):=by
 induction n generalizing b c a s with
 | zero=>rfl
 | succ n d=>rw[V0];simp only[<-d];kernel_rfl
noncomputable def Ay2{W R:Type}(Q:Yh W)(Y:Nat)(p t:By)(n:Int)(s:W)(j:By->By->Int->W->Option R):Option R:=
 cond ((p.length:Int)==0)
 (OK Q Y Y p t n s (λm o l q=>j m o l q))
 (V0 Q Y Y p t n s (λr a c e=>ydK (Q [pS a] e) λi b=>
  (j r a c b)) (λf g d h=>j f g d h))
def C20(d:Nat)(p t n s):evC (Bt Y) (d+1) W Q 126 [.yd,.ptr 0 0 0,.ptr 1 0 0,.ptr 2 0 0] [.box [pS p],.box [pS t],.box [pI n]] s=Ay2 Q Y p t n s (λb c a s=>some (.tup [],[.box [pS b],.box [pS c],.box [pI a]],s)):=by refine(evE (fn:=al2) (by kernel_rfl)).trans ?_;generalize evC (Bt Y) d=J;unfold Ay2;exact(j0 (by kernel_rfl) (A0 ((Ay3 Y J Q (F0 0 (F5 (Bt Y) J Q (cd [0,1,0,1] Xi) (F5 (Bt Y) J Q (cd [1] Xi) (G1 (Bt Y) al2)))) Y p t n s).trans (by kernel_rfl)) ((Ay4 Y J Q (F0 2 (F5 (Bt Y) J Q (cd [1,1] Xi) (G1 (Bt Y) al2))) Y p t n s).trans (by kernel_rfl))))
end
section
variable {W R : Type} (L : Nat) (Q : G4) (Y : Yh W) (s : W) (k : Out -> St W -> Option R)
noncomputable def XZ(L:Nat):Cfg:=D0 L [179] (A4 []) [] (A4 [(1,[2]),(0,[0])]) [] (A4 []) (some [2]) [] [] []
noncomputable def Du9(L:Nat)(a:Unit->Option R):Option R:=a ()
def Cu2(d:Nat):evC (XZ L) (d+1) W Y 179 [pI (16:Int)] [] s=Du9 L  (λ_=>some (pB true,[],s)):=by refine(evE (fn:=Tryz.f179) (by kernel_rfl)).trans ?_;generalize evC (XZ L) d=Q;unfold Du9;kernel_rfl
noncomputable abbrev XR:Code:=D4 ao1
noncomputable def Jy(L:Nat):Cfg:=D0 L [161] (A4 [(11,[0,0,1,0,5,0,0,0,0,0,0]),(18,[0,0,1,0,5,0,0,0,3])]) [(179,VK),(180,Dv8)] (A4 [(30,[10,0]),(29,[10,0]),(28,[0,9,0,0,0,80]),(27,[0,3,5,0,0,0]),(26,[0,3,5,0,0,0]),(25,[0,3,5,0,0,0,75]),(16,[0,2,0,5,0,0,0]),(15,[0,0,1,0,5,0,0,0]),(14,[0,0,1,0,5,0,0,0,0,0,0]),(13,[0,0,1,0,5,0,0,0,0,0,0]),(12,[0,0,1,0,5,0,0,0,0,0,0]),(11,[0,0,1,0,5,0,0,0,0,0,0,29]),(10,[0,0,1,0,5,0,0,0,0,0,0]),(9,[0,0,0,0,0,5,0,0,0,0,0]),(8,[0,0,0,0,0,5,0,0,0,0]),(24,[0,2,0,5,0,0,0]),(23,[0,0,1,0,5,0,0,0]),(22,[0,0,1,0,5,0,0,0,3]),(21,[0,2,0,5,0,0,0,3,0]),(20,[0,0,1,0,5,0,0,0,3,0]),(19,[0,0,1,0,5,0,0,0,3]),(18,[0,0,1,0,5,0,0,0,3,50]),(17,[0,0,1,0,5,0,0,0,3]),(7,[0,0,0,0,0,5,0,0,0,20]),(6,[0,0,0,0,0,5,0,0,0]),(5,[0,0,0,0,0,5,0,0,0,16]),(4,[0,0,0,0,0,5,0,0,0]),(3,[0,0,0,0,0,5,0,0]),(2,[0,0,0,0,0,5,0]),(1,[0,0,0,0,0,5,0,16]),(0,[0,0,0,0,0,5,0])]) [179,180] (A4 [(0,[0,0,1,0,5,0,0,0]),(1,[0,0,1,0,5,0,0,0,0,0,0]),(2,[0,0,1,0,5,0,0,0]),(3,[0,0,1,0,5,0,0,0,3])]) (some [10,0]) [] [] []
abbrev Kch(R:Type):=Bool->Bool->LL->Int->Int->LL->Option R
noncomputable def Ma(L n:Nat)(b a:Bool)(c:LL)(g d:Int)(f:LL)(j:Kch R):Option R:=match n with|0=>none|n+1=>cond (not (ltI g 16)) (vl (A42 .u64 g (15:Int)) λe=>cond (inR e 36) (vl (bAt (([48,49,50,51,52,53,54,55,56,57,97,98,99,100,101,102,103,104,105,106,107,108,109,110,111,112,113,114,115,116]:By)++[117,118,119,120,121,122]) e) λi=>cond (inR (A1 (d-1)) 65) (cond (decide ((j6 (A1 (d-1)))<f.length)) (vl (aj8 f (j6 (A1 (d-1))) (H7 (w9 f (j6 (A1 (d-1))) []) 0 [(SV.int .u8 i)])) λh=>Ma L n b a c (Sa .u64 g (4:Int)) (A1 (d-1)) h j) none) none) none) (j b a c g d f)
def Ap0(n b a c f d e):E0 2 ((Jy L).keep 11) (bd (Jy L) Q Y (cd [1,1,1,1,1,0,1,0,1,1,1,0,0,0] XR)) n ⟨gp [(0,.s (.sl b a 0 c)),(0,p64 f),(1,pB false),(0,pB false),(5,.fl 0),(0,pS ([]:By)),(0,.ptr 1 0 0),(0,pI d),(0,p64 (4:Int)),(0,p64 (16:Int)),(0,p64 (15:Int))] 85,[.arr true 5 1 [],.arr false 181 1 e],s⟩ k =
 Ma L n b a c f d e (λb a c f d e=>k (.exit 0) ⟨gp [(0,.s (.sl b a 0 c)),(0,p64 f),(1,pB false),(0,pB false),(5,.fl 0),(0,pS ([]:By)),(0,.ptr 1 0 0),(0,pI d)] 88,[.arr true 5 1 [],.arr false 181 1 e],s⟩):=by
 induction n generalizing b a c f d e with
 | zero=>rfl
 | succ n g=>rw[Ma];simp only[<-g];kernel_rfl
noncomputable def Ao9(L:Nat)(e d:Bool)(ds:LL)(v:Int)(m:By->LL->Option R):Option R:=cond ((16:Int)==16) (cond ((16:Int)==16) (Ma L L e d ds v 65 (v8 65 [(SV.int .u8 (0:Int))]) (λg f j i a c=>cond (inR i 36) (vl (bAt (([48,49,50,51,52,53,54,55,56,57,97,98,99,100,101,102,103,104,105,106,107,108,109,110,111,112,113,114,115,116]:By)++[117,118,119,120,121,122]) i) λl=>cond (inR (A1 (a-1)) 65) (cond (decide ((j6 (A1 (a-1)))<c.length)) (vl (aj8 c (j6 (A1 (a-1))) (H7 (w9 c (j6 (A1 (a-1))) []) 0 [(SV.int .u8 l)])) λb=>cond (decide (b.length=65)) (cond (L3 (A1 (a-1)) (65:Int) 65) (cond (af5 (af3 (65-(j6 (A1 (a-1)))) (ad6 (j6 (A1 (a-1))) b)) Qg) (vl (ab6 Nx (af3 (65-(j6 (A1 (a-1)))) (ad6 (j6 (A1 (a-1))) b))) λh=>m h b) none) none) none) none) none) none)) none) none
def Cs1(d:Nat)(ds_z ds_t ds v):evC (Jy L) (d+1) W Y 161 [.s (.sl ds_z ds_t 0 ds),p64 v,pI (16:Int),pB false,pB false] [] s=Ao9 L ds_z ds_t ds v (λb a=>some (.tup [.fl 0,pS b],[.arr true 5 1 [],.arr false 181 1 a],s)):=by refine(evE (fn:=ao1) (by kernel_rfl)).trans ?_;generalize evC (Jy L) d=Q;unfold Ao9;exact(j0 (by kernel_rfl) (A0 (A0 ((Ap0 L Q Y s (F0 0 (F5 (Jy L) Q Y (cd [1,1,1,1,1,0,1,0,1,1,1,1] XR) (F5 (Jy L) Q Y (cd [1,1,1,1,1,1] XR) (G1 (Jy L) ao1)))) L ds_z ds_t ds v 65 (v8 65 [(SV.int .u8 (0:Int))])).trans (by kernel_rfl)) rfl) rfl))
noncomputable def XY(L:Nat):Cfg:=D0 L [132] (A4 []) [(161,UW)] (A4 [(9,[4]),(8,[8]),(7,[4]),(6,[5,0]),(5,[0,4,0]),(4,[0,4]),(3,[4]),(2,[0,11]),(1,[0,0,8]),(0,[0,0])]) [] (A4 []) (some [4]) [] [] []
noncomputable def By3(L:Nat)(v:Int)(a:By->Option R):Option R:=cond (ltN v 65536) (cond ((16:Int)==16) (a (Q3 (j6 v))) none) none
def Ct6(d:Nat)(v):evC (XY L) (d+1) W Y 132 [p64 v,pI (16:Int)] [] s=By3 L v (λa=>some (pS a,[],s)):=by refine(evE (fn:=Tryz.f132) (by kernel_rfl)).trans ?_;generalize evC (XY L) d=Q;unfold By3;kernel_rfl
noncomputable def A50(L:Nat):Cfg:=D0 L [101] (A4 []) [(132,VI)] (A4 [(1,[4]),(0,[0,0])]) [132] (A4 []) (some [4]) [] [] []
noncomputable def Dd2(L:Nat)(v:Int)(a:By->Option R):Option R:=cond (ltN v 65536) (cond ((16:Int)==16) (a (Q3 (j6 v))) none) none
def Dd3(d:Nat)(v):evC (A50 L) (d+1) W Y 101 [p64 v,pI (16:Int)] [] s=Dd2 L v (λa=>some (pS a,[],s)):=by refine(evE (fn:=Tryz.f101) (by kernel_rfl)).trans ?_;generalize evC (A50 L) d=Q;unfold Dd2;kernel_rfl
end
end
end Go.Proofs.YtddlcgjamdbinaaGreatDoor.E
namespace Go.Proofs
open Go.Shelf
def Tryz.lays156_ren:x8:=⟨fun|156=>102|165=>133|166=>134|169=>135|240=>162|241=>163|276=>181|277=>182|n=>n,fun|31=>22|9=>9|3=>3|4=>4|0=>0|20=>20|72=>148|76=>152|70=>146|37=>83|75=>151|127=>170|164=>182|5=>5|80=>154|n=>n,fun|n=>n⟩
theorem Tryz.lays156:ar2 o6 Tryz.lays156_ren:={
 mixed:=by kernel_rfl
 f156:=Tryz.func102.trans (congrArg some (by kernel_rfl))
 f165:=Tryz.func133.trans (congrArg some (by kernel_rfl))
 f166:=Tryz.func134.trans (congrArg some (by kernel_rfl))
 f169:=Tryz.func135.trans (congrArg some (by kernel_rfl))
 f240:=Tryz.func162.trans (congrArg some (by kernel_rfl))
 f241:=Tryz.func163.trans (congrArg some (by kernel_rfl))
 f276:=Tryz.func181.trans (congrArg some (by kernel_rfl))
 f277:=Tryz.func182.trans (congrArg some (by kernel_rfl))
 t0:=x4
 a0:=ac0
 z0:=ab3
 v0:=y7
 t3:=o8
 a3:=aa3
 z3:=y5
 v3:=p4
 t4:=p6
 a4:=aa9
 z4:=aa1
 v4:=p9
 t9:=s8
 a9:=ab5
 z9:=aa8
 v9:=w6
 t20:=ak3
 a20:=ap7
 z20:=an3
 v20:=al6
 t31:=ag1
 a31:=ak2
 z31:=aj0
 v31:=ag8
 t37:=ak4
 a37:=ap8
 z37:=an4
 v37:=al7
 t70:=Tryz.underlying146
 a70:=Tryz.isAgg146
 z70:=Tryz.sizeOf146
 v70:=Tryz.zeroValue146
 t72:=Tryz.underlying148
 a72:=Tryz.isAgg148
 z72:=Tryz.sizeOf148
 v72:=Tryz.zeroValue148
 t75:=Tryz.underlying151
 a75:=Tryz.isAgg151
 z75:=Tryz.sizeOf151
 v75:=Tryz.zeroValue151
 t76:=Tryz.underlying152
 a76:=Tryz.isAgg152
 z76:=Tryz.sizeOf152
 v76:=Tryz.zeroValue152
 t127:=Tryz.underlying170
 a127:=Tryz.isAgg170
 z127:=Tryz.sizeOf170
 v127:=Tryz.zeroValue170
 t164:=Tryz.underlying182
 a164:=Tryz.isAgg182
 z164:=Tryz.sizeOf182
 v164:=Tryz.zeroValue182 }
theorem Tryz.Builder_Extra_156:Builder.Extra o6 Tryz.lays156_ren:={
 sizeBuilder:=by kernel_rfl
 liesBuilder:=by kernel_rfl
 t5:=x5
 a5:=ac1
 z5:=ab4
 v5:=y8
 infoByte:=by kernel_rfl
 cellsByte:=by kernel_rfl
 sizeByte:=by kernel_rfl
 neB5:=by decide }
def Tryz.lays195_ren:x8:=⟨fun|195=>170|n=>n,fun|9=>9|3=>3|0=>0|4=>4|n=>n,fun|n=>n⟩
theorem Tryz.lays195:ar5 o6 Tryz.lays195_ren:={
 mixed:=by kernel_rfl
 f195:=ap3.trans (congrArg some (by kernel_rfl))
 t0:=x4
 a0:=ac0
 z0:=ab3
 v0:=y7
 t3:=o8
 a3:=aa3
 z3:=y5
 v3:=p4
 t4:=p6
 a4:=aa9
 z4:=aa1
 v4:=p9
 t9:=s8
 a9:=ab5
 z9:=aa8
 v9:=w6 }
def Tryz.laysM171_ren:x8:=⟨fun|171=>61|243=>100|246=>131|283=>158|284=>159|285=>160|286=>161|129=>85|317=>177|318=>178|319=>179|320=>180|337=>191|338=>192|n=>n,fun|3=>3|9=>9|2=>2|4=>4|171=>166|0=>0|53=>115|37=>83|5=>5|173=>168|212=>180|51=>25|20=>20|213=>181|46=>79|232=>190|233=>191|n=>n,fun|17=>3|18=>4|19=>5|n=>n⟩
theorem Tryz.laysM171:ap9 o6 Tryz.laysM171_ren:={
 mixed:=by kernel_rfl
 f129:=aq5.trans (congrArg some (by kernel_rfl))
 f171:=Tryz.func61.trans (congrArg some (by kernel_rfl))
 f243:=Tryz.func100.trans (congrArg some (by kernel_rfl))
 f246:=Tryz.func131.trans (congrArg some (by kernel_rfl))
 f283:=Tryz.func158.trans (congrArg some (by kernel_rfl))
 f284:=Tryz.func159.trans (congrArg some (by kernel_rfl))
 f285:=Tryz.func160.trans (congrArg some (by kernel_rfl))
 f286:=Tryz.func161.trans (congrArg some (by kernel_rfl))
 f317:=Tryz.func177.trans (congrArg some (by kernel_rfl))
 f318:=Tryz.func178.trans (congrArg some (by kernel_rfl))
 f319:=Tryz.func179.trans (congrArg some (by kernel_rfl))
 f320:=ap4.trans (congrArg some (by kernel_rfl))
 f337:=ap5.trans (congrArg some (by kernel_rfl))
 f338:=ap6.trans (congrArg some (by kernel_rfl))
 t0:=x4
 a0:=ac0
 z0:=ab3
 v0:=y7
 t2:=Tryz.underlying2
 a2:=Tryz.isAgg2
 z2:=Tryz.sizeOf2
 v2:=Tryz.zeroValue2
 t3:=o8
 a3:=aa3
 z3:=y5
 v3:=p4
 t4:=p6
 a4:=aa9
 z4:=aa1
 v4:=p9
 t5:=x5
 a5:=ac1
 z5:=ab4
 v5:=y8
 t9:=s8
 a9:=ab5
 z9:=aa8
 v9:=w6
 t20:=ak3
 a20:=ap7
 z20:=an3
 v20:=al6
 t37:=ak4
 a37:=ap8
 z37:=an4
 v37:=al7
 t46:=aa2
 a46:=ac7
 z46:=ac4
 v46:=aa6
 t51:=ac2
 a51:=ae0
 z51:=ad1
 v51:=ac6
 t53:=ad5
 a53:=ag4
 z53:=af6
 v53:=ae1
 t171:=Tryz.underlying166
 a171:=Tryz.isAgg166
 z171:=Tryz.sizeOf166
 v171:=Tryz.zeroValue166
 t173:=Tryz.underlying168
 a173:=Tryz.isAgg168
 z173:=Tryz.sizeOf168
 v173:=Tryz.zeroValue168
 t212:=Tryz.underlying180
 a212:=Tryz.isAgg180
 z212:=Tryz.sizeOf180
 v212:=Tryz.zeroValue180
 t213:=Tryz.underlying181
 a213:=Tryz.isAgg181
 z213:=Tryz.sizeOf181
 t232:=aj1
 a232:=an1
 z232:=am8
 v232:=ak5
 t233:=aj2
 a233:=an2
 z233:=am9
 v233:=Tryz.zeroValue191
 g17:=by kernel_rfl
 g18:=by kernel_rfl
 g19:=by kernel_rfl
 i0:=by kernel_rfl
 i2:=by kernel_rfl
 i3:=by kernel_rfl
 i4:=by kernel_rfl
 i5:=by kernel_rfl
 i9:=by kernel_rfl
 i20:=by kernel_rfl
 i37:=by kernel_rfl
 i46:=by kernel_rfl
 i51:=by kernel_rfl
 i53:=by kernel_rfl
 i171:=by kernel_rfl
 i173:=by kernel_rfl
 i212:=by kernel_rfl
 i232:=by kernel_rfl
 i233:=by kernel_rfl
 m17:=by kernel_rfl
 m18:=by kernel_rfl
 m19:=by kernel_rfl }
def Tryz.lays143_ren:x8:=⟨fun|143=>128|219=>136|217=>137|225=>140|224=>139|267=>164|266=>165|314=>183|n=>n,fun|9=>9|3=>3|4=>4|5=>5|46=>79|146=>185|51=>25|n=>n,fun|1=>0|n=>n⟩
theorem Tryz.lays143:aq9 o6 Tryz.lays143_ren:={
 mixed:=by kernel_rfl
 f143:=ap2.trans (congrArg some (by kernel_rfl))
 f217:=af1.trans (congrArg some (by kernel_rfl))
 f219:=aj9.trans (congrArg some (by kernel_rfl))
 f224:=ah2.trans (congrArg some (by kernel_rfl))
 f225:=ah3.trans (congrArg some (by kernel_rfl))
 f266:=af2.trans (congrArg some (by kernel_rfl))
 f267:=ak0.trans (congrArg some (by kernel_rfl))
 f314:=ak1.trans (congrArg some (by kernel_rfl))
 t3:=o8
 a3:=aa3
 z3:=y5
 v3:=p4
 t4:=p6
 a4:=aa9
 z4:=aa1
 v4:=p9
 t5:=x5
 a5:=ac1
 z5:=ab4
 v5:=y8
 t9:=s8
 a9:=ab5
 z9:=aa8
 v9:=w6
 t46:=aa2
 a46:=ac7
 z46:=ac4
 v46:=aa6
 t51:=ac2
 a51:=ae0
 z51:=ad1
 v51:=ac6
 t146:=af7
 a146:=ai9
 z146:=ai2
 v146:=ag2
 g1:=by kernel_rfl }
def Tryz.lays145_ren:x8:=⟨fun|145=>64|220=>103|219=>136|217=>137|225=>140|224=>139|267=>164|266=>165|314=>183|n=>n,fun|9=>9|4=>4|59=>99|3=>3|5=>5|46=>79|146=>185|51=>25|n=>n,fun|1=>0|n=>n⟩
theorem Tryz.lays145:ar0 o6 Tryz.lays145_ren:={
 mixed:=by kernel_rfl
 f145:=Tryz.func64.trans (congrArg some (by kernel_rfl))
 f217:=af1.trans (congrArg some (by kernel_rfl))
 f219:=aj9.trans (congrArg some (by kernel_rfl))
 f220:=Tryz.func103.trans (congrArg some (by kernel_rfl))
 f224:=ah2.trans (congrArg some (by kernel_rfl))
 f225:=ah3.trans (congrArg some (by kernel_rfl))
 f266:=af2.trans (congrArg some (by kernel_rfl))
 f267:=ak0.trans (congrArg some (by kernel_rfl))
 f314:=ak1.trans (congrArg some (by kernel_rfl))
 t3:=o8
 a3:=aa3
 z3:=y5
 v3:=p4
 t4:=p6
 a4:=aa9
 z4:=aa1
 v4:=p9
 t5:=x5
 a5:=ac1
 z5:=ab4
 v5:=y8
 t9:=s8
 a9:=ab5
 z9:=aa8
 v9:=w6
 t46:=aa2
 a46:=ac7
 z46:=ac4
 v46:=aa6
 t51:=ac2
 a51:=ae0
 z51:=ad1
 v51:=ac6
 t59:=Tryz.underlying99
 a59:=Tryz.isAgg99
 z59:=Tryz.sizeOf99
 v59:=Tryz.zeroValue99
 t146:=af7
 a146:=ai9
 z146:=ai2
 v146:=ag2
 g1:=by kernel_rfl }
def Tryz.lays138_ren:x8:=⟨fun|138=>172|195=>170|218=>186|143=>128|219=>136|217=>137|225=>140|224=>139|267=>164|266=>165|314=>183|n=>n,fun|9=>9|3=>3|4=>4|5=>5|0=>0|46=>79|146=>185|51=>25|n=>n,fun|1=>0|n=>n⟩
theorem Tryz.lays138:aq8 o6 Tryz.lays138_ren:={
 mixed:=by kernel_rfl
 f138:=Tryz.func172.trans (congrArg some (by kernel_rfl))
 f143:=ap2.trans (congrArg some (by kernel_rfl))
 f195:=ap3.trans (congrArg some (by kernel_rfl))
 f217:=af1.trans (congrArg some (by kernel_rfl))
 f218:=Tryz.func186.trans (congrArg some (by kernel_rfl))
 f219:=aj9.trans (congrArg some (by kernel_rfl))
 f224:=ah2.trans (congrArg some (by kernel_rfl))
 f225:=ah3.trans (congrArg some (by kernel_rfl))
 f266:=af2.trans (congrArg some (by kernel_rfl))
 f267:=ak0.trans (congrArg some (by kernel_rfl))
 f314:=ak1.trans (congrArg some (by kernel_rfl))
 t0:=x4
 a0:=ac0
 z0:=ab3
 v0:=y7
 t3:=o8
 a3:=aa3
 z3:=y5
 v3:=p4
 t4:=p6
 a4:=aa9
 z4:=aa1
 v4:=p9
 t5:=x5
 a5:=ac1
 z5:=ab4
 v5:=y8
 t9:=s8
 a9:=ab5
 z9:=aa8
 v9:=w6
 t46:=aa2
 a46:=ac7
 z46:=ac4
 v46:=aa6
 t51:=ac2
 a51:=ae0
 z51:=ad1
 v51:=ac6
 t146:=af7
 a146:=ai9
 z146:=ai2
 v146:=ag2
 g1:=by kernel_rfl }
def Tryz.lays196_ren:x8:=⟨fun|196=>169|259=>185|n=>n,fun|9=>9|4=>4|3=>3|5=>5|12=>12|119=>172|0=>0|46=>79|139=>175|138=>174|53=>115|n=>n,fun|3=>1|4=>2|n=>n⟩
theorem Tryz.lays196:ar6 o6 Tryz.lays196_ren:={
 mixed:=by kernel_rfl
 f196:=Tryz.func169.trans (congrArg some (by kernel_rfl))
 f259:=Tryz.func185.trans (congrArg some (by kernel_rfl))
 t0:=x4
 a0:=ac0
 z0:=ab3
 v0:=y7
 t3:=o8
 a3:=aa3
 z3:=y5
 v3:=p4
 t4:=p6
 a4:=aa9
 z4:=aa1
 v4:=p9
 t5:=x5
 a5:=ac1
 z5:=ab4
 v5:=y8
 t9:=s8
 a9:=ab5
 z9:=aa8
 v9:=w6
 t12:=Tryz.underlying12
 a12:=Tryz.isAgg12
 z12:=Tryz.sizeOf12
 v12:=Tryz.zeroValue12
 t46:=aa2
 a46:=ac7
 z46:=ac4
 v46:=aa6
 t53:=ad5
 a53:=ag4
 z53:=af6
 v53:=ae1
 t119:=Tryz.underlying172
 a119:=Tryz.isAgg172
 z119:=Tryz.sizeOf172
 t138:=Tryz.underlying174
 a138:=Tryz.isAgg174
 z138:=Tryz.sizeOf174
 v138:=Tryz.zeroValue174
 t139:=Tryz.underlying175
 a139:=Tryz.isAgg175
 z139:=Tryz.sizeOf175
 v139:=Tryz.zeroValue175
 g3:=by kernel_rfl
 g4:=by kernel_rfl }
def Tryz.lays2_21_ren:x8:=⟨fun|21=>174|27=>188|28=>189|35=>195|39=>196|n=>n,fun|22=>88|3=>3|4=>4|0=>0|n=>n,fun|n=>n⟩
theorem Tryz.lays2_21:ar7 o6 Tryz.lays2_21_ren:={
 mixed:=by kernel_rfl
 f21:=Tryz.func174.trans (congrArg some (by kernel_rfl))
 f27:=Tryz.func188.trans (congrArg some (by kernel_rfl))
 f28:=Tryz.func189.trans (congrArg some (by kernel_rfl))
 f35:=Tryz.func195.trans (congrArg some (by kernel_rfl))
 f39:=Tryz.func196.trans (congrArg some (by kernel_rfl))
 t0:=x4
 a0:=ac0
 z0:=ab3
 v0:=y7
 t3:=o8
 a3:=aa3
 z3:=y5
 v3:=p4
 t4:=p6
 a4:=aa9
 z4:=aa1
 v4:=p9
 t22:=Tryz.underlying88
 a22:=Tryz.isAgg88
 z22:=Tryz.sizeOf88
 v22:=Tryz.zeroValue88
 i3:=by kernel_rfl }
def Tryz.lays7_27_ren:x8:=⟨fun|27=>180|28=>191|29=>192|n=>n,fun|25=>79|3=>3|27=>25|22=>115|4=>4|53=>190|0=>0|5=>5|54=>191|n=>n,fun|0=>4|1=>5|n=>n⟩
theorem Tryz.lays7_27:ar8 o6 Tryz.lays7_27_ren:={
 mixed:=by kernel_rfl
 f27:=ap4.trans (congrArg some (by kernel_rfl))
 f28:=ap5.trans (congrArg some (by kernel_rfl))
 f29:=ap6.trans (congrArg some (by kernel_rfl))
 t0:=x4
 a0:=ac0
 z0:=ab3
 v0:=y7
 i0:=by kernel_rfl
 t3:=o8
 a3:=aa3
 z3:=y5
 v3:=p4
 i3:=by kernel_rfl
 t4:=p6
 a4:=aa9
 z4:=aa1
 v4:=p9
 i4:=by kernel_rfl
 t5:=x5
 a5:=ac1
 z5:=ab4
 v5:=y8
 i5:=by kernel_rfl
 t22:=ad5
 a22:=ag4
 z22:=af6
 v22:=ae1
 i22:=by kernel_rfl
 t25:=aa2
 a25:=ac7
 z25:=ac4
 v25:=aa6
 i25:=by kernel_rfl
 t27:=ac2
 a27:=ae0
 z27:=ad1
 v27:=ac6
 i27:=by kernel_rfl
 t53:=aj1
 a53:=an1
 z53:=am8
 v53:=ak5
 i53:=by kernel_rfl
 t54:=aj2
 a54:=an2
 z54:=am9
 g0:=by kernel_rfl
 g1:=by kernel_rfl }
def Tryz.lays137_ren:x8:=⟨fun|137=>104|217=>137|266=>165|n=>n,fun|9=>9|5=>5|3=>3|n=>n,fun|n=>n⟩
theorem Tryz.lays137:aq7 o6 Tryz.lays137_ren:={
 mixed:=by kernel_rfl
 f137:=ap1.trans (congrArg some (by kernel_rfl))
 f217:=af1.trans (congrArg some (by kernel_rfl))
 f266:=af2.trans (congrArg some (by kernel_rfl))
 t3:=o8
 a3:=aa3
 z3:=y5
 v3:=p4
 t5:=x5
 a5:=ac1
 z5:=ab4
 v5:=y8
 t9:=s8
 a9:=ab5
 z9:=aa8
 v9:=w6 }
def Tryz.lays153_ren:x8:=⟨fun|153=>68|152=>106|226=>107|227=>108|228=>109|137=>104|119=>138|224=>139|225=>140|217=>137|266=>165|n=>n,fun|9=>9|3=>3|4=>4|5=>5|21=>21|117=>130|116=>129|0=>0|46=>79|124=>157|n=>n,fun|n=>n⟩
theorem Tryz.lays153:ar1 o6 Tryz.lays153_ren:={
 mixed:=by kernel_rfl
 f119:=Tryz.func138.trans (congrArg some (by kernel_rfl))
 f137:=ap1.trans (congrArg some (by kernel_rfl))
 f152:=Tryz.func106.trans (congrArg some (by kernel_rfl))
 f153:=Tryz.func68.trans (congrArg some (by kernel_rfl))
 f217:=af1.trans (congrArg some (by kernel_rfl))
 f224:=ah2.trans (congrArg some (by kernel_rfl))
 f225:=ah3.trans (congrArg some (by kernel_rfl))
 f226:=Tryz.func107.trans (congrArg some (by kernel_rfl))
 f227:=Tryz.func108.trans (congrArg some (by kernel_rfl))
 f228:=Tryz.func109.trans (congrArg some (by kernel_rfl))
 f266:=af2.trans (congrArg some (by kernel_rfl))
 t0:=x4
 a0:=ac0
 z0:=ab3
 v0:=y7
 t3:=o8
 a3:=aa3
 z3:=y5
 v3:=p4
 t4:=p6
 a4:=aa9
 z4:=aa1
 v4:=p9
 t5:=x5
 a5:=ac1
 z5:=ab4
 v5:=y8
 t9:=s8
 a9:=ab5
 z9:=aa8
 v9:=w6
 t21:=Tryz.underlying21
 a21:=Tryz.isAgg21
 z21:=Tryz.sizeOf21
 v21:=Tryz.zeroValue21
 t46:=aa2
 a46:=ac7
 z46:=ac4
 v46:=aa6
 t116:=Tryz.underlying129
 a116:=Tryz.isAgg129
 z116:=Tryz.sizeOf129
 t117:=Tryz.underlying130
 a117:=Tryz.isAgg130
 z117:=Tryz.sizeOf130
 v117:=Tryz.zeroValue130
 t124:=Tryz.underlying157
 a124:=Tryz.isAgg157
 z124:=Tryz.sizeOf157
 v124:=Tryz.zeroValue157 }
def Tryz.lays190_ren:x8:=⟨fun|190=>23|125=>45|258=>44|128=>84|129=>85|302=>75|303=>76|304=>77|305=>78|306=>79|307=>80|308=>81|309=>82|310=>83|333=>117|329=>118|330=>119|334=>120|335=>121|336=>122|344=>150|n=>n,fun|31=>22|9=>9|3=>3|46=>79|0=>0|51=>25|53=>115|4=>4|183=>108|182=>107|131=>86|5=>5|218=>134|222=>138|228=>158|229=>96|n=>n,fun|n=>n⟩
theorem Tryz.lays190:ar3 o6 Tryz.lays190_ren:={
 mixed:=by kernel_rfl
 f125:=Tryz.func45.trans (congrArg some (by kernel_rfl))
 f128:=Tryz.func84.trans (congrArg some (by kernel_rfl))
 f129:=aq5.trans (congrArg some (by kernel_rfl))
 f190:=Tryz.func23.trans (congrArg some (by kernel_rfl))
 f258:=Tryz.func44.trans (congrArg some (by kernel_rfl))
 f302:=Tryz.func75.trans (congrArg some (by kernel_rfl))
 f303:=Tryz.func76.trans (congrArg some (by kernel_rfl))
 f304:=Tryz.func77.trans (congrArg some (by kernel_rfl))
 f305:=Tryz.func78.trans (congrArg some (by kernel_rfl))
 f306:=Tryz.func79.trans (congrArg some (by kernel_rfl))
 f307:=Tryz.func80.trans (congrArg some (by kernel_rfl))
 f308:=Tryz.func81.trans (congrArg some (by kernel_rfl))
 f309:=Tryz.func82.trans (congrArg some (by kernel_rfl))
 f310:=Tryz.func83.trans (congrArg some (by kernel_rfl))
 f329:=Tryz.func118.trans (congrArg some (by kernel_rfl))
 f330:=Tryz.func119.trans (congrArg some (by kernel_rfl))
 f333:=Tryz.func117.trans (congrArg some (by kernel_rfl))
 f334:=Tryz.func120.trans (congrArg some (by kernel_rfl))
 f335:=Tryz.func121.trans (congrArg some (by kernel_rfl))
 f336:=Tryz.func122.trans (congrArg some (by kernel_rfl))
 f344:=Tryz.func150.trans (congrArg some (by kernel_rfl))
 t0:=x4
 a0:=ac0
 z0:=ab3
 v0:=y7
 t3:=o8
 a3:=aa3
 z3:=y5
 v3:=p4
 t4:=p6
 a4:=aa9
 z4:=aa1
 v4:=p9
 t5:=x5
 a5:=ac1
 z5:=ab4
 v5:=y8
 t9:=s8
 a9:=ab5
 z9:=aa8
 v9:=w6
 t31:=ag1
 a31:=ak2
 z31:=aj0
 v31:=ag8
 t46:=aa2
 a46:=ac7
 z46:=ac4
 v46:=aa6
 t51:=ac2
 a51:=ae0
 z51:=ad1
 v51:=ac6
 t53:=ad5
 a53:=ag4
 z53:=af6
 v53:=ae1
 t131:=Tryz.underlying86
 a131:=Tryz.isAgg86
 z131:=Tryz.sizeOf86
 v131:=Tryz.zeroValue86
 t182:=Tryz.underlying107
 a182:=Tryz.isAgg107
 z182:=Tryz.sizeOf107
 v182:=Tryz.zeroValue107
 t183:=Tryz.underlying108
 a183:=Tryz.isAgg108
 z183:=Tryz.sizeOf108
 v183:=Tryz.zeroValue108
 t218:=Tryz.underlying134
 a218:=Tryz.isAgg134
 z218:=Tryz.sizeOf134
 v218:=Tryz.zeroValue134
 t222:=Tryz.underlying138
 a222:=Tryz.isAgg138
 z222:=Tryz.sizeOf138
 v222:=Tryz.zeroValue138
 t228:=Tryz.underlying158
 a228:=Tryz.isAgg158
 z228:=Tryz.sizeOf158
 v228:=Tryz.zeroValue158
 t229:=Tryz.underlying96
 a229:=Tryz.isAgg96
 z229:=Tryz.sizeOf96
 v229:=Tryz.zeroValue96 }
def Tryz.lays194_ren:x8:=⟨fun|194=>24|n=>n,fun|31=>22|9=>9|3=>3|4=>4|0=>0|n=>n,fun|n=>n⟩
theorem Tryz.lays194:ar4 o6 Tryz.lays194_ren:={
 mixed:=by kernel_rfl
 f194:=Tryz.func24.trans (congrArg some (by kernel_rfl))
 t0:=x4
 a0:=ac0
 z0:=ab3
 v0:=y7
 t3:=o8
 a3:=aa3
 z3:=y5
 v3:=p4
 t4:=p6
 a4:=aa9
 z4:=aa1
 v4:=p9
 t9:=s8
 a9:=ab5
 z9:=aa8
 v9:=w6
 t31:=ag1
 a31:=ak2
 z31:=aj0
 v31:=ag8 }
end Go.Proofs
namespace Go.Proofs.YtddlcgjamdbinaaGreatDoor.E
set_option linter.all false
section
open Go Go.Proofs Go.Sort
def ZT{C:Cfg}{St:Nat->Prop}{w:World}{g:Nat}{k:IntKind}{zs:List Int}(a:GOK C St w)(b:C.G=GX)(h:GX.tab g=some (k,zs)):∃e x,w.heap[g]? = some (.cells (zs.map λz=>Value.int k z).toArray e x):=(a.1 g k zs (by rw[b];exact h)).2
def Cs5{C:Cfg}{St:Nat->Prop}{w:World}(a:GOK C St w)(b:C.G=GX):∃m,w.cell? ⟨0,0,none⟩=some (.int .i64 m):=(a.2 _ (by rw[b];rfl)).2
def GW{w:World}{g:Nat}{a:List Int}{k:IntKind}{e:TypeId}{x}(h:w.heap[g]? = some (.cells (a.map λz=>Value.int k z).toArray e x))(i:Nat)(b:i<a.length):w.cell? ⟨g,i,none⟩=some (.int k (a.getD i 0)):=by simp[World.cell?,h,j8,x7 b]
def Dd6{C:Cfg}{St:Nat->Prop}{w:World}(f:GOK C St w)(a:C.G=GX):Lib.Utf8Tabs 1 2 w:=by
 obtain⟨j,m,h⟩:=ZT (g:=1) (k:=.u8) (zs:=aj6) f a rfl;obtain⟨b,n,d⟩:=ZT (g:=2) (k:=.u8) (zs:=Ip) f a rfl;refine⟨λc a=>?_,λi l=>⟨?_,?_⟩⟩
 ·rw[GW h c (by simp[aj6];omega)];simp[aj6,j8,x7,a]
 ·rw[GW d (2*i) (by simp[Ip];omega)];have:2*i<32:=by omega
  simp[Ip,j8,this]
 ·rw[GW d (2*i+1) (by simp[Ip];omega)];have:2*i+1<32:=by omega
  have e:(2*i+1) / 2=i:=by omega
  have b:¬(2*i+1) % 2=0:=by omega
  simp[Ip,j8,this,e,b]
def Cs6{C:Cfg}{St:Nat->Prop}{w:World}(b:GOK C St w)(c:C.G=GX):Lib.TabIs o6 w "internal/strconv.uint64pow10" .u64 ao5:=by
 obtain⟨d,e,a⟩:=ZT (g:=3) (k:=.u64) (zs:=ao5) b c rfl;unfold Lib.TabIs World.var?
 rw [show o6.globalNamed "internal/strconv.uint64pow10" = some 3 by kernel_rfl]
 simp only[ag7,a]
def Bs6:C0 o6 GX 128 JJ:=by
 refine C0.fix (pf:=XB) _ (L1 (fn:=Tryz.f128) (by kernel_rfl) (by kernel_rfl) (by kernel_rfl) ?_);intro args ret o h;unfold XB at h;split at h
 ·rename_i s p;obtain⟨b,h⟩:=D2 h;obtain⟨rfl,rfl⟩:=K2 h;refine⟨rfl,rfl,λC r a t w q c f d=>?_⟩;obtain⟨U,V,rfl,j,k⟩:=d.arr2;obtain⟨n,rfl,rfl⟩:=j.inv_str;obtain⟨l,rfl,rfl⟩:=k.inv_str;obtain⟨m,g⟩:=Cs5 c a;have i:=M5 b;refine(Any.strings_Index Tryz.lays143 n l m w (by simp at i;omega) g).mono ?_;rintro e w' ⟨rfl,rfl⟩;exact⟨_,rfl,ad9 _ _,VP.mk_int _ _⟩
 ·cases h
def C78:C0 o6 GX 64 A30:=by
 refine C0.fix (pf:=XA) _ (L1 (fn:=Tryz.f64) (by kernel_rfl) (by kernel_rfl) (by kernel_rfl) ?_);intro args ret q h;unfold XA at h;split at h
 ·rename_i s p;obtain⟨b,h⟩:=D2 h;obtain⟨rfl,rfl⟩:=K2 h;refine⟨rfl,rfl,λC t a u w r c f d=>?_⟩;obtain⟨U,V,rfl,j,k⟩:=d.arr2;obtain⟨o,rfl,rfl⟩:=j.inv_str;obtain⟨l,rfl,rfl⟩:=k.inv_str;obtain⟨m,g⟩:=Cs5 c a;have i:=M5 b;refine(Any.strings_Cut Tryz.lays145 o l m w (by simp at i;omega) g).mono ?_;rintro e w' ⟨rfl,n,rfl⟩;exact⟨_,rfl,Qw _ _,VP.mk_tup3 (VP.mk_str _) (VP.mk_str _) (VP.mk_bool _)⟩
 ·cases h
def C77:C0 o6 GX 172 A29:=by
 refine C0.fix (pf:=WZ) _ (L1 (fn:=Tryz.f172) (by kernel_rfl) (by kernel_rfl) (by kernel_rfl) ?_);intro args ret o h;unfold WZ at h;split at h
 ·rename_i s p;obtain⟨f,h⟩:=D2 h;obtain⟨rfl,rfl⟩:=K2 h;refine⟨rfl,rfl,λC t g u w q r j i=>?_⟩;obtain⟨U,V,rfl,l,m⟩:=i.arr2;obtain⟨n,rfl,rfl⟩:=l.inv_str;obtain⟨b,rfl,k⟩:=m.inv_str;obtain⟨c,rfl⟩:∃c,p=[c]:=by
   match p,f with
   | [c],_=>exact⟨c,rfl⟩
  have a:b=⟨#[c]⟩:=by
   cases b with
   | mk d=>congr 1;exact Array.toList_inj.1 k
  subst a;refine(Any.strings_Count_one Tryz.lays138 n c w).mono ?_;rintro e w' ⟨rfl,rfl⟩;exact⟨_,rfl,ad9 _ _,VP.mk_int _ _⟩
 ·cases h
def C67:C0 o6 GX 61 A18:=by
 refine C0.fix (pf:=VM) _ (L1 (fn:=Tryz.f61) (by kernel_rfl) (by kernel_rfl) (by kernel_rfl) ?_);intro args ret l h;unfold VM at h;split at h
 ·rename_i n;obtain⟨b,h⟩:=D2 h;obtain⟨rfl,rfl⟩:=K2 h;refine⟨rfl,rfl,λC o a p w m c i g=>?_⟩;obtain⟨U,rfl,j⟩:=g.arr1;obtain rfl:=j.inv_int;obtain⟨d,f⟩:=E7.1 b;refine(Any.strconv_Itoa Tryz.laysM171 n (by omega) (by omega) w (Cs6 c a)).mono ?_;rintro e w' ⟨rfl,k,os,rfl⟩;refine⟨_,rfl,(Qw w k).trans (show ap0 w.heap.size _ _ from KI (w.drewN k) os),?_⟩;have:Lib.itoa n=Lib.decDigits n.toNat:=by unfold Lib.itoa;rw[I9]
  rw[this];exact VP.mk_str _
 ·cases h
def Pi{l:LL}(h:l.all isS=true):l=C2 (l.map elS):=by
 unfold C2;rw[af0]
 symm
 rw[ac5 (g:=id)]
 ·simp
 ·intro x a;have:=ac9.1 h x a;unfold isS at this;split at this
  ·rfl
  grind
def B33:C0 o6 GX 102 XE:=by
 refine C0.fix (pf:=JM) _ (L1 (fn:=Tryz.f102) (by kernel_rfl) (by kernel_rfl) (by kernel_rfl) ?_);intro args ret Hc h;unfold JM at h;split at h
 ·rename_i z t l p;obtain⟨L,h⟩:=D2 h;obtain⟨O,h⟩:=D2 h;obtain⟨P,h⟩:=D2 h;obtain⟨rfl,rfl⟩:=K2 h;refine⟨rfl,rfl,λC hP Q Γ w Vs hG H R=>?_⟩;obtain⟨U,V,rfl,Z,hv⟩:=R.arr2;obtain⟨u,rfl,rfl⟩:=hv.inv_str;have m:=M5 O;have hn:=M5 P;have Y:=Z.inv_s;have c:∀(a:Option Addr) (cap:Nat),l=[]->Calls o6 102 #[.slice a 0 cap,.string u] w λe w'=>∃V,e = .returned V/\ap0 w.heap.size w w'/\VP Γ (A3 []) w' (.s (.str (ae6 (l.map elS) u.data.toList))) V:=by
   intro a cap T;subst T;refine(Any.strings_Join_none Tryz.lays156 Tryz.Builder_Extra_156 a cap u w).mono ?_;rintro e w' ⟨rfl,rfl⟩;exact⟨_,rfl,ad9 _ _,VP.mk_str _⟩
  cases Y with
  | nil=>exact c _ _ rfl
  | emp=>exact c _ _ rfl
  | sl _ _ g off n cap sz Vc I M hm ht S W y K=>
   subst I;have N:=Pi L;have J:∀i (h:i<l.length),∃b:ByteArray,(l[i])=[SV.str b.data.toList]/\w.cell? ⟨g,off+i,none⟩=some (.string b):=by
    intro i B;have d:=ac9.1 L (l[i]) (List.getElem_mem B);unfold isS at d;split at d
    ·rename_i x r;have k:=y i B 0 (by rw[r];simp);have o:=K i B 0 (by rw[r];simp);simp only[r,List.getElem_cons_zero] at o;obtain⟨b,f,rfl⟩:=o.inv_str;rw[f] at k;exact⟨b,r,by simpa using k⟩
    ·cases d
   obtain⟨xs,q,A⟩:∃xs:List ByteArray,xs.map (·.data.toList)=l.map elS/\∀(j:Nat) x,xs[j]? = some x->w.cell? ⟨g,off+j,none⟩=some (.string x):=by
    refine⟨(l.map elS).map λs=>⟨s.toArray⟩,by simp[af9],?_⟩;intro j x d;simp only[List.getElem?_map] at d;cases D:l[j]? with
    | none=>simp[D] at d
    | some el=>
     obtain⟨F,rfl⟩:=List.getElem?_eq_some_iff.1 D;obtain⟨b,f,v⟩:=J j F;simp only[D,ab1,j9] at d;rw[f] at d;simp[elS,SV.gS] at d;rw[<-d];exact v
   have G:xs.length=l.length:=by
    have:=congrArg j1 q;simpa using this
   rw[<-q] at m ⊢;have f:g<w.heap.size:=H g S;have X:l.length<=140737488355328:=by omega
   refine(G▸Any.strings_Join Tryz.lays156 Tryz.Builder_Extra_156 g off cap xs u w A f (by omega) (by omega) (by omega)).mono ?_;rintro e w' ⟨rfl,hw⟩;exact⟨_,rfl,hw,VP.mk_str _⟩
 ·cases h
def Bs1(b:Nat)(f:b<=9223372036854775808):C0 o6 GX 56 (Nf b):=by
 induction b with
 | zero=>
  intro args ret c h;exfalso;unfold Nf Jv at h;split at h
  ·rename_i n g;obtain⟨a,h⟩:=D2 h;have:=E7.1 a;omega
  ·cases h
 | succ b d=>
  refine C0.fix (pf:=Jv (b+1)) _ (J5 [] (C₀:=CJ b) (L9.ok (l:=[(56,Nf b)]) rfl ⟨d (by omega),trivial⟩) (I1 rfl (by kernel_rfl)) follows ?_);intro args ret c h;unfold Jv at h;split at h
  ·rename_i n;obtain⟨a,h⟩:=D2 h;obtain⟨rfl,rfl⟩:=K2 h;have e:=(A88 b noY () 0 n).trans (ZS b (by omega) n a);exact⟨rfl,rfl,rfl,1,_,_,e,rfl⟩
  ·cases h
def UM:C0 o6 GX 56 BC:=Bs1 4294967296 (by omega)
def D58(x:Nat)(h:x<65536):A42 .u64 (x:Int) 15=((x % 16:Nat):Int):=by unfold A42;rw[show IntKind.bits .u64=64 from rfl,show(15:Int)=((15:Nat):Int) from rfl,Du4 64 x 15 (by omega) (by omega),show x &&& 15=x % 16 from Nat.and_two_pow_sub_one_eq_mod x 4];exact Ai2 (by omega) (by omega)
def Ea0(x:Nat):Sa .u64 (x:Int) 4=((x / 16:Nat):Int):=by unfold Sa;show Int.fdiv (x:Int) 16=_;grind
def Bw8(d:Nat)(h:d<16):bAt (([48,49,50,51,52,53,54,55,56,57,97,98,99,100,101,102,103,104,105,106,107,108,109,110,111,112,113,114,115,116]:By)++([117,118,119,120,121,122]:By)) (d:Int)=((Qd d).toNat:Int):=by
 have:∀d:Fin 16,bAt (([48,49,50,51,52,53,54,55,56,57,97,98,99,100,101,102,103,104,105,106,107,108,109,110,111,112,113,114,115,116]:By)++([117,118,119,120,121,122]:By)) (d.val:Int)=((Qd d.val).toNat:Int):=by decide
 exact this ⟨d,h⟩
def Wc(i:Nat)(s:By):LL:=v8 i [SV.int .u8 0]++s.map F1
def LD(i:Nat)(s:By):(Wc i s).length=i+s.length:=by simp[Wc]
def An7(i:Nat)(s:By)(c:UInt8):aj8 (Wc (i+1) s) i (H7 (w9 (Wc (i+1) s) i []) 0 [SV.int .u8 (c.toNat:Int)])=Wc i (c::s):=by
 have a:w9 (Wc (i+1) s) i []=[SV.int .u8 0]:=by
  unfold Wc;grind
 rw[a];unfold Wc;rw[List.replicate_succ',ab7,List.set_append_right _ _ (by simp),List.length_replicate,Nat.sub_self];rfl
def A86(z t:Bool)(l:LL){e:Kch R}:∀(v i n:Nat) (s:By),v<65536->v<n->i+s.length=65->(Q3 v).length+s.length<=60->
  ∃(u a:Nat) (b:By),u<16/\Qd u::b=Q3 v++s/\a+b.length=65/\Ma LF n z t l (v:Int) (i:Int) (Wc i s) e=e z t l (u:Int) (a:Int) (Wc a b):=by
 intro v
 induction v using Nat.strongRecOn with
 | _ v w=>
  intro i n s r y q x;rcases n with _|n;omega
  rw[Ma];by_cases h:v<16
  ·refine⟨v,i,s,h,by rw[Bo h];rfl,q,?_⟩;rw[A8];rfl
  ·have d:=Ap h;have c:(Q3 v).length=(Q3 (v / 16)).length+1:=by rw[d];simp
   obtain⟨j,rfl⟩:∃j,i=j+1:=⟨i-1,by omega⟩
   have f:A1 (((j+1:Nat):Int)-1)=(j:Int):=by rw[A6];omega
   obtain⟨u,a,b,g,k,o,p⟩:=w (v / 16) (by omega) j n (Qd (v % 16)::s) (by omega) (by omega) (by rw[j2];omega) (by rw[j2];omega);refine⟨u,a,b,g,by rw[k,d];simp,o,?_⟩;rw[A7,j4,aa,D58 v r];simp only[vl];rw[Ea0,f,c9,H4,Bw8 _ (by omega),H4];simp only[aa];rw[An7,LD,show(decide (j<j+1+s.length))=true from decide_eq_true (by omega)];exact p
def B69{k0:By->LL->Option R}(z t:Bool)(l:LL)(v:Int)(f:ltN v 65536=true):∃p,Ao9 LF z t l v k0=k0 (Q3 v.toNat) p:=by
 obtain⟨d,m⟩:=E7.1 f;obtain⟨v,rfl⟩:=z7 d;have k:=D6;have r:=Ys v (by omega);rw[c9];unfold Ao9;have o:(v8 65 [SV.int .u8 (0:Int)])=Wc 65 []:=by unfold Wc;rw[ah0,ac8]
 rw[o];obtain⟨u,i,s,g,c,q,h⟩:=A86 (R:=R) z t l v 65 LF [] (by omega) (by omega) rfl (by rw[x9];omega);rw[ac8] at c;have n:s.length<=3:=by have:=congrArg j1 c;rw[j2] at this;omega
 obtain⟨j,rfl⟩:∃j,i=j+1:=⟨i-1,by omega⟩
 refine⟨Wc j (Qd u::s),?_⟩;rw[show((16:Int)==16)=true from rfl,aa,aa];refine j0 h ?_;have e:A1 (((j+1:Nat):Int)-1)=(j:Int):=by rw[A6];omega
 simp only[vl];rw[e,c9,H4,Bw8 u g,H4];simp only[aa];have a:(Qd u::s).length=s.length+1:=rfl;have b:((Wc j (Qd u::s)).drop j).take (65-j)=(Qd u::s).map F1:=by
  unfold Wc;rw[ah4 (by simp),ah1 (by rw[o9,a];omega)]
 rw[An7,LD,LD,show(decide (j<j+1+s.length))=true from decide_eq_true (by omega),a,show(decide (j+(s.length+1)=65))=true from decide_eq_true (by omega),O8,b,Z3,Ad,c];rfl
def A87(z t:Bool)(l:LL)(v:Int)(c:ltN v 65536=true):∃r H,Ao9 LF z t l v (λb a=>rv (.tup [.fl 0,.s (.str b)]) [.arr true 5 1 [],.arr false 181 1 a])=rv r H/\r.stab [1,0] H = .tup [.s (.sl true true 1 []),.s (.str (Q3 v.toNat))]:=by obtain⟨d,e⟩:=B69 (k0:=(λb a=>rv (.tup [.fl 0,.s (.str b)]) [.arr true 5 1 [],.arr false 181 1 a])) z t l v c;exact⟨_,_,e,rfl⟩
def B70{C:Cfg}{St:Nat->Prop}{w:World}(c:GOK C St w)(d:C.G=GX):TabAt 5 aj4 w:=by obtain⟨e,f,b⟩:=ZT (g:=5) (k:=.u8) (zs:=aj4.map λn:Nat=>(n:Int)) c d rfl;intro j a;rw[GW b j (by rw[o9];exact a)];simp[j8,x7 a]
def Ea1:C0 o6 GX 180 Dv8:=by
 refine C0.fix (pf:=Co2) _ (L1 (fn:=Tryz.f180) (by kernel_rfl) (by kernel_rfl) (by kernel_rfl) ?_);intro args ret i h;unfold Co2 at h;split at h
 ·rename_i x;obtain⟨b,h⟩:=D2 h;obtain⟨rfl,rfl⟩:=K2 h;obtain rfl:x=16:=eq_of_beq b;refine⟨rfl,rfl,λC k a l w j c f d=>?_⟩;obtain⟨U,rfl,g⟩:=d.arr1;obtain rfl:=g.inv_int;refine(Any7.bits_TrailingZeros Tryz.lays7_27 16 (by omega) w (λ_=>B70 c a)).mono ?_;rintro e w' ⟨rfl,rfl⟩;exact⟨_,rfl,ad9 _ _,VP.mk_int _ _⟩
 ·cases h
def Dq4:C0 o6 GX 179 VK:=by
 refine C0.fix (pf:=II) _ (J5 [] (C₀:=XZ LF) (L9.ok (l:=[]) rfl trivial) (I1 rfl (by kernel_rfl)) follows ?_);intro args ret b h;unfold II at h;split at h
 ·rename_i x;obtain⟨a,h⟩:=D2 h;obtain⟨rfl,rfl⟩:=K2 h;obtain rfl:x=16:=eq_of_beq a;exact⟨rfl,rfl,rfl,1,_,_,Cu2 LF noY () 0,rfl⟩
 ·cases h
def Dq0:C0 o6 GX 161 UW:=by
 refine C0.fix (pf:=IC) _ (J5 [1,0] (C₀:=Jy LF) (L9.ok (l:=[(179,VK),(180,Dv8)]) rfl ⟨Dq4,Ea1,trivial⟩) (I1 rfl (by kernel_rfl)) follows ?_);intro args ret k h;unfold IC at h;split at h
 ·rename_i c a ds v b neg app;obtain⟨d,h⟩:=D2 h;obtain⟨f,h⟩:=D2 h;obtain⟨g,h⟩:=D2 h;obtain⟨i,h⟩:=D2 h;obtain⟨rfl,rfl⟩:=K2 h;obtain rfl:b=16:=eq_of_beq f;obtain rfl:neg=false:=by simpa using g
  obtain rfl:app=false:=by simpa using i
  obtain⟨r,H,e,j⟩:=A87 c a ds v d;exact⟨rfl,rfl,rfl,1,r,H,(Cs1 LF noY () 0 c a ds v).trans e,j⟩
 ·cases h
def Dq3:C0 o6 GX 132 VI:=by
 refine C0.fix (pf:=IH) _ (J5 [] (C₀:=XY LF) (L9.ok (l:=[(161,UW)]) rfl ⟨Dq0,trivial⟩) (I1 rfl (by kernel_rfl)) follows ?_);intro args ret f h;unfold IH at h;split at h
 ·rename_i v b;obtain⟨a,h⟩:=D2 h;obtain⟨c,h⟩:=D2 h;obtain⟨rfl,rfl⟩:=K2 h;obtain rfl:b=16:=eq_of_beq c;have e:By3 LF v (λd=>rv (.s (.str d)) [])=rv (.s (.str (Q3 v.toNat))) []:=by
   unfold By3;rw[a];rfl
  exact⟨rfl,rfl,rfl,1,_,_,(Ct6 LF noY () 0 v).trans e,rfl⟩
 ·cases h
def D22:C0 o6 GX 101 Cl8:=by
 refine C0.fix (pf:=UX) _ (J5 [] (C₀:=A50 LF) (L9.ok (l:=[(132,VI)]) rfl ⟨Dq3,trivial⟩) (I1 rfl (by kernel_rfl)) follows ?_);intro args ret f h;unfold UX at h;split at h
 ·rename_i v b;obtain⟨a,h⟩:=D2 h;obtain⟨c,h⟩:=D2 h;obtain⟨rfl,rfl⟩:=K2 h;obtain rfl:b=16:=eq_of_beq c;have e:Dd2 LF v (λd=>rv (.s (.str d)) [])=rv (.s (.str (Q3 v.toNat))) []:=by
   unfold Dd2;rw[a];rfl
  exact⟨rfl,rfl,rfl,1,_,_,(Dd3 LF noY () 0 v).trans e,rfl⟩
 ·cases h
end
section
open Go Go.Proofs
def D15(z t:Bool)(l:LL)(c:l.all Yw=true)(d:s9 l.length 8=true):∃r H,v6j LF z t l (λb a=>rv (.s (.str b)) [.arr true 9 1 a])=rv r H/\r.stab [] H = .s (.str (L5 (l.map elN))):=by obtain⟨f,e⟩:=C53 (k0:=(λb a=>rv (.s (.str b)) [.arr true 9 1 a])) z t l c d;exact⟨_,_,e,rfl⟩
def D13(a b c d f g h i:Int)(l:ok8 a b c d f g h i=true):∃r H,v6f LF a b c d f g h i (λk j=>rv (.s (.str k)) [.arr false 27 1 j])=rv r H/\r.stab [] H = .s (.str (Cv (n8 a b c d f g h i))):=by obtain⟨m,e⟩:=C51 (k0:=(λk j=>rv (.s (.str k)) [.arr false 27 1 j])) a b c d f g h i l;exact⟨_,_,e,rfl⟩
def v6V(s:By):PV:=.tup [.agg [.s (.int .u16 (v6c 0 s)),.s (.int .u16 (v6c 1 s)),.s (.int .u16 (v6c 2 s)),.s (.int .u16 (v6c 3 s)),.s (.int .u16 (v6c 4 s)),.s (.int .u16 (v6c 5 s)),.s (.int .u16 (v6c 6 s)),.s (.int .u16 (v6c 7 s))],.s (.bool (v6B s).isSome)]
def D18(s:By)(k:A2 s.length=true):∃r H,v6p LF s (λb c d f g h i j r8 a l10=>rv (.tup [.agg [.s (.int .u16 b),.s (.int .u16 c),.s (.int .u16 d),.s (.int .u16 f),.s (.int .u16 g),.s (.int .u16 h),.s (.int .u16 i),.s (.int .u16 j)],.s (.bool r8)]) [.arr false 27 1 a,.arr false 27 1 l10])=rv r H/\r.stab [0,0] H=v6V s:=by obtain⟨l,m,e⟩:=C54 (k0:=(λb c d f g h i j r8 a l10=>rv (.tup [.agg [.s (.int .u16 b),.s (.int .u16 c),.s (.int .u16 d),.s (.int .u16 f),.s (.int .u16 g),.s (.int .u16 h),.s (.int .u16 i),.s (.int .u16 j)],.s (.bool r8)]) [.arr false 27 1 a,.arr false 27 1 l10])) s k;exact⟨_,_,e,rfl⟩
def Dn3(s:By)(k:A2 s.length=true):∃r H,C11 LF s (λb c d f g h i j r8 a l10=>rv (.tup [.agg [.s (.int .u16 b),.s (.int .u16 c),.s (.int .u16 d),.s (.int .u16 f),.s (.int .u16 g),.s (.int .u16 h),.s (.int .u16 i),.s (.int .u16 j)],.s (.bool r8)]) [.arr false 27 1 a,.arr false 27 1 l10])=rv r H/\r.stab [0,0] H=v6V s:=by obtain⟨l,m,e⟩:=Cg6 (k0:=(λb c d f g h i j r8 a l10=>rv (.tup [.agg [.s (.int .u16 b),.s (.int .u16 c),.s (.int .u16 d),.s (.int .u16 f),.s (.int .u16 g),.s (.int .u16 h),.s (.int .u16 i),.s (.int .u16 j)],.s (.bool r8)]) [.arr false 27 1 a,.arr false 27 1 l10])) s k;exact⟨_,_,e,rfl⟩
section
variable {W R : Type} (L : Nat) (Q : G4) (Y : Yh W) (s : W) (k : Out -> St W -> Option R)
noncomputable abbrev Al4:Code:=D4 an6
noncomputable def Ir(L:Nat):Cfg:=D0 L [112] (A4 [(16,[2,0,4,41,0,0])]) [(69,IG),(142,Bt5),(143,Cm1),(144,Bv3),(58,Sl),(145,Cm9),(125,QK),(146,Cm6),(102,XE)] (A4 [(28,[2,0]),(25,[2,0]),(27,[2,0]),(26,[2,10,64]),(24,[2,10,59]),(23,[2,10]),(22,[2,5,41,0,0]),(21,[2,5,41,0,0]),(20,[2,0]),(19,[2,5,0,1,0,37,0,0,10]),(18,[2,5,0,1,0,37,0,0]),(17,[2,5,0,0,39,0,0]),(16,[2,5,41,0,0,0]),(15,[2,5,41,0,0]),(14,[2,5]),(13,[2,0]),(12,[2,0]),(11,[2,3,37]),(10,[2,3,0]),(9,[2,1,32]),(8,[2,1]),(7,[2,0]),(6,[2,1,27]),(5,[2,1,0]),(2,[2,0]),(4,[2,0]),(3,[0,1,16]),(1,[0,1,11]),(0,[0,1])]) [69,143,144,58,145,146,102] (A4 [(3,[2,10]),(1,[2,5]),(2,[2,5,41,0,0]),(0,[0,1])]) (some [2,0]) [] [] []
noncomputable def U8(L n:Nat)(a:Nat)(i c:Int)(e:LL)(g:Int->LL->Option R)(h:Nat->LL->Option R):Option R:=match n with|0=>none|n+1=>cond (ltI c i) (cond (inR c a) (cond (okE Dr e (0+(j6 c)) 0) (vl (gX e (0+(j6 c)) 0) λb=>cond (A2 b.length) (vl (↑((J9 b)).2:Int) λd=>cond (d !=0) (g d e) (cond (inR c a) (cond (decide ((0+(j6 c))<e.length)) (vl (aj8 e (0+(j6 c)) (H7 (w9 e (0+(j6 c)) []) 0 [(SV.str ((J9 b)).1)])) λf=>U8 L n a i (A1 (c+1)) f g h) none) none)) none) none) none) (h a e)
def ZV(n:Nat)(a:Nat)(d e:Int)(c:LL):E0 2 ((Ir L).keep 16) (bd (Ir L) Q Y (cd [1,1,1,1,1,1,1,0,1,0,0] Al4)) n ⟨gp [(2,.ptr 0 0 0),(5,.vw 1 0 a),(41,.vw 1 0 a),(0,pI d),(0,pI e)] 31,[.box [pI (0:Int),pS ([]:By),p32 (0:Int),p16 (0:Int),p16 (0:Int),p16 (0:Int),p16 (0:Int),p16 (0:Int),p16 (0:Int),p16 (0:Int),p16 (0:Int)],.arr false 9 1 c],s⟩ k =
 U8 L n a d e c (λn0 b=>k .ret ⟨gp [(2,.ptr 0 0 0),(0,pI n0)] 80,[.box [pI (0:Int),pS ([]:By),p32 (0:Int),p16 (0:Int),p16 (0:Int),p16 (0:Int),p16 (0:Int),p16 (0:Int),p16 (0:Int),p16 (0:Int),p16 (0:Int)],.arr false 9 1 b],s⟩) (λa b=>k (.exit 1) ⟨gp [(2,.ptr 0 0 0),(5,.vw 1 0 a)] 75,[.box [pI (0:Int),pS ([]:By),p32 (0:Int),p16 (0:Int),p16 (0:Int),p16 (0:Int),p16 (0:Int),p16 (0:Int),p16 (0:Int),p16 (0:Int),p16 (0:Int)],.arr false 9 1 b],s⟩):=by
 induction n generalizing a d e c with
 | zero=>rfl
 | succ n f=>rw[U8];simp only[<-f];kernel_rfl
noncomputable def DF(L:Nat)(a:By)(t:Int->By->Int->Int->Int->Int->Int->Int->Int->Int->Int->Int->Int->By->Int->Int->Int->Int->Int->Int->Int->Int->Int->Option R)(y:Int->By->Int->Int->By->LL->Option R):Option R:=cond (ltI 1024 (a.length:Int)) (t 0 ([]:By) 0 0 0 0 0 0 0 0 0 3 0 ([]:By) 0 0 0 0 0 0 0 0 0) (cond (A2 a.length) (cond (ae9 ([91]:By) a) (cond (A2 a.length) (cond (Ct9 a) (vl (↑(C1.kind ((R1 a)).1):Int) λf=>vl (C1.name ((R1 a)).1) λr=>vl (↑(C1.v4 ((R1 a)).1):Int) λg=>vl (↑(w9 (C1.v6 ((R1 a)).1) 0 0):Int) λh=>vl (↑(w9 (C1.v6 ((R1 a)).1) 1 0):Int) λi=>vl (↑(w9 (C1.v6 ((R1 a)).1) 2 0):Int) λj=>vl (↑(w9 (C1.v6 ((R1 a)).1) 3 0):Int) λl=>vl (↑(w9 (C1.v6 ((R1 a)).1) 4 0):Int) λm=>vl (↑(w9 (C1.v6 ((R1 a)).1) 5 0):Int) λn=>vl (↑(w9 (C1.v6 ((R1 a)).1) 6 0):Int) λo=>vl (↑(w9 (C1.v6 ((R1 a)).1) 7 0):Int) λp=>vl (↑((R1 a)).2:Int) λw=>t f r g h i j l m n o p w f r g h i j l m n o p) none) none) (cond (A2 a.length) (cond (not (ag3 (R9 a))) (t 0 ([]:By) 0 0 0 0 0 0 0 0 0 14 0 ([]:By) 0 0 0 0 0 0 0 0 0) (cond (A2 (j1 (Ha a))) (vl (Ah2 (Ha a) ([46]:By)) λb=>cond (A2 b.length) (cond (F8 b) (cond (A2 b.length) (vl (↑(O6 (pnB b)):Int) λq=>cond (not (ag3 (pnB b))) (t 0 ([]:By) 0 0 0 0 0 0 0 0 0 14 0 ([]:By) 0 0 0 0 0 0 0 0 0) (t 2 ([]:By) q 0 0 0 0 0 0 0 0 0 2 ([]:By) q 0 0 0 0 0 0 0 0)) none) (cond (A2 b.length) (cond (1==1) (vl (C2 (pcs (w9 ([46]:By) 0 0) b)) λu=>U8 L L (j1 (pcs (w9 ([46]:By) 0 0) b)) (↑(j1 (pcs (w9 ([46]:By) 0 0) b)):Int) 0 u (λx v=>y 0 ([]:By) x 0 ([]:By) v) (λc d=>cond (af5 (af3 c (ad6 0 d)) isS) (cond (A2 (j1 (ae6 (ab6 elS (af3 c (ad6 0 d))) ([46]:By)))) (cond (A2 (j1 (af3 c (ad6 0 d)))) (vl (ae6 (ab6 elS (af3 c (ad6 0 d))) ([46]:By)) λe=>cond (ltI 253 (e.length:Int)) (y 0 ([]:By) 3 0 ([]:By) d) (cond (A2 e.length) (cond (F8 e) (y 0 ([]:By) 14 0 ([]:By) d) (y 1 e 0 1 e d)) none)) none) none) none)) none) none)) none) none)) none)) none)
def B78(d:Nat)(raw0):evC (Ir L) (d+1) W Y 112 [pS raw0] [] s=DF L raw0 (λo p t M N O P S r8 T q r c u e f g h i j l m n=>some (.tup [.agg [pI o,pS p,p32 t,p16 M,p16 N,p16 O,p16 P,p16 S,p16 r8,p16 T,p16 q],pI r],[.box [pI c,pS u,p32 e,p16 f,p16 g,p16 h,p16 i,p16 j,p16 l,p16 m,p16 n]],s)) (λo p t K U J=>some (.tup [.agg [pI o,pS p,p32 (0:Int),p16 (0:Int),p16 (0:Int),p16 (0:Int),p16 (0:Int),p16 (0:Int),p16 (0:Int),p16 (0:Int),p16 (0:Int)],pI t],[.box [pI K,pS U,p32 (0:Int),p16 (0:Int),p16 (0:Int),p16 (0:Int),p16 (0:Int),p16 (0:Int),p16 (0:Int),p16 (0:Int),p16 (0:Int)],.arr false 9 1 J],s)):=by refine(evE (fn:=an6) (by kernel_rfl)).trans ?_;generalize evC (Ir L) d=Q;unfold DF;exact(j0 (by kernel_rfl) (A0 rfl (A0 (A0 (A0 (A0 (A5 λv=>(A5 λI=>(A5 λw=>(A5 λx=>(A5 λy=>(A5 λz=>(A5 λA=>(A5 λB=>(A5 λC=>(A5 λD=>(A5 λF=>(A5 λG=>rfl)))))))))))) rfl) rfl) (A0 (A0 rfl (A0 (A5 λa=>(A0 (A0 (A0 (A5 λH=>(A0 rfl rfl)) rfl) (A0 (A0 (A5 λb=>((ZV L Q Y s (F0 1 (F5 (Ir L) Q Y (cd [1,1,1,1,1,1,1,1] Al4) (G1 (Ir L) an6))) L (j1 (pcs (w9 ([46]:By) 0 0) a)) (↑(j1 (pcs (w9 ([46]:By) 0 0) a)):Int) 0 b).trans (by kernel_rfl))) rfl) rfl)) rfl)) rfl)) rfl)) rfl)))
noncomputable abbrev Bv9:Code:=D4 aq4
noncomputable def Nn(L:Nat):Cfg:=D0 L [99] (A4 [(6,[0,1,0,1,10,0,0])]) [(129,Cm8),(130,A23)] (A4 [(13,[2]),(12,[0,3,0,2]),(11,[0,2,1,10,0,0]),(10,[0,2,1,10,0,0]),(9,[2]),(8,[0,2,1,1,8,0,0,8]),(7,[0,2,1,1,8,0,0]),(6,[0,2,1,10,0,0,0]),(5,[0,2,1,10,0,0]),(4,[0,2,1]),(3,[2]),(2,[0,2,11]),(1,[0,2,0]),(0,[0])]) [130] (A4 [(0,[0,2,1]),(1,[0,2,1,10,0,0])]) (some [2]) [] [] []
abbrev Kce(R:Type):=By->Bool->LL->Bool->Option R
noncomputable def Ac(L n:Nat)(i:By)(b:Bool)(a:LL)(c:Bool)(h e:Int)(f:Unit->Option R)(g:Kce R):Option R:=match n with|0=>none|n+1=>cond (ltI e h) (cond (inR e a.length) (cond (okE Mv a (j6 e) 0) (vl (gE a (j6 e) 0) λd=>cond (not (ltI d 65)) (cond (not (ltI 90 d)) (f ()) (cond c (Ac L n i b a (ltI d 128) h (A1 (e+1)) f g) (Ac L n i b a false h (A1 (e+1)) f g))) (cond c (Ac L n i b a (ltI d 128) h (A1 (e+1)) f g) (Ac L n i b a false h (A1 (e+1)) f g))) none) none) (g i b a c)
def Ar8(n d a b c n4 n5):E0 0 ((Nn L).keep 6) (bd (Nn L) Q Y (cd [1,1,1,1,0,1,0,0] Bv9)) n ⟨gp [(0,pS d),(2,.s (.sl a a 1 b)),(1,pB c),(10,.s (.sl a a 1 b)),(0,pI n4),(0,pI n5)] 31,[],s⟩ k =
 Ac L n d a b c n4 n5 (λ_=>k .ret ⟨gp [(2,pB false)] 47,[],s⟩) (λd a b c=>k (.exit 0) ⟨gp [(0,pS d),(2,.s (.sl a a 1 b)),(1,pB c)] 44,[],s⟩):=by
 induction n generalizing d a b c n4 n5 with
 | zero=>rfl
 | succ n e=>rw[Ac];simp only[<-e];kernel_rfl
noncomputable def Bz0(L:Nat)(d:By)(e:Bool->Option R):Option R:=cond (A2 d.length) (cond ((↑((P2 d)).2:Int)!=0) (e false) (Ac L L d (ao7 ((P2 d)).1) (Og ((P2 d)).1) true (↑(j1 (Og ((P2 d)).1)):Int) 0 (λ_=>e false) (λg c a b=>cond (af5 a Pt) (vl ((Y3 (ab6 elI a))).1 λh=>vl (↑((Y3 (ab6 elI a))).2:Int) λf=>cond (not b) (cond (f==0) (e (h==g)) (e false)) (e false)) none))) none
def Cv0(d:Nat)(s0):evC (Nn L) (d+1) W Y 99 [pS s0] [] s=Bz0 L s0 (λa=>some (pB a,[],s)):=by refine(evE (fn:=aq4) (by kernel_rfl)).trans ?_;generalize evC (Nn L) d=Q;unfold Bz0;exact(j0 (by kernel_rfl) (A0 (A0 rfl ((Ar8 L Q Y s (F0 0 (F5 (Nn L) Q Y (cd [1,1,1,1,1] Bv9) (G1 (Nn L) aq4))) L s0 (ao7 ((P2 s0)).1) (Og ((P2 s0)).1) true (↑(j1 (Og ((P2 s0)).1)):Int) 0).trans (by kernel_rfl))) rfl))
noncomputable abbrev Cp1:Code:=D4 aq2
noncomputable def Vo(L:Nat):Cfg:=D0 L [60] (A4 [(4,[0,1,26,0])]) [(67,A14),(99,Bt9)] (A4 [(11,[2]),(10,[5,0]),(9,[0,28,0]),(8,[2]),(7,[0,28,0,28]),(6,[0,3,24,0]),(5,[0,2,25,0]),(4,[0,28,0,0]),(3,[0,28,0]),(2,[2]),(1,[0,26]),(0,[0])]) [67,99] (A4 [(0,[0]),(1,[0,28,0])]) (some [2]) [] [] []
noncomputable def T8(L n:Nat)(b:By)(e a:Int)(c:Unit->Option R)(d:By->Option R):Option R:=match n with|0=>none|n+1=>cond (ltI a e) (cond (inR a b.length) (cond (not (ltI (bAt b a) (97:Int))) (cond (not (not (ltI 122 (bAt b a)))) (cond (not (ltI (bAt b a) (48:Int))) (cond (not (not (ltI 57 (bAt b a)))) (cond ((bAt b a)!=45) (cond ((bAt b a)!=95) (c ()) (T8 L n b e (A1 (a+1)) c d)) (T8 L n b e (A1 (a+1)) c d)) (T8 L n b e (A1 (a+1)) c d)) (cond ((bAt b a)!=45) (cond ((bAt b a)!=95) (c ()) (T8 L n b e (A1 (a+1)) c d)) (T8 L n b e (A1 (a+1)) c d))) (T8 L n b e (A1 (a+1)) c d)) (cond (not (ltI (bAt b a) (48:Int))) (cond (not (not (ltI 57 (bAt b a)))) (cond ((bAt b a)!=45) (cond ((bAt b a)!=95) (c ()) (T8 L n b e (A1 (a+1)) c d)) (T8 L n b e (A1 (a+1)) c d)) (T8 L n b e (A1 (a+1)) c d)) (cond ((bAt b a)!=45) (cond ((bAt b a)!=95) (c ()) (T8 L n b e (A1 (a+1)) c d)) (T8 L n b e (A1 (a+1)) c d)))) none) (d b)
def Bc7(n a n1 n2):E0 0 ((Vo L).keep 4) (bd (Vo L) Q Y (cd [1,1,0,1,0,0] Cp1)) n ⟨gp [(0,pS a),(28,pI n1),(0,pI n2)] 41,[],s⟩ k =
 T8 L n a n1 n2 (λ_=>k .ret ⟨gp [(2,pB false)] 69,[],s⟩) (λa=>k (.exit 0) ⟨gp [(0,pS a)] 71,[],s⟩):=by
 induction n generalizing a n1 n2 with
 | zero=>rfl
 | succ n b=>rw[T8];simp only[<-b];kernel_rfl
noncomputable def Dh7(L:Nat)(a:By)(b:Bool->Option R):Option R:=cond (ltI (a.length:Int) (1:Int)) (b false) (cond (ltI 63 (a.length:Int)) (b false) (cond (inR 0 a.length) (cond ((bAt a (0:Int))==45) (b false) (vl (A1 ((a.length:Int)-1)) λd=>cond (inR d a.length) (cond ((bAt a d)==45) (b false) (T8 L L a (a.length:Int) 0 (λ_=>b false) (λc=>cond (A2 c.length) (vl (Iz c ([120,110,45,45]:By)) λe=>cond (not (ae9 ([120,110,45,45]:By) c)) (b true) (cond (A2 e.length) (b (Fe e)) none)) none))) none)) none))
def Dh8(d:Nat)(s0):evC (Vo L) (d+1) W Y 60 [pS s0] [] s=Dh7 L s0 (λb=>some (pB b,[],s)):=by refine(evE (fn:=aq2) (by kernel_rfl)).trans ?_;generalize evC (Vo L) d=Q;unfold Dh7;exact(j0 (by kernel_rfl) (A0 rfl (A0 rfl (A0 (A0 rfl (A5 λa=>(A0 (A0 rfl ((Bc7 L Q Y s (F0 0 (F5 (Vo L) Q Y (cd [1,1,1] Cp1) (G1 (Vo L) aq2))) L s0 (s0.length:Int) 0).trans (by kernel_rfl))) rfl))) rfl))))
noncomputable abbrev A43:Code:=D4 an9
noncomputable def Qy(L:Nat):Cfg:=D0 L [146] (A4 [(9,[2,0,1,20])]) [(169,Ak5),(170,Ak3),(66,IN),(130,A23),(60,VX)] (A4 [(18,[2,0]),(17,[2,0]),(16,[4,41]),(15,[4]),(14,[2,0]),(13,[8,32]),(12,[8,0]),(11,[5,20]),(10,[5,1,18]),(9,[5,20,0,0]),(8,[5,20]),(7,[4,0]),(6,[4,19]),(5,[0,3]),(2,[2,0]),(4,[2,0]),(3,[0,13]),(1,[0,9]),(0,[0])]) [169,170,66,130,60] (A4 [(1,[5]),(2,[5,20]),(0,[0])]) (some [2,0]) [] [] []
noncomputable def Gu(L n:Nat)(c:LL)(b:By)(a:Nat)(e:LL->By->Nat->Option R):Option R:=match n with|0=>none|n+1=>cond (decide (a<b.length)) (vl ((aa4 ⟨aa7 b⟩ a)).1 λd=>cond (G0 (c.length+1)) (Gu L n (c++[[(SV.int .i64 (A1 d))]]) b (a+((aa4 ⟨aa7 b⟩ a)).2) e) none) (e c b a)
def Bb1(n:Nat)(a:LL)(c:By)(b:Nat):E0 2 ((Qy L).keep 9) (bd (Qy L) Q Y (cd [1,1,1,0,1,0,1,0,1,0,0] A43)) n ⟨gp [(5,.fl 0),(20,.it 1)] 21,[.arr true 3 1 a,.iter c b],s⟩ k =
 Gu L n a c b (λa c b=>k (.exit 1) ⟨gp [(5,.fl 0)] 42,[.arr true 3 1 a,.iter c b],s⟩):=by
 induction n generalizing a c b with
 | zero=>rfl
 | succ n d=>rw[Gu];simp only[<-d];kernel_rfl
abbrev Kcd(R:Type):=By->Int->LL->By->Nat->Option R
noncomputable def Ar4(L:Nat)(b:By)(g:By->Int->Option R)(h:Kcd R):Option R:=cond (A2 b.length) (cond (not (ag3 (Dq b))) (g ([]:By) 4) (cond (A2 b.length) (vl (↑(af4 b):Int) λi=>cond (ltI 256 i) (g ([]:By) 3) (cond (A2 b.length) (cond (A2 b.length) (vl (↑(af4 b):Int) λj=>cond (ltI j (b.length:Int)) (Gu L L [] (C5 b) 0 (λa e d=>cond (af5 a Pt) (vl ((Y3 (ab6 elI a))).1 λf=>vl (↑((Y3 (ab6 elI a))).2:Int) λl=>cond (l !=0) (h ([]:By) 14 a e d) (cond (J1 4 f.length) (vl (([120,110,45,45]:By)++f) λc=>cond (A2 c.length) (cond (not (L4 c)) (h ([]:By) 14 a e d) (h c 0 a e d)) none) none)) none)) (cond (A2 (j1 (C5 b))) (cond (not (L4 (C5 b))) (g ([]:By) 14) (g (C5 b) 0)) none)) none) none)) none)) none
def Dg5(d:Nat)(s0):evC (Qy L) (d+1) W Y 146 [pS s0] [] s=Ar4 L s0 (λa b=>some (.tup [pS a,pI b],[],s)) (λa b c h e=>some (.tup [pS a,pI b],[.arr true 3 1 c,.iter h e],s)):=by refine(evE (fn:=an9) (by kernel_rfl)).trans ?_;generalize evC (Qy L) d=Q;unfold Ar4;exact(j0 (by kernel_rfl) (A0 (A0 rfl (A0 (A5 λf=>(A0 rfl (A0 (A0 (A5 λg=>(A0 ((Bb1 L Q Y s (F0 1 (F5 (Qy L) Q Y (cd [1,1,1,0,1,0,1,1] A43) (F5 (Qy L) Q Y (cd [1,1,1,1] A43) (G1 (Qy L) an9)))) L [] (C5 s0) 0).trans (by kernel_rfl)) (A0 (A0 rfl rfl) rfl))) rfl) rfl))) rfl)) rfl))
noncomputable abbrev Vd:Code:=D4 al5
noncomputable def Kx(L:Nat):Cfg:=D0 L [167] (A4 []) [] (A4 [(7,[2]),(2,[2]),(4,[2]),(6,[2]),(5,[0,23]),(3,[0,12]),(1,[0,2]),(0,[0])]) [] (A4 [(0,[])]) (some [2]) [] [] []
noncomputable def Yq(a:Int)(h:Bool)(f:Int->Option R)(g:Int->Bool->Option R):Option R:=cond h (vl (A1 (wu8 (a-97))) λb=>vl (A1 (b+10)) λc=>f c) (cond (not (ltI a 65)) (cond (not (ltI 70 a)) (vl (A1 (wu8 (a-65))) λd=>vl (A1 (d+10)) λe=>f e) (g a (not (ltI 70 a)))) (g a false))
abbrev SC(b:Code):Prop:=∀(k:Out->St W->Option R) a c,A9 (Kx L) Q Y b ⟨gp [(0,p8 a),(12,pB c)] 21,[],s⟩ k=Yq a c (λn0=>k .ret ⟨gp [(2,pI n0)] 32,[],s⟩) (λa c=>k .normal ⟨gp [(0,p8 a),(23,pB c)] 10,[],s⟩)
def Ba0:SC (R:=R) L Q Y s (cd [1,0,0,1,1,1] Vd):=by intro k a b;unfold Yq;kernel_rfl
noncomputable def Yr(b:Int)(l:Bool)(f:Int->Option R)(j:Int->Bool->Option R):Option R:=cond l (vl (A1 (wu8 (b-48))) λg=>f g) (cond (not (ltI b 97)) (Yq b (not (ltI 102 b)) (λh=>f h) (λc d=>j c d)) (Yq b false (λi=>f i) (λe a=>j e a)))
abbrev DE(b:Code):Prop:=∀(k:Out->St W->Option R) a c,A9 (Kx L) Q Y b ⟨gp [(0,p8 a),(2,pB c)] 31,[],s⟩ k=Yr a c (λn0=>k .ret ⟨gp [(2,pI n0)] 32,[],s⟩) (λa c=>k .normal ⟨gp [(0,p8 a),(23,pB c)] 10,[],s⟩)
def Ba1(a:Code)(b:SC (R:=R) L Q Y s a):DE (R:=R) L Q Y s (cd [1,0,0,1] (I2 [1,0,0,1,1,1] a Vd)):=by intro k c d;unfold Yr;simp only[<-b k];kernel_rfl
def Ba2:DE (R:=R) L Q Y s (cd [1,0,0,1] Vd):=by intro k a b;exact j0 (by kernel_rfl) (Ba1 L Q Y s (cd [1,0,0,1,1,1] Vd) (Ba0 L Q Y s) k a b)
noncomputable def Ct4(L:Nat)(c:Int)(d:Int->Option R):Option R:=cond (not (ltI c 48)) (Yr c (not (ltI 57 c)) (λa=>d a) (λe f=>d (-1))) (Yr c false (λb=>d b) (λg h=>d (-1)))
def De4(b:Code)(a:DE (R:=PV × List Blk × W) L Q Y s b)(c:Int):A9 (Kx L) Q Y (cd [] (I2 [1,0,0,1] b Vd)) ⟨[p8 c]++tps 34,[],s⟩ (G1 (Kx L) al5)=Ct4 L c (λe=>some (pI e,[],s)):=by unfold Ct4;exact let d:=(F0 0 (F5 (Kx L) Q Y (cd [1,1] Vd) (G1 (Kx L) al5)));(j0 (by kernel_rfl) (A0 ((a d c (not (ltI 57 c))).trans (by kernel_rfl)) ((a d c false).trans (by kernel_rfl))))
def De5(d:Nat)(b0):evC (Kx L) (d+1) W Y 167 [p8 b0] [] s=Ct4 L b0 (λa=>some (pI a,[],s)):=
 (evE (fn:=al5) (by kernel_rfl)).trans (j0 (by kernel_rfl) (De4 L (evC (Kx L) d) Y s (cd [1,0,0,1] Vd) (Ba2 L (evC (Kx L) d) Y s) b0))
noncomputable abbrev Co8:Code:=D4 an8
noncomputable def Vl(L:Nat):Cfg:=D0 L [143] (A4 [(3,[0,1,0,0,0])]) [(167,Cm2)] (A4 [(14,[2,0]),(4,[0,3,0]),(13,[0,3,0]),(12,[0,3,0]),(11,[2,0]),(10,[0,3,0,0,0,39]),(9,[0,3,0,0,0]),(8,[2,0]),(7,[0,3,0,25]),(6,[0,3,0]),(5,[0,3,0,14]),(3,[0,3,0,8]),(2,[0,3,0]),(1,[0,3]),(0,[0])]) [167] (A4 [(0,[4]),(1,[0,3,0])]) (some [2,0]) [] [] []
noncomputable def U1(L n:Nat)(b:By)(a:Int)(c:LL)(f:LL->Option R)(g:LL->Option R):Option R:=match n with|0=>none|n+1=>cond (ltI a (b.length:Int)) (cond (inR a b.length) (cond ((bAt b a)!=37) (cond (inR a b.length) (cond (G0 (c.length+1)) (U1 L n b (A1 (a+1)) (c++[[(SV.int .u8 (bAt b a))]]) f g) none) none) (cond (not (ltI (A1 (a+2)) (b.length:Int))) (f c) (cond (inR (A1 (a+1)) b.length) (vl (bAt b (A1 (a+1))) λd=>cond (inR d 256) (cond (inR (A1 (a+2)) b.length) (vl (bAt b (A1 (a+2))) λe=>cond (inR e 256) (cond (ltI (Gr (u8n d)) (0:Int)) (f c) (cond (ltI (Gr (u8n e)) (0:Int)) (f c) (vl (A1 ((16:Int)*(Gr (u8n d)))) λh=>vl (A1 (h+(Gr (u8n e)))) λi=>cond (G0 (c.length+1)) (vl (A1 ((A1 (a+2))+1)) λj=>U1 L n b j (c++[[(SV.int .u8 (wu8 i))]]) f g) none))) none) none) none) none))) none) (g c)
def A99(n s0 i1 l2):E0 1 ((Vl L).keep 3) (bd (Vl L) Q Y (cd [1,0,1,1,0,1,0,0] Co8)) n ⟨gp [(0,pS s0),(3,.fl 0),(0,pI i1)] 54,[.arr false 5 1 l2],s⟩ k =
 U1 L n s0 i1 l2 (λa=>k .ret ⟨gp [(2,pS ([]:By)),(0,pB false)] 56,[.arr false 5 1 a],s⟩) (λa=>k (.exit 0) ⟨gp [(4,.fl 0)] 55,[.arr false 5 1 a],s⟩):=by
 induction n generalizing s0 i1 l2 with
 | zero=>rfl
 | succ n b=>rw[U1];simp only[<-b];kernel_rfl
noncomputable def Ct3(L:Nat)(c:By)(d:By->Bool->LL->Option R):Option R:=cond ((decide ((0:Int)<=(c.length:Int)))&&(G0 (j6 (c.length:Int)))) (U1 L L c 0 [] (λb=>d ([]:By) false b) (λa=>cond (af5 a Qg) (d (ab6 Nx a) true a) none)) none
def De2(d:Nat)(s0):evC (Vl L) (d+1) W Y 143 [pS s0] [] s=Ct3 L s0 (λb c a=>some (.tup [pS b,pB c],[.arr false 5 1 a],s)):=by refine(evE (fn:=an8) (by kernel_rfl)).trans ?_;generalize evC (Vl L) d=Q;unfold Ct3;exact(j0 (by kernel_rfl) (A0 ((A99 L Q Y s (F0 0 (F5 (Vl L) Q Y (cd [1,0,1,1,1] Co8) (G1 (Vl L) an8))) L s0 0 []).trans (by kernel_rfl)) rfl))
noncomputable def XX(L:Nat):Cfg:=D0 L [142] (A4 []) [(166,Dt8)] (A4 [(6,[2,0]),(5,[2,0]),(4,[2,2,15]),(3,[2,2,0]),(2,[0,1,1,8]),(1,[0,1,1]),(0,[0,1])]) [] (A4 []) (some [2,0]) [] [] []
noncomputable def Bx5(L:Nat)(b:By)(l:Int->Int->Int->Int->Int->Int->Int->Int->Int->Int->Int->LL->Option R)(m:Unit->Option R):Option R:=vl (A1 ((b.length:Int)-1)) λa=>cond (inR a b.length) (cond ((bAt b a)==93) (cond (L3 1 a b.length) (cond (A2 (j1 (cut b 1 a))) (vl (↑(v6c 0 (cut b 1 a)):Int) λc=>vl (↑(v6c 1 (cut b 1 a)):Int) λd=>vl (↑(v6c 2 (cut b 1 a)):Int) λe=>vl (↑(v6c 3 (cut b 1 a)):Int) λf=>vl (↑(v6c 4 (cut b 1 a)):Int) λg=>vl (↑(v6c 5 (cut b 1 a)):Int) λh=>vl (↑(v6c 6 (cut b 1 a)):Int) λi=>vl (↑(v6c 7 (cut b 1 a)):Int) λj=>cond (ag3 (v6B (cut b 1 a))) (l 3 c d e f g h i j 0 3 [[(SV.int .u16 c)],[(SV.int .u16 d)],[(SV.int .u16 e)],[(SV.int .u16 f)],[(SV.int .u16 g)],[(SV.int .u16 h)],[(SV.int .u16 i)],[(SV.int .u16 j)]]) (l 0 0 0 0 0 0 0 0 0 14 0 [[(SV.int .u16 c)],[(SV.int .u16 d)],[(SV.int .u16 e)],[(SV.int .u16 f)],[(SV.int .u16 g)],[(SV.int .u16 h)],[(SV.int .u16 i)],[(SV.int .u16 j)]])) none) none) (m ())) none
def Ct1(d:Nat)(s0):evC (XX L) (d+1) W Y 142 [pS s0] [] s=Bx5 L s0 (λl c e f g h i j r8 m b a=>some (.tup [.agg [pI l,pS ([]:By),p32 (0:Int),p16 c,p16 e,p16 f,p16 g,p16 h,p16 i,p16 j,p16 r8],pI m],[.box [pI b,pS ([]:By),p32 (0:Int),p16 c,p16 e,p16 f,p16 g,p16 h,p16 i,p16 j,p16 r8],.arr false 27 1 a],s)) (λ_=>some (.tup [.agg [pI (0:Int),pS ([]:By),p32 (0:Int),p16 (0:Int),p16 (0:Int),p16 (0:Int),p16 (0:Int),p16 (0:Int),p16 (0:Int),p16 (0:Int),p16 (0:Int)],pI (14:Int)],[.box [pI (0:Int),pS ([]:By),p32 (0:Int),p16 (0:Int),p16 (0:Int),p16 (0:Int),p16 (0:Int),p16 (0:Int),p16 (0:Int),p16 (0:Int),p16 (0:Int)]],s)):=by refine(evE (fn:=Tryz.f142) (by kernel_rfl)).trans ?_;generalize evC (XX L) d=Q;unfold Bx5;kernel_rfl
noncomputable def A56(L:Nat):Cfg:=D0 L [15] (A4 []) [(34,Cm4)] (A4 [(9,[2]),(4,[2]),(6,[2]),(8,[2]),(7,[1,31]),(5,[1,1,1,16]),(3,[1,1,1,0]),(2,[1,1,1]),(1,[1,1]),(0,[1])]) [34] (A4 [(0,[])]) (some [2]) [] [] []
abbrev Kbh(R:Type):=Bool->Int->By->Int->Int->Int->Int->Int->Int->Int->Int->Int->LL->Option R
noncomputable def Qe(L:Nat)(c:Int)(b:By)(d e f g h i j l a:Int)(m:Kbh R):Option R:=cond (c==1) (cond (A2 b.length) (cond (Bk b) (cond (d==0) (m ((e==0)&&((f==0)&&((g==0)&&((h==0)&&((i==0)&&((j==0)&&((l==0)&&((a==0)&&true)))))))) c b d e f g h i j l a (v8 8 [(SV.int .u16 (0:Int))])) (m false c b d e f g h i j l a (v8 8 [(SV.int .u16 (0:Int))]))) (m false c b d e f g h i j l a (v8 8 [(SV.int .u16 (0:Int))]))) none) (cond (c==2) (cond (b==[]) (m ((e==0)&&((f==0)&&((g==0)&&((h==0)&&((i==0)&&((j==0)&&((l==0)&&((a==0)&&true)))))))) c b d e f g h i j l a (v8 8 [(SV.int .u16 (0:Int))])) (m false c b d e f g h i j l a (v8 8 [(SV.int .u16 (0:Int))]))) (cond (c==3) (cond (b==[]) (m (d==0) c b d e f g h i j l a (v8 8 [(SV.int .u16 (0:Int))])) (m false c b d e f g h i j l a (v8 8 [(SV.int .u16 (0:Int))]))) (m false c b d e f g h i j l a (v8 8 [(SV.int .u16 (0:Int))]))))
def Df3(d:Nat)(h0 h1 h2 h3 h4 h5 h6 h7 h8 h9 h10):evC (A56 L) (d+1) W Y 15 [.agg [pI h0,pS h1,p32 h2,p16 h3,p16 h4,p16 h5,p16 h6,p16 h7,p16 h8,p16 h9,p16 h10]] [] s=Qe L h0 h1 h2 h3 h4 h5 h6 h7 h8 h9 h10 (λn f o g h i j l e m b c a=>some (pB n,[.box [pI f,pS o,p32 g,p16 h,p16 i,p16 j,p16 l,p16 e,p16 m,p16 b,p16 c],.arr false 27 1 a],s)):=by refine(evE (fn:=Tryz.f15) (by kernel_rfl)).trans ?_;generalize evC (A56 L) d=Q;unfold Qe;kernel_rfl
noncomputable def A53(L:Nat):Cfg:=D0 L [17] (A4 []) [(15,VG),(36,Dt4),(37,Dt6)] (A4 [(7,[2]),(2,[2]),(4,[2]),(6,[2]),(5,[1,11]),(3,[1,5]),(1,[1,1]),(0,[1])]) [15,36,37] (A4 [(0,[1])]) (some [2]) [] [] []
abbrev Kca(R:Type):=By->Int->By->Int->Int->Int->Int->Int->Int->Int->Int->Int->Option R
noncomputable def De8(L:Nat)(j:Int)(l:By)(b c d e f g h i a:Int)(o:Kca R):Option R:=cond (A2 l.length) (cond (ltN b 4294967296) (cond (ok8 c d e f g h i a) (cond (not (N7 (mkH j l b (n8 c d e f g h i a)))) (o ([]:By) j l b c d e f g h i a) (cond (j==1) (o l j l b c d e f g h i a) (cond (j==2) (cond (ltN b 4294967296) (o (V3 (j6 b)) j l b c d e f g h i a) none) (cond (ok8 c d e f g h i a) (vl (Cv (n8 c d e f g h i a)) λm=>cond (J1 1 m.length) (vl (([91]:By)++m) λn=>cond (J1 n.length 1) (vl (n++[93]) λp=>o p j l b c d e f g h i a) none) none) none)))) none) none) none
def De9(d:Nat)(h0 h1 h2 h3 h4 h5 h6 h7 h8 h9 h10):evC (A53 L) (d+1) W Y 17 [.agg [pI h0,pS h1,p32 h2,p16 h3,p16 h4,p16 h5,p16 h6,p16 h7,p16 h8,p16 h9,p16 h10]] [] s=De8 L h0 h1 h2 h3 h4 h5 h6 h7 h8 h9 h10 (λm e n f g h i j c l a b=>some (pS m,[.box [pI e,pS n,p32 f,p16 g,p16 h,p16 i,p16 j,p16 c,p16 l,p16 a,p16 b]],s)):=by refine(evE (fn:=Tryz.f17) (by kernel_rfl)).trans ?_;generalize evC (A53 L) d=Q;unfold De8;kernel_rfl
noncomputable def A51(L:Nat):Cfg:=D0 L [74] (A4 []) [(34,Cm4),(116,Cm3)] (A4 [(1,[4]),(0,[0,0])]) [34,116] (A4 []) (some [4]) [] [] []
noncomputable def De0(L:Nat)(a b:By)(c:Bool->Option R):Option R:=cond (A2 a.length) (cond (Bk a) (cond (A2 b.length) (cond (Bk b) (cond (a==b) (c true) (cond (J1 1 a.length) (vl (([46]:By)++a) λd=>cond (A2 b.length) (c (List.isSuffixOf d b)) none) none)) (c false)) none) (c false)) none
def De1(d:Nat)(super0 name1):evC (A51 L) (d+1) W Y 74 [pS super0,pS name1] [] s=De0 L super0 name1 (λa=>some (pB a,[],s)):=by refine(evE (fn:=Tryz.f74) (by kernel_rfl)).trans ?_;generalize evC (A51 L) d=Q;unfold De0;kernel_rfl
end
section
variable {W R : Type} (L : Nat) (Q : G4) (Y : Yh W) (s : W) (k : Out -> St W -> Option R)
noncomputable def A61(L:Nat):Cfg:=D0 L [175] (A4 []) [] (A4 [(2,[2]),(1,[1,1]),(0,[1])]) [] (A4 []) (some [2]) [] [] []
noncomputable def Dz6(L:Nat)(b:Int)(a:Int->Option R):Option R:=a b
def Dj8(d:Nat)(b):evC (A61 L) (d+1) W Y 175 [pI b] [] s=Dz6 L b (λn0=>some (.fnr (ad7 190) [] [.ptr 1 0 0,.ptr 0 0 0],[.box [pI n0],.box [pI (0:Int)]],s)):=by refine(evE (fn:=Tryz.f175) (by kernel_rfl)).trans ?_;generalize evC (A61 L) d=Q;unfold Dz6;kernel_rfl
noncomputable def YI(L:Nat):Cfg:=D0 L [190] (A4 []) [] (A4 [(2,[2]),(1,[0,0]),(0,[0,0])]) [] (A4 []) (some [2]) [] [] []
noncomputable def B02(L:Nat)(k b:Int)(d:Int->Int->Int->Option R):Option R:=vl (A1 ((A1 (k+36))-b)) λa=>vl (if ((26:Int)<(if ((1:Int) > a) then (1:Int) else a)) then (26:Int) else (if ((1:Int) > a) then (1:Int) else a)) λc=>d c (A1 (k+36)) b
def Cx7(d:Nat)(k b):evC (YI L) (d+1) W Y 190 [.ptr 0 0 0,.ptr 1 0 0] [.box [pI k],.box [pI b]] s=B02 L k b (λe a c=>some (pI e,[.box [pI a],.box [pI c]],s)):=by refine(evE (fn:=Tryz.f190) (by kernel_rfl)).trans ?_;generalize evC (YI L) d=Q;unfold B02;kernel_rfl
noncomputable abbrev Dw4:Code:=D4 ao0
noncomputable def CM(L:Nat):Cfg:=D0 L [156] (A4 [(2,[0,0,4,0])]) [(175,IV),(176,A22)] (A4 [(6,[0,0,5]),(5,[0,0,5,0]),(4,[6]),(3,[0,0,5,0,6]),(2,[0,0,5,0]),(1,[0,0,5]),(0,[0,0,0])]) [176] (A4 [(0,[6]),(1,[0,0,5])]) (some [6]) [(190,Sm)] [] [190]
abbrev Kbi(R:Type):=Bool->LL->Int->Int->Option R
noncomputable def Ki(L n:Nat)(f:Int)(p:Bool)(g:LL)(a b:Int)(o:Kbi R):Option R:=match n with|0=>none|n+1=>cond (ltN b 1000000000000) (cond (ltN a 1000000) (cond (ltI f (N0 b a)) (cond (ltN f 36) (vl (↑(aq6 (Bn (j6 f))):Int) λh=>cond (G0 (g.length+1)) (o p (g++[[(SV.int .u8 h)]]) a (ad3 b (36:Int))) none) none) (vl (A1 (f-(N0 b a))) λi=>vl (A1 ((36:Int)-(N0 b a))) λc=>cond (c !=0) (vl (A1 ((N0 b a)+(aj3 i c))) λd=>cond (ltN d 36) (vl (↑(aq6 (Bn (j6 d))):Int) λj=>cond (G0 (g.length+1)) (vl (A1 (f-(N0 b a))) λl=>vl (A1 ((36:Int)-(N0 b a))) λe=>cond (e !=0) (vl (A1 (ah9 l e)) λm=>Ki L n m p (g++[[(SV.int .u8 j)]]) a (ad3 b (36:Int)) o) none) none) none) none)) none) none
def Bd9(n q0 z1 l2 a n4):E0 3 ((CM L).keep 2) (bd (CM L) Q Y (cd [1,1,0,0] Dw4)) n ⟨gp [(0,.fl 0),(0,pI q0),(5,.fnr (ad7 190) [] [.ptr 2 0 0,.ptr 1 0 0])] 31,[.arr z1 5 1 l2,.box [pI a],.box [pI n4]],s⟩ k =
 Ki L n q0 z1 l2 a n4 (λe c d a=>k .ret ⟨gp [(6,.fl 0)] 32,[.arr e 5 1 c,.box [pI d],.box [pI a]],s⟩):=by
 induction n generalizing q0 z1 l2 a n4 with
 | zero=>rfl
 | succ n b=>rw[Ki];simp only[<-b];kernel_rfl
noncomputable def Dz3(L:Nat)(q b:Int)(z:Bool)(l:LL)(f:Kbi R):Option R:=Ki L L q z l b 0 (λe a c d=>f e a c d)
def Di7(d:Nat)(q b z l):evC (CM L) (d+1) W Y 156 [.fl 0,pI q,pI b] [.arr z 5 1 l] s=Dz3 L q b z l (λf a c e=>some (.fl 0,[.arr f 5 1 a,.box [pI c],.box [pI e]],s)):=by refine(evE (fn:=ao0) (by kernel_rfl)).trans ?_;generalize evC (CM L) d=Q;unfold Dz3;exact(j0 (by kernel_rfl) ((Bd9 L Q Y s (F0 0 (G1 (CM L) ao0)) L q z l b 0).trans (by kernel_rfl)))
noncomputable abbrev Gd:Code:=D4 al3
noncomputable def R5(L:Nat):Cfg:=D0 L [130] (A4 [(29,[0,1,0,0,2,0,0,0,0,61,0,0]),(21,[0,1,0,0,2,0,0,0,0,0,38,0,0]),(17,[0,1,0,0,2,0,0,0,0]),(5,[0,1,0,0,15,0,0])]) [(155,Ql),(157,Qk)] (A4 [(40,[2,0]),(18,[0,3,2,0,0,0,0]),(39,[0,3,2,0,0,0,0]),(38,[0,3,2,0,0,0,0,61,0,0]),(32,[0,3,2,0,0,0,0,61,0,0]),(37,[0,3,2,0,0,0,0,61,0,0]),(36,[0,3,2,0,0,0,0,61,0,0]),(35,[0,3,2,0,1,0,61,0,0]),(34,[0,3,2,0,0,1,61,0,0]),(33,[0,3,2,0,0,0,0,61,0,0,9]),(31,[0,3,2,0,0,0,0,4,56,0,0,3]),(30,[0,3,2,0,0,0,0,4,56,0,0]),(29,[0,3,2,0,0,0,0,61,0,0,0]),(28,[0,3,2,0,0,0,0,61,0,0]),(27,[0,3,2,0,0,0,0]),(26,[0,3,2,1,0,0,0]),(25,[0,3,2,0,0,0,0,0,38,0,0]),(24,[0,3,2,0,0,0,0,0,38,0,0]),(23,[0,3,2,0,0,0,0,0,1,36,0,0,5]),(22,[0,3,2,0,0,0,0,0,1,36,0,0]),(21,[0,3,2,0,0,0,0,0,38,0,0,0]),(20,[0,3,2,0,0,0,0,0,38,0,0]),(19,[0,3,2,0,0,0,0,0]),(17,[0,3,2,0,0,0,0,36]),(16,[0,3,2,0,0,0,0]),(15,[0,3,2,0,0,0]),(14,[0,3,2]),(13,[0,3,2,32]),(12,[0,3,2]),(11,[0,3,15,0,0]),(10,[0,3,15,0,0]),(9,[0,3,1,13,0,0,7]),(8,[2,0]),(7,[0,3,1,13,0,0,5]),(6,[0,3,1,13,0,0]),(5,[0,3,15,0,0,0]),(4,[0,3,15,0,0]),(3,[0,3]),(2,[2,0]),(1,[0,18]),(0,[0])]) [155,157] (A4 [(2,[4]),(3,[0,3,2,0,0,0,0]),(6,[0,3,2,0,0,0,0]),(7,[0,3,2,0,0,0,0,61,0,0]),(8,[0,3,2,0,0,0,0,61,0,0]),(4,[0,3,2,0,0,0,0,0]),(5,[0,3,2,0,0,0,0,0,38,0,0]),(0,[0,3]),(1,[0,3,15,0,0])]) (some [2,0]) [(156,VZ)] [] [156]
abbrev Kaj(R:Type):=Bool->Bool->LL->LL->Option R
noncomputable def V9(L n:Nat)(c b:Bool)(a:LL)(i e:Int)(f:LL)(g:LL->Option R)(h:Kaj R):Option R:=match n with|0=>none|n+1=>cond (ltI e i) (cond (inR e a.length) (cond (okE Mv a (j6 e) 0) (vl (gE a (j6 e) 0) λd=>cond (not (ptI d)) (g f) (cond (ltI d 128) (cond (G0 (f.length+1)) (V9 L n c b a i (A1 (e+1)) (f++[[(SV.int .u8 (wu8 d))]]) g h) none) (V9 L n c b a i (A1 (e+1)) f g h))) none) none) (h c b a f)
def Bf0(n b a c n3 n4 l5):E0 1 ((R5 L).keep 5) (bd (R5 L) Q Y (cd [1,1,1,0,1,0,0] Gd)) n ⟨gp [(0,.s (.sl b a 1 c)),(3,.fl 0),(15,.s (.sl b a 1 c)),(0,pI n3),(0,pI n4)] 84,[.arr true 5 1 l5],s⟩ k =
 V9 L n b a c n3 n4 l5 (λe=>k .ret ⟨gp [(2,pS ([]:By)),(0,pI (2:Int))] 103,[.arr true 5 1 e],s⟩) (λb a c f=>k (.exit 0) ⟨gp [(0,.s (.sl b a 1 c)),(3,.fl 0)] 102,[.arr true 5 1 f],s⟩):=by
 induction n generalizing b a c n3 n4 l5 with
 | zero=>rfl
 | succ n d=>rw[V9];simp only[<-d];kernel_rfl
abbrev Kae(R:Type):=Bool->Bool->LL->Int->Int->Int->Int->Int->Int->LL->Option R
noncomputable def Kk(L n:Nat)(c b:Bool)(a:LL)(d o e f g m q h:Int)(i:LL)(p:Kae R):Option R:=match n with|0=>none|n+1=>cond (ltI h q) (cond (inR h a.length) (cond (okE Mv a (j6 h) 0) (vl (gE a (j6 h) 0) λj=>cond (not (ltI j o)) (vl (if (j<m) then j else m) λl=>Kk L n c b a d o e f g l q (A1 (h+1)) i p) (Kk L n c b a d o e f g m q (A1 (h+1)) i p)) none) none) (p c b a d o e f g m i)
def Bf1(n b a c d i e f g h n9 n10 l11):E0 1 ((R5 L).keep 21) (bd (R5 L) Q Y (cd [1,1,1,1,1,1,1,0,1,0,0,1,0,0,1,0,1,0,0] Gd)) n ⟨gp [(0,.s (.sl b a 1 c)),(3,.fl 0),(2,pI d),(0,pI i),(0,pI e),(0,pI f),(0,pI g),(0,pI h),(38,.s (.sl b a 1 c)),(0,pI n9),(0,pI n10)] 53,[.arr true 5 1 l11],s⟩ k =
 Kk L n b a c d i e f g h n9 n10 l11 (λb a c d i e f g h l=>k (.exit 4) ⟨gp [(0,.s (.sl b a 1 c)),(3,.fl 0),(2,pI d),(0,pI i),(0,pI e),(0,pI f),(0,pI g),(0,pI h)] 94,[.arr true 5 1 l],s⟩):=by
 induction n generalizing b a c d i e f g h n9 n10 l11 with
 | zero=>rfl
 | succ n j=>rw[Kk];simp only[<-j];kernel_rfl
abbrev Kbd(R:Type):=Bool->Bool->LL->Int->Int->Int->Int->Int->LL->Option R
noncomputable def Dg(L n:Nat)(d c:Bool)(a:LL)(e m b g f i l:Int)(l10:LL)(t:Kbd R):Option R:=match n with|0=>none|n+1=>cond (ltI l i) (cond (inR l a.length) (cond (okE Mv a (j6 l) 0) (vl (gE a (j6 l) 0) λj=>cond (ltI j m) (vl (A1 (b+1)) λp=>Dg L n d c a e m p g f i (A1 (l+1)) l10 t) (cond (j==m) (cond (ltN b 1152921504606846976) (cond (ltN g 1000000) (cond (s9 l10.length 100000) (vl (al9 l10 (ab6 F1 (Q8 (j6 b) 0 (j6 g)))) λo=>vl (A1 (f+1)) λh=>cond (ltN b 1152921504606846976) (cond (ltN h 1000000) (cond (ltI 0 h) (vl (↑(R4 (j6 b) (j6 h) (f==e)):Int) λq=>vl (A1 (f+1)) λr=>Dg L n d c a e m 0 q r i (A1 (l+1)) o t) none) none) none) none) none) none) (Dg L n d c a e m b g f i (A1 (l+1)) l10 t))) none) none) (t d c a e m b g f l10)
def Bf2(n b a c d h e f g n8v n9 l10):E0 1 ((R5 L).keep 29) (bd (R5 L) Q Y (cd [1,1,1,1,1,1,1,0,1,0,0,1,0,0,1,1,1,1,0,1,0,0] Gd)) n ⟨gp [(0,.s (.sl b a 1 c)),(3,.fl 0),(2,pI d),(0,pI h),(0,pI e),(0,pI f),(0,pI g),(61,.s (.sl b a 1 c)),(0,pI n8v),(0,pI n9)] 31,[.arr true 5 1 l10],s⟩ k =
 Dg L n b a c d h e f g n8v n9 l10 (λb a c d h e f g j=>k (.exit 6) ⟨gp [(0,.s (.sl b a 1 c)),(3,.fl 0),(2,pI d),(0,pI h),(0,pI e),(0,pI f),(0,pI g)] 95,[.arr true 5 1 j],s⟩):=by
 induction n generalizing b a c d h e f g n8v n9 l10 with
 | zero=>rfl
 | succ n i=>rw[Dg];simp only[<-i];kernel_rfl
noncomputable def Hb(L n:Nat)(j i:Bool)(b:LL)(v K w y u:Int)(J:LL)(I:LL->Option R):Option R:=match n with|0=>none|n+1=>cond (ltI u (b.length:Int)) (Kk L L j i b v K w y u 1114112 (b.length:Int) 0 J (λe c a l B o q g x z=>vl (A1 (g+1)) λC=>vl (A1 ((A1 (x-B))*C)) λD=>Dg L L e c a l x (A1 (o+D)) q g (a.length:Int) 0 z (λf d h m F p r t A=>vl (A1 (p+1)) λG=>vl (A1 (F+1)) λH=>Hb L n f d h m H G r t A I))) (I J)
def NL(n points_z0 points_t1 points2 basic3 n4 delta5 bias6 done7 l8):E0 1 ((R5 L).keep 17) (bd (R5 L) Q Y (cd [1,1,1,1,1,1,1,0,1,0,0] Gd)) n ⟨gp [(0,.s (.sl points_z0 points_t1 1 points2)),(3,.fl 0),(2,pI basic3),(0,pI n4),(0,pI delta5),(0,pI bias6),(0,pI done7)] 95,[.arr true 5 1 l8],s⟩ k =
 Hb L n points_z0 points_t1 points2 basic3 n4 delta5 bias6 done7 l8 (λB=>k (.exit 2) ⟨gp [(4,.fl 0)] 102,[.arr true 5 1 B],s⟩):=by
 induction n generalizing points_z0 points_t1 points2 basic3 n4 delta5 bias6 done7 l8 with
 | zero=>rfl
 | succ n A=>rw[Hb];exact(j0 (by kernel_rfl) (A0 ((Bf1 L Q Y s (F0 4 (F5 (R5 L) Q Y (cd [1,1,1,1,1,1,1,0,1,0,0,1,0,0,1,1] Gd) (F0 3 (F5 (R5 L) Q Y (cd [1,1,1,1,1,1,1,0,1,0,0,1,1] Gd) (lpK 1 ((R5 L).keep 17) (bd (R5 L) Q Y (cd [1,1,1,1,1,1,1,0,1,0,0] Gd)) n k))))) L points_z0 points_t1 points2 basic3 n4 delta5 bias6 done7 1114112 (points2.length:Int) 0 l8).trans (congr rfl (Dd5 λd b a g x i j m t q=>(j0 (by kernel_rfl) (A5 λy=>(A5 λu=>((Bf2 L Q Y s (F0 6 (F5 (R5 L) Q Y (cd [1,1,1,1,1,1,1,0,1,0,0,1,0,0,1,1,1,1,1] Gd) (F0 3 (F5 (R5 L) Q Y (cd [1,1,1,1,1,1,1,0,1,0,0,1,1] Gd) (lpK 1 ((R5 L).keep 17) (bd (R5 L) Q Y (cd [1,1,1,1,1,1,1,0,1,0,0] Gd)) n k))))) L d b a g t (A1 (i+u)) j m (a.length:Int) 0 q).trans (congr rfl (fx9 λe c f h z p l o r=>(j0 (by kernel_rfl) (A5 λv=>(A5 λw=>(A e c f h w v l o r))))))))))))) rfl))
noncomputable def At6(L:Nat)(l j:Bool)(p:LL)(m:Unit->Option R)(h:By->Int->LL->Option R):Option R:=cond (ltI 256 (p.length:Int)) (m ()) (V9 L L l j p (p.length:Int) 0 [] (λi=>h ([]:By) 2 i) (λb a c g=>vl (g.length:Int) λf=>cond (ltI 0 f) (cond (G0 (g.length+1)) (Hb L L b a c f 128 0 72 f (g++[[(SV.int .u8 (45:Int))]]) (λd=>cond (af5 d Qg) (h (ab6 Nx d) 0 d) none)) none) (Hb L L b a c f 128 0 72 f g (λe=>cond (af5 e Qg) (h (ab6 Nx e) 0 e) none))))
def Dj2(d:Nat)(p_z p_t p):evC (R5 L) (d+1) W Y 130 [.s (.sl p_z p_t 1 p)] [] s=At6 L p_z p_t p (λ_=>some (.tup [pS ([]:By),pI (3:Int)],[],s)) (λi j h=>some (.tup [pS i,pI j],[.arr true 5 1 h],s)):=by refine(evE (fn:=al3) (by kernel_rfl)).trans ?_;generalize evC (R5 L) d=Q;unfold At6;exact let g:=(F0 2 (F5 (R5 L) Q Y (cd [1,1,1,1,1,1,1,1] Gd) (G1 (R5 L) al3)));(j0 (by kernel_rfl) (A0 rfl ((Bf0 L Q Y s (F0 0 (F5 (R5 L) Q Y (cd [1,1,1,1] Gd) (G1 (R5 L) al3))) L p_z p_t p (p.length:Int) 0 []).trans (congr (congr rfl (by kernel_rfl)) (fx4 λb a c f=>(j0 (by kernel_rfl) (A5 λe=>(A0 (A0 ((NL L Q Y s g L b a c e 128 0 72 e (f++[[(SV.int .u8 (45:Int))]])).trans (by kernel_rfl)) rfl) ((NL L Q Y s g L b a c e 128 0 72 e f).trans (by kernel_rfl))))))))))
end
def AP(k b:Nat):N0 ((36*k:Nat):Int) (b:Int)=(thr k b:Int):=by unfold N0 thr;omega
def Cd0{a:Int->Option R}(b:Int):Dz6 LF b a=a b:=rfl
def Bf6{a:Int->Int->Int->Option R}(k b:Int)(e:ltN k 1000000000000=true)(f:ltN b 1000000=true):B02 LF k b a=a (N0 k b) (ad3 k 36) b:=by
 obtain⟨g,h⟩:=E7.1 e;obtain⟨i,j⟩:=E7.1 f;unfold B02;have c:A1 (k+36)=k+36:=A6;have d:A1 (k+36-b)=k+36-b:=A6;simp only[vl,c,d];have:(if (26:Int)<(if (1:Int) > k+36-b then (1:Int) else k+36-b) then (26:Int) else (if (1:Int) > k+36-b then (1:Int) else k+36-b))=N0 k b:=by
  unfold N0;omega
 grind
def Sy{q k b:Nat}(h:q<thr k b):Q8 q k b=[Bn q]:=by rw[Q8,dif_pos h]
def CX{q k b:Nat}(h:¬q<thr k b):Q8 q k b=Bn (thr k b+(q-thr k b) % (36-thr k b))::Q8 ((q-thr k b) / (36-thr k b)) (k+1) b:=by rw[Q8,dif_neg h]
def ZP{x y m:Nat}(a:10<=y)(h:x<10*m):x / y<m:=by have b:x / y<=x / 10:=Nat.div_le_div_left a (by omega);omega
def A82(b:Nat):∀(r q k:Nat),q<10 ^ r->(Q8 q k b).length<=r+1:=by
 intro r
 induction r with
 | zero=>
  intro q k h;have c:=X8 k b;rw[Sy (by simp at h;omega)];simp
 | succ r d=>
  intro q k h;have c:=X8 k b;by_cases a:q<thr k b
  ·rw[Sy a];simp
  ·rw[CX a,j2];have:=d ((q-thr k b) / (36-thr k b)) (k+1) (ZP (by omega) (by rw[ao8] at h;omega));omega
def Cb8(z:Bool)(b:Nat)(K:b<1000000):∀(r q k n:Nat) (l:LL),q<10 ^ r->q<1152921504606846976->k+r<=1000->r<n->l.length+r<=200000->
  ∃(d f:Int),∀(R:Type) (a:Kbi R),Ki LF n (q:Int) z l (b:Int) ((36*k:Nat):Int) a=a z (l++(Q8 q k b).map F1) d f:=by
 have c:∀(q k n:Nat) (l:LL),q<thr k b->k<=1000->l.length<=200000->∃(d f:Int),∀(R:Type) (a:Kbi R),Ki LF (n+1) (q:Int) z l (b:Int) ((36*k:Nat):Int) a=a z (l++(Q8 q k b).map F1) d f:=by
  intro q k n l g i j;have p:=X8 k b;refine⟨(b:Int),ad3 ((36*k:Nat):Int) 36,λR a=>?_⟩;rw[Ki];rw[N4,N4,AP,A8,N4,Sy g];simp only[vl,aa,c9];rw[F4 (by omega)];rfl
 intro r
 induction r with
 | zero=>
  intro q k n l h _ i H j;have p:=X8 k b;rcases n with _|n;omega
  exact c q k n l (by simp at h;omega) (by omega) (by omega)
 | succ r I=>
  intro q k n l h o i H j;have p:=X8 k b;rcases n with _|n;omega
  by_cases g:q<thr k b
  ·exact c q k n l g (by omega) (by omega)
  ·have D:(q-thr k b) / (36-thr k b)<10 ^ r:=ZP (by omega) (by rw[ao8] at h;omega);have F:(q-thr k b) / (36-thr k b)<=q:=Nat.le_trans (ah6 _ _) (by omega);have G:(q-thr k b) % (36-thr k b)<36-thr k b:=am6 _ (by omega);obtain⟨d,f,e⟩:=I ((q-thr k b) / (36-thr k b)) (k+1) n (l++[F1 (Bn (thr k b+(q-thr k b) % (36-thr k b)))]) D (by omega) (by omega) (by omega) (by rw[k9,ae2];omega);refine⟨d,f,λR a=>?_⟩;rw[Ki];have t:A1 ((q:Int)-(thr k b:Int))=((q-thr k b:Nat):Int):=by rw[A6];omega
   have u:A1 ((36:Int)-(thr k b:Int))=((36-thr k b:Nat):Int):=by rw[A6];omega
   have v:aj3 ((q-thr k b:Nat):Int) ((36-thr k b:Nat):Int)=(((q-thr k b) % (36-thr k b):Nat):Int):=Dm _ _;have w:ah9 ((q-thr k b:Nat):Int) ((36-thr k b:Nat):Int)=(((q-thr k b) / (36-thr k b):Nat):Int):=N6 _ _;have C:((((36-thr k b:Nat):Int))!=0)=true:=by rw[bne_iff_ne];omega
   rw[N4,N4,AP,A7];simp only[vl,t,u,v,w,C,aa,ab];rw[CX g];generalize hA:(q-thr k b) / (36-thr k b)=A at *;generalize J:(q-thr k b) % (36-thr k b)=B at *;have x:A1 ((thr k b:Int)+(B:Int))=((thr k b+B:Nat):Int):=by rw[A6];rfl
   have y:A1 (A:Int)=(A:Int):=A6;rw[x,y,N4,F4 (by omega),c9,show ad3 ((36*k:Nat):Int) 36=((36*(k+1):Nat):Int) from(by show((36*k:Nat):Int)+36=_;omega)];refine j0 (e R a) ?_;simp[ab7]
def Cb9(q b:Int)(z:Bool)(l:LL)(h:ltN q 1152921504606846976=true)(i:ltN b 1000000=true)(j:s9 l.length 100000=true) :
  ∃(c d:Int),∀(R:Type) (a:Kbi R),Dz3 LF q b z l a=a z (al9 l ((Q8 q.toNat 0 b.toNat).map F1)) c d:=by
 obtain⟨f,m⟩:=E7.1 h;obtain⟨g,n⟩:=E7.1 i;obtain⟨q,rfl⟩:=z7 f;obtain⟨b,rfl⟩:=z7 g;have o:=ah8 j;have k:=D6;obtain⟨c,d,e⟩:=Cb8 z b (by omega) 19 q 0 LF l (by omega) (by omega) (by omega) (by omega) (by omega);exact⟨c,d,λR a=>e R _⟩
def Bz(l:List Int):LL:=l.map λx=>[SV.int .i64 x]
def C4(l:List Nat):LL:=l.map λx:Nat=>[SV.int .i64 (x:Int)]
def Tf(l:List Nat):Bz (l.map λn:Nat=>(n:Int))=C4 l:=by simp[Bz,C4,af9]
def W6(l:List Int):(Bz l).length=l.length:=by simp[Bz]
def E2(l:List Nat):(C4 l).length=l.length:=by simp[C4]
def Ml(a b:List Nat):C4 (a++b)=C4 a++C4 b:=by simp[C4]
def Ac3{l:List Int}{i:Nat}(h:i<l.length):okE Mv (Bz l) i 0=true:=by unfold okE Bz Mv;simp[j8,h,okS,SV.has]
def A89(l:List Int)(i:Nat)(h:i<l.length):gE (Bz l) i 0=l.getD i 0:=by unfold gE gC Bz;simp[j8,x7 h,SV.gI]
def Ti{l:List Nat}{i:Nat}(h:i<l.length):okE Mv (C4 l) i 0=true:=by rw[<-Tf];exact Ac3 (by simpa using h)
def DA(l:List Nat)(i:Nat)(h:i<l.length):gE (C4 l) i 0=(l.getD i 0:Int):=by rw[<-Tf,A89 _ _ (by simpa using h)];grind
def By0{l:LL}(h:l.all Pt=true):∃P:List Int,l=Bz P:=by
 induction l with
 | nil=>exact⟨[],rfl⟩
 | cons x r b=>
  simp only[ac3,p5] at h;obtain⟨P,rfl⟩:=b h.2;have a:=h.1;unfold Pt at a;split at a
  ·rename_i n;exact⟨n::P,rfl⟩
  ·cases a
def Ao5(P:List Int):(Bz P).map elI=P:=by
 unfold Bz;rw[af0]
 conv=>rhs;rw[<-aq0 P]
 apply ac5;intro x _;simp[elI,SV.gI]
def Ao4(l:List Int)(i:Nat)(h:i<l.length):l.drop i=l.getD i 0::l.drop (i+1):=by simp_all
def Yc(l:List Nat)(i:Nat)(h:i<l.length):l.drop i=l.getD i 0::l.drop (i+1):=by simp_all
def Da2:∀(r d k:Nat),d<456*35 ^ r->CB d k<=k+36*r+36:=by
 intro r
 induction r with
 | zero=>
  intro d k h;rw[Va (by simp at h;omega)];have:36*d / (d+38)<=36:=by
   apply Nat.div_le_of_le_mul;omega
  omega
 | succ r b=>
  intro d k h;by_cases a:455<d
  ·rw[JZ a];grind
  grind
def Qp(d c:Nat)(f:Bool)(h:d<1152921504606846976):R4 d c f<=500:=by
 unfold R4;have a:∀x:Nat,x<=d->CB (x+x / c) 0<=500:=by
  intro x a;have:=ah6 x c;have:=Da2 11 (x+x / c) 0 (by omega);omega
 grind
def RO{q k b:Nat}(h:q<1152921504606846976):(Q8 q k b).length<=20:=A82 b 19 q k (by omega)
def B00(z t:Bool)(c:List Nat)(a m:Nat)(Q:m<=1114112)(P:c.length<=256):∀(r i n:Nat) (s:UP),i+r=c.length->r<n->s.delta+r<=1000000000000->s.bias<=500->s.out.length+20*r<=90000->s.done+r<=1000->a<=256->
  (∀(R:Type) (d:Kbd R),Dg LF n z t (C4 c) (a:Int) (m:Int) (s.delta:Int) (s.bias:Int) (s.done:Int) (c.length:Int) (i:Int) (s.out.map F1) d =
   d z t (C4 c) (a:Int) (m:Int) ((J8 m a (c.drop i) s).delta:Int) ((J8 m a (c.drop i) s).bias:Int) ((J8 m a (c.drop i) s).done:Int) ((J8 m a (c.drop i) s).out.map F1))/\
  (J8 m a (c.drop i) s).bias<=500/\(J8 m a (c.drop i) s).out.length<=s.out.length+20*(c.drop i).countP (· == m)/\(J8 m a (c.drop i) s).done=s.done+(c.drop i).countP (· == m)/\
  (J8 m a (c.drop i) s).delta<=(if 0<(c.drop i).countP (· == m) then r else s.delta+r):=by
 intro r
 induction r with
 | zero=>
  intro i n s N O K x L M y;rcases n with _|n;omega
  rw[o0 (by omega)];refine⟨λR d=>?_,x,by simp[J8],by simp[J8],by simp[J8]⟩;rw[Dg];rw[A7];rfl
 | succ r F=>
  intro i n s N O K x L M y;rcases n with _|n;omega
  rw[Yc c i (by omega)];have C:=DA c i (by omega);have ok:=Ti (l:=c) (i:=i) (by omega);generalize c.getD i 0=p at *;have A:A1 ((i:Int)+1)=((i+1:Nat):Int):=by rw[A6];rfl
  have I:A1 ((s.delta:Int)+1)=((s.delta+1:Nat):Int):=by rw[A6];rfl
  have J:A1 ((s.done:Int)+1)=((s.done+1:Nat):Int):=by rw[A6];rfl
  by_cases D:p<m
  ·have e:(p==m)=false:=by rw[beq_eq_false_iff_ne];omega
   have j:J8 m a (p::c.drop (i+1)) s=J8 m a (c.drop (i+1)) { s with delta:=s.delta+1 }:=by rw[J8,ac D]
   obtain⟨o,u,v,w,f⟩:=F (i+1) n { s with delta:=s.delta+1 } (by omega) (by omega) (by simp only;omega) x (by simp only;omega) (by simp only;omega) y;rw[j,ag6 (by rw[e];simp)];refine⟨λR d=>?_,u,v,w,?_⟩
   ·rw[Dg];rw[A8,E2,H4,c9,ok];simp only[aa,vl,C,A,I];rw[A8,aa];exact o R d
   ·simp only at f;split at f<;>split<;>omega
  ·by_cases H:p=m
   ·subst H;have G:=RO (q:=s.delta) (k:=0) (b:=s.bias) (by omega);have B:=Qp s.delta (s.done+1) (s.done==a) (by omega);have j:J8 p a (p::c.drop (i+1)) s=J8 p a (c.drop (i+1)) { delta:=0,bias:=R4 s.delta (s.done+1) (s.done==a),done:=s.done+1,out:=s.out++Q8 s.delta 0 s.bias }:=by rw[J8,ae D,ac rfl]
    obtain⟨o,u,v,w,f⟩:=F (i+1) n { delta:=0,bias:=R4 s.delta (s.done+1) (s.done==a),done:=s.done+1,out:=s.out++Q8 s.delta 0 s.bias } (by omega) (by omega) (by simp only;omega) B (by simp only[k9];omega) (by simp only;omega) y;rw[j,List.countP_cons_of_pos (by simp)];refine⟨λR d=>?_,u,?_,?_,?_⟩
    ·rw[Dg];have g:((s.done:Int)==(a:Int))=(s.done==a):=by grind
     rw[A8,E2,H4,c9,ok];simp only[aa,vl,C,A,J];rw[A7,ab,beq_self_eq_true,aa,N4,N4,o9,ae3 (show s.out.length<=100000 by omega),N4,A8,g];simp only[aa,c9];have h:al9 (s.out.map F1) ((Q8 s.delta 0 s.bias).map F1)=(s.out++Q8 s.delta 0 s.bias).map F1:=by rw[ah5];rfl
     rw[h];exact o R d
    ·simp only[k9] at v;omega
    ·simp only at w;omega
    ·simp only at f;rw[U9];split at f<;>omega
   ·have e:(p==m)=false:=by rw[beq_eq_false_iff_ne];omega
    have j:J8 m a (p::c.drop (i+1)) s=J8 m a (c.drop (i+1)) s:=by rw[J8,ae D,ae H]
    obtain⟨o,u,v,w,f⟩:=F (i+1) n s (by omega) (by omega) (by omega) x (by omega) (by omega) y;rw[j,ag6 (by rw[e];simp)];refine⟨λR d=>?_,u,v,w,?_⟩
    ·rw[Dg];rw[A8,E2,H4,c9,ok];simp only[aa,vl,C,A];rw[A7,ab,show((p:Int)==(m:Int))=false by rw[beq_eq_false_iff_ne];omega,ab];exact o R d
    ·split at f<;>split<;>omega
def Bf3{k0:Kae R}(z t:Bool)(a:List Nat)(k:a.length<=256)(n0:Nat)(b delta c done:Int)(l:LL):∀(r i n m:Nat),i+r=a.length->r<n->
  Kk LF n z t (C4 a) b (n0:Int) delta c done (m:Int) (a.length:Int) (i:Int) l k0=k0 z t (C4 a) b (n0:Int) delta c done ((J7 n0 (a.drop i) m:Nat):Int) l:=by
 intro r
 induction r with
 | zero=>
  intro i n m g j;rcases n with _|n;omega
  rw[Kk];rw[A7,o0 (by omega)];rfl
 | succ r d=>
  intro i n m g j;rcases n with _|n;omega
  have f:=DA a i (by omega);have ok:=Ti (l:=a) (i:=i) (by omega);rw[Kk,Yc a i (by omega)];generalize a.getD i 0=p at *;have e:A1 ((i:Int)+1)=((i+1:Nat):Int):=by rw[A6];rfl
  rw[A8,E2,H4,c9,ok];simp only[aa,vl,f,e,J7];by_cases h:n0<=p
  ·rw[ac h,A7,j4,aa];have:(if (p:Int)<(m:Int) then (p:Int) else (m:Int))=((min m p:Nat):Int):=by split<;>omega
   rw[this];exact d (i+1) n (min m p) (by omega) (by omega)
  ·rw[ae h,A8,j5,ab];exact d (i+1) n m (by omega) (by omega)
def Ft(n:Nat):∀(l:List Nat) (m:Nat),(J7 n l m=m\/(J7 n l m∈l/\n<=J7 n l m))/\J7 n l m<=m/\∀p∈l,n<=p->J7 n l m<=p
 | [],m=>⟨.inl rfl,ab8 _,λp h=>by cases h⟩
 | q::r,m=>by
  obtain⟨a,b,c⟩:=Ft n r (if n<=q then min m q else m);simp only[J7];grind
def Xw{n m:Nat}(a:n<=m):∀l:List Nat,(∀p∈l,n<=p->m<=p)->l.countP (λp=>decide (p<m+1))=l.countP (λp=>decide (p<n))+l.countP (· == m)
 | [],_=>rfl
 | p::l,h=>by
  have d:=Xw a l (λq b=>h q (List.mem_cons_of_mem _ b));have c:=h p List.mem_cons_self;grind
def A70{n:Nat}{l:List Nat}(h:l.countP (λp=>decide (p<n))<l.length):∃p∈l,n<=p:=by
 apply af8;intro a;have:l.countP (λp=>decide (p<n))=l.length:=by simp_all
 omega
def Cx4(z t:Bool)(a:List Nat)(b:Nat)(x:a.length<=256)(N:b<=256)(g:∀p∈a,p<=1114111):∀(f n d:Nat) (s:UP),s.done=a.countP (λp=>decide (p<n))->a.length<=s.done+f->f<d->s.delta<=300->s.bias<=500->s.out.length+20*(a.length-s.done)<=80000->n<=1114112->
  ∀(R:Type) (k0:LL->Option R),Hb LF d z t (C4 a) (b:Int) (n:Int) (s.delta:Int) (s.bias:Int) (s.done:Int) (s.out.map F1) k0=k0 ((T1 a b f n s).out.map F1):=by
 intro f;have M:=D6
 induction f with
 | zero=>
  intro n d s P S T I v J L R k0;rcases d with _|d;omega
  rw[Hb];rw[E2,A7];rfl
 | succ f U=>
  intro n d s P S T I v J L R k0;rcases d with _|d;omega
  rw[Hb];rw[E2];have O:a.countP (λp=>decide (p<n))<=a.length:=aa5;by_cases j:s.done<a.length
  ·obtain⟨A,k,q⟩:=A70 (n:=n) (l:=a) (by omega);obtain⟨g1,g2,u⟩:=Ft n a 1114112;have g4:=u A k q;have g5:=g A k;have e:J7 n a 1114112∈a/\n<=J7 n a 1114112:=by grind
   have Q:T1 a b (f+1) n s=T1 a b f (J7 n a 1114112+1) { J8 (J7 n a 1114112) b a { s with delta:=s.delta+(J7 n a 1114112-n)*(s.done+1) } with delta:=(J8 (J7 n a 1114112) b a { s with delta:=s.delta+(J7 n a 1114112-n)*(s.done+1) }).delta+1 }:=by
    rw[T1,ac j]
   rw[Q,A8,aa];have c:=λ(K:Kae R)=>Bf3 (k0:=K) z t a x n (b:Int) (s.delta:Int) (s.bias:Int) (s.done:Int) (s.out.map F1) a.length 0 LF 1114112 (by omega) (by omega)
   rw[p7] at c;refine j0 (c _) ?_;generalize J7 n a 1114112=m at *;have y:(m-n)*(s.done+1)<=1114112*256:=ai1 (by omega) (by omega);have B:A1 ((s.done:Int)+1)=((s.done+1:Nat):Int):=by rw[A6];rfl
   have C:A1 ((m:Int)-(n:Int))=((m-n:Nat):Int):=by rw[A6];omega
   have D:A1 (((m-n:Nat):Int)*((s.done+1:Nat):Int))=(((m-n)*(s.done+1):Nat):Int):=by
    rw[<-Int.natCast_mul];exact A6
   have F:A1 ((s.delta:Int)+(((m-n)*(s.done+1):Nat):Int))=((s.delta+(m-n)*(s.done+1):Nat):Int):=by
    rw[A6];rfl
   simp only[vl,B,C,D,F];have i:=B00 z t a b m (by omega) x a.length 0 LF { s with delta:=s.delta+(m-n)*(s.done+1) } (by omega) (by omega) (by simp only;omega) v (by simp only;omega) (by simp only;omega) N;rw[p7] at i;obtain⟨V,W,X,Y,Z⟩:=i;rw[E2];refine j0 (V R _) ?_;have h:0<a.countP (· == m):=ai4.2 ⟨m,e.1,by simp⟩;rw[ac h] at Z;have r:=Xw e.2 a u;generalize J8 m b a { s with delta:=s.delta+(m-n)*(s.done+1) } = o at *;simp only at X Y;have G:A1 ((o.delta:Int)+1)=((o.delta+1:Nat):Int):=by rw[A6];rfl
   have H:A1 ((m:Int)+1)=((m+1:Nat):Int):=by rw[A6];rfl
   have w:a.countP (λp=>decide (p<m+1))<=a.length:=aa5;simp only[G,H];exact U (m+1) d { o with delta:=o.delta+1 } (by simp only;omega) (by simp only;omega) (by omega) (by simp only;omega) W (by simp only;omega) (by omega) R k0
  ·rw[A7];rw[T1,ae j];rfl
def Y1(l:List Int):By:=(l.filter λx=>decide (x<128)).map λx=>aa0 x.toNat
def C37(x:Int)(a:0<=x)(h:x<128):[SV.int .u8 (wu8 x)]=F1 (aa0 x.toNat):=by
 unfold F1;have e:wu8 x=x:=by unfold wu8;exact Int.emod_eq_of_lt a (show x<256 by omega)
 rw[e];have:((aa0 x.toNat).toNat:Int)=x:=by simp;omega
 rw[this]
def Wm{x:Int}(h:ptI x=true):0<=x/\x<=1114111:=by
 cases x with
 | negSucc m=>cases h
 | ofNat m=>
  have:W8 m=true:=h;unfold W8 at this;simp only[p5,y9] at this;grind
def Be8(z t:Bool)(P:List Int)(A:P.length<=256):∀(r i n:Nat) (out:By),i+r=P.length->r<n->out.length+r<=1000->
  ((P.drop i).all ptI=true->∀(R:Type) (a:LL->Option R) (b:Kaj R),V9 LF n z t (Bz P) (P.length:Int) (i:Int) (out.map F1) a b=b z t (Bz P) ((out++Y1 (P.drop i)).map F1))/\
  ((P.drop i).all ptI=false->∃l,∀(R:Type) (a:LL->Option R) (b:Kaj R),V9 LF n z t (Bz P) (P.length:Int) (i:Int) (out.map F1) a b=a l):=by
 intro r
 induction r with
 | zero=>
  intro i n out u v w;rcases n with _|n;omega
  rw[o0 (by omega)];refine⟨λ_ R a b=>?_,λh=>(by cases h)⟩;rw[V9];rw[A7];simp[Y1]
 | succ r q=>
  intro i n out u v w;rcases n with _|n;omega
  have j:=A89 P i (by omega);have ok:=Ac3 (l:=P) (i:=i) (by omega);rw[Ao4 P i (by omega)];generalize P.getD i 0=x at *;have p:A1 ((i:Int)+1)=((i+1:Nat):Int):=by rw[A6];rfl
  cases f:ptI x with
  | false=>
   refine⟨λh=>?_,λ_=>⟨out.map F1,λR a b=>?_⟩⟩
   ·rw[ac3,f] at h;cases h
   ·rw[V9];rw[A8,W6,H4,c9,ok];simp only[aa,vl,j,f,j4]
  | true=>
   obtain⟨y,B⟩:=Wm f;rw[ac3,f,ad0];by_cases c:x<128
   ·have d:Y1 (x::P.drop (i+1))=aa0 x.toNat::Y1 (P.drop (i+1)):=by
     unfold Y1;rw[List.filter_cons_of_pos (by simpa using c)];rfl
    have g:out.map F1++[[SV.int .u8 (wu8 x)]]=(out++[aa0 x.toNat]).map F1:=by rw[C37 x y c];simp
    obtain⟨k,o⟩:=q (i+1) n (out++[aa0 x.toNat]) (by omega) (by omega) (by simp;omega);have step:∀(R:Type) (a:LL->Option R) (b:Kaj R),V9 LF (n+1) z t (Bz P) (P.length:Int) (i:Int) (out.map F1) a b=V9 LF n z t (Bz P) (P.length:Int) ((i+1:Nat):Int) ((out++[aa0 x.toNat]).map F1) a b:=by
     intro R a b;rw[V9];rw[A8,W6,H4,c9,ok];simp only[aa,vl,j,f,j5,ab,p];rw[C6 c,o9,F4 (by omega),g];rfl
    refine⟨λh R a b=>?_,λh=>?_⟩
    ·rw[step,k h,d];simp
    ·obtain⟨l,e⟩:=o h;exact⟨l,λR a b=>by rw[step];exact e R a b⟩
   ·have d:Y1 (x::P.drop (i+1))=Y1 (P.drop (i+1)):=by
     unfold Y1;rw[List.filter_cons_of_neg (by simpa using c)]
    obtain⟨k,o⟩:=q (i+1) n out (by omega) (by omega) (by omega);have step:∀(R:Type) (a:LL->Option R) (b:Kaj R),V9 LF (n+1) z t (Bz P) (P.length:Int) (i:Int) (out.map F1) a b=V9 LF n z t (Bz P) (P.length:Int) ((i+1:Nat):Int) (out.map F1) a b:=by
     intro R a b;rw[V9];rw[A8,W6,H4,c9,ok];simp only[aa,vl,j,f,j5,ab,p];rw[A7];rfl
    refine⟨λh R a b=>?_,λh=>?_⟩
    ·rw[step,k h,d]
    ·obtain⟨l,e⟩:=o h;exact⟨l,λR a b=>by rw[step];exact e R a b⟩
def B03{P:List Int}(h:P.all ptI=true):∃a:List Nat,P=a.map (λn:Nat=>(n:Int))/\a.all W8=true/\∀p∈a,p<=1114111:=by
 induction P with
 | nil=>exact⟨[],rfl,rfl,by simp⟩
 | cons x P c=>
  rw[ac3,p5] at h;obtain⟨a,rfl,b,e⟩:=c h.2;obtain⟨d,f⟩:=Wm h.1;obtain⟨m,rfl⟩:=z7 d;refine⟨m::a,rfl,?_,?_⟩
  ·rw[ac3,b,ae4];exact h.1
  grind
def KH(a:List Nat):Y1 (a.map λn:Nat=>(n:Int))=K3 a:=by
 unfold Y1 K3
 induction a with
 | nil=>rfl
 | cons p r b=>
  grind
def Vj(a:List Nat):(K3 a).length=a.countP (λp=>decide (p<128)):=by unfold K3;grind
def Be9(z t:Bool)(P:List Int):(Y3 P=([],3)/\∀(R:Type) (b:Unit->Option R) (f:By->Int->LL->Option R),At6 LF z t (Bz P) b f=b ())\/
  (∃l,∀(R:Type) (b:Unit->Option R) (f:By->Int->LL->Option R),At6 LF z t (Bz P) b f=f (Y3 P).1 ((Y3 P).2:Nat) l):=by
 have x:=D6;by_cases j:256<P.length
 ·refine .inl ⟨by unfold Y3;rw[ac j],λR b f=>?_⟩;unfold At6;rw[W6,A8];rfl
 ·right
  obtain⟨v,w⟩:=Be8 z t P (by omega) P.length 0 LF [] (by omega) (by omega) (by simp;omega);rw[p7] at v w;cases g:P.all ptI with
  | false=>
   obtain⟨l,e⟩:=w g;refine⟨l,λR b f=>?_⟩;unfold At6;rw[W6,A7,ab];refine j0 (e R _ _) ?_;unfold Y3;rw[ae j,g];rfl
  | true=>
   obtain⟨a,rfl,A,q⟩:=B03 g;rw[o9] at j;have m:Y3 (a.map λn:Nat=>(n:Int))=Eg a:=by
    unfold Y3;rw[o9,ae j,g];simp[af9]
   have k:=Vj a;have y:a.countP (λp=>decide (p<128))<=a.length:=aa5;have main:∀(o:By),o.length<=300->∀(R:Type) (b:LL->Option R),Hb LF LF z t (C4 a) ((K3 a).length:Int) 128 0 72 ((K3 a).length:Int) (o.map F1) b=b ((T1 a (K3 a).length 256 128 { delta:=0,bias:=72,done:=(K3 a).length,out:=o }).out.map F1):=by
    intro o B R b;exact Cx4 z t a (K3 a).length (by omega) (by omega) q 256 128 LF { delta:=0,bias:=72,done:=(K3 a).length,out:=o } k (by simp only;omega) (by omega) (by simp) (by simp) (by simp only;omega) (by omega) R b
   have d:Eg a=((T1 a (K3 a).length 256 128 { delta:=0,bias:=72,done:=(K3 a).length,out:=if (K3 a).isEmpty then [] else K3 a++[45] }).out,0):=by
    unfold Eg;grind
   refine⟨(Eg a).1.map F1,λR b f=>?_⟩;unfold At6;rw[W6,o9,A7,ab,m];have i:=v g R;rw[o9] at i;refine j0 (i _ _) ?_;rw[ad4,KH,Tf];simp only[vl,o9];by_cases c:K3 a=[]
   ·rw[c,x9,A7,ab];have r:=main [] (by simp) R;rw[c,x9] at r;rw[ah0] at r;refine j0 (r _) ?_;rw[c] at d;rw[d];simp only[List.isEmpty_nil,if_true,x9];rw[Z3,Ad];rfl
   ·have u:0<(K3 a).length:=ab2.2 c;rw[A8,aa,F4 (by omega),aa];have h:(K3 a).map F1++[[SV.int .u8 (45:Int)]]=(K3 a++[45]).map F1:=by rw[ah5];rfl
    rw[h];refine j0 (main (K3 a++[45]) (by simp;omega) R _) ?_;rw[d,ae (by simpa using c)];rw[Z3,Ad];rfl
def Dj3(z t:Bool)(p:LL)(b:p.all Pt=true):∃r H,At6 LF z t p (λ_=>rv (.tup [.s (.str []),.s (.int .i64 3)]) []) (λd e l=>rv (.tup [.s (.str d),.s (.int .i64 e)]) [.arr true 5 1 l])=rv r H/\
  r.stab [0,0] H = .tup [.s (.str (Y3 (p.map elI)).1),.s (.int .i64 ((Y3 (p.map elI)).2:Nat))]:=by
 obtain⟨P,rfl⟩:=By0 b;rw[Ao5];rcases Be9 z t P with⟨c,a⟩|⟨l,a⟩
 ·exact⟨_,_,a _ _ _,by rw[c];rfl⟩
 ·exact⟨_,_,a _ _ _,rfl⟩
section
variable {W R : Type} (L : Nat) (Q : G4) (Y : Yh W) (s : W) (k : Out -> St W -> Option R)
noncomputable abbrev Dw3:Code:=D4 ao2
noncomputable def CI(L:Nat):Cfg:=D0 L [173] (A4 [(3,[0,1,0,0])]) [(175,IV),(187,A24)] (A4 [(17,[2]),(16,[0,2,0,53]),(15,[0,2,0]),(14,[2]),(13,[0,2,0,1,45]),(12,[0,2,0,0,0]),(11,[2]),(10,[0,2,0,0,41]),(9,[0,2,0,0]),(8,[0,2,0,0]),(7,[2]),(6,[0,2,0,0,18]),(5,[0,2,0,0]),(4,[2]),(3,[0,2,0,11]),(2,[0,2,0]),(1,[0,2]),(0,[0])]) [187] (A4 [(0,[2]),(1,[0,2,0])]) (some [2]) [(190,Sm)] [] [190]
abbrev Kba(R:Type):=Int->By->Int->Int->Int->Bool->Bool->LL->Int->Option R
noncomputable def Gs(L n:Nat)(p:Int)(c:By)(j o d:Int)(g l:Bool)(i:LL)(a:Int)(h:Kba R):Option R:=match n with|0=>none|n+1=>cond (c==[]) (h 4 c j o d g l i a) (cond (inR 0 c.length) (cond (inR (bAt c (0:Int)) 256) (vl (F2 (u8n (bAt c (0:Int)))) λf=>cond (ltI f 0) (h 4 c j o d g l i a) (cond (L3 1 (c.length:Int) c.length) (vl (cut c 1 (c.length:Int)) λe=>vl (A1 (o+(A1 (f*p)))) λb=>cond (ltI 1099511627776 b) (h 19 e j b d g l i a) (cond (ltN a 1000000000000) (cond (ltN d 1000000) (cond (ltI f (N0 a d)) (h 0 e j b d g l i (ad3 a (36:Int))) (vl (A1 ((36:Int)-(N0 a d))) λm=>cond (ltI 1099511627776 (A1 (p*m))) (h 19 e j b d g l i (ad3 a (36:Int))) (Gs L n (A1 (p*m)) e j b d g l i (ad3 a (36:Int)) h))) none) none)) none)) none) none)
def A80(n w0 g e f b c h d a):E0 4 ((CI L).keep 3) (bd (CI L) Q Y (cd [1,1,1,0,0] Dw3)) n ⟨gp [(0,.ptr 0 0 0),(2,.fnr (ad7 190) [] [.ptr 3 0 0,.ptr 2 0 0]),(0,pI w0)] 54,[.box [pS g,.fl 1,pI e,pI f,pI b,pB c],.arr h 3 1 d,.box [pI b],.box [pI a]],s⟩ k =
 Gs L n w0 g e f b c h d a (λn0 g e f b c h d a=>k .ret ⟨gp [(2,pI n0)] 56,[.box [pS g,.fl 1,pI e,pI f,pI b,pB c],.arr h 3 1 d,.box [pI b],.box [pI a]],s⟩):=by
 induction n generalizing w0 g e f b c h d a with
 | zero=>rfl
 | succ n i=>rw[Gs];simp only[<-i];kernel_rfl
noncomputable def Dx5(L:Nat)(g:By)(n i b:Int)(q z:Bool)(l:LL)(p:Kba R):Option R:=Gs L L 1 g n i b q z l 0 (λj o m d e a h c f=>p j o m d e a h c f)
def Dc5(d:Nat)(rest n i b st z l):evC (CI L) (d+1) W Y 173 [.ptr 0 0 0] [.box [pS rest,.fl 1,pI n,pI i,pI b,pB st],.arr z 3 1 l] s=Dx5 L rest n i b st z l (λj m g h c e o f a=>some (pI j,[.box [pS m,.fl 1,pI g,pI h,pI c,pB e],.arr o 3 1 f,.box [pI c],.box [pI a]],s)):=by refine(evE (fn:=ao2) (by kernel_rfl)).trans ?_;generalize evC (CI L) d=Q;unfold Dx5;exact(j0 (by kernel_rfl) ((A80 L Q Y s (F0 0 (G1 (CI L) ao2)) L 1 rest n i b st z l 0).trans (by kernel_rfl)))
noncomputable def XW(L:Nat):Cfg:=D0 L [154] (A4 []) [(157,Qk),(155,Ql)] (A4 [(16,[2]),(15,[]),(14,[0]),(13,[2]),(12,[0,67]),(11,[2]),(10,[0,4,60]),(9,[0,4]),(8,[0,4]),(7,[0,4]),(6,[0,4]),(5,[0,2,1]),(4,[2]),(3,[0,2,0,8]),(2,[0,2,0]),(1,[0,2]),(0,[0])]) [157,155] (A4 []) (some [2]) [(173,UV),(174,XD)] [] [173,174]
abbrev Kcg(R:Type):=Int->By->Int->Int->Int->Bool->Bool->LL->Option R
noncomputable def Bw9(L:Nat)(a:By)(n i b:Int)(m z:Bool)(l:LL)(j:Kcg R):Option R:=cond (A2 a.length) (cond (ltN b 1000000) (cond (ltN i 1099511627777) (cond ((MY b a i)!=0) (j (MY b a i) (NA b a i) n (Wk b a i) b m z l) (vl (A1 ((l.length:Int)+1)) λc=>vl (A1 ((Wk b a i)-i)) λh=>cond (ltN h 1152921504606846976) (cond (ltN c 1000000) (cond (ltI 0 c) (vl (↑(R4 (j6 h) (j6 c) (not m)):Int) λf=>cond (c !=0) (vl (A1 (ah9 (Wk b a i) c)) λd=>cond (c !=0) (vl (aj3 (Wk b a i) c) λe=>cond (not (ptI (A1 (n+d)))) (j 2 (NA b a i) (A1 (n+d)) e f true z l) (cond (ltI 256 c) (j 3 (NA b a i) (A1 (n+d)) e f true z l) (cond (ltN e (Nat.add l.length 1)) (cond (s9 l.length 100000) (vl (Oc l (j6 e) (A1 (n+d))) λg=>j 0 (NA b a i) (A1 (n+d)) (A1 (e+1)) f true z g) none) none))) none) none) none) none) none)) none) none) none
def Cr7(d:Nat)(rest n i b st z l):evC (XW L) (d+1) W Y 154 [.ptr 0 0 0] [.box [pS rest,.fl 1,pI n,pI i,pI b,pB st],.arr z 3 1 l] s=Bw9 L rest n i b st z l (λh j e f g a m c=>some (pI h,[.box [pS j,.fl 1,pI e,pI f,pI g,pB a],.arr m 3 1 c],s)):=by refine(evE (fn:=Tryz.f154) (by kernel_rfl)).trans ?_;generalize evC (XW L) d=Q;unfold Bw9;kernel_rfl
noncomputable abbrev Ve:Code:=D4 ai3
noncomputable def Bf(L:Nat):Cfg:=D0 L [129] (A4 [(20,[2,0,1]),(13,[0,1,0,1,0,22,0]),(4,[0,1,0,9,0])]) [(111,GQ)] (A4 [(24,[2,0]),(23,[2,0]),(22,[5,2,59]),(21,[5,2]),(20,[5,58]),(19,[2,0]),(18,[5,53]),(17,[5]),(16,[0,4,0,22,0]),(15,[0,4,0,22,0]),(14,[0,4,0,0,21,0]),(13,[0,4,0,22,0,0]),(12,[0,4,0,22,0]),(11,[0,4,0,21]),(10,[0,4,0]),(9,[0,4]),(8,[0,12,0]),(7,[2,0]),(6,[0,12,0,5]),(5,[0,3,8,0]),(4,[0,12,0,0]),(3,[0,12,0]),(2,[2,0]),(1,[0,10]),(0,[0])]) [111] (A4 [(4,[5]),(5,[5]),(2,[0,4,0]),(3,[0,4,0,22,0]),(0,[0]),(1,[0,12,0])]) (some [2,0]) [(154,GP)] [] [154] (nt:=[(163,1,3,1)])
noncomputable def Ol(L n:Nat)(b:By)(e a:Int)(c:Unit->Option R)(d:By->Option R):Option R:=match n with|0=>none|n+1=>cond (ltI a e) (cond (inR a b.length) (cond (not (ltI (bAt b a) (128:Int))) (c ()) (Ol L n b e (A1 (a+1)) c d)) none) (d b)
def Be6(n a n1 n2):E0 0 ((Bf L).keep 4) (bd (Bf L) Q Y (cd [1,1,0,1,0,0] Ve)) n ⟨gp [(0,pS a),(12,pI n1),(0,pI n2)] 59,[],s⟩ k =
 Ol L n a n1 n2 (λ_=>k .ret ⟨gp [(2,.fl 0),(0,pI (4:Int))] 70,[.arr true 3 1 []],s⟩) (λa=>k (.exit 0) ⟨gp [(0,pS a)] 73,[],s⟩):=by
 induction n generalizing a n1 n2 with
 | zero=>rfl
 | succ n b=>rw[Ol];simp only[<-b];kernel_rfl
noncomputable def Kj(L n:Nat)(c:By)(a b:Int)(d:LL)(e:By->Int->LL->Option R):Option R:=match n with|0=>none|n+1=>cond (ltI b a) (cond (inR b c.length) (cond (G0 (d.length+1)) (Kj L n c a (A1 (b+1)) (d++[[(SV.int .i64 (A1 (bAt c b)))]]) e) none) none) (e c a d)
def Be7(n b a n2 l3):E0 2 ((Bf L).keep 13) (bd (Bf L) Q Y (cd [1,1,1,1,0,1,1,0,0,1,0,0] Ve)) n ⟨gp [(0,pS b),(4,.ptr 1 0 0),(0,pI a),(22,pI a),(0,pI n2)] 43,[.arr true 3 1 l3,.box [pS b,.fl 0,pI (128:Int),pI (0:Int),pI (72:Int),pB false]],s⟩ k =
 Kj L n b a n2 l3 (λb a d=>k (.exit 2) ⟨gp [(0,pS b),(4,.ptr 1 0 0),(0,pI a)] 67,[.arr true 3 1 d,.box [pS b,.fl 0,pI (128:Int),pI (0:Int),pI (72:Int),pB false]],s⟩):=by
 induction n generalizing b a n2 l3 with
 | zero=>rfl
 | succ n c=>rw[Kj];simp only[<-c];kernel_rfl
abbrev Kad(R:Type):=Int->LL->By->Int->Int->Int->Bool->Option R
abbrev Kaf(R:Type):=LL->By->Int->Int->Int->Bool->Option R
noncomputable def U3(L n:Nat)(b:LL)(a:By)(c d e:Int)(f:Bool)(i:Kad R)(j:Kaf R):Option R:=match n with|0=>none|n+1=>cond (not (a==[])) (cond (A2 a.length) (cond (ltN e 1000000) (cond (ltN d 1099511627777) (cond (ltN c 1152921504606846976) (cond (s9 b.length 100000) (vl ((G6 (DS.mk a c d e f b))).1 λh=>vl (DS.l ((G6 (DS.mk a c d e f b))).2) λg=>cond (h !=0) (i h g (DS.rest ((G6 (DS.mk a c d e f b))).2) (DS.n ((G6 (DS.mk a c d e f b))).2) (DS.i ((G6 (DS.mk a c d e f b))).2) (DS.b ((G6 (DS.mk a c d e f b))).2) (DS.st ((G6 (DS.mk a c d e f b))).2)) (U3 L n g (DS.rest ((G6 (DS.mk a c d e f b))).2) (DS.n ((G6 (DS.mk a c d e f b))).2) (DS.i ((G6 (DS.mk a c d e f b))).2) (DS.b ((G6 (DS.mk a c d e f b))).2) (DS.st ((G6 (DS.mk a c d e f b))).2) i j)) none) none) none) none) none) (j b a c d e f)
def NK(n d f e a b c):E0 2 ((Bf L).keep 20) (bd (Bf L) Q Y (cd [1,1,1,1,1,1,0,0,0] Ve)) n ⟨gp [(5,.ptr 1 0 0)] 68,[.arr true 3 1 d,.box [pS f,.fl 0,pI e,pI a,pI b,pB c]],s⟩ k =
 U3 L n d f e a b c (λn0 i l a b j g=>k .ret ⟨gp [(2,.fl 2),(0,pI n0)] 70,[.arr true 3 1 i,.box [pS l,.fl 0,pI a,pI b,pI j,pB g],.arr true 3 1 []],s⟩) (λd f e a b c=>k (.exit 4) ⟨gp [(5,.ptr 1 0 0)] 68,[.arr true 3 1 d,.box [pS f,.fl 0,pI e,pI a,pI b,pB c]],s⟩):=by
 induction n generalizing d f e a b c with
 | zero=>rfl
 | succ n h=>rw[U3];simp only[<-h];kernel_rfl
noncomputable def Zl(L:Nat)(M:By)(N:Int->Option R)(K:Kad R)(O:Kaf R):Option R:=cond (ltI 1024 (M.length:Int)) (N 3) (Ol L L M (M.length:Int) 0 (λ_=>N 4) (λa=>cond (A2 a.length) (vl (N1 (u8n (45:Int)) a) λC=>cond (ltI 0 C) (Kj L L a C 0 [] (λb h c=>vl (A1 (h+1)) λD=>cond (L3 D (b.length:Int) b.length) (vl (cut b D (b.length:Int)) λJ=>cond (ltI 256 (c.length:Int)) (K 3 c J 128 0 72 false) (U3 L L c J 128 0 72 false (λn i F o p q d=>K n i F o p q d) (λj G r t u e=>O j G r t u e))) none)) (U3 L L [] a 128 0 72 false (λv l H w x y f=>K v l H w x y f) (λm I z A B g=>O m I z A B g))) none))
def Di8(d:Nat)(s0):evC (Bf L) (d+1) W Y 129 [pS s0] [] s=Zl L s0 (λg=>some (.tup [.fl 0,pI g],[.arr true 3 1 []],s)) (λg o v e f r m=>some (.tup [.fl 2,pI g],[.arr true 3 1 o,.box [pS v,.fl 0,pI e,pI f,pI r,pB m],.arr true 3 1 []],s)) (λn u q e f l=>some (.tup [.fl 0,pI (0:Int)],[.arr true 3 1 n,.box [pS u,.fl 0,pI q,pI e,pI f,pB l]],s)):=by refine(evE (fn:=ai3) (by kernel_rfl)).trans ?_;generalize evC (Bf L) d=Q;unfold Zl;exact let i:=(F0 4 (F5 (Bf L) Q Y (cd [1,1,1,1,1,1,1] Ve) (G1 (Bf L) ai3)));(j0 (by kernel_rfl) (A0 rfl ((Be6 L Q Y s (F0 0 (F5 (Bf L) Q Y (cd [1,1,1] Ve) (G1 (Bf L) ai3))) L s0 (s0.length:Int) 0).trans (congr (congr rfl (by kernel_rfl)) (fx1 λa=>(j0 (by kernel_rfl) (A0 (A5 λc=>(A0 ((Be7 L Q Y s (F0 2 (F5 (Bf L) Q Y (cd [1,1,1,1,0,1,1,0,1] Ve) (F5 (Bf L) Q Y (cd [1,1,1,1,1] Ve) (G1 (Bf L) ai3)))) L a c 0 []).trans (congr rfl (fx3 λt j b=>(j0 (by kernel_rfl) (A5 λp=>(A0 (A5 λh=>(A0 rfl ((NK L Q Y s i L b h 128 0 72 false).trans (by kernel_rfl)))) rfl)))))) ((NK L Q Y s i L [] a 128 0 72 false).trans (by kernel_rfl)))) rfl)))))))
noncomputable abbrev Al5:Code:=D4 an7
noncomputable def It(L:Nat):Cfg:=D0 L [141] (A4 [(2,[0,0,2,0])]) [] (A4 [(6,[4]),(3,[0,0,3]),(5,[4]),(4,[0,0,3,11]),(2,[0,0,3,4]),(1,[0,0,3]),(0,[0,0])]) [] (A4 [(0,[]),(1,[0,0,3])]) (some [4]) [] [] []
noncomputable def Ej(L n:Nat)(b:By)(c a:Int)(d:Int->Option R)(e:Unit->Option R):Option R:=match n with|0=>none|n+1=>cond (not (ltI a 0)) (cond (inR a b.length) (cond ((bAt b a)==c) (d a) (Ej L n b c (A1 (a-1)) d e)) none) (e ())
def ZZ(n s0 c1 i2):E0 0 ((It L).keep 2) (bd (It L) Q Y (cd [1,0,1,0,0] Al5)) n ⟨gp [(0,pS s0),(0,p8 c1),(3,pI i2)] 13,[],s⟩ k =
 Ej L n s0 c1 i2 (λn0=>k .ret ⟨gp [(4,pI n0)] 14,[],s⟩) (λ_=>k (.exit 0) ⟨gp [] 19,[],s⟩):=by
 induction n generalizing s0 c1 i2 with
 | zero=>rfl
 | succ n a=>rw[Ej];simp only[<-a];kernel_rfl
noncomputable def ZY(L:Nat)(d:By)(e:Int)(c:Int->Option R):Option R:=vl (A1 ((d.length:Int)-1)) λa=>Ej L L d e a (λb=>c b) (λ_=>c (-1))
def B87(d:Nat)(s0 c1):evC (It L) (d+1) W Y 141 [pS s0,p8 c1] [] s=ZY L s0 c1 (λb=>some (pI b,[],s)):=by refine(evE (fn:=an7) (by kernel_rfl)).trans ?_;generalize evC (It L) d=Q;unfold ZY;exact(j0 (by kernel_rfl) (A5 λa=>((ZZ L Q Y s (F0 0 (F5 (It L) Q Y (cd [1,1] Al5) (G1 (It L) an7))) L s0 c1 a).trans (by kernel_rfl))))
noncomputable def YB(L:Nat):Cfg:=D0 L [111] (A4 []) [(141,Aj8)] (A4 [(1,[4]),(0,[0,0])]) [141] (A4 []) (some [4]) [] [] []
noncomputable def By6(L:Nat)(b:By)(a:Int)(c:Int->Option R):Option R:=cond (A2 b.length) (cond (inR a 256) (c (N1 (u8n a) b)) none) none
def Cu6(d:Nat)(s0 c1):evC (YB L) (d+1) W Y 111 [pS s0,p8 c1] [] s=By6 L s0 c1 (λa=>some (pI a,[],s)):=by refine(evE (fn:=Tryz.f111) (by kernel_rfl)).trans ?_;generalize evC (YB L) d=Q;unfold By6;kernel_rfl
end
def Hm(c:UInt8):-1<=F2 c/\F2 c<=35:=by unfold F2 Qa;grind
def Pj(k b:Int):1<=N0 k b/\N0 k b<=26:=by unfold N0;omega
def Ep{x w:Int}(b:0<=x)(c:x<=35)(a:0<=w)(w1:w<=1099511627776):0<=x*w/\x*w<=38482906972160:=by refine⟨am3 b a,?_⟩;have:=Int.mul_le_mul c w1 a (show(0:Int)<=35 by omega);omega
def Ya(b:Int):∀(s:By) (i w k:Int),0<=i->0<=w->w<=1099511627776->(V2 b s i w k).1=0->i<=(V2 b s i w k).2.2/\(V2 b s i w k).2.2<=1099511627776/\(V2 b s i w k).2.1.length<s.length
 | [],i,w,k,_,_,_,h=>by simp[V2] at h
 | c::r,i,w,k,m,d,a,h=>by
  have l:=Hm c;have o:=Pj k b;unfold V2 at h ⊢;split at h
  ·simp at h
  ·rename_i e;rw[ae e];have n:=Ep (by omega) l.2 d a;split at h
   ·simp at h
   ·rename_i f;rw[ae f];split at h
    ·grind
    ·rename_i g;rw[ae g];split at h
     ·omega
     ·rename_i j;rw[ae j];obtain⟨p,q,t⟩:=Ya b r (i+F2 c*w) (w*(36-N0 k b)) (k+36) (by omega) (am3 d (by omega)) (by omega) h;grind
def B62(f:Int)(b:Int)(g z:Bool)(l:LL)(M:0<=b)(N:b<1000000):∀(s:By) (n:Nat) (i w k:Int),s.length<n->s.length<=1000000000->0<=i->i<=1099511627776->0<=w->w<=1099511627776->0<=k->k+36*s.length<=100000000000->
  ∃H,∀(R:Type) (a:Kba R),Gs LF n w s f i b g z l k a=a (V2 b s i w k).1 (V2 b s i w k).2.1 f (V2 b s i w k).2.2 b g z l H:=by
 intro s
 induction s with
 | nil=>
  intro n i w k K L O B G h P o;rcases n with _|n;omega
  refine⟨k,λR a=>?_⟩;rw[Gs];rfl
 | cons c r T=>
  intro n i w k K L O B G h P o;rcases n with _|n;omega
  rw[j2] at K L o;have S:=Hm c;have V:=Pj k b;have Q:u8n (bAt (c::r) 0)=c:=by unfold u8n bAt;simp
  have C:inR (bAt (c::r) 0) 256=true:=by rw[Iq];have:=c.toNat_lt;exact K6 (by omega) (by simp;omega)
  have j:cut (c::r) 1 ((c::r).length:Int)=r:=by
   have:=Fc (c::r) 1 (c::r).length;grind
  have F:((c::r)==([]:By))=false:=rfl;have start:∀(R:Type) (a:Kba R),Gs LF (n+1) w (c::r) f i b g z l k a =
    cond (ltI (F2 c) 0) (a 4 (c::r) f i b g z l k)
     (vl (A1 (i+(A1 (F2 c*w)))) λd=>cond (ltI 1099511627776 d) (a 19 r f d b g z l k)
      (cond (ltI (F2 c) (N0 k b)) (a 0 r f d b g z l (ad3 k 36))
       (vl (A1 (36-(N0 k b))) λp=>cond (ltI 1099511627776 (A1 (w*p))) (a 19 r f d b g z l (ad3 k 36)) (Gs LF n (A1 (w*p)) r f d b g z l (ad3 k 36) a)))):=by
   intro R a;rw[Gs];rw[F,C,K6 (by omega) (by rw[j2];omega),Y7 (by omega) (by rw[j2];omega) (by omega),j,Q,N4,N4];rfl
  unfold V2;by_cases u:F2 c<0
  ·rw[ac u];refine⟨k,λR a=>?_⟩;rw[start,C6 u];rfl
  ·rw[ae u];have U:=Ep (by omega) S.2 G h;have q:A1 (F2 c*w)=F2 c*w:=A6;have t:A1 (i+F2 c*w)=i+F2 c*w:=A6;by_cases v:1099511627776<i+F2 c*w
   ·rw[ac v];refine⟨k,λR a=>?_⟩;rw[start,A7,q,t];simp only[vl,ab];rw[C6 v];rfl
   ·rw[ae v];by_cases y:F2 c<N0 k b
    ·rw[ac y];refine⟨ad3 k 36,λR a=>?_⟩;rw[start,A7,q,t];simp only[vl,ab];rw[A7,C6 y];rfl
    ·rw[ae y];have I:A1 (36-N0 k b)=36-N0 k b:=A6;have D:=Ep (x:=36-N0 k b) (by omega) (by omega) G h;rw[Int.mul_comm] at D;have J:A1 (w*(36-N0 k b))=w*(36-N0 k b):=A6;by_cases A:1099511627776<w*(36-N0 k b)
     ·rw[ac A];refine⟨ad3 k 36,λR a=>?_⟩;rw[start,A7,q,t];simp only[vl,ab];rw[A7,A7,I,J,C6 A];rfl
     ·rw[ae A];obtain⟨H,e⟩:=T n (i+F2 c*w) (w*(36-N0 k b)) (k+36) (by omega) (by omega) (by omega) (by omega) (by omega) (by omega) (by omega) (by omega);refine⟨H,λR a=>?_⟩;rw[start,A7,q,t];simp only[vl,ab];rw[A7,A7,I,J,A7];exact e R a
def B63(a:By)(n i b:Int)(f z:Bool)(l:LL)(h:A2 a.length=true)(j:ltN b 1000000=true)(k:ltN i 1099511627777=true) :
  ∃c,∀(R:Type) (d:Kba R),Dx5 LF a n i b f z l d=d (MY b a i) (NA b a i) n (Wk b a i) b f z l c:=by
 have q:=M5 h;obtain⟨g,p⟩:=E7.1 j;obtain⟨o,r⟩:=E7.1 k;have m:=D6;obtain⟨c,e⟩:=B62 n b f z l g (by omega) a LF i 1 0 (by omega) (by omega) o (by omega) (by omega) (by omega) (by omega) (by omega);exact⟨c,λR d=>e R _⟩
def A81{j:Kcg R}(a:By)(n i b:Int)(d z:Bool)(l:LL)(y:A2 a.length=true)(C:ltN b 1000000=true)(g:ltN i 1099511627777=true)(D:ltN n 1152921504606846976=true)(h:s9 l.length 100000=true) :
  Bw9 LF a n i b d z l j=j (G6 ⟨a,n,i,b,d,l⟩).1 (G6 ⟨a,n,i,b,d,l⟩).2.rest (G6 ⟨a,n,i,b,d,l⟩).2.n (G6 ⟨a,n,i,b,d,l⟩).2.i (G6 ⟨a,n,i,b,d,l⟩).2.b (G6 ⟨a,n,i,b,d,l⟩).2.st z (G6 ⟨a,n,i,b,d,l⟩).2.l:=by
 obtain⟨F,P⟩:=E7.1 g;obtain⟨n0,Q⟩:=E7.1 D;have M:=ah8 h;unfold Bw9 G6;rw[y,C,g];simp only[aa];by_cases e:MY b a i=0
 ·rw[ac e,e];obtain⟨G,I,S⟩:=Ya b a i 1 0 F (by omega) (by omega) e;have H:i<=Wk b a i:=G;have J:Wk b a i<=1099511627776:=I;have o:A1 ((l.length:Int)+1)=(l.length:Int)+1:=A6;simp only[vl];rw[o];generalize Wk b a i=x at *;have f:0<=x:=by omega
  obtain⟨X,rfl⟩:=z7 f;have p:A1 ((X:Int)-i)=(X:Int)-i:=A6;have u:((l.length:Int)+1)=((l.length+1:Nat):Int):=rfl;have v:ah9 (X:Int) ((l.length+1:Nat):Int)=((X / (l.length+1):Nat):Int):=N6 _ _;have w:aj3 (X:Int) ((l.length+1:Nat):Int)=((X % (l.length+1):Nat):Int):=Dm _ _;have L:=ah6 X (l.length+1);have N:=am6 X (show 0<l.length+1 by omega);rw[p,u,v,w];generalize hA:X / (l.length+1)=A at *;generalize K:X % (l.length+1)=B at *;have q:A1 (A:Int)=(A:Int):=A6;have r:A1 (n+(A:Int))=n+(A:Int):=A6;have t:A1 ((B:Int)+1)=(B:Int)+1:=A6;have k:((0:Int)!=0)=false:=rfl;have m:((((l.length+1:Nat):Int))!=0)=true:=by rw[bne_iff_ne];omega
  rw[q,r,t,k,N4,N4,A8,m];simp only[aa,ab];cases O:ptI (n+(A:Int)) with
  | false=>simp
  | true=>
   simp only[j5,ab,if_true];by_cases c:(256:Int)<((l.length+1:Nat):Int)
   ·rw[ac c,C6 c];rfl
   ·rw[ae c,A7,ab,Uh (by omega) (by show(B:Int)<((l.length+1:Nat):Int);omega),h];rfl
 ·rw[ae e,show(MY b a i !=0)=true from bne_iff_ne.2 e];rfl
def MI(c:UInt8):∀l:By,-1<=N1 c l
 | []=>by simp[N1]
 | b::r=>by
  have:=MI c r;unfold N1;omega
def MJ(c b:UInt8):∀l:By,N1 c (l++[b])=if b=c then (l.length:Int) else N1 c l
 | []=>by
  by_cases h:b=c<;>simp[N1,h]
 | a::l=>by
  have d:=MJ c b l;rw[List.cons_append,N1,d];by_cases h:b=c
  ·grind
  ·rw[ae h,ae h];rfl
def Aq7{b:Int->Option R}{d:Unit->Option R}(s:By)(c:UInt8)(l:s.length<=1000000000):∀(m n:Nat),m<=s.length->m<n->
  Ej LF n s (c.toNat:Int) ((m:Int)-1) b d=if N1 c (s.take m)<0 then d () else b (N1 c (s.take m)):=by
 intro m
 induction m with
 | zero=>
  intro n g i;rcases n with _|n;omega
  rw[Ej];rw[A8];rfl
 | succ m k=>
  intro n g i;rcases n with _|n;omega
  rw[Ej];have e0:(((m+1:Nat):Int)-1)=(m:Int):=by omega
  have e:A1 ((m:Int)-1)=(m:Int)-1:=A6;have j:s.take (m+1)=s.take m++[s.getD m 0]:=by
   rw[List.take_add_one,j8,x7 (by omega)];rfl
  rw[e0,e,A7,H4,F6,j,MJ];simp only[j4,aa];by_cases h:s.getD m 0=c
  ·rw[ac h,h,beq_self_eq_true,aa,x3,Nat.min_eq_left (by omega),I9]
  ·have a:(((s.getD m 0).toNat:Int)==(c.toNat:Int))=false:=by
    rw[beq_eq_false_iff_ne];intro f;exact h (UInt8.toNat.inj (Int.ofNat.inj f))
   rw[ae h,a,ab];exact k n (by omega) (by omega)
def C39{c:Int}(h:inR c 256=true):c=((u8n c).toNat:Int):=by simp only[inR,p5,af] at h;unfold u8n;simp;omega
def Aq8{a:Int->Option R}(s:By)(c:Int)(e:A2 s.length=true)(f:inR c 256=true):ZY LF s c a=a (N1 (u8n c) s):=by
 have j:=M5 e;have g:=D6;have i:=C39 f;generalize u8n c=d at *;subst i;unfold ZY;have b:A1 ((s.length:Int)-1)=(s.length:Int)-1:=A6;simp only[vl];rw[b];refine j0 (Aq7 s d (by omega) s.length LF (by omega) (by omega)) ?_;rw[ak9];have:=MI d s;by_cases h:N1 d s<0
 ·rw[ac h,show N1 d s=-1 by omega]
 ·rw[ae h]
def Bb3{a:Int->Option R}(s:By)(c:Int)(b:A2 s.length=true)(d:inR c 256=true):By6 LF s c a=a (N1 (u8n c) s):=by unfold By6;grind
def Rk:∀s:By,(45∈s->N1 45 s=(I7 s:Int))/\(45∉s->N1 45 s=-1/\I7 s=0)
 | []=>⟨λh=>(by cases h),λ_=>⟨rfl,rfl⟩⟩
 | b::r=>by
  obtain⟨a,c⟩:=Rk r;unfold N1 I7;grind
def Az7{c:UInt8}(h:Qa c=none):F2 c=-1:=by unfold F2;rw[h]
def Az8{c:UInt8}{x:Nat}(h:Qa c=some x):F2 c=x:=by unfold F2;rw[h]
def Yb(b:Nat):∀(s:By) (i w k:Nat),V2 (b:Int) s (i:Int) (w:Int) ((36*k:Nat):Int)=((((E9 b s i w k).2.2:Nat):Int),(V2 (b:Int) s (i:Int) (w:Int) ((36*k:Nat):Int)).2)/\
  ((E9 b s i w k).2.2=0->(V2 (b:Int) s (i:Int) (w:Int) ((36*k:Nat):Int)).2=((E9 b s i w k).2.1,((E9 b s i w k).1:Int)))
 | [],i,w,k=>⟨rfl,λh=>by simp[E9] at h⟩
 | c::r,i,w,k=>by
  unfold V2 E9;cases d:Qa c with
  | none=>
   rw[Az7 d,U9];grind
  | some x=>
   rw[Az8 d,I9,AP];have e:(i:Int)+(x:Int)*(w:Int)=((i+x*w:Nat):Int):=by push_cast;rfl
   have n:=X8 k b;have f:(w:Int)*(36-(thr k b:Int))=((w*(36-thr k b):Nat):Int):=by grind
   have g:((36*k:Nat):Int)+36=((36*(k+1):Nat):Int):=by omega
   have a:X3=1099511627776:=by decide
   rw[e,f,g,a];simp only;generalize i+x*w=I;generalize w*(36-thr k b)=W;by_cases j:1099511627776<I
   ·grind
   ·rw[I9,ae j];by_cases l:x<thr k b
    ·grind
    ·rw[I9,ae l];by_cases m:1099511627776<W
     ·grind
     ·rw[I9,ae m];exact Yb b r I W (k+1)
def Ct7(l:List Nat)(i n:Nat):Oc (C4 l) i (n:Int)=C4 (W7 l i n):=by unfold Oc W7 C4;simp_all
def Ac0(b:Nat)(s:By)(i:Nat):MY (b:Int) s (i:Int)=((E9 b s i 1 0).2.2:Int)/\((E9 b s i 1 0).2.2=0->NA (b:Int) s (i:Int)=(E9 b s i 1 0).2.1/\Wk (b:Int) s (i:Int)=((E9 b s i 1 0).1:Int)):=by obtain⟨a,c⟩:=Yb b s i 1 0;have e:V2 (b:Int) s (i:Int) 1 0=V2 (b:Int) s (i:Int) ((1:Nat):Int) ((36*0:Nat):Int):=rfl;unfold MY NA Wk;rw[e];refine⟨by rw[a],λh=>?_⟩;have:=c h;rw[this];exact⟨rfl,rfl⟩
def D65(s:By)(a:List Nat)(n i b:Nat)(c:Bool)(h:(E9 b s i 1 0).2.2=0)(q:i<=(E9 b s i 1 0).1)(o:W8 (n+(E9 b s i 1 0).1 / (a.length+1))=true)(p:¬ 256<a.length+1) :
  G6 ⟨s,(n:Int),(i:Int),(b:Int),c,C4 a⟩=(0,⟨(E9 b s i 1 0).2.1,((n+(E9 b s i 1 0).1 / (a.length+1):Nat):Int),(((E9 b s i 1 0).1 % (a.length+1)+1:Nat):Int),((R4 ((E9 b s i 1 0).1-i) (a.length+1) (!c):Nat):Int),true,C4 (W7 a ((E9 b s i 1 0).1 % (a.length+1)) (n+(E9 b s i 1 0).1 / (a.length+1)))⟩):=by
 obtain⟨j,k⟩:=Ac0 b s i;obtain⟨l,m⟩:=k h;unfold G6;simp only;rw[j,h,ac (show((0:Nat):Int)=0 from rfl),l,m,E2];generalize (E9 b s i 1 0).1=X at *;have d:((a.length:Int)+1)=((a.length+1:Nat):Int):=rfl;have e:ah9 (X:Int) ((a.length+1:Nat):Int)=((X / (a.length+1):Nat):Int):=N6 _ _;have f:aj3 (X:Int) ((a.length+1:Nat):Int)=((X % (a.length+1):Nat):Int):=Dm _ _;have g:(n:Int)+((X / (a.length+1):Nat):Int)=((n+X / (a.length+1):Nat):Int):=rfl;rw[d,e,f,g,Om,o,ac rfl,I9,c9,Ct7,c9,show((X:Int)-(i:Int)).toNat=X-i by omega];rfl
def Dx6(s:By)(a:List Nat)(n i b:Nat)(f:Bool):((E9 b s i 1 0).2.2≠0->(G6 ⟨s,(n:Int),(i:Int),(b:Int),f,C4 a⟩).1=((E9 b s i 1 0).2.2:Int))/\
  ((E9 b s i 1 0).2.2=0->W8 (n+(E9 b s i 1 0).1 / (a.length+1))=false->(G6 ⟨s,(n:Int),(i:Int),(b:Int),f,C4 a⟩).1=2)/\
  ((E9 b s i 1 0).2.2=0->W8 (n+(E9 b s i 1 0).1 / (a.length+1))=true->256<a.length+1->(G6 ⟨s,(n:Int),(i:Int),(b:Int),f,C4 a⟩).1=3):=by
 obtain⟨c,l⟩:=Ac0 b s i;have g:(((C4 a).length:Int)+1)=((a.length+1:Nat):Int):=by rw[E2];rfl
 have j:∀X:Nat,ah9 (X:Int) ((a.length+1:Nat):Int)=((X / (a.length+1):Nat):Int):=λX=>N6 _ _
 have k:∀A:Nat,(n:Int)+(A:Int)=((n+A:Nat):Int):=λA=>rfl
 refine⟨λh=>?_,λh e=>?_,λh e o=>?_⟩
 ·unfold G6;simp only;rw[c,I9]
 ·obtain⟨m,d⟩:=l h;unfold G6;simp only;rw[c,h,ac (show((0:Nat):Int)=0 from rfl),d,g,j,k,Om,e,ae (by simp)]
 ·obtain⟨m,d⟩:=l h;unfold G6;simp only;rw[c,h,ac (show((0:Nat):Int)=0 from rfl),d,g,j,k,Om,e,ac rfl,U9]
def Ee(a:List Nat)(n i b:Nat)(f:Bool):J6 [] a n i b f=(a,0):=by rw[J6];rfl
def Ja{s:By}(c:s≠[])(a:List Nat)(n i b:Nat)(f:Bool)(h:(E9 b s i 1 0).2.2≠0):J6 s a n i b f=([],(E9 b s i 1 0).2.2):=by rw[J6,dif_neg c];grind
def Fo{s:By}(c:s≠[])(a:List Nat)(n i b:Nat)(f:Bool)(h:(E9 b s i 1 0).2.2=0):J6 s a n i b f =
  if W8 (n+(E9 b s i 1 0).1 / (a.length+1)) then (if 256<a.length+1 then ([],3) else J6 (E9 b s i 1 0).2.1 (W7 a ((E9 b s i 1 0).1 % (a.length+1)) (n+(E9 b s i 1 0).1 / (a.length+1))) (n+(E9 b s i 1 0).1 / (a.length+1)) ((E9 b s i 1 0).1 % (a.length+1)+1) (R4 ((E9 b s i 1 0).1-i) (a.length+1) f) false) else ([],2):=by
 rw[J6,dif_neg c];simp only;rw[dif_pos h]
def Co(l:List Nat)(i n:Nat):(W7 l i n).length=l.length+1:=by unfold W7;grind
def Cc4:∀(r:Nat) (s:By) (a:List Nat) (n i b f:Nat) (c:Bool),s.length<=r->r<f->s.length<=1000000->a.length<=256->n<=1114111->i<=1000->b<=500->
  ((J6 s a n i b (!c)).2=0->∃u t q p j,∀(R:Type) (d:Kad R) (g:Kaf R),U3 LF f (C4 a) s (n:Int) (i:Int) (b:Int) c d g=g (C4 (J6 s a n i b (!c)).1) u t q p j)/\
  ((J6 s a n i b (!c)).2≠0->(J6 s a n i b (!c)).1=[]/\∃l u t q p j,∀(R:Type) (d:Kad R) (g:Kaf R),U3 LF f (C4 a) s (n:Int) (i:Int) (b:Int) c d g=d ((J6 s a n i b (!c)).2:Nat) l u t q p j):=by
 intro r
 induction r with
 | zero=>
  intro s a n i b f c h K _ _ _ _ _;rcases f with _|f;omega
  have v:s=[]:=o5.1 (by omega);subst v;rw[Ee];refine⟨λ_=>⟨[],n,i,b,c,λR d g=>?_⟩,λh=>absurd rfl h⟩;rw[U3];rfl
 | succ r L=>
  intro s a n i b f c h K X Y Z h4 h5;rcases f with _|f;omega
  by_cases v:s=[]
  ·subst v;rw[Ee];refine⟨λ_=>⟨[],n,i,b,c,λR d g=>?_⟩,λh=>absurd rfl h⟩;rw[U3];rfl
  ·have start:∀(R:Type) (d:Kad R) (g:Kaf R),U3 LF (f+1) (C4 a) s (n:Int) (i:Int) (b:Int) c d g =
     cond ((G6 ⟨s,n,i,b,c,C4 a⟩).1 !=0) (d (G6 ⟨s,n,i,b,c,C4 a⟩).1 (G6 ⟨s,n,i,b,c,C4 a⟩).2.l (G6 ⟨s,n,i,b,c,C4 a⟩).2.rest (G6 ⟨s,n,i,b,c,C4 a⟩).2.n (G6 ⟨s,n,i,b,c,C4 a⟩).2.i (G6 ⟨s,n,i,b,c,C4 a⟩).2.b (G6 ⟨s,n,i,b,c,C4 a⟩).2.st)
      (U3 LF f (G6 ⟨s,n,i,b,c,C4 a⟩).2.l (G6 ⟨s,n,i,b,c,C4 a⟩).2.rest (G6 ⟨s,n,i,b,c,C4 a⟩).2.n (G6 ⟨s,n,i,b,c,C4 a⟩).2.i (G6 ⟨s,n,i,b,c,C4 a⟩).2.b (G6 ⟨s,n,i,b,c,C4 a⟩).2.st d g):=by
    intro R d g;rw[U3];rw[show(s==([]:By))=false from beq_eq_false_iff_ne.2 v,R0,N4,N4,N4,E2,ae3 (show a.length<=100000 by omega)];rfl
   obtain⟨G,H,I⟩:=Dx6 s a n i b c;have o:=D65 s a n i b c;generalize G6 ⟨s,n,i,b,c,C4 a⟩=D at *;by_cases k:(E9 b s i 1 0).2.2=0
   ·rw[Fo v a n i b (!c) k];obtain⟨M,N⟩:=Ac0 b s i;obtain⟨O,P⟩:=N k;have J:MY (b:Int) s (i:Int)=0:=by rw[M,k];rfl
    obtain⟨U,V,W⟩:=Ya b s i 1 0 (by omega) (by omega) (by omega) J;have A:(i:Int)<=Wk (b:Int) s (i:Int):=U;have B:Wk (b:Int) s (i:Int)<=1099511627776:=V;have C:(NA (b:Int) s (i:Int)).length<s.length:=W;rw[P] at A B;rw[O] at C;cases x:W8 (n+(E9 b s i 1 0).1 / (a.length+1)) with
    | false=>
     rw[ae (by simp)];refine⟨λh=>by simp at h,λ_=>⟨rfl,D.2.l,D.2.rest,D.2.n,D.2.i,D.2.b,D.2.st,λR d g=>?_⟩⟩
     ·rw[start,H k x];rfl
    | true=>
     rw[ac rfl];by_cases w:256<a.length+1
     ·rw[ac w];refine⟨λh=>by simp at h,λ_=>⟨rfl,D.2.l,D.2.rest,D.2.n,D.2.i,D.2.b,D.2.st,λR d g=>?_⟩⟩;rw[start,I k x w];rfl
     ·rw[ae w];have o:=o k (by omega) x w;have z:n+(E9 b s i 1 0).1 / (a.length+1)<=1114111:=by
       unfold W8 at x;simp_all
      have F:=am6 (E9 b s i 1 0).1 (show 0<a.length+1 by omega);have y:=Qp ((E9 b s i 1 0).1-i) (a.length+1) (!c) (by omega);have:=L (E9 b s i 1 0).2.1 (W7 a ((E9 b s i 1 0).1 % (a.length+1)) (n+(E9 b s i 1 0).1 / (a.length+1))) (n+(E9 b s i 1 0).1 / (a.length+1)) ((E9 b s i 1 0).1 % (a.length+1)+1) (R4 ((E9 b s i 1 0).1-i) (a.length+1) (!c)) f true (by omega) (by omega) (by omega) (by rw[Co];omega) z (by omega) y;obtain⟨Q,S⟩:=this;refine⟨λh=>?_,λh=>?_⟩
      ·obtain⟨u,t,q,p,j,e⟩:=Q h;refine⟨u,t,q,p,j,λR d g=>?_⟩;rw[start,o];exact e R d g
      ·obtain⟨T,l,u,t,q,p,j,e⟩:=S h;refine⟨T,l,u,t,q,p,j,λR d g=>?_⟩;rw[start,o];exact e R d g
   ·rw[Ja v a n i b (!c) k];refine⟨λh=>absurd h k,λ_=>⟨rfl,D.2.l,D.2.rest,D.2.n,D.2.i,D.2.b,D.2.st,λR d g=>?_⟩⟩;rw[start,G k,show(((E9 b s i 1 0).2.2:Int)!=0)=true by rw[bne_iff_ne];omega];rfl
def Er(l:List Nat):Og l=C4 l:=rfl
def Be4{k0:Unit->Option R}{k1:By->Option R}(s:By)(f:s.length<=1000000):∀(r i n:Nat),i+r=s.length->r<n->
  Ol LF n s (s.length:Int) (i:Int) k0 k1=if (s.drop i).any (λb=>s9 128 b.toNat) then k0 () else k1 s:=by
 intro r
 induction r with
 | zero=>
  intro i n c d;rcases n with _|n;omega
  rw[Ol];rw[A7,o0 (by omega)];rfl
 | succ r e=>
  intro i n c d;rcases n with _|n;omega
  rw[Ol];have a:A1 ((i:Int)+1)=((i+1:Nat):Int):=by rw[A6];rfl
  rw[A8,H4,F6,G2 s i (by omega),a,ai7];simp only[aa];generalize s.getD i 0=b;by_cases h:128<=b.toNat
  ·rw[A7,ae3 h];rfl
  ·have:s9 128 b.toNat=false:=by rw[ab0,ne_eq,y9];exact h
   rw[A8,this,ae5];exact e (i+1) n (by omega) (by omega)
def Cc3{k0:By->Int->LL->Option R}(s:By)(q:s.length<=1000000)(k:Nat)(p:k<=s.length):∀(r i n:Nat) (l:List Nat),i+r=k->r<n->l.length=i->
  Kj LF n s (k:Int) (i:Int) (C4 l) k0=k0 s (k:Int) (C4 (l++((s.take k).drop i).map (·.toNat))):=by
 intro r
 induction r with
 | zero=>
  intro i n l f h g;rcases n with _|n;omega
  rw[Kj];rw[A7,o0 (by rw[x3];omega)];simp
 | succ r j=>
  intro i n l f h g;rcases n with _|n;omega
  rw[Kj];have c:A1 ((i:Int)+1)=((i+1:Nat):Int):=by rw[A6];rfl
  have e:(s.take k).drop i=s.getD i 0::(s.take k).drop (i+1):=by
   rw[G2 (s.take k) i (by rw[x3];omega)]
   congr 1
   rw[j8,j8,List.getElem?_take_of_lt (by omega)]
  rw[A8,H4,F6,e,E2,F4 (by omega),c];simp only[aa];generalize s.getD i 0=b;have o:=b.toNat_lt;have d:A1 (b.toNat:Int)=(b.toNat:Int):=A6;have a:C4 l++[[SV.int .i64 (A1 (b.toNat:Int))]]=C4 (l++[b.toNat]):=by rw[d,Ml];rfl
  rw[a,j (i+1) n _ (by omega) (by omega) (by simp;omega)];simp
def Rl:∀s:By,I7 s<=s.length-1
 | []=>by simp[I7]
 | b::r=>by
  have:=Rl r;unfold I7;grind
def Be5(s:By)(M:A2 s.length=true):(∃e,P2 s=([],e)/\∀(R:Type) (k0:Int->Option R) (k1:Kad R) (a:Kaf R),Zl LF s k0 k1 a=k0 (e:Nat))\/
  (∃e l k j i f c,P2 s=([],e)/\∀(R:Type) (k0:Int->Option R) (k1:Kad R) (a:Kaf R),Zl LF s k0 k1 a=k1 (e:Nat) l k j i f c)\/
  ((P2 s).2=0/\∃k j i f c,∀(R:Type) (k0:Int->Option R) (k1:Kad R) (a:Kaf R),Zl LF s k0 k1 a=a (C4 (P2 s).1) k j i f c):=by
 have N:=D6;unfold P2;by_cases C:1024<s.length
 ·rw[ac C];refine .inl ⟨3,rfl,λR k0 k1 a=>?_⟩;unfold Zl;rw[A8];rfl
 ·rw[ae C];have r:=λ(R:Type) (G:Unit->Option R) (H:By->Option R)=>Be4 (k0:=G) (k1:=H) s (by omega) s.length 0 LF (by omega) (by omega)
  rw[p7] at r;cases A:s.any (λb=>s9 128 b.toNat) with
  | true=>
   rw[ac rfl];refine .inl ⟨4,rfl,λR k0 k1 a=>?_⟩;unfold Zl;rw[A7,ab];refine j0 (r R _ _) ?_;rw[A,ac rfl];rfl
  | false=>
   rw[ae (by simp)];obtain⟨I,J⟩:=Rk s;have O:=Rl s;have key:∀(d:List Nat) (t:By),d.length<=256->t.length<=1024->(∀(R:Type) (k0:Int->Option R) (k1:Kad R) (a:Kaf R),Zl LF s k0 k1 a=U3 LF LF (C4 d) t 128 0 72 false k1 a)->
     (∃e l k j i f c,J6 t d 128 0 72 true=([],e)/\∀(R:Type) (k0:Int->Option R) (k1:Kad R) (a:Kaf R),Zl LF s k0 k1 a=k1 (e:Nat) l k j i f c)\/
     ((J6 t d 128 0 72 true).2=0/\∃k j i f c,∀(R:Type) (k0:Int->Option R) (k1:Kad R) (a:Kaf R),Zl LF s k0 k1 a=a (C4 (J6 t d 128 0 72 true).1) k j i f c):=by
    intro d t P V B;obtain⟨D,F⟩:=Cc4 t.length t d 128 0 72 LF false (ab8 _) (by omega) (by omega) P (by omega) (by omega) (by omega);rw[j4] at D F;by_cases w:(J6 t d 128 0 72 true).2=0
    ·obtain⟨k,j,i,f,c,e⟩:=D w;exact .inr ⟨w,k,j,i,f,c,λR k0 k1 a=>by rw[B];exact e R k1 a⟩
    ·obtain⟨S,l,k,j,i,f,c,e⟩:=F w;exact .inl ⟨_,l,k,j,i,f,c,Prod.ext S rfl,λR k0 k1 a=>by rw[B];exact e R k1 a⟩
   have Q:u8n 45=45:=rfl;have top:∀(R:Type) (k0:Int->Option R) (k1:Kad R) (a:Kaf R),Zl LF s k0 k1 a =
     cond (ltI 0 (N1 45 s)) (Kj LF LF s (N1 45 s) 0 [] (λn x u=>cond (L3 (A1 (x+1)) (n.length:Int) n.length)
      (vl (cut n (A1 (x+1)) (n.length:Int)) λy=>cond (ltI 256 (u.length:Int)) (k1 3 u y 128 0 72 false) (U3 LF LF u y 128 0 72 false k1 a)) none))
      (U3 LF LF [] s 128 0 72 false k1 a):=by
    intro R k0 k1 a;unfold Zl;rw[A7,ab];refine j0 (r R _ _) ?_;rw[A,ae (by simp),M,Q];rfl
   by_cases T:0<I7 s
   ·have v:45∈s:=by
     apply af8;intro h;have:=(J h).2;omega
    have z:=I v;generalize I7 s=m at *;have g:=λ(R:Type) (K:By->Int->LL->Option R)=>Cc3 (k0:=K) s (by omega) m (by omega) m 0 LF [] (by omega) (by omega) rfl
    rw[p7] at g;have L:A1 ((m:Int)+1)=((m+1:Nat):Int):=by rw[A6];rfl
    have p:((s.take m).map (·.toNat)).length=m:=by rw[o9,x3];omega
    have q:∀(R:Type) (k0:Int->Option R) (k1:Kad R) (a:Kaf R),Zl LF s k0 k1 a =
      cond (ltI 256 (m:Int)) (k1 3 (C4 ((s.take m).map (·.toNat))) (s.drop (m+1)) 128 0 72 false) (U3 LF LF (C4 ((s.take m).map (·.toNat))) (s.drop (m+1)) 128 0 72 false k1 a):=by
     intro R k0 k1 a;rw[top,z,A8,aa];refine j0 (g R _) ?_;rw[L,O8,Fc,ak9,ad4,E2,p];rfl
    by_cases o:256<m
    ·rw[ac o];refine .inr (.inl ⟨3,C4 ((s.take m).map (·.toNat)),s.drop (m+1),128,0,72,false,rfl,λR k0 k1 a=>?_⟩);rw[q,A8];rfl
    ·rw[ae o,ae (show ¬m=0 by omega)];exact .inr (key _ (s.drop (m+1)) (by rw[p];omega) (by rw[j7];omega) (λR k0 k1 a=>by rw[q,A7];rfl))
   ·have w:I7 s=0:=by omega
    have z:¬ 0<N1 45 s:=by
     by_cases U:45∈s;all_goals grind
    rw[w,I9,ac rfl];refine .inr (key [] s (by simp) (by omega) (λR k0 k1 a=>?_));rw[top,A7];rfl
def Zd(l:List Nat):(C4 l).isEmpty=l.isEmpty:=by cases l<;>rfl
def Di9(s:By)(k:A2 s.length=true):∃r H,Zl LF s (λf=>rv (.tup [.fl 0,.s (.int .i64 f)]) [.arr true 3 1 []]) (λf o w c d t j=>rv (.tup [.fl 2,.s (.int .i64 f)]) [.arr true 3 1 o,.box [.s (.str w),.fl 0,.s (.int .i64 c),.s (.int .i64 d),.s (.int .i64 t),.s (.bool j)],.arr true 3 1 []]) (λn v q c d i=>rv (.tup [.fl 0,.s (.int .i64 (0:Int))]) [.arr true 3 1 n,.box [.s (.str v),.fl 0,.s (.int .i64 q),.s (.int .i64 c),.s (.int .i64 d),.s (.bool i)]])=rv r H/\
  r.stab [1,0] H = .tup [.s (.sl (P2 s).1.isEmpty (P2 s).1.isEmpty 1 (Og (P2 s).1)),.s (.int .i64 ((P2 s).2:Nat))]:=by
 rcases Be5 s k with⟨e,a,b⟩|⟨e,l,u,p,m,h,g,a,b⟩|⟨a,u,p,m,h,g,b⟩
 ·refine⟨_,_,b _ _ _ _,?_⟩;rw[a];rfl
 ·refine⟨_,_,b _ _ _ _,?_⟩;rw[a];rfl
 ·refine⟨_,_,b _ _ _ _,?_⟩;rw[a,Er];simp[PV.stab,Qc,Qb,PV.snap,N5,Zd]
end
section
open Go
def FR:∀(f:Nat) (l:By),ao6 f l=(W9 f l).isSome
 | 0,_=>rfl
 | f+1,l=>by
  unfold ao6 W9;split
  ·rfl
  ·split
   ·rfl
   ·rw[FR f,ag0]
def Br6(l:By):Lib.validD l=(Dq l).isSome:=FR _ l
def NM:∀(n m:Nat) (l:By),l.length<=n->l.length<=m->W9 n l=W9 m l
 | 0,m,l,b,_=>by
  have:l=[]:=o5.1 (by omega);subst this;cases m<;>simp[W9]
 | n+1,0,l,_,hm=>by
  have:l=[]:=o5.1 (by omega);subst this;simp[W9]
 | n+1,m+1,l,b,hm=>by
  unfold W9;split
  ·rfl
  ·rename_i a;have d:=ad8 l;have c:0<l.length:=ab2.2 a;rw[NM n m (l.drop (o7 l).2) (by rw[j7];omega) (by rw[j7];omega)]
def Cd1(l:By)(a:l≠[]):Dq l=if (o7 l).1=65533/\(o7 l).2=1 then none else (Dq (l.drop (o7 l).2)).map ((o7 l).1::·):=by
 have c:0<l.length:=ab2.2 a;have d:=ad8 l;obtain⟨n,b⟩:∃n,l.length=n+1:=⟨l.length-1,by omega⟩
 unfold Dq;rw[b]
 conv=>lhs;unfold W9
 rw[ae a,NM n (l.drop (o7 l).2).length _ (by rw[j7];omega) (ab8 _)]
def UA:∀(f:Nat) (s:ByteArray) (pos:Nat) (p:List Nat),pos<=s.size->W9 f (s.data.toList.drop pos)=some p->s.size-pos<=f->aj7 s f pos=p.length
 | 0,s,pos,p,e,h,d=>by
  simp only[W9,j9] at h;subst h;rfl
 | f+1,s,pos,p,e,h,d=>by
  have g:s.data.toList.length=s.size:=by rw[Array.length_toList];rfl
  unfold W9 at h;rw[ag5] at h;by_cases a:pos<s.size
  ·rw[ae (by rw[<-o5,j7];omega)] at h;split at h
   ·cases h
   ·cases b:W9 f (ad6 (aa4 s pos).2 (ad6 pos s.data.toList)) with
    | none=>rw[b] at h;cases h
    | some q=>
     rw[b] at h;simp only[ab1,j9] at h;subst h;have i:=Lib.decode_width_pos s pos a;have c:pos+(aa4 s pos).2<=s.size:=by
      have:=ai0 (s.data.toList.drop pos) (by rw[ne_eq,<-o5,j7];omega);rw[ag5,j7] at this;omega
     rw[am4] at b;unfold aj7;rw[ac a,UA f s _ q c b (by omega)];grind
  ·rw[ac (by rw[<-o5,j7];omega)] at h;simp only[j9] at h;subst h;rw[Lib.runeCountFrom_end s _ _ a];rfl
def NY{l:By}{p:List Nat}(h:Dq l=some p):af4 l=p.length:=by
 unfold af4 Lib.runeCount;have a:(ByteArray.mk l.toArray).size=l.length:=by simp[ByteArray.size]
 refine UA _ _ 0 p (ab9 _) ?_ (by omega);rw[a,p7];simpa[Dq] using h
open Lib in theorem D94(n b a d e:Nat)(g:194<=b/\b<224)(f:a<256):decodeN n b a d e=if 2<=n/\128<=a/\a<=191 then ((b-192)*64+a-128,2) else (65533,1):=by
 unfold decodeN;rw[I9];by_cases c:2<=n/\128<=a/\a<=191
 ·rw[ac c,U9,U9];exact Prod.ext (by show b % 32*64+a % 64=(b-192)*64+a-128;omega) rfl
 ·rw[ae c,I9,I9,I9]
open Lib in theorem D95(n c a b f:Nat)(i:224<=c/\c<240)(g:a<256)(h:b<256):decodeN n c a b f=if 3<=n/\(128<=a/\a<=191)/\(128<=b/\b<=191) then
  (if 2048<=((c-224)*64+a-128)*64+b-128/\W8 (((c-224)*64+a-128)*64+b-128)=true then (((c-224)*64+a-128)*64+b-128,3) else (65533,1)) else (65533,1):=by
 unfold decodeN;rw[I9,I9];by_cases d:3<=n/\(128<=a/\a<=191)/\(128<=b/\b<=191)
 ·rw[ac d,U9];have e:c % 16*4096+a % 64*64+b % 64=((c-224)*64+a-128)*64+b-128:=by omega
  rw[e];generalize ((c-224)*64+a-128)*64+b-128=v
  congr 1
  simp only[W8,p5,am0,y9,Nat.blt_eq];apply propext;omega
 ·rw[ae d,I9,I9]
open Lib in theorem D96(n d a b c:Nat)(j:240<=d/\d<245)(g:a<256)(h:b<256)(i:c<256):decodeN n d a b c=if 4<=n/\(128<=a/\a<=191)/\(128<=b/\b<=191)/\(128<=c/\c<=191) then
  (if 65536<=(((d-240)*64+a-128)*64+b-128)*64+c-128/\W8 ((((d-240)*64+a-128)*64+b-128)*64+c-128)=true then ((((d-240)*64+a-128)*64+b-128)*64+c-128,4) else (65533,1)) else (65533,1):=by
 unfold decodeN;rw[I9,I9,I9];by_cases f:4<=n/\(128<=a/\a<=191)/\(128<=b/\b<=191)/\(128<=c/\c<=191)
 ·rw[ac f,U9];have e:d % 8*262144+a % 64*4096+b % 64*64+c % 64=(((d-240)*64+a-128)*64+b-128)*64+c-128:=by omega
  rw[e];generalize (((d-240)*64+a-128)*64+b-128)*64+c-128=v
  congr 1
  simp only[W8,p5,am0,y9,Nat.blt_eq];apply propext;omega
 ·rw[ae f,I9]
end
section
open Go Go.Proofs
def Yf(l:List Nat):Y3 (l.map λn:Nat=>(n:Int))=Eg l:=by
 have b:(l.map λn:Nat=>(n:Int)).all ptI=l.all W8:=by
  rw[ag9]
  congr 1
 have c:(l.map λn:Nat=>(n:Int)).map j6=l:=by
  rw[af0];exact(ac5 λa _=>by simp).trans (aq0 l)
 unfold Y3;rw[o9,b,c];by_cases h:256<l.length
 ·rw[ac h];unfold Eg;rw[ac h]
 ·rw[ae h];cases d:l.all W8 with
  | true=>rw[ac rfl]
  | false=>
   rw[ae (by simp)];unfold Eg;grind
def Yd(l:List Nat):(C4 l).map elI=l.map λn:Nat=>(n:Int):=by unfold C4;rw[af0];exact ac5 λa _=>rfl
def Fb(l:List Nat):(C4 l).all Pt=true:=by unfold C4;rw[ag9,ac9];intro x _;rfl
def Bc2{a:Unit->Option R}{d:Kce R}(s:By)(z:Bool)(p:List Nat)(t:p.length<=1000000000):∀(r i n:Nat) (b:Bool),i+r=p.length->r<n->
  Ac LF n s z (C4 p) b (p.length:Int) (i:Int) a d=if (p.drop i).any (λp=>s9 65 p&&s9 p 90) then a () else d s z (C4 p) (b&&!((p.drop i).any λp=>s9 128 p)):=by
 intro r
 induction r with
 | zero=>
  intro i n b h j;rcases n with _|n;omega
  rw[Ac];rw[A7,o0 (by omega)];simp
 | succ r k=>
  intro i n b h j;rcases n with _|n;omega
  rw[Ac];have f:A1 ((i:Int)+1)=((i+1:Nat):Int):=by rw[A6];rfl
  have g:p.drop i=p.getD i 0::p.drop (i+1):=by
   rw[j8,x7 (by omega),al0,List.getElem_cons_drop]
  rw[A8,E2,H4,c9,Ti (by omega),DA _ _ (by omega),g,ai7,ai7,f];simp only[aa,vl];generalize p.getD i 0=q;have go:∀c:Bool,Ac LF n s z (C4 p) c (p.length:Int) ((i+1:Nat):Int) a d=_:=λc=>k (i+1) n c (by omega) (by omega)
  by_cases l:q<65
  ·rw[A8,show s9 65 q=false by rw[ab0,ne_eq,y9];omega];have e:s9 128 q=false:=by rw[ab0,ne_eq,y9];omega
   rw[show ltI (q:Int) (128:Int)=true from A8,e];simp only[j5,ab,am2,ae5];cases b<;>simp only[aa,ab]<;>rw[go]
  ·rw[A7,show s9 65 q=true by rw[y9];omega];simp only[j4,aa,ad0];by_cases e:90<q
   ·rw[A8,show s9 q 90=false by rw[ab0,ne_eq,y9];omega];simp only[j5,ab,ae5];by_cases o:q<128
    ·rw[show ltI (q:Int) (128:Int)=true from A8,show s9 128 q=false by rw[ab0,ne_eq,y9];omega];cases b<;>simp only[aa,ab,ae5]<;>rw[go]
    ·rw[show ltI (q:Int) (128:Int)=false from A7,show s9 128 q=true by rw[y9];omega];cases b<;>simp only[aa,ab,Bool.true_or,j5,Bool.and_false]<;>rw[go]<;>simp
   ·rw[A7,show s9 q 90=true by rw[y9];omega];simp
def A74:∀(m:Nat) (s:By) (a:List Nat) (n i b:Nat) (f:Bool),s.length<=m->a.length<=256->(J6 s a n i b f).1.length<=256:=by
 intro m
 induction m with
 | zero=>
  intro s a n i b f e d;obtain rfl:=o5.1 (Nat.le_zero.1 e);rw[Ee];exact d
 | succ m j=>
  intro s a n i b f e d;by_cases h:s=[]
  ·grind
  ·by_cases c:(E9 b s i 1 0).2.2=0
   ·rw[Fo h _ _ _ _ _ c];have g:=Sw b s i 1 0 c;split
    ·split
     ·grind
     ·rename_i k;exact j _ _ _ _ _ _ (by omega) (by rw[Co];omega)
    grind
   ·rw[Ja h _ _ _ _ _ c];grind
def An8(s:By):(P2 s).1.length<=256:=by
 unfold P2;split
 ·grind
 ·split
  ·grind
  ·split
   ·grind
   ·rename_i h;exact A74 _ _ _ _ _ _ _ (ab8 _) (by rw[o9,x3];omega)
def Bc3{a:Bool->Option R}(s:By)(b:A2 s.length=true):Bz0 LF s a=a (Fe s):=by
 have c:=D6;unfold Bz0 Fe;rw[b,aa];by_cases h:(P2 s).2=0
 ·have e:(((P2 s).2:Int)!=(0:Int))=false:=by rw[h];rfl
  rw[e,ab,Er,E2,h];have i:=An8 s;refine j0 (Bc2 s _ (P2 s).1 (by omega) (P2 s).1.length 0 LF true (by omega) (by omega)) ?_;rw[p7];cases d:(P2 s).1.any (λp=>s9 65 p&&s9 p 90) with
  | true=>simp
  | false=>
   rw[ae (by simp),Fb,Yd,Yf];simp only[aa,vl,ad0,j4];cases f:(P2 s).1.any (λp=>s9 128 p) with
   | false=>simp
   | true=>
    simp only[j5,j4,aa,ae4,beq_self_eq_true,ad0];by_cases g:(Eg (P2 s).1).2=0;all_goals grind
 grind
def Ca9{d:Unit->Option R}{e:By->Option R}(s:By)(w:s.length<=1000000000):∀(r i n:Nat),i+r=s.length->r<n->
  T8 LF n s (s.length:Int) (i:Int) d e=if (s.drop i).all U2 then e s else d ():=by
 intro r
 induction r with
 | zero=>
  intro i n l c;rcases n with _|n;omega
  rw[T8];rw[A7,o0 (by omega)];rfl
 | succ r o=>
  intro i n l c;rcases n with _|n;omega
  rw[T8];have k:A1 ((i:Int)+1)=((i+1:Nat):Int):=by rw[A6];rfl
  rw[A8,H4,F6,G2 s i (by omega),k,ac3];simp only[aa];rw[o (i+1) n (by omega) (by omega)];generalize s.getD i 0=b;have j:=Rm b;have u:((b.toNat:Int)!=45) = !(b==45):=congrArg _ (S7 b 45 (by omega));have v:((b.toNat:Int)!=95) = !(b==95):=congrArg _ (S7 b 95 (by omega));rw[u,v];have t:∀{x:Bool},U2 b=x->(if (U2 b&&(s.drop (i+1)).all U2)=true then e s else d ())=if (x&&(s.drop (i+1)).all U2)=true then e s else d ():=λh=>by rw[h]
  cases a:U2 b with
  | true=>
   rw[j] at a;simp only[ad0];by_cases f:b=45
   ·subst f;simp (disch:=decide) [ltI]
   ·by_cases g:b=95
    ·subst g;simp (disch:=decide) [ltI]
    ·rcases a with a|a|a|a
     ·rw[show ltI (b.toNat:Int) 97=false from A7,show ltI (122:Int) b.toNat=false from A7];rfl
     ·rw[show ltI (b.toNat:Int) 97=true from A8,show ltI (b.toNat:Int) 48=false from A7,show ltI (57:Int) b.toNat=false from A7];rfl
     ·exact absurd a f
     ·exact absurd a g
  | false=>
   have c:¬((97<=b.toNat/\b.toNat<=122)\/(48<=b.toNat/\b.toNat<=57)\/b=45\/b=95):=λh=>by rw[j.2 h] at a;cases a
   have p:(b==45)=false:=by simpa using λh=>c (.inr (.inr (.inl h)))
   have q:(b==95)=false:=by simpa using λh=>c (.inr (.inr (.inr h)))
   rw[p,q];simp only[j4,aa,am2,v7,if_false];by_cases f:b.toNat<48
   ·rw[show ltI (b.toNat:Int) 97=true from A8,show ltI (b.toNat:Int) 48=true from A8];rfl
   ·by_cases g:b.toNat<97
    ·rw[show ltI (b.toNat:Int) 97=true from A8,show ltI (b.toNat:Int) 48=false from A7,show ltI (57:Int) b.toNat=true from A8];rfl
    ·rw[show ltI (b.toNat:Int) 97=false from A7,show ltI (122:Int) b.toNat=true from A8,show ltI (b.toNat:Int) 48=false from A7,show ltI (57:Int) b.toNat=true from A8];rfl
def Cb0{a:Bool->Option R}(s:By)(b:A2 s.length=true):Dh7 LF s a=a (L4 s):=by
 have k:=M5 b;have h:=D6;unfold Dh7 L4;by_cases c:s=[]
 ·simp_all
 ·have o:0<s.length:=ab2.2 c;have j:s.isEmpty=false:=by simpa using c
  rw[A7,ab,j];by_cases m:63<s.length
  ·rw[A8,show s9 s.length 63=false by rw[ab0,ne_eq,y9];omega];rfl
  ·rw[A7,ab,show s9 s.length 63=true by rw[y9];omega,H4];have l:(bAt s 0==(45:Int))=(s.getD 0 0==45):=by rw[Iq];exact S7 _ 45 (by omega)
   have d:A1 ((s.length:Int)-1)=((s.length-1:Nat):Int):=by rw[A6];omega
   rw[l,d];simp only[aa,vl];rw[H4,F6,show((((s.getD (s.length-1) 0).toNat:Nat):Int)==45)=(s.getD (s.length-1) 0==45) from S7 _ 45 (by omega)];cases e:(s.getD 0 0==45) with
   | true=>
    grind
   | false=>
    rw[show(s.getD 0 0 !=45)=true by unfold bne;rw[e];rfl];simp only[aa,ab];cases f:(s.getD (s.length-1) 0==45) with
    | true=>
     grind
    | false=>
     rw[show(s.getD (s.length-1) 0 !=45)=true by unfold bne;rw[f];rfl];simp only[ab];refine j0 (Ca9 s k s.length 0 LF (by omega) (by omega)) ?_;rw[p7];cases n:s.all U2 with
     | false=>simp
     | true=>
      rw[ac rfl,b,aa];simp only[j4,ad0,ae4];show cond (!(xnB.isPrefixOf s)) _ _=_;cases g:xnB.isPrefixOf s with
      | false=>rfl
      | true=>
       have i:Iz s xnB=s.drop 4:=by unfold Iz;rw[g];rfl
       show cond (A2 (Iz s xnB).length) (a (Fe (Iz s xnB))) none=_;rw[i,D9 (by rw[j7];omega)];rfl
def A83(a:List Nat)(b:Nat)(F:a.length<=256)(A:b<=256)(d:∀p∈a,p<=1114111):∀(f n:Nat) (s:UP),s.done=a.countP (λp=>decide (p<n))->s.delta<=300->s.bias<=500->s.out.length+20*(a.length-s.done)<=80000->n<=1114112->
  (T1 a b f n s).out.length<=80000:=by
 intro f;have z:=D6
 induction f with
 | zero=>intro n s C w q x y;unfold T1;omega
 | succ f G=>
  intro n s C w q x y;have B:a.countP (λp=>decide (p<n))<=a.length:=aa5;by_cases h:s.done<a.length
  ·obtain⟨u,i,j⟩:=A70 (n:=n) (l:=a) (by omega);obtain⟨L,M,o⟩:=Ft n a 1114112;have N:=o u i j;have O:=d u i;have c:J7 n a 1114112∈a/\n<=J7 n a 1114112:=by grind
   have D:T1 a b (f+1) n s=T1 a b f (J7 n a 1114112+1) { J8 (J7 n a 1114112) b a { s with delta:=s.delta+(J7 n a 1114112-n)*(s.done+1) } with delta:=(J8 (J7 n a 1114112) b a { s with delta:=s.delta+(J7 n a 1114112-n)*(s.done+1) }).delta+1 }:=by
    rw[T1,ac h]
   rw[D];generalize J7 n a 1114112=m at *;have t:(m-n)*(s.done+1)<=1114112*256:=ai1 (by omega) (by omega);have g:=B00 false false a b m (by omega) F a.length 0 LF { s with delta:=s.delta+(m-n)*(s.done+1) } (by omega) (by omega) (by simp only;omega) q (by simp only;omega) (by simp only;omega) A;rw[p7] at g;obtain⟨_,H,I,J,K⟩:=g;have e:0<a.countP (· == m):=ai4.2 ⟨m,c.1,by simp⟩;rw[ac e] at K;have k:=Xw c.2 a o;generalize J8 m b a { s with delta:=s.delta+(m-n)*(s.done+1) } = v at *;simp only at I J;have r:a.countP (λp=>decide (p<m+1))<=a.length:=aa5;exact G (m+1) { v with delta:=v.delta+1 } (by simp only;omega) (by simp only;omega) H (by simp only;omega) (by omega)
  ·rw[T1,ae h];omega
def Ao7(p:List Nat):(Eg p).1.length<=80000:=by
 unfold Eg;split
 ·grind
 ·rename_i h;split
  ·grind
  ·rename_i a;have d:∀q∈p,q<=1114111:=λq e=>by
    have a:p.all W8=true:=by simpa using a
    have:=ac9.1 a q e;simp only[W8,p5,y9] at this;omega
   have b:=Vj p;have c:p.countP (λq=>decide (q<128))<=p.length:=aa5;refine A83 p _ (by omega) (by omega) d 256 128 _ b (by simp) (by simp) ?_ (by omega);grind
def Ab0{b:UInt8}(h:128<=b.toNat):Y6 b=b:=by
 rcases M0 b with⟨_,e⟩|⟨_,e⟩|⟨_,a,_⟩
 all_goals omega
def Ab1{b:UInt8}(h:b.toNat<128):(Y6 b).toNat<128:=by
 rcases M0 b with⟨_,e⟩|⟨_,e⟩|⟨_,a,e⟩
 all_goals grind
def B59(n:Nat)(a c d e:UInt8)(h:128<=a.toNat):al8 n a.toNat (Y6 c).toNat (Y6 d).toNat (Y6 e).toNat=al8 n a.toNat c.toNat d.toNat e.toNat:=by
 have i:∀b:UInt8,b.toNat / 64=2->Y6 b=b:=λb f=>Ab0 (by omega)
 have j:∀b:UInt8,¬b.toNat / 64=2->¬(Y6 b).toNat / 64=2:=λb f h=>by
  by_cases g:128<=b.toNat
  ·rw[Ab0 g] at h;exact f h
  ·have:=Ab1 (b:=b) (by omega);omega
 unfold al8;grind
def Db9(l:By)(c:l≠[]):(o7 (C5 l)).2=(o7 l).2/\(¬((o7 l).1=65533/\(o7 l).2=1)->¬((o7 (C5 l)).1=65533/\(o7 (C5 l)).2=1)):=by
 cases l with
 | nil=>exact absurd rfl c
 | cons b t=>
  by_cases a:b.toNat<128
  ·have d:=aj5 b t a;have f:o7 (C5 (b::t))=((Y6 b).toNat,1):=aj5 (Y6 b) (C5 t) (Ab1 a);rw[d,f];refine⟨rfl,λ_ h=>?_⟩;have:=Ab1 a;omega
  ·have e:o7 (C5 (b::t))=o7 (b::t):=by
    rw[ai6,ai6,Aq,En,En,En,En];have e0:Y6 ((b::t).getD 0 0)=b:=Ab0 (b:=b) (show 128<=b.toNat by omega);rw[e0];exact B59 (b::t).length b ((b::t).getD 1 0) ((b::t).getD 2 0) ((b::t).getD 3 0) (show 128<=b.toNat by omega)
   grind
def TK:∀(f:Nat) (l:By),(W9 f l).isSome=true->(W9 f (C5 l)).isSome=true
 | 0,_,_=>rfl
 | f+1,l,h=>by
  unfold W9 at h ⊢;by_cases a:l=[]
  ·subst a;rfl
  ·rw[ae a] at h;rw[ae (by rw[SQ];exact a)];obtain⟨b,c⟩:=Db9 l a;split at h
   ·cases h
   ·rename_i d;rw[ae (c d),ag0,b,MP];rw[ag0] at h;exact TK f _ h
def At9{l:By}(h:(Dq l).isSome=true):(Dq (C5 l)).isSome=true:=by unfold Dq at h ⊢;rw[Aq];exact TK _ _ h
def B96(t:By)(C:t.length<=1000000000):∀(f pos:Nat) (P q:List Nat) (n:Nat),pos<=t.length->t.length-pos<=f->f<n->P.length<=pos->W9 f (t.drop pos)=some q->
  ∃m,∀(R:Type) (h:LL->By->Nat->Option R),Gu LF n (C4 P) t pos h=h (C4 (P++q)) t m:=by
 intro f
 induction f with
 | zero=>
  intro pos P q n u v w x a;rcases n with _|n;omega
  simp only[W9,j9] at a;subst a;refine⟨pos,λR h=>?_⟩;rw[Gu];rw[decide_eq_false (by omega),ab,ac8]
 | succ f z=>
  intro pos P q n u v w x a;rcases n with _|n;omega
  by_cases l:pos<t.length
  ·have b:t.drop pos≠[]:=by rw[ne_eq,<-o5,j7];omega
   have y:=ag5 ⟨t.toArray⟩ pos;have i:aa4 ⟨aa7 t⟩ pos=o7 (t.drop pos):=by rw[<-y]
   unfold W9 at a;rw[ae b] at a;split at a
   ·cases a
   ·have D:=ad8 (t.drop pos);have j:=ai0 (t.drop pos) b;have B:=ak7 (t.drop pos);rw[j7] at j;rw[am4] at a;generalize o7 (t.drop pos)=p at *;obtain⟨c,o⟩:=p;simp only at *;cases k:W9 f (t.drop (pos+o)) with
    | none=>rw[k] at a;cases a
    | some A=>
     rw[k] at a;simp only[ab1,j9] at a;subst a;obtain⟨m,e⟩:=z (pos+o) (P++[c]) A n (by omega) (by omega) (by omega) (by simp;omega) k;refine⟨m,λR h=>?_⟩;rw[Gu];rw[decide_eq_true l,aa,i,E2,F4 (by omega)];simp only[vl,aa];have r:A1 (c:Int)=(c:Int):=A6;have g:C4 P++[[SV.int .i64 (A1 (c:Int))]]=C4 (P++[c]):=by rw[r,Ml];rfl
     rw[g,e,ab7];rfl
  ·have d:t.drop pos=[]:=by rw[<-o5,j7];omega
   unfold W9 at a;rw[d,ac rfl] at a;simp only[j9] at a;subst a;refine⟨pos,λR h=>?_⟩;rw[Gu];rw[decide_eq_false l,ab,ac8]
def Bb0(s:By)(i:A2 s.length=true):(∀(R:Type) (b:By->Int->Option R) (c:Kcd R),Ar4 LF s b c=b (J9 s).1 ((J9 s).2:Nat))\/
  (∃l t m,∀(R:Type) (b:By->Int->Option R) (c:Kcd R),Ar4 LF s b c=c (J9 s).1 ((J9 s).2:Nat) l t m):=by
 have x:=M5 i;have u:=D6;unfold J9;cases h:Dq s with
 | none=>
  refine .inl λR b c=>?_
  unfold Ar4;rw[i,h];rfl
 | some p=>
  have k:=NY h;have top:∀(R:Type) (b:By->Int->Option R) (c:Kcd R),Ar4 LF s b c=cond (ltI 256 (p.length:Int)) (b [] 3) (cond (ltI (p.length:Int) (s.length:Int)) (Gu LF LF [] (C5 s) 0 (λa g f=>cond (af5 a Pt)
      (cond (((Y3 (ab6 elI a)).2:Int)!=(0:Int))
       (c ([]:By) 14 a g f)
       (cond (J1 4 (j1 ((Y3 (ab6 elI a))).1))
        (cond (A2 (j1 (xnB++((Y3 (ab6 elI a))).1)))
         (cond (not (L4 (xnB++((Y3 (ab6 elI a))).1)))
         (c ([]:By) 14 a g f)
         (c (xnB++((Y3 (ab6 elI a))).1) 0 a g f))
         (none))
        (none)))
      (none)))
     (cond (A2 (j1 (C5 s)))
      (cond (not (L4 (C5 s)))
      (b ([]:By) 14)
      (b (C5 s) 0))
      (none))):=by
   intro R b c;unfold Ar4;rw[i,h,k];rfl
  simp only;by_cases n:256<p.length
  ·rw[ac n];refine .inl λR b c=>?_
   rw[top,A8];rfl
  ·rw[ae n];by_cases o:p.length<s.length
   ·rw[ac o];have d:=At9 (l:=s) (by rw[h];rfl);cases r:Dq (C5 s) with
    | none=>rw[r] at d;cases d
    | some q=>
     have w:=Aq s;obtain⟨m,e⟩:=B96 (C5 s) (by omega) (C5 s).length 0 [] q LF (by omega) (by omega) (by omega) (by simp) (by rw[p7];exact r);refine .inr ⟨C4 q,C5 s,m,λR b c=>?_⟩;rw[top,A7,ab,A8,aa];refine j0 (e R _) ?_;have v:=Ao7 q;rw[ad4,Fb,Yd,Yf,aa,J4 (by omega),aa,D9 (by rw[k9];simp only[xnB,j2,x9];omega),aa];simp only;by_cases j:(Eg q).2=0
     ·rw[j,ac rfl];cases y:L4 (xnB++(Eg q).1) with
      | true=>rfl
      | false=>rfl
     ·rw[ae j];have:(((Eg q).2:Int)!=(0:Int))=true:=by simpa using j
      rw[this];rfl
   ·rw[ae o];refine .inl λR b c=>?_
    rw[top,A7,ab,A7,ab,D9 (by rw[Aq];exact x),aa];cases L4 (C5 s)<;>rfl
def Dg6(s:By)(c:A2 s.length=true):∃r H,Ar4 LF s (λa b=>rv (.tup [.s (.str a),.s (.int .i64 b)]) []) (λa b d f e=>rv (.tup [.s (.str a),.s (.int .i64 b)]) [.arr true 3 1 d,.iter f e])=rv r H/\
  r.stab [0,0] H = .tup [.s (.str (J9 s).1),.s (.int .i64 ((J9 s).2:Nat))]:=by
 rcases Bb0 s c with h|⟨l,t,m,h⟩
 ·exact⟨_,_,h _ _ _,rfl⟩
 ·exact⟨_,_,h _ _ _,rfl⟩
def B75{g:Int->Option R}(b:Int)(h:inR b 256=true):Ct4 LF b g=g (Gr (u8n b)):=by
 simp only[inR,p5,af] at h;have j:b=((u8n b).toNat:Int):=by
  unfold u8n;simp;omega
 generalize u8n b=c at *;subst j;have i:=c.toNat_lt;unfold Ct4;simp only[Yr,Yq,vl,Gr];rcases Ef c with⟨d,f,e⟩|⟨d,f,e⟩|⟨d,f,e⟩|⟨d,f,o,e⟩
 ·have a:A1 (wu8 ((c.toNat:Int)-48))=((dig c:Nat):Int):=by
   rw[O2,A6];omega
  rw[U9];simp (disch:=omega) only[C6,E4,j5,j4,ab,aa,a]
 ·have a:A1 (A1 (wu8 ((c.toNat:Int)-97))+10)=((dig c:Nat):Int):=by
   rw[O2,E6 (n:=(c.toNat:Int)-97) (by omega) (by omega),A6];omega
  rw[U9];simp (disch:=omega) only[C6,E4,j5,j4,ab,aa,a]
 ·have a:A1 (A1 (wu8 ((c.toNat:Int)-65))+10)=((dig c:Nat):Int):=by
   rw[O2,E6 (n:=(c.toNat:Int)-65) (by omega) (by omega),A6];omega
  rw[U9];simp (disch:=omega) only[C6,E4,j5,j4,ab,aa,a]
 ·rw[e,ae (by decide)];by_cases k:c.toNat<48
  ·simp (disch:=omega) only[C6,E4,j5,j4,ab,aa]
  ·by_cases l:c.toNat<65
   ·simp (disch:=omega) only[C6,E4,j5,j4,ab,aa]
   ·by_cases m:c.toNat<97
    ·simp (disch:=omega) only[C6,E4,j5,j4,ab,aa]
    ·simp (disch:=omega) only[C6,E4,j5,j4,ab,aa]
def Ad5{b:UInt8}(r:By)(h:b≠37):R9 (b::r)=(R9 r).map (b::·):=by
 conv=>lhs;unfold R9
 grind
def NJ(x y:UInt8)(r:By):R9 (37::x::y::r)=if dig x<16/\dig y<16 then (R9 r).map (aa0 (16*dig x+dig y)::·) else none:=by
 conv=>lhs;unfold R9
 grind
def Ao2(x:UInt8):ltI (Gr x) 0 = !(decide (dig x<16)):=by
 unfold Gr;by_cases h:dig x<16
 ·simp_all
 ·rw[ae h,A8,decide_eq_false h];rfl
def HJ:∀(s t:By),R9 s=some t->t.length<=s.length
 | [],t,h=>by simp only[R9,j9] at h;subst h;exact ab8 _
 | b::r,t,h=>by
  by_cases c:b=37
  ·subst c
   match r,h with
   | [],h=>cases h
   | [x],h=>cases h
   | x::y::d,h=>
    rw[NJ] at h;split at h
    ·cases a:R9 d with
     | none=>rw[a] at h;cases h
     | some q=>
      rw[a] at h;simp only[ab1,j9] at h;subst h;have:=HJ d q a;simp only[j2];omega
    ·cases h
  ·rw[Ad5 _ c] at h;cases a:R9 r with
   | none=>rw[a] at h;cases h
   | some q=>
    rw[a] at h;simp only[ab1,j9] at h;subst h;have:=HJ r q a;grind
def B74(s:By)(P:s.length<=1000000000):∀(m i n:Nat) (a:By),i<=s.length->s.length-i<=m->m<n->a.length<=i->
  (∀t,R9 (s.drop i)=some t->∀(R:Type) (c:LL->Option R) (d:LL->Option R),U1 LF n s (i:Int) (a.map F1) c d=d ((a++t).map F1))/\
  (R9 (s.drop i)=none->∃l,∀(R:Type) (c:LL->Option R) (d:LL->Option R),U1 LF n s (i:Int) (a.map F1) c d=c l):=by
 intro m
 induction m with
 | zero=>
  intro i n a J K L I;rcases n with _|n;omega
  rw[o0 (by omega)];refine⟨λt f R c d=>?_,λh=>(by cases h)⟩;simp only[R9,j9] at f;subst f;rw[U1];rw[A7,ac8];rfl
 | succ m G=>
  intro i n a J K L I;rcases n with _|n;omega
  by_cases z:i<s.length
  ·have D:A1 ((i:Int)+1)=((i+1:Nat):Int):=by rw[A6];rfl
   have F:A1 ((i:Int)+2)=((i+2:Nat):Int):=by rw[A6];rfl
   have H:A1 (((i+2:Nat):Int)+1)=((i+3:Nat):Int):=by rw[A6];omega
   have p:(a.map F1).length=a.length:=o9 _;have v:∀b:UInt8,a.map F1++[[SV.int .u8 (b.toNat:Int)]]=(a++[b]).map F1:=λb=>by rw[ah5];rfl
   have C:(((s.getD i 0).toNat:Int)!=37) = !(s.getD i 0==37):=congrArg _ (S7 _ 37 (by omega));rw[G2 s i z];by_cases g:s.getD i 0=37
   ·by_cases O:i+2<s.length
    ·rw[G2 s (i+1) (by omega),G2 s (i+1+1) (by omega),g,NJ];obtain⟨A,B⟩:=G (i+3) n (a++[aa0 (16*dig (s.getD (i+1) 0)+dig (s.getD (i+2) 0))]) (by omega) (by omega) (by omega) (by simp;omega);have top:∀(R:Type) (c:LL->Option R) (d:LL->Option R),U1 LF (n+1) s (i:Int) (a.map F1) c d=cond (decide (dig (s.getD (i+1) 0)<16)&&decide (dig (s.getD (i+2) 0)<16)) (U1 LF n s ((i+3:Nat):Int) ((a++[aa0 (16*dig (s.getD (i+1) 0)+dig (s.getD (i+2) 0))]).map F1) c d) (c (a.map F1)):=by
      intro R c d;rw[U1];rw[A8,H4,F6,C,g,p,F,A8,D,H4,H4,F6,F6];simp only[aa,vl,j5,ab,beq_self_eq_true,Ah4,Kr,Ao2,F4 (show a.length+1<=68719476736 by omega),H];generalize s.getD (i+1) 0=x at *;generalize s.getD (i+2) 0=y at *;by_cases M:dig x<16
      ·by_cases N:dig y<16
       ·have w1:Gr x=(dig x:Int):=by unfold Gr;rw[ac M]
        have S:Gr y=(dig y:Int):=by unfold Gr;rw[ac N]
        have T:A1 ((16:Int)*(dig x:Int))=((16*dig x:Nat):Int):=by rw[A6];omega
        have U:A1 (((16*dig x:Nat):Int)+(dig y:Int))=((16*dig x+dig y:Nat):Int):=by rw[A6];omega
        have V:wu8 ((16*dig x+dig y:Nat):Int)=((aa0 (16*dig x+dig y)).toNat:Int):=by
         rw[O2];simp;omega
        grind
       grind
      grind
     by_cases o:dig (s.getD (i+1) 0)<16/\dig (s.getD (i+2) 0)<16
     ·rw[ac o];have w:(decide (dig (s.getD (i+1) 0)<16)&&decide (dig (s.getD (i+2) 0)<16))=true:=by rw[decide_eq_true o.1,decide_eq_true o.2];rfl
      refine⟨λt f R c d=>?_,λh=>?_⟩
      ·cases j:R9 (s.drop (i+3)) with
       | none=>rw[show i+1+1+1=i+3 from rfl,j] at f;cases f
       | some q=>
        rw[show i+1+1+1=i+3 from rfl,j] at f;simp only[ab1,j9] at f;subst f;rw[top,w,aa,A q j,ab7];rfl
      ·cases j:R9 (s.drop (i+3)) with
       | some q=>rw[show i+1+1+1=i+3 from rfl,j] at h;cases h
       | none=>
        obtain⟨l,e⟩:=B j;exact⟨l,λR c d=>by rw[top,w,aa,e]⟩
     ·rw[ae o];have w:(decide (dig (s.getD (i+1) 0)<16)&&decide (dig (s.getD (i+2) 0)<16))=false:=by grind
      exact⟨λt h=>(by cases h),λ_=>⟨_,λR c d=>by rw[top,w,ab]⟩⟩
    ·have k:R9 (s.getD i 0::s.drop (i+1))=none:=by
      rw[g];cases o:s.drop (i+1) with
      | nil=>rfl
      | cons x r=>
       cases r with
       | nil=>rfl
       | cons y Q=>
        exfalso;have:=congrArg j1 o;rw[j7,j2,j2] at this;omega
     rw[k];refine⟨λt h=>(by cases h),λ_=>⟨a.map F1,λR c d=>?_⟩⟩;rw[U1];rw[A8,H4,F6,C,g,F,A7];rfl
   ·rw[Ad5 _ g];obtain⟨A,B⟩:=G (i+1) n (a++[s.getD i 0]) (by omega) (by omega) (by omega) (by simp;omega);have u:(s.getD i 0==37)=false:=by simpa using g
    have top:∀(R:Type) (c:LL->Option R) (d:LL->Option R),U1 LF (n+1) s (i:Int) (a.map F1) c d=U1 LF n s ((i+1:Nat):Int) ((a++[s.getD i 0]).map F1) c d:=by
     intro R c d;rw[U1];rw[A8,H4,F6,C,u,p,F4 (by omega),D,v];rfl
    refine⟨λt f R c d=>?_,λh=>?_⟩
    ·cases j:R9 (s.drop (i+1)) with
     | none=>rw[j] at f;cases f
     | some q=>
      rw[j] at f;simp only[ab1,j9] at f;subst f;rw[top,A q j,ab7];rfl
    ·cases j:R9 (s.drop (i+1)) with
     | some q=>rw[j] at h;cases h
     | none=>
      obtain⟨l,e⟩:=B j;exact⟨l,λR c d=>by rw[top,e]⟩
  ·rw[o0 (by omega)];refine⟨λt f R c d=>?_,λh=>(by cases h)⟩;simp only[R9,j9] at f;subst f;rw[U1];rw[A7,ac8];rfl
def De3(s:By)(f:A2 s.length=true):∃r H,Ct3 LF s (λj k i=>rv (.tup [.s (.str j),.s (.bool k)]) [.arr false 5 1 i])=rv r H/\
  r.stab [0,0] H = .tup [.s (.str (Ha s)),.s (.bool (R9 s).isSome)]:=by
 have h:=M5 f;have g:=D6;have a:((decide ((0:Int)<=(s.length:Int)))&&(G0 (j6 (s.length:Int))))=true:=by
  rw[c9,F4 (by omega),decide_eq_true (by omega)];rfl
 obtain⟨c,d⟩:=B74 s h s.length 0 LF [] (by omega) (by omega) (by omega) (by simp);rw[p7] at c d;unfold Ha;cases b:R9 s with
 | none=>
  obtain⟨l,e⟩:=d b;refine⟨.tup [.s (.str []),.s (.bool false)],[.arr false 5 1 l],?_,rfl⟩;unfold Ct3;rw[a,aa];exact e _ _ _
 | some t=>
  refine⟨.tup [.s (.str t),.s (.bool true)],[.arr false 5 1 (t.map F1)],?_,rfl⟩;unfold Ct3;rw[a,aa];refine j0 (c t b _ _ _) ?_;rw[ad4,Z3,Ad];rfl
abbrev Tx(i:Int)(j:By)(v4 a b c d e f g h:Int):List PV:=[.s (.int .i64 i),.s (.str j),.s (.int .u32 v4),.s (.int .u16 a),.s (.int .u16 b),.s (.int .u16 c),.s (.int .u16 d),.s (.int .u16 e),.s (.int .u16 f),.s (.int .u16 g),.s (.int .u16 h)]
def FF(h:C1):PV:=.agg [.s (.int .i64 (h.kind:Nat)),.s (.str h.name),.s (.int .u32 (h.v4:Nat)),.s (.int .u16 (h.v6.getD 0 0:Nat)),.s (.int .u16 (h.v6.getD 1 0:Nat)),.s (.int .u16 (h.v6.getD 2 0:Nat)),.s (.int .u16 (h.v6.getD 3 0:Nat)),.s (.int .u16 (h.v6.getD 4 0:Nat)),.s (.int .u16 (h.v6.getD 5 0:Nat)),.s (.int .u16 (h.v6.getD 6 0:Nat)),.s (.int .u16 (h.v6.getD 7 0:Nat))]
abbrev D97:Int->Int->Int->Int->Int->Int->Int->Int->Int->Int->Int->LL->Option (PV × List Blk × Unit):=λj c d e f g h i r8 k b a=>rv (.tup [.agg (Tx j [] 0 c d e f g h i r8),.s (.int .i64 k)]) [.box (Tx b [] 0 c d e f g h i r8),.arr false 27 1 a]
abbrev D67:Unit->Option (PV × List Blk × Unit):=λ_=>rv (.tup [.agg (Tx 0 [] 0 0 0 0 0 0 0 0 0),.s (.int .i64 14)]) [.box (Tx 0 [] 0 0 0 0 0 0 0 0 0)]
def HB(s:By)(c:UInt8)(h:s≠[]):(s.getLast? = some c)↔s.getD (s.length-1) 0=c:=by have:0<s.length:=ab2.2 h;grind
def Ct2(s:By)(g:A2 s.length=true)(e:Ct9 s=true):∃r H,Bx5 LF s D97 D67=rv r H/\r.stab [0,0] H = .tup [FF (R1 s).1,.s (.int .i64 ((R1 s).2:Nat))]:=by
 have m:=M5 g;have c:s≠[]:=by rintro rfl;cases e
 have l:0<s.length:=ab2.2 c;have i:s.getD 0 0=91:=by
  cases s with
  | nil=>exact absurd rfl c
  | cons b t=>
   simp only[Ct9,ae9,ae4,beq_iff_eq] at e;grind
 have f:A1 ((s.length:Int)-1)=((s.length-1:Nat):Int):=by rw[A6];omega
 have k:(((s.getD (s.length-1) 0).toNat:Int)==93)=(s.getD (s.length-1) 0==93):=S7 _ 93 (by omega);have bad:∃r H,D67 ()=rv r H/\r.stab [0,0] H = .tup [FF M9,.s (.int .i64 14)]:=⟨_,_,rfl,rfl⟩
 unfold Bx5 R1;simp only[vl,f];rw[H4,F6,k,aa];by_cases d:s.getD (s.length-1) 0=93
 ·have h:2<=s.length:=by grind
  rw[ac ⟨(HB s 93 c).2 d,h⟩,d,beq_self_eq_true,aa,show(1:Int)=((1:Nat):Int) from rfl,O8,aa,Fc];have j:((s.take (s.length-1)).drop 1).length<=s.length:=by rw[j7,x3];omega
  rw[R0,aa];unfold v6c;cases n:v6B ((s.take (s.length-1)).drop 1) with
  | none=>exact⟨_,_,rfl,rfl⟩
  | some a=>exact⟨_,_,rfl,rfl⟩
 grind
def C23(l:List By)(i:Nat)(y:By)(h:i<l.length):aj8 (C2 l) i (H7 ((C2 l).getD i []) 0 [SV.str y])=C2 (l.set i y):=by
 have e:(C2 l).getD i []=[SV.str (l.getD i [])]:=by
  unfold C2;grind
 rw[e];unfold C2;rw[List.map_set];rfl
def Aq3(N:Nat)(hN:N<=1000000001):∀(a:List By) (done:List By) (n:Nat),done.length+a.length=N->a.length<n->(∀x∈a,x.length<=1000000000)->
  ((G5 a).2=0->∀(R:Type) (b:Int->LL->Option R) (c:Nat->LL->Option R),U8 LF n N (N:Int) (done.length:Int) (C2 (done++a)) b c=c N (C2 (done++(G5 a).1)))/\
  ((G5 a).2≠0->∃l,∀(R:Type) (b:Int->LL->Option R) (c:Nat->LL->Option R),U8 LF n N (N:Int) (done.length:Int) (C2 (done++a)) b c=b ((G5 a).2:Nat) l):=by
 intro a
 induction a with
 | nil=>
  intro done n i o p;obtain⟨n,rfl⟩:∃m,n=m+1:=⟨n-1,by simp at o;omega⟩
  simp only[x9] at i;refine⟨λ_ R b c=>?_,λh=>absurd rfl h⟩;rw[U8];rw[A7];rfl
 | cons x r z=>
  intro done n i o p;simp only[j2] at i o;rcases n with _|n;omega
  have v:A1 ((done.length:Int)+1)=((done.length+1:Nat):Int):=by rw[A6];rfl
  have q:(done++x::r).length=N:=by rw[k9,j2];omega
  have k:(done++x::r).getD done.length []=x:=by grind
  have f:∀y,(done++x::r).set done.length y=(done++[y])++r:=λy=>by grind
  have top:∀(R:Type) (b:Int->LL->Option R) (c:Nat->LL->Option R),U8 LF (n+1) N (N:Int) (done.length:Int) (C2 (done++x::r)) b c=cond (((J9 x).2:Int)!=0) (b ((J9 x).2:Nat) (C2 (done++x::r))) (U8 LF n N (N:Int) ((done.length+1:Nat):Int) (C2 ((done++[(J9 x).1])++r)) b c):=by
   intro R b c;rw[U8];rw[A8,H4,c9,ao9,O0 (by omega),S8,k];simp only[vl,aa];rw[D9 (p x (by simp)),C3,decide_eq_true (show done.length<(done++x::r).length by omega),C23 _ _ _ (by omega),f,v];rfl
  unfold G5;obtain⟨t,u⟩:=z (done++[(J9 x).1]) n (by simp;omega) (by omega) (λy w=>p y (by simp[w]));have j:(done++[(J9 x).1]).length=done.length+1:=by simp
  rw[j] at t u;by_cases h:(J9 x).2=0
  ·rw[ac h];have g:(((J9 x).2:Int)!=0)=false:=by rw[h];rfl
   refine⟨λd R b c=>?_,λd=>?_⟩
   ·rw[top,g,ab,t d,ab7];rfl
   ·obtain⟨l,e⟩:=u d;exact⟨l,λR b c=>by rw[top,g,ab,e]⟩
  ·rw[ae h];have g:(((J9 x).2:Int)!=0)=true:=by simpa using h
   exact⟨λd=>absurd d h,λ_=>⟨_,λR b c=>by rw[top,g,aa]⟩⟩
def Aa3(p:By)(m:Nat):∀l:List By,(∀x∈l,x.length<=m)->(ae6 l p).length<=(m+p.length)*l.length
 | [],_=>by simp[ae6]
 | [x],h=>by
  have:=h x (by simp);rw[show ae6 [x] p=x by simp[ae6,Lib.joinTail]];grind
 | x::y::r,h=>by
  have b:=h x (by simp);have c:=Aa3 p m (y::r) (λz a=>h z (by simp[a]));rw[V8,k9,k9,j2,Nat.mul_add,Nat.mul_one];omega
def XP(l:List By):(C2 l).all isS=true:=by unfold C2;rw[ag9,ac9];intro x _;rfl
def C34(s:By):Ah2 s [46]=I3 s:=by
 unfold Ah2 I3;by_cases h:s.getLast? = some 46
 ·obtain⟨t,rfl⟩:=List.getLast?_eq_some_iff.1 h;grind
 ·rw[ae h,ae];rw[List.isSuffixOf_iff_suffix];rintro⟨t,a⟩;grind
abbrev D69:Int->By->Int->Int->Int->Int->Int->Int->Int->Int->Int->Int->Int->By->Int->Int->Int->Int->Int->Int->Int->Int->Int->Option (PV × List Blk × Unit):=λn o p q r t u v r8 w k l a m b c d e f g h i j=>rv (.tup [.agg (Tx n o p q r t u v r8 w k),.s (.int .i64 l)]) [.box (Tx a m b c d e f g h i j)]
abbrev D70:Int->By->Int->Int->By->LL->Option (PV × List Blk × Unit):=λc d e b f a=>rv (.tup [.agg (Tx c d 0 0 0 0 0 0 0 0 0),.s (.int .i64 e)]) [.box (Tx b f 0 0 0 0 0 0 0 0 0),.arr false 9 1 a]
def B79(s:By)(n:A2 s.length=true):∃r H,DF LF s D69 D70=rv r H/\r.stab [0,0] H = .tup [FF (D7 s).1,.s (.int .i64 ((D7 s).2:Nat))]:=by
 have Q:=M5 n;have A:=D6;have bad:∀e:Nat,∃r H,D69 0 [] 0 0 0 0 0 0 0 0 0 (e:Int) 0 [] 0 0 0 0 0 0 0 0 0=rv r H/\r.stab [0,0] H = .tup [FF M9,.s (.int .i64 (e:Nat))]:=λe=>⟨_,_,rfl,rfl⟩
 have a:∀(e:Nat) (l:LL),∃r H,D70 0 [] (e:Int) 0 [] l=rv r H/\r.stab [0,0] H = .tup [FF M9,.s (.int .i64 (e:Nat))]:=λe l=>⟨_,_,rfl,rfl⟩
 by_cases i:1024<s.length
 ·have e:D7 s=(M9,3):=by unfold D7;rw[ac i]
  rw[e];unfold DF;rw[A8,aa];exact bad 3
 ·have f:([91]:By).isPrefixOf s=decide (s.head? = some 91):=by
   cases s with
   | nil=>rfl
   | cons b t=>
    grind
  by_cases d:s.head? = some 91
  ·have j:([91]:By).isPrefixOf s=true:=by rw[f,decide_eq_true d]
   have e:D7 s=R1 s:=by unfold D7 R1;rw[ae i,ac d]<;>rfl
   rw[e];unfold DF;rw[A7,ab,n,aa,j,aa,aa,show Ct9 s=true from j,aa];exact⟨_,_,rfl,rfl⟩
  ·have j:([91]:By).isPrefixOf s=false:=by rw[f,decide_eq_false d]
   unfold DF;rw[A7,ab,n,aa,j,ab,aa];cases k:R9 s with
   | none=>
    have e:D7 s=(M9,14):=by unfold D7;rw[ae i,ae d,k]
    rw[e];exact bad 14
   | some t=>
    have L:t.length<=s.length:=HJ s t k;have M:Ha s=t:=by unfold Ha;rw[k];rfl
    rw[M,R0];simp only[Option.isSome_some,j5,ab,aa,vl];rw[C34];have K:(I3 t).length<=t.length:=by unfold I3;split<;>simp
    have B:D7 s=if F8 (I3 t) then (match pnB (I3 t) with
      | some v=>(⟨2,[],v,z8⟩,0)
      | none=>(M9,14))
     else if (G5 (pcs 46 (I3 t))).2=0 then (
      let name:=ae6 (G5 (pcs 46 (I3 t))).1 [46]
      if 253<name.length then (M9,3) else if F8 name then (M9,14) else (⟨1,name,0,z8⟩,0))
     else (M9,(G5 (pcs 46 (I3 t))).2):=by
     unfold D7;rw[ae i,ae d,k];rfl
    rw[B];generalize I3 t=u at *;rw[R0,aa];cases O:F8 u with
    | true=>
     rw[ac rfl,aa,aa];cases P:pnB u with
     | none=>exact bad 14
     | some v=>exact⟨_,_,rfl,rfl⟩
    | false=>
     rw[ae (by simp),ab,aa,show((1:Nat)==1)=true from rfl,aa];have C:([46]:By).getD 0 0=46:=rfl;rw[C];have J:=Gz 46 u;have D:=Fm 46 u;obtain⟨w,y⟩:=Aq3 (pcs 46 u).length (by omega) (pcs 46 u) [] LF (by simp) (by omega) (λx p=>by have:=(Av p).2;omega);rw[ad4,x9] at w y;by_cases g:(G5 (pcs 46 u)).2=0
     ·rw[ac g];obtain⟨z,N⟩:=Lr _ g;have G:=Aa3 [46] 63 (G5 (pcs 46 u)).1 (λx p=>(Ex (z x p)).le);have F:∀{R:Type} (m:Int->LL->Option R) (h:Nat->LL->Option R),U8 LF LF (pcs 46 u).length ((pcs 46 u).length:Int) 0 (C2 (pcs 46 u)) m h=h (pcs 46 u).length (C2 (G5 (pcs 46 u)).1):=λm h=>w g _ m h
      rw[F];have hA:(G5 (pcs 46 u)).1.length<=1025:=by omega
      have o:af3 (pcs 46 u).length (ad6 0 (C2 (G5 (pcs 46 u)).1))=C2 (G5 (pcs 46 u)).1:=by
       rw[p7,ah1 (by rw[C3];omega)]
      have q:(63+([46]:By).length)*(G5 (pcs 46 u)).1.length<=64*1025:=ai1 (by simp) hA;rw[o,XP,Ao6,C3,R0,R0];simp only[aa];generalize ae6 (G5 (pcs 46 u)).1 [46]=name at *;by_cases c:253<name.length
      ·rw[ac c,A8,aa];exact a 3 _
      ·rw[ae c,A7,ab];cases I:F8 name with
       | true=>exact a 14 _
       | false=>exact⟨_,_,rfl,rfl⟩
     ·rw[ae g];obtain⟨l,e⟩:=y g;simp_all
def Aq6{k0 k1:Unit->Option R}:∀l:List By,(∀x∈l,x.length<=1000000000)->LZ LF l k0 k1=if l.all L4 then k0 () else k1 ()
 | [],_=>rfl
 | x::r,h=>by
  rw[Aq5];unfold HA;rw[D9 (h x (by simp)),aa,ac3];have b:=Aq6 (k0:=k0) (k1:=k1) r (λy a=>h y (by simp[a]));grind
def Dy1(s:By)(a:A2 s.length=true):∃r H,hvn LF s (λ_=>rv (.s (.bool false)) [.box [.s (.bool false)]]) (λd b=>rv (.s (.bool d)) [.box [.s (.bool b)],.box [.bad],.box [.bad],.box [.bad]])=rv r H/\r.stab [] H = .s (.bool (Bk s)):=by
 have h:=M5 a;unfold hvn ZW Bk;by_cases e:253<s.length
 ·rw[A8,show s9 s.length 253=false by rw[ab0,ne_eq,y9];omega];exact⟨_,_,rfl,rfl⟩
 ·rw[A7,ab,a,aa,show s9 s.length 253=true by rw[y9];omega];cases f:F8 s with
  | true=>exact⟨_,_,rfl,rfl⟩
  | false=>
   rw[ab,show((1:Nat)==1&&(0:Int)==(0:Int))=true from rfl,show([46]:By).getD 0 0=46 from rfl,ae4,aa,Aq6 _ (λx c=>by have:=(Av c).2;omega)];cases g:(pcs 46 s).all L4 with
   | true=>exact⟨_,_,rfl,rfl⟩
   | false=>exact⟨_,_,rfl,rfl⟩
def D74(a c d f g h i j:Nat):(n8 (a:Int) c d f g h i j==z8)=(((a:Int)==0)&&(((c:Int)==0)&&(((d:Int)==0)&&(((f:Int)==0)&&(((g:Int)==0)&&(((h:Int)==0)&&(((i:Int)==0)&&(((j:Int)==0)&&true)))))))):=by
 have e:n8 (a:Int) c d f g h i j=[a,c,d,f,g,h,i,j]:=rfl;have q:∀b:Nat,((b:Int)==0)=(b==0):=λb=>by grind
 rw[e];simp only[q,z8];rfl
def Bx9(a:Int)(b:By)(v4 l m n o p q t u:Int)(D:A2 b.length=true)(F:ltN v4 4294967296=true)(G:ok8 l m n o p q t u=true) :
  ∃r H,Qe LF a b v4 l m n o p q t u (λV M W N O P Q R n8 S y z x=>rv (.s (.bool V)) [.box (Tx M W N O P Q R n8 S y z),.arr false 27 1 x])=rv r H/\
   r.stab [] H = .s (.bool (N7 (mkH a b v4 (n8 l m n o p q t u)))):=by
 obtain⟨c,d,e,f,g,i,j,k,rfl,rfl,rfl,rfl,rfl,rfl,rfl,rfl,X⟩:=Th G;obtain⟨v0,v1⟩:=E7.1 F;obtain⟨v,rfl⟩:=z7 v0;have U:((v:Int)==0)=(v==0):=by
  rw[ad2,beq_iff_eq,beq_iff_eq];omega
 have T:(b==([]:By))=b.isEmpty:=by cases b<;>rfl
 have J:(mkH a b (v:Int) (n8 (c:Int) d e f g i j k)).kind=if ltN a 4 then a.toNat else 0:=rfl
 have K:(mkH a b (v:Int) (n8 (c:Int) d e f g i j k)).name=b:=rfl;have L:(mkH a b (v:Int) (n8 (c:Int) d e f g i j k)).v4=v:=c9 v;have I:(mkH a b (v:Int) (n8 (c:Int) d e f g i j k)).v6=n8 (c:Int) d e f g i j k:=rfl;unfold Qe N7;rw[J,K,L,I,D74,U,T];by_cases A:a=1
 ·subst A;rw[show((1:Int)==1)=true from rfl,aa,D,aa,ac (by decide)];cases Bk b with
  | false=>exact⟨_,_,rfl,rfl⟩
  | true=>
   cases (v==0) with
   | false=>exact⟨_,_,rfl,rfl⟩
   | true=>exact⟨_,_,rfl,rfl⟩
 ·rw[show(a==(1:Int))=false by simpa using A,ab];by_cases B:a=2
  ·subst B;rw[show((2:Int)==2)=true from rfl,aa,ae (by decide),ac (by decide)];cases b.isEmpty with
   | false=>exact⟨_,_,rfl,rfl⟩
   | true=>exact⟨_,_,rfl,rfl⟩
  ·rw[show(a==(2:Int))=false by simpa using B,ab];by_cases C:a=3
   ·subst C;rw[show((3:Int)==3)=true from rfl,aa,ae (by decide),ae (by decide),ac (by decide)];cases b.isEmpty with
    | false=>exact⟨_,_,rfl,rfl⟩
    | true=>exact⟨_,_,rfl,rfl⟩
   ·rw[show(a==(3:Int))=false by simpa using C,ab];have w:(if ltN a 4 then a.toNat else 0)=0:=by
     split
     ·rename_i h;have:=E7.1 h;omega
     ·rfl
    rw[w];exact⟨_,_,rfl,rfl⟩
def Dv1{a b c d e f g i:Int}(h:ok8 a b c d e f g i=true):(n8 a b c d e f g i).length=8/\∀x∈n8 a b c d e f g i,x<65536:=by obtain⟨k,l,m,n,o,p,q,r,rfl,rfl,rfl,rfl,rfl,rfl,rfl,rfl,t⟩:=Th h;refine⟨rfl,λx j=>?_⟩;simp only[n8,c9,an0,List.not_mem_nil,or_false] at j;omega
def Bx7(a:Int)(j:By)(v4 b c d e f g h i:Int)(q:A2 j.length=true)(t:ltN v4 4294967296=true)(n:ok8 b c d e f g h i=true) :
  ∃r H,De8 LF a j v4 b c d e f g h i (λI k J y z A B C n8 D l m=>rv (.s (.str I)) [.box (Tx k J y z A B C n8 D l m)])=rv r H/\
   r.stab [] H = .s (.str (Y4 (mkH a j v4 (n8 b c d e f g h i)))):=by
 obtain⟨F,G⟩:=Dv1 n;have v:=Br5 _ F G;unfold De8 Y4;rw[q,t,n];simp only[aa,vl];have u:(mkH a j v4 (n8 b c d e f g h i)).kind=if ltN a 4 then a.toNat else 0:=rfl
 cases w:N7 (mkH a j v4 (n8 b c d e f g h i)) with
 | false=>exact⟨_,_,rfl,rfl⟩
 | true=>
  rw[ac rfl,j5,ab,u];by_cases o:a=1
  ·subst o;rw[ac (by decide)];exact⟨_,_,rfl,rfl⟩
  ·rw[show(a==(1:Int))=false by simpa using o,ab];have k:¬(if ltN a 4 then a.toNat else 0)=1:=by grind
   rw[ae k];by_cases p:a=2
   ·subst p;rw[ac (by decide)];exact⟨_,_,rfl,rfl⟩
   ·rw[show(a==(2:Int))=false by simpa using p,ab];have x:¬(if ltN a 4 then a.toNat else 0)=2:=by grind
    rw[ae x,J4 (by omega),aa,J4 (by rw[k9,ae2];omega),aa];exact⟨_,_,rfl,rfl⟩
def B73{b:Bool->Option R}(p s:By)(a:A2 p.length=true)(c:A2 s.length=true):De0 LF p s b=b (Nw p s):=by have d:=M5 a;unfold De0 Nw;rw[a,c,J4 (by omega)];grind
def Bc4{a:By->By->Int->Option R}(t p:By)(n:Int):Cv1 LF t p n a=a t p n:=rfl
def Ch8{a:By->By->Option R}(t p:By):D03 LF t p a=a t p:=rfl
def Bp0{l R:Type}(g:Yh l)(c:UInt8):∀(m:Nat) (t:By) (n:Nat) (s i:l),t.length<=m->t.length<=1000000000->m<n->T3 g ((pcs c t).map λx=>([.s (.str x)]:List PV)) s=some i->
  ∃u , (∃w:l,∃b:Bool,g [.s (.str u)] w=some (b,i)/\∀(a d:By->By->Int->l->Option R),V0 g LF n [c] t 0 s a d=a [c] u 0 w)\/(∀(a d:By->By->Int->l->Option R),V0 g LF n [c] t 0 s a d=d [c] u 0 i):=by
 intro m
 induction m with
 | zero=>
  intro t n s i z o F h;obtain rfl:=o5.1 (Nat.le_zero.1 z);rcases n with _|n;omega
  rw[Mn (by simp)] at h;simp only[ai8,ah0,T3] at h;refine⟨[],.inl ⟨s,?_⟩⟩;have e:∀(a d:By->By->Int->l->Option R),V0 g LF (n+1) [c] [] 0 s a d=a [c] [] 0 s:=λa d=>by
   rw[V0];rw[Wf (by simp)];rfl
  cases k:g [.s (.str [])] s with
  | none=>rw[k] at h;cases h
  | some q=>
   obtain⟨b,j⟩:=q;rw[k] at h;have:j=i:=by cases b<;>simpa using h
   subst this;exact⟨b,rfl,e⟩
 | succ m G=>
  intro t n s i z o F h;rcases n with _|n;omega
  rcases Aj c t with v|⟨p,r,rfl,v⟩
  ·rw[Mn v] at h;simp only[ai8,ah0,T3] at h;refine⟨t,.inl ⟨s,?_⟩⟩;have e:∀(a d:By->By->Int->l->Option R),V0 g LF (n+1) [c] t 0 s a d=a [c] t 0 s:=λa d=>by
    rw[V0];rw[Wf v,D9 o];rfl
   cases k:g [.s (.str t)] s with
   | none=>rw[k] at h;cases h
   | some q=>
    obtain⟨b,j⟩:=q;rw[k] at h;have:j=i:=by cases b<;>simpa using h
    subst this;exact⟨b,rfl,e⟩
  ·rw[HH v] at h;simp only[ai8,T3] at h;have y:(p++c::r).length=p.length+r.length+1:=by rw[k9,j2];omega
   have A:A1 ((p.length:Int)+0)=((p.length:Nat):Int):=by rw[A6];omega
   have B:A1 ((p.length:Int)+(([c]:By).length:Int))=((p.length+1:Nat):Int):=by
    rw[E6 (by simp;omega) (by simp;omega)];simp
   have C:cut (p++c::r) 0 (p.length:Int)=p:=by rw[U6,c9,am5]
   have D:cut (p++c::r) ((p.length+1:Nat):Int) ((p++c::r).length:Int)=r:=by
    rw[Y9,c9,show p++c::r=(p++[c])++r by simp,ah4 (by simp)]
   have top:∀(a d:By->By->Int->l->Option R),V0 g LF (n+1) [c] (p++c::r) 0 s a d=ydK (g [.s (.str p)] s) λb j=>cond (not b) (d [c] (p++c::r) 0 j) (V0 g LF n [c] r 0 j a d):=λa d=>by
    rw[V0];rw[DI v,D9 o,aa,A7,ab];simp only[vl,A,B,C,D];rw[O8,aa,O8];rfl
   cases k:g [.s (.str p)] s with
   | none=>rw[k] at h;cases h
   | some q=>
    obtain⟨b,j⟩:=q;rw[k] at h top;cases b with
    | false=>
     have:j=i:=by simpa using h
     subst this;exact⟨p++c::r,.inr λa d=>by rw[top];rfl⟩
    | true=>
     simp only at h;obtain⟨u,⟨w,b,e,f⟩|f⟩:=G r n j i (by omega) (by omega) (by omega) h
     ·exact⟨u,.inl ⟨w,b,e,λa d=>by rw[top];exact f a d⟩⟩
     ·exact⟨u,.inr λa d=>by rw[top];exact f a d⟩
def Bp1{j R:Type}(i:Yh j)(p t:By)(n:Int)(s g:j)(h:(A2 t.length&&(p.length==1&&n==0))=true)(o:T3 i ((pcs (p.getD 0 0) t).map λx=>([.s (.str x)]:List PV)) s=some g) :
  ∃d,∀(a:By->By->Int->j->Option R),Ay2 i LF p t n s a=a p d n g:=by
 have m:=D6;simp only[p5,beq_iff_eq] at h;obtain⟨k,l,rfl⟩:=h;obtain⟨c,rfl⟩:=List.length_eq_one_iff.1 l;have q:=M5 k;obtain⟨d,⟨r,b,e,f⟩|f⟩:=Bp0 (R:=R) i c t.length t LF s g (ab8 _) q (by omega) o
 ·refine⟨d,λa=>?_⟩;unfold Ay2;rw[show(((([c]:By).length:Nat):Int)==0)=false from rfl,ab];refine j0 (f _ _) ?_;rw[e];rfl
 ·refine⟨d,λa=>?_⟩;unfold Ay2;rw[show(((([c]:By).length:Nat):Int)==0)=false from rfl,ab];exact f _ _
def Bc5{b:By->Option R}(s p:By)(a:A2 s.length=true):Bz1 LF s p b=b (Iz s p):=by
 have:=M5 a;unfold Bz1 Iz;rw[a];cases h:p.isPrefixOf s with
 | false=>simp
 | true=>
  have:p.length<=s.length:=by rw[Gf] at h;simp at h;exact h.1
  simp (disch:=omega)
def Ci6{a:By->Option R}(s p:By)(b:A2 s.length=true):Do4 LF s p a=a (Iz s p):=by unfold Do4;rw[b];rfl
def Bq5{e:Int->Option R}(s:By):B23 LF s e=e (Jb s):=by unfold B23 Jb QR bWs Qq Al2;generalize (s==([104,116,116,112]:By))=a;generalize (s==([119,115]:By))=b;generalize (s==([104,116,116,112,115]:By))=c;generalize (s==([119,115,115]:By))=d;cases a<;>cases b<;>cases c<;>cases d<;>rfl
def Br0{a:Bool->Option R}(s:By):B24 LF s a=a (G3 s):=by unfold B24;rw[Cd,OY]
def Ab7:By:=[48,49,50,51,52,53,54,55,56,57,43,45,46]
def Ob(c:UInt8):∀l:By,ltI (x6 l c) 0 = !l.contains c
 | []=>rfl
 | b::r=>by
  have f:=Ob c r;have g:=Lib.indexByte_ge r c;unfold x6;by_cases h:b=c
  ·subst h;simp[E4]
  ·have e:(b==c)=false:=by simpa using h
   have d:(c==b)=false:=by simpa using Ne.symm h
   rw[List.contains_cons,d,ae5,<-f,e];simp only[v7,if_false];by_cases a:x6 r c=-1
   ·rw[a];rfl
   ·have:(x6 r c==-1)=false:=by simpa using a
    rw[this,ae (by simp),A7,A7]
def Aw9:∀b:UInt8,Bw b=(Y5 b||Ab7.contains b):=by
 have:∀n:Fin 256,Bw (aa0 n.val)=(Y5 (aa0 n.val)||Ab7.contains (aa0 n.val)):=by decide +kernel
 intro b;have h:=this ⟨b.toNat,b.toNat_lt⟩;simpa using h
def Az4{c:Unit->Option R}{d:By->Int->Int->Bool->Option R}(s:By)(i:Nat)(b:UInt8)(l:Bool)(n:Int):Hl s (i:Int) (b.toNat:Int) l n c d=if l then d s n i false else if i=0 then c () else if Ab7.contains b then d s n i false else c ():=by
 unfold Hl;cases l with
 | true=>rfl
 | false=>
  rw[j4,aa,ae (by simp)];by_cases a:i=0
  ·subst a;rfl
  ·have f:=b.toNat_lt;rw[show((i:Int)==0)=false by simpa using a,ab,H4,aa,ae a];simp only[vl];rw[Kr];have e:=Ob b Ab7;rw[show([48,49,50,51,52,53,54,55,56,57,43,45,46]:By)=Ab7 from rfl,e];cases Ab7.contains b<;>rfl
def ON{a:Unit->Option R}{c:By->Option R}(s:By)(r:s.length<=1000000000)(n i:Nat)(p:i<s.length) :
  P3 LF (n+1) s (s.length:Int) (i:Int) a c=if Y5 (s.getD i 0) then P3 LF n s s.length ((i+1:Nat):Int) a c else if i=0 then a () else if Ab7.contains (s.getD i 0) then P3 LF n s s.length ((i+1:Nat):Int) a c else a ():=by
 have k:A1 ((i:Int)+1)=((i+1:Nat):Int):=by rw[A6];rfl
 rw[P3,A8,H4,F6];simp only[aa];generalize s.getD i 0=b;have go:∀l,Hl s (i:Int) (b.toNat:Int) l (s.length:Int) (λ_=>a ()) (λj g h m=>P3 LF n j g (A1 (h+(1:Int))) a c)=if l then P3 LF n s s.length ((i+1:Nat):Int) a c else if i=0 then a () else if Ab7.contains b then P3 LF n s s.length ((i+1:Nat):Int) a c else a ():=λl=>by
  rw[Az4,k]
 have q:Y5 b=((s9 97 b.toNat&&s9 b.toNat 122)||(s9 65 b.toNat&&s9 b.toNat 90)):=rfl;by_cases f:97<=b.toNat
 ·rw[A7,j4,aa];by_cases d:b.toNat<=122
  ·rw[A7,j4,aa,ac (Cc.2 (.inl ⟨f,d⟩))];unfold HV;simp only[k]
  ·rw[A8,j5,ab,A7,j4,aa,A8,j5];have e:Y5 b=false:=by
    rw[<-ak6,Cc];omega
   rw[e];exact go false
 ·rw[A8,j5,ab];by_cases o:65<=b.toNat
  ·rw[A7,j4,aa];have e:Y5 b = !ltI 90 (b.toNat:Int):=by
    rw[ad2,Cc,Bool.not_eq_true',Yy];omega
   rw[e];exact go _
  ·rw[A8,j5,ab];have e:Y5 b=false:=by
    rw[<-ak6,Cc];omega
   rw[e];exact go false
def Cj6{k0:Unit->Option R}{k1:By->Option R}(s:By)(d:s.length<=1000000000):∀(r i n:Nat),i+r=s.length->r<n->0<i->
  P3 LF n s (s.length:Int) (i:Int) k0 k1=if (s.drop i).all Bw then k1 s else k0 ():=by
 intro r
 induction r with
 | zero=>
  intro i n b c a;rcases n with _|n;omega
  rw[P3];rw[A7,o0 (by omega)];rfl
 | succ r e=>
  intro i n b c a;rcases n with _|n;omega
  rw[ON s d n i (by omega),e (i+1) n (by omega) (by omega) (by omega),G2 s i (by omega),ac3,Aw9,ae (by omega:¬i=0)];cases Y5 (s.getD i 0) with
  | true=>simp
  | false=>
   cases Ab7.contains (s.getD i 0)<;>simp
def Cj7{k0:Bool->Option R}(s:By)(f:A2 s.length=true):C42 LF s k0=k0 (Fh s):=by
 have c:=M5 f;have g:=D6;unfold C42;obtain⟨n,d⟩:∃m,LF=m+1:=⟨LF-1,by omega⟩
 cases s with
 | nil=>
  rw[show @P3 R LF LF = @P3 R LF (n+1) by rw[<-d]];rfl
 | cons b t=>
  rw[show @P3 R LF LF = @P3 R LF (n+1) by rw[<-d]];refine j0 (ON (b::t) c n 0 (by simp)) ?_;have e:=Cj6 (k0:=λ_=>k0 false) (k1:=λa=>k0 (not (a==([]:By)))) (b::t) c t.length 1 n (by simp;omega) (by simp at c;omega) (by omega);rw[ai5];simp only[ao9,if_true];rw[show(((0+1:Nat):Int))=((1:Nat):Int) from rfl,e];rw[show(b::t).drop 1=t from rfl,show Fh (b::t)=(Y5 b&&t.all Bw) from rfl];cases Y5 b with
  | false=>rfl
  | true=>cases t.all Bw<;>rfl
def Ab9:∀(s:By) (n:Int),GL.go n s=(Zg n s).getD 0
 | [],n=>rfl
 | b::r,n=>by
  unfold GL.go Zg;split
  ·exact Ab9 r _
  ·rfl
def Ci8{a:Unit->Option R}{c:Int->Option R}(s:By)(y:s.length<=1000000000):∀(r i n:Nat) (v:Int),i+r=s.length->r<n->-1<=v->v<=65536->
  Pk LF n s v (s.length:Int) (i:Int) a c=match Zg v (s.drop i) with|some m=>c m|none=>a ():=by
 intro r
 induction r with
 | zero=>
  intro i n v p q j k;rcases n with _|n;omega
  rw[Pk];rw[A7,o0 (by omega)];rfl
 | succ r t=>
  intro i n v p q j k;rcases n with _|n;omega
  have d:A1 ((i:Int)+1)=((i+1:Nat):Int):=by rw[A6];rfl
  rw[Pk];rw[A8,H4,F6,G2 s i (by omega),d];have x:=(s.getD i 0).toNat_lt;generalize s.getD i 0=b at *;unfold Zg;simp only[aa,vl];by_cases l:b.toNat<48
  ·rw[A8,aa,I9]
  ·rw[A7,ab];by_cases o:57<b.toNat
   ·rw[A8,aa,I9]
   ·rw[A7,ab,ac (show 48<=b.toNat/\b.toNat<=57 by omega)];have u:(if (0:Int) > v then (0:Int) else v)=max v 0:=by omega
    have e:A1 (10*max v 0)=10*max v 0:=A6;have f:wu8 ((b.toNat:Int)-48)=((b.toNat-48:Nat):Int):=by rw[O2];omega
    have g:A1 ((b.toNat-48:Nat):Int)=((b.toNat-48:Nat):Int):=A6;have h:A1 (10*max v 0+((b.toNat-48:Nat):Int))=10*max v 0+((b.toNat-48:Nat):Int):=A6;rw[u,e,f,g,h];have w:(if (65536:Int)<10*max v 0+((b.toNat-48:Nat):Int) then (65536:Int) else 10*max v 0+((b.toNat-48:Nat):Int))=min (10*max v 0+((b.toNat-48:Nat):Int)) 65536:=by omega
    rw[w];exact t (i+1) n _ (by omega) (by omega) (by omega) (by omega)
def Ci9{a:Int->Bool->Option R}(s:By)(b:A2 s.length=true):Do7 LF s a=a (GL s) (Zh (-1) s).isSome:=by
 have d:=M5 b;have c:=D6;unfold Do7;refine j0 (Ci8 s d s.length 0 LF (-1) (by omega) (by omega) (by omega) (by omega)) ?_;rw[p7,Ab8,show GL s=GL.go (-1) s from rfl,Ab9];cases Zg (-1) s with
 | none=>rfl
 | some m=>
  simp only[al0,ag7];rw[Cd];by_cases h:m<65536
  ·rw[decide_eq_true h,ac h];rfl
  ·rw[decide_eq_false h,ae h];rfl
def Cw3{s:By}{p:Int}(h:Zh (-1) s=some p):GL s=p:=by
 rw[Ab8] at h;rw[show GL s=GL.go (-1) s from rfl,Ab9];cases a:Zg (-1) s with
 | none=>rw[a] at h;cases h
 | some m=>
  rw[a] at h;simp only[ag7] at h;split at h
  ·exact ah7 h
  ·cases h
def hpT(name tail b user a:By):Y0 × Nat:=
 if (D7 name).2≠0 then (De,(D7 name).2)
 else match Zh (-1) (tail.drop 1) with
  | none=>(De,16)
  | some p=>(⟨b,user,(D7 name).1,if p=Jb b then -1 else p,a⟩,0)
def hpC(name tail b user a:By):Y0 × Nat:=if tail≠[]/\tail.head?≠some 58 then (De,4) else hpT name tail b user a
def ZU(c user b a:By):R8 c user b a=match Rq a with|none=>(De,4)|some (name,tail)=>hpC name tail c user b:=by
 unfold R8;cases Rq a with
 | none=>rfl
 | some q=>
  obtain⟨name,tail⟩:=q;rfl
def Wb{t:By}(h:t=[]\/t.head? = some 58):Iz t [58]=t.drop 1:=by
 rcases h with rfl|h
 ·rfl
 ·cases t with
  | nil=>cases h
  | cons b r=>
   simp only[List.head?_cons,j9] at h;subst h;simp[Iz]
def AU(name tail:By)(f:name.length<=1000000000)(j:tail.length<=1000000000)(h:tail=[]\/tail.head? = some 58)(d u:By)(v:Int)(y:By)(w n8 x k l m n o r:Int)(c:By) :
  ∃B H,∀(R:Type) (a:Int->Blk->By->By->Int->By->Int->Int->Int->Int->Int->Int->Int->Int->Int->Int->By->List Blk->Option R),X9 name tail d u v y w n8 x k l m n o r (-1) c a=(λq=>a (uE q) B (uS q) (uU q) (uK q) (uN q) (uV q) (uA q 0) (uA q 1) (uA q 2) (uA q 3) (uA q 4) (uA q 5) (uA q 6) (uA q 7) (uP q) (uR q) H) (hpT name tail d u c):=by
 have i:(tail.drop 1).length<=1000000000:=by rw[j7];omega
 by_cases b:(D7 name).2=0
 ·cases g:Zh (-1) (tail.drop 1) with
  | none=>
   apply w8;apply w8;intro R a;unfold X9 hpT;rw[D9 f,aa,Wb h,D9 j];simp only[vl,aa];rw[b,D9 i,g];rfl
  | some p=>
   have t:=Cw3 g;by_cases e:p=Jb d
   ·apply w8;apply w8;intro R a;unfold X9 hpT;rw[D9 f,aa,Wb h,D9 j];simp only[vl,aa];rw[b,D9 i,g,t,show(p !=Jb d)=false by simpa using e];simp only[e,if_true];rfl
   ·apply w8;apply w8;intro R a;unfold X9 hpT;rw[D9 f,aa,Wb h,D9 j];simp only[vl,aa];rw[b,D9 i,g,t,show(p !=Jb d)=true by simpa using e];simp only[e,if_false];rfl
 ·apply w8;apply w8;intro R a;unfold X9 hpT;rw[D9 f,aa];simp only[vl];rw[show(((D7 name).2:Int)!=0)=true by simpa using b,aa,ac b];rfl
def Pl(name tail:By)(w:name.length<=1000000000)(x:tail.length<=1000000000)(l m:By)(p:Int)(v:By)(t n8 u d f g i j k:Int)(a:By) :
  ∃B H,∀(R:Type) (c:Int->Blk->By->By->Int->By->Int->Int->Int->Int->Int->Int->Int->Int->Int->Int->By->List Blk->Option R),R3 name tail l m p v t n8 u d f g i j k (-1) a c=(λq=>c (uE q) B (uS q) (uU q) (uK q) (uN q) (uV q) (uA q 0) (uA q 1) (uA q 2) (uA q 3) (uA q 4) (uA q 5) (uA q 6) (uA q 7) (uP q) (uR q) H) (hpC name tail l m a):=by
 cases tail with
 | nil=>
  obtain⟨B,H,e⟩:=AU name [] w x (.inl rfl) l m p v t n8 u d f g i j k a;refine⟨B,H,λR c=>?_⟩;unfold R3 hpC;exact e R c
 | cons b r=>
  by_cases n:b=58
  ·subst n;obtain⟨B,H,e⟩:=AU name (58::r) w x (.inr rfl) l m p v t n8 u d f g i j k a;refine⟨B,H,λR c=>?_⟩;unfold R3 hpC;rw[K6 (by omega) (by simp),ae (by simp)];exact e R c
  ·apply w8;apply w8;intro R c;unfold R3 hpC;have o:(((b.toNat:Int))!=(58:Int))=true:=by
    rw[bne_iff_ne];intro h;have y:b.toNat=58:=by omega
    exact n (am1.1 y)
   rw[K6 (by omega) (by simp),ac (by simpa using n),Iq,ai5,o];rfl
def By1{c:UInt8}{s:By}(h:We c s=none):x6 s c=-1:=by rw[Lf,h]
def By2{c:UInt8}{s:By}{k:Nat}(h:We c s=some k):x6 s c=(k:Int)/\k<s.length:=by obtain⟨p,r,rfl,_,rfl⟩:=SG h;exact⟨by rw[Lf,h],by simp⟩
def Dz5(c:UInt8)(s:By):([c]:By).isPrefixOf s=(s.head? == some c):=by
 cases s with
 | nil=>rfl
 | cons b r=>
  grind
abbrev KU(R:Type):=By->By->Int->By->Int->Int->Int->Int->Int->Int->Int->Int->Int->Int->By->Int->List Blk->Option R
abbrev RA(a:KU R)(q:Y0 × Nat)(H:List Blk):Option R:=a (uS q) (uU q) (uK q) (uN q) (uV q) (uA q 0) (uA q 1) (uA q 2) (uA q 3) (uA q 4) (uA q 5) (uA q 6) (uA q 7) (uP q) (uR q) (uE q) H
def Bq3(u:By)(J:Int)(O:By)(v4 y z A C D F G I:Int)(t a:By)(h2:A2 a.length=true) :
  ∃H,∀(R:Type) (o:KU R),Wu LF u [] J O v4 y z A C D F G I (-1) t a o=RA o (J2 u t a) H:=by
 have ha:=M5 h2;have ge:=MI 64 a;have key:∀(x b:By),b.length<=1000000000->∃H,∀(R:Type) (o:KU R),(cond (A2 (j1 b)) (cond (ae9 (([91]:By)) b)
   (cond (A2 (j1 b))
    (vl (x6 b (u8n (93:Int))) λc=>
    cond (ltI c (0:Int))
     (o ([]:By) ([]:By) 0 ([]:By) 0 0 0 0 0 0 0 0 0 0 ([]:By) 4 [(bU u x J O v4 y z A C D F G I (-1) t),bU0])
     (cond (L3 (0:Int) (A1 (c+(1:Int))) (j1 b))
      (cond (L3 (A1 (c+(1:Int))) (↑(j1 b):Int) (j1 b))
       (R3 (cut b (0:Int) (A1 (c+(1:Int)))) (cut b (A1 (c+(1:Int))) (↑(j1 b):Int)) u x J O v4 y z A C D F G I (-1) t (λn0 T P Q K S L M n8 N f g i j l m n q=>o P Q K S L M n8 N f g i j l m n n0 (T::((bU P Q K S L M n8 N f g i j l m n)::q))))
       (none))
      (none)))
    (none))
   (cond (A2 (j1 b))
    (vl (x6 b (u8n (58:Int))) λd=>
    cond (not (ltI d (0:Int)))
     (cond (L3 (0:Int) d (j1 b))
      (cond (L3 d (↑(j1 b):Int) (j1 b))
       (R3 (cut b (0:Int) d) (cut b d (↑(j1 b):Int)) u x J O v4 y z A C D F G I (-1) t (λn0 T P Q K S L M n8 N f g i j l m n q=>o P Q K S L M n8 N f g i j l m n n0 (T::((bU P Q K S L M n8 N f g i j l m n)::q))))
      (none))
     (none))
     (R3 b ([]:By) u x J O v4 y z A C D F G I (-1) t (λn0 T P Q K S L M n8 N f g i j l m n q=>o P Q K S L M n8 N f g i j l m n n0 (T::((bU P Q K S L M n8 N f g i j l m n)::q)))))
    (none))) none)=RA o (R8 u x t b) H:=by
  intro x b hb;rw[ZU];unfold Rq;have w:A2 b.length=true:=D9 hb;have W:u8n (93:Int)=93:=rfl;have U:u8n (58:Int)=58:=rfl;by_cases v:b.head? = some 91
  ·rw[ac v];have Z:([91]:By).isPrefixOf b=true:=by rw[Dz5,v];rfl
   cases Y:We 93 b with
   | none=>
    apply w8;intro R o;rw[w,Z,W,By1 Y];rfl
   | some k=>
    obtain⟨e,hk⟩:=By2 Y;have e1:A1 ((k:Int)+1)=((k+1:Nat):Int):=by rw[A6];rfl
    obtain⟨B,H,X⟩:=Pl (b.take (k+1)) (b.drop (k+1)) (by rw[x3];omega) (by rw[j7];omega) u x J O v4 y z A C D F G I t;apply w8;intro R o;rw[w,Z,W,e];simp only[vl,aa];rw[A7,ab,e1,O8,O8,aa,aa,U6,Y9,c9,X]
  ·rw[ae v];have Z:([91]:By).isPrefixOf b=false:=by rw[Dz5];simpa using v
   cases Y:We 58 b with
   | none=>
    obtain⟨B,H,X⟩:=Pl b [] hb (by simp) u x J O v4 y z A C D F G I t;apply w8;intro R o;rw[w,Z,U,By1 Y];simp only[vl,aa,ab];rw[A8,j5,ab,X]
   | some k=>
    obtain⟨e,hk⟩:=By2 Y;obtain⟨B,H,X⟩:=Pl (b.take k) (b.drop k) (by rw[x3];omega) (by rw[j7];omega) u x J O v4 y z A C D F G I t;apply w8;intro R o;rw[w,Z,U,e];simp only[vl,aa,ab];rw[A7,j4,aa,O8,O8,aa,aa,U6,Y9,c9,X]
 have V:u8n (64:Int)=64:=rfl;unfold J2;by_cases h:0<=N1 64 a
 ·obtain⟨p,r,rfl,_,hl⟩:=Bb2 h;rw[ac h,hl,c9];rw[k9,j2] at ha;obtain⟨H,e⟩:=key ((p++64::r).take p.length) ((p++64::r).drop (p.length+1)) (by rw[j7,k9,j2];omega);refine⟨H,λR o=>?_⟩;refine j0 ?_ (e R o);have e1:A1 ((p.length:Int)+1)=((p.length+1:Nat):Int):=by rw[A6];rfl
  have ln:(p++64::r).length=p.length+r.length+1:=by rw[k9,j2];omega
  unfold Wu;rw[h2,V,hl];simp only[vl,aa];rw[A7,j4,aa,e1,O8,O8,aa,aa,U6,Y9,c9,c9];rfl
 ·rw[ae h];obtain⟨H,e⟩:=key [] a ha;refine⟨H,λR o=>?_⟩;refine j0 ?_ (e R o);unfold Wu;rw[h2,V];simp only[vl,aa];rw[A8,j5,ab];rfl
def Tru(x:Option (PV × List Blk × Unit)):Prop:=∃H,x=some (.s (.bool true),H,())
def eq8{v6:List Nat}(h:v6.length=8):∃a b c d e f g i,v6=[a,b,c,d,e,f,g,i]:=by
 match v6,h with
 | [a,b,c,d,e,f,g,i],_=>exact⟨a,b,c,d,e,f,g,i,rfl⟩
def Cv8{h v4:Nat}{j:By}{a b c d e f g i:Nat}(k:h<4):mkH (h:Int) j (v4:Int) (n8 a b c d e f g i)=⟨h,j,v4,[a,b,c,d,e,f,g,i]⟩:=by unfold mkH n8;rw[ac (E7.2 ⟨by omega,by omega⟩)];simp only[c9]
def Bz8{a b c d e f g i:Nat}(h:∀x∈[a,b,c,d,e,f,g,i],x<65536):ok8 a b c d e f g i=true:=by
 have q:∀x∈[a,b,c,d,e,f,g,i],ltN (x:Int) 65536=true:=λx j=>E7.2 ⟨by omega,by have:=h x j;omega⟩
 simp[ok8,q a,q b,q c,q d,q e,q f,q g,q i]
def Sg{h:C1}(a:N7 h=true):h.name.length<=253:=by
 unfold N7 at a;split at a
 ·simp only[p5] at a;exact(Pm.1 a.1.1).le
 ·split at a
  ·simp only[p5,ak8] at a;rw[a.1];simp
  ·split at a
   ·simp only[p5,ak8] at a;rw[a.1];simp
   ·cases a
def LU{h:C1}(ok:Ga h):(Y4 h).length<=300:=by
 cases a:N7 h with
 | false=>rw[LT a];simp
 | true=>
  have d:=Sg a;have c:=Br5 _ ok.v6.1 ok.v6.2;have b:=C47 _ ok.v4;unfold Y4;rw[ac a];split
  ·omega
  ·split
   ·omega
   ·simp only[j2,k9,x9];omega
def Bx8{h0 b c d e f g i j a:Int}{h1:By}(k:ltN b 4294967296=true)(l:ok8 c d e f g i j a=true):Ga (mkH h0 h1 b (n8 c d e f g i j a)):=by
 have⟨m,n⟩:=E7.1 k;refine⟨by show b.toNat<_;omega,Dv1 l,?_⟩;show(if ltN h0 4 then h0.toNat else 0)<4;split
 ·rename_i h;have:=E7.1 h;omega
 ·omega
end
end Go.Proofs.YtddlcgjamdbinaaGreatDoor.E
