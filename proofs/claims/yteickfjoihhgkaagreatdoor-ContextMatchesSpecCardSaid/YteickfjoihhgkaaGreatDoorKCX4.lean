/-
  Parts of the proof, merged by a program of the prover's own; no condition.
-/
import Derived.Test.YteickfjoihhgkaaGreatDoorKCX3
import Derived.KernelRfl
import Derived.Lib.MapLaws
import Derived.Lib.SlicesCompact
import Derived.Lib.TrimUEq
import Derived.Lib.ValidLaws
import Derived.Shelf.LaysM
import Derived.Shelf.Slices.CompactS
import Derived.Shelf.Slices.In.SortNone
import Derived.Shelf.Small.Strs
import Derived.Shelf.Sort.Plain
import Derived.Shelf.Spec.SlicesInsert
import Derived.Shelf.Spec.SlicesInsertGrow
import Derived.Shelf.Spec.TrailingZeros
import Derived.Shelf.Strconv.Itoa3
import Derived.Shelf.Strings.Count
import Derived.Shelf.Strings.Cut
import Derived.Shelf.Strings.IndexAnyAll
import Derived.Shelf.Strings.OnBuilder
import Derived.Shelf.Strings.Search3
import Derived.Shelf.Unicode.ValidAny
import Derived.Shelf.Utf8.RuneCount
import Derived.Test.YteickfjoihhgkaaGreatDoorProg
open List renaming length->c9,length_cons->j4,map->j9,length_append->o0,length_drop->o5,getD_eq_getElem?_getD->o6,drop_of_length_le->o7,length_eq_zero_iff->o9,length_nil->p7,length_map->v7,getD->w6,all->w8,drop_zero->w9,length_take->x3,isEmpty->x4,getElem?_eq_getElem->x5,replicate->x7,mem_cons->aa0,append_assoc->aa1,length_pos_iff->aa2,countP_le_length->aa5,map_cons->aa6,toArray->aa7,append_nil->ab0,all_eq_true->ab3,nil_append->ab4,all_cons->ab6,any_cons->ab7,map_congr_left->ab8,pairwise_cons->ab9,mem_cons_of_mem->ac0,map_map->ac1,isPrefixOf->ac5,mem_singleton->ac6,drop->ac7,flatMap_cons->ac9,length_singleton->ad1,mem_of_mem_drop->ad6,mem_of_mem_take->ad7,foldl_cons->ad9,getD_cons_zero->ae0,take->ae1,cons_append->af0,countP_cons_of_neg->af1,getElem?_cons_zero->af2,isEmpty_iff->af3,le_antisymm->af4,take_length->af5,all_map->af7,map_nil->af8,take_of_length_le->af9,drop_left'->ag0,map_append->ag1,mem_append->ag2,lt_irrefl->ag8,countP_pos_iff->ah1,getD_cons_succ->ah2,lt_trans->ah5,sum_cons->ah6,set->ai4,isEmpty_nil->ai7,not_mem_nil->ai8,append->aj3,not_lt->aj4,drop_drop->aj8,take_left->aj9,map_id''->ak5,map_id->am5
open Int renaming toNat_natCast->j0,toNat->k9,eq_ofNat_of_zero_le->x6,add->ac4,tdiv->ag6,tmod->ah9,mul_nonneg->aj7
open Bool renaming not_true->j5,not_false->j7,false_eq_true->p9,and_eq_true->s9,eq_iff_iff->y5,eq_false_iff->aa8,true_and->ab5,and_true->ac2,false_or->ac3,or_eq_true->ad8,false_and->ag5,or_false->ah3,not_eq_true'->ah7,not_eq_true->ai5,true_or->al4
open Eq renaming trans->j8
open Option.some renaming injEq->o8,inj->ag4
open Go.Proofs.Tryz renaming prog->p4,f155->ah0,f134->aj0,f156->aj1,f12->ak1,f43->ak2,f52->ak3,f88->ak4,f120->ak7,f126->ak8,f128->ak9,f132->al0,f169->al1,f182->al2,f197->al3,f24->am7,f49->am8,f54->am9,f84->an0,f94->an1,f4->ao6
open Nat renaming ble->p5,ble_eq->x8,le_refl->aa3,zero_le->ab2,ble_eq_true_of_le->ad2,le_of_ble_eq_true->ad3,div_le_self->ag3,mul_le_mul->ag9,min_eq_left->aj5,mod_lt->ak0,le_trans->al9,pow_succ->am0,zero_add->am1
open Go.Lib renaming decodeL->p6,indexByte->x9,compact->y8,compactUpTo->aa9,decodeL_width->ac8,compactUpTo_succ->ad4,join->ad5,runeCountL->ae2,decodeL_drop->ae8,keeps->ae9,decodeL_le->ag7,decodeL_N->ah4,deBruijn64tab->ai0,decodeL_ascii->ai1,firstTab->ai2,runeCountFrom->ai3,decodeL_rune->ai6,decodeN->aj2,index->ak6,cut->al5,indexAny->al6,pow10Tab->al7,validGoD->al8
open Exists renaming intro->s8
open Go.Fn renaming func->v8
open Go.Shelf renaming Ren->y7
open UInt8 renaming ofNat->y9,toNat_inj->aj6,toNat->an2
open Go.Utf8 renaming decode->aa4
open Option renaming map_some->ab1,isSome_map->ae6,isSome->ae7,bind_some->af6,getD_some->ai9
open Go.RowKit.Below renaming refl->ad0
open Classical renaming byContradiction->ae3,not_not->ah8
open Decidable renaming byContradiction->ae4
open Function renaming comp_def->ae5
open Go.RowKit renaming Below->am2
open BEq renaming comm->am3
open Go.Proofs.LaysM renaming n171->am4
open Go.Proofs.Lays renaming n137->an3,n138->an4,n143->an5,n145->an6,n153->an7,n156->an8,n190->an9,n194->ao0,n195->ao1,n196->ao2
open Go.Proofs.Lays2 renaming n21->ao3
open Go.Proofs.Lays7 renaming n27->ao4
set_option maxRecDepth 100000
variable{R:Type}
namespace Go.Proofs.YteickfjoihhgkaaGreatDoor.E
set_option linter.all false
section
open Go Go.Proofs
section
variable {W R : Type} (L : Nat) (Q : G1) (Y : Yh W) (s : W) (k : Out -> St W -> Option R)
noncomputable def RD(L:Nat):=mkC L 89 [] [(1,[2]),(0,[0])] [] [2]
def Af2(L:Nat)(a:Int)(b:Bool->Option R):Option R:=b (ltI (8:Int) a)
def Bq4(d:Nat)(a:Int):evC (RD L) (d+1) W Y 89 [.s (.int .i64 a)] [] s=Af2 L a (λb=>some (.s (.bool b),[],s)):=evT Tryz.f89 λQ=>by
 unfold Af2;kernel_rfl
noncomputable def Am9(L:Nat):=mkC L 123 [] [(5,[2]),(2,[2]),(4,[2]),(3,[10]),(1,[0,2]),(0,[0])] [(0,[])] [2]
def EE(a:Int)(d:Bool)(b:Unit->Option R)(c:Bool->Option R):Option R:=cond d (b ()) (cond (ltI (57343:Int) a) (cond (not (ltI (1114111:Int) a)) (b ()) (c (not (ltI (1114111:Int) a)))) (c false))
def Ag6(L:Nat)(b:Int)(a:Bool->Option R):Option R:=cond (not (ltI b (0:Int))) (EE b (ltI b (55296:Int)) (λ_=>a true) (λc=>a false)) (EE b false (λ_=>a true) (λd=>a false))
def Co8(d:Nat)(a:Int):evC (Am9 L) (d+1) W Y 123 [.s (.int .i32 a)] [] s=Ag6 L a (λa=>some (.s (.bool a),[],s)):=evT Tryz.f123 λQ=>by
 unfold Ag6;kernel_rfl
noncomputable abbrev Bl:Code:=D7 ak4
noncomputable def N9(L:Nat):=mkC L 88 [(38,[4,170]),(29,[0,3,2,0,0,4,0,0]),(25,[0,3,2,0,0,4,0]),(12,[0,3,2,0,0,2]),(5,[0,3,2,0,0])] [(35,[4]),(42,[4]),(41,[4]),(40,[5,169,5]),(39,[5,0,168]),(38,[175,0,0]),(37,[175]),(44,[4]),(33,[4]),(22,[4]),(21,[8,0,3,94]),(20,[8,0,3]),(26,[0,6,0,0,4,0]),(32,[4]),(30,[0,6,0,0,4,0,0]),(31,[0,6,0,0,4,0,0,139]),(29,[0,6,0,0,4,0,0,126]),(28,[0,6,0,0,4,0,0]),(27,[0,6,0,0,4,0,123]),(25,[0,6,0,0,4,0,108]),(24,[0,6,0,0,4,0]),(23,[0,6,0,0,4]),(19,[4]),(18,[0,6,0,0,88]),(17,[0,6,0,0,0]),(16,[0,6,0,0,0]),(15,[4]),(13,[0,6,0,0,2]),(14,[0,6,0,0,2,51]),(12,[0,6,0,0,2,38]),(11,[0,6,0,0,2]),(10,[0,6,0,0]),(9,[4]),(8,[0,6,0,0,1,31]),(7,[0,6,0,0,1]),(6,[0,6,0,0,23]),(5,[0,6,0,0,16]),(4,[0,6,0,0]),(3,[0,6,0,0]),(2,[0,6,0]),(1,[0,6]),(43,[0,0,181]),(36,[0,0,169]),(34,[0,0,158]),(0,[0,0])] [(0,[4]),(9,[]),(10,[175]),(5,[]),(6,[0,6,0,0,4,0]),(7,[8,0]),(8,[0,6,0,0,4,0,0]),(1,[]),(2,[0,6,0,0]),(3,[8,0]),(4,[0,6,0,0,2])] [4] [(86,Xm),(123,KB)] [86,123]
def Fd(L n:Nat)(self:Nat->Option R)(a:Nat)(c:Int->Nat->Option R)(d:Nat->Option R):Option R:=cond (decide (a<3)) (vl ((aa4 ⟨aa7 (([47,63,35]:By))⟩ a)).1 λb=>cond (b==(65533:Int)) (c (↑a:Int) (a+((aa4 ⟨aa7 (([47,63,35]:By))⟩ a)).2)) (self (a+((aa4 ⟨aa7 (([47,63,35]:By))⟩ a)).2))) (d a)
def Bb(L n:Nat)(a:Nat)(b:Int->Nat->Option R)(c:Nat->Option R):Option R:=C43 (α:=Nat->Option R) (λ_=>none) (λn self a=>Fd L n self a b c) n a
def Gc(L n:Nat)(a:Nat)(b:Int->Nat->Option R)(c:Nat->Option R):Bb L (n+1) a b c=Fd L n (λa=>Bb L n a b c) a b c:=rfl
def Ae9(n:Nat)(a:Nat):D4 1 ((N9 L).keep 38) (bd (N9 L) Q Y (cd [1,0,1,1,1,0,0,1,0,0] Bl)) n ⟨gp [(175,.it 0)] 11,[.iter (([47,63,35]:By)) a],s⟩ k =
 Bb L n a (λn0 c=>k .ret ⟨gp [(4,.s (.int .i64 n0))] 182,[.iter (([47,63,35]:By)) c],s⟩) (λa=>k (.exit 9) ⟨gp [] 187,[.iter (([47,63,35]:By)) a],s⟩):=by
 induction n generalizing a with
 | zero=>rfl
 | succ n b=>rw[Gc];unfold Fd;exact(j8 (by kernel_rfl) (A0 (A6 λd=>(A0 rfl (b (a+((aa4 ⟨aa7 (([47,63,35]:By))⟩ a)).2)))) rfl))
def Xd(L n:Nat)(self:Kcg R)(b:By)(a f c:Int)(g:Int->Int->Option R):Option R:=cond (ltI c (↑(c9 b):Int)) (cond (inR (A1 (f-c)) 3) (vl (bAt (([47,63,35]:By)) (A1 (f-c))) λd=>cond (inR (A1 (a-c)) (c9 b)) (vl (bAt b (A1 (a-c))) λe=>cond (d !=e) (none) (self b a f (A1 (c+(1:Int))))) (none)) (none)) (g a f)
def Mz(L n:Nat)(b:By)(a c d:Int)(e:Int->Int->Option R):Option R:=C43 (α:=Kcg R) (λ_ _ _ _=>none) (λn self b a c d=>Xd L n self b a c d e) n b a c d
def A10(L n:Nat)(b:By)(a c d:Int)(e:Int->Int->Option R):Mz L (n+1) b a c d e=Xd L n (λb a c d=>Mz L n b a c d e) b a c d e:=rfl
def Zt(n:Nat)(b:By)(a d e:Int):D4 0 ((N9 L).keep 12) (bd (N9 L) Q Y (cd [1,0,1,1,1,1,1,1,0,1,1,1,1,0,0,0,1,0,0,1,0,1,0,0] Bl)) n ⟨gp [(0,.s (.str (([47,63,35]:By)))),(6,.s (.str b)),(0,.s (.int .i64 a)),(0,.s (.int .i64 d)),(2,.s (.int .i64 e))] 174,[],s⟩ k =
 Mz L n b a d e (λc h=>k (.exit 3) ⟨gp [(8,.s (.int .i64 c)),(0,.s (.int .i64 h))] 177,[],s⟩):=by
 induction n generalizing b a d e with
 | zero=>rfl
 | succ n i=>rw[A10];unfold Xd;exact(j8 (by kernel_rfl) (A0 (A0 (A6 λf=>(A0 (A6 λg=>(A0 rfl (i b a d (A1 (e+(1:Int)))))) rfl)) rfl) rfl))
def Pk(L n:Nat)(self:By->Int->Option R)(b:By)(a:Int)(m:Int->Option R)(o:Unit->Option R):Option R:=cond (ltI a (3:Int)) (cond (inR a 3) (vl (bAt (([47,63,35]:By)) a) λj=>cond (inR a (c9 b)) (cond (j !=(bAt b a)) (vl (A1 (a+(1:Int))) λe=>cond (J5 e (3:Int) 3) (vl (cut (([47,63,35]:By)) e (3:Int)) λg=>cond (inR a (c9 b)) (cond (A2 (c9 g)) (cond (inR (bAt b a) 256) (vl (x9 g (u8n (bAt b a))) λf=>cond (ltI f (0:Int)) (m (-1)) (vl (A1 (f+(1:Int))) λl=>Mz L L b a (A1 (a+l)) 1 (λc h=>m (A1 (h-c))))) (none)) (none)) (none)) (none)) (Mz L L b a a 1 (λd i=>m (A1 (i-d))))) (none)) (none)) (o ())
def Hy(L n:Nat)(b:By)(a:Int)(c:Int->Option R)(d:Unit->Option R):Option R:=C43 (α:=By->Int->Option R) (λ_ _=>none) (λn self b a=>Pk L n self b a c d) n b a
def GA(L n:Nat)(b:By)(a:Int)(c:Int->Option R)(d:Unit->Option R):Hy L (n+1) b a c d=Pk L n (λb a=>Hy L n b a c d) b a c d:=rfl
def Af0(n:Nat)(b:By)(a:Int):D4 0 ((N9 L).keep 5) (bd (N9 L) Q Y (cd [1,0,1,1,1,1,1,1,0,1,1,1,1,0,0,0] Bl)) n ⟨gp [(0,.s (.str (([47,63,35]:By)))),(6,.s (.str b)),(0,.s (.int .i64 a)),(0,.s (.int .i64 a))] 177,[],s⟩ k =
 Hy L n b a (λn0=>k .ret ⟨gp [(4,.s (.int .i64 n0))] 182,[],s⟩) (λ_=>k (.exit 1) ⟨gp [] 187,[],s⟩):=by
 induction n generalizing b a with
 | zero=>rfl
 | succ n i=>rw[GA];unfold Pk;exact let d:=(F2 3 (F6 (N9 L) Q Y (cd [1,0,1,1,1,1,1,1,0,1,1,1,1,0,0,0,1,0,0,1,1] Bl) (F2 2 (lpK 0 ((N9 L).keep 5) (bd (N9 L) Q Y (cd [1,0,1,1,1,1,1,1,0,1,1,1,1,0,0,0] Bl)) n k))));(j8 (by kernel_rfl) (A0 (A0 (A6 λe=>(A0 (A0 (A6 λf=>(A0 (A6 λh=>(A0 (A0 (A0 (A6 λg=>(A0 rfl (A6 λc=>(ag (Zt L Q Y s d L b a (A1 (a+c)) 1))))) rfl) rfl) rfl)) rfl)) (ag (Zt L Q Y s d L b a a 1))) rfl)) rfl) rfl))
def My(L:Nat)(b:Int)(l:Bool)(d:Int->Option R)(j:Int->Nat->Option R):Option R:=cond l (cond (inR (wu8 b) 256) (vl (x9 (([47,63,35]:By)) (u8n (wu8 b))) λg=>d g) (none)) (cond (b==(65533:Int)) (Bb L L 0 (λi e=>j i e) (λf=>j (-1) f)) (cond (not (OM b)) (d (-1)) (vl (Utf8.encode b).data.toList λc=>vl (A1 ((↑(c9 c):Int)-(1:Int))) λh=>Hy L L c h (λa=>d a) (λ_=>d (-1)))))
abbrev FZ(b:Code):Prop:=∀(k:Out->St W->Option R) (c:Int) (a:Bool),C3 (N9 L) Q Y b ⟨gp [(0,.s (.str (([47,63,35]:By)))),(0,.s (.int .i32 c)),(158,.s (.bool a))] 26,[],s⟩ k=My L c a (λn0=>k .ret ⟨gp [(4,.s (.int .i64 n0))] 182,[],s⟩) (λn0 d=>k .ret ⟨gp [(4,.s (.int .i64 n0))] 182,[.iter (([47,63,35]:By)) d],s⟩)
def Ae8:FZ (R:=R) L Q Y s (cd [1,0,1] Bl):=by intro k e d;unfold My;exact(j8 (by kernel_rfl) (A0 (A0 (A6 λc=>rfl) rfl) (A0 (ag (Ae9 L Q Y s (F2 9 (F6 (N9 L) Q Y (cd [1,0,1,1,1,0,1] Bl) k)) L 0)) (A0 rfl (A6 λb=>(A6 λa=>(ag (Af0 L Q Y s (F2 1 (F6 (N9 L) Q Y (cd [1,0,1,1,1,1,1,1,0,1,1,1,1,1] Bl) k)) L b a))))))))
def OD(L:Nat)(r:Int)(g:Int->Option R)(h:Int->Nat->Option R):Option R:=cond (not (ltI r (0:Int))) (My L r (ltI r (128:Int)) (λc=>g c) (λd a=>h d a)) (My L r false (λe=>g e) (λf b=>h f b))
def Cm4(b:Code)(a:FZ (R:=PV × List Blk × W) L Q Y s b)(r:Int):C3 (N9 L) Q Y (cd [] (Q9 [1,0,1] b Bl)) ⟨[.s (.str (([47,63,35]:By))),.s (.int .i32 r)]++tps 185,[],s⟩ (I8 (N9 L) ak4)=OD L r (λc=>some (.s (.int .i64 c),[],s)) (λc e=>some (.s (.int .i64 c),[.iter (([47,63,35]:By)) e],s)):=by unfold OD;exact let d:=(F2 0 (I8 (N9 L) ak4));(j8 (by kernel_rfl) (A0 (ag (a d r (ltI r (128:Int)))) (ag (a d r false))))
def Cm5(d:Nat)(r:Int):evC (N9 L) (d+1) W Y 88 [.s (.str (([47,63,35]:By))),.s (.int .i32 r)] [] s=OD L r (λa=>some (.s (.int .i64 a),[],s)) (λa b=>some (.s (.int .i64 a),[.iter (([47,63,35]:By)) b],s)):=
 (evE (fn:=ak4) (by kernel_rfl)).trans (j8 (by kernel_rfl) (Cm4 L (evC (N9 L) d) Y s (cd [1,0,1] Bl) (Ae8 L (evC (N9 L) d) Y s) r))
noncomputable abbrev Al3:Code:=D7 am8
noncomputable def Lu(L:Nat):=mkC L 49 [(18,[1,2,40]),(12,[0,3,1,1])] [(22,[4]),(21,[4]),(20,[1,7,35,7]),(19,[1,7,0,34]),(18,[1,43,0,0]),(17,[1,43]),(16,[4]),(13,[0,5,1]),(15,[4]),(14,[0,5,1,33]),(12,[0,5,1,27]),(11,[0,5,1]),(10,[0,0,4,25]),(9,[0,0,4,0]),(8,[0,0,24]),(7,[4]),(6,[0,4]),(5,[0,4,14]),(4,[0,4]),(3,[0,0,13]),(2,[4]),(1,[0,0,10]),(0,[0,0])] [(2,[]),(3,[1,43]),(0,[]),(1,[0,5,1])] [4] [(88,JR),(89,BL),(90,Qr)] [88,89]
def Ar(L n:Nat)(self:By->Nat->Option R)(b:By)(a:Nat)(d:Int->(List Blk)->Option R)(e:By->Nat->Option R):Option R:=cond (decide (a<(c9 b))) (vl ((aa4 ⟨aa7 b⟩ a)).1 λc=>cond (DE (([47,63,35]:By))) (cond (ltN c 1114112) (cond (not (ltI (irn c) (0:Int))) (d (↑a:Int) [(Blk.iter b (a+((aa4 ⟨aa7 b⟩ a)).2))]) (self b (a+((aa4 ⟨aa7 b⟩ a)).2))) (none)) (none)) (e b a)
def Mx(L n:Nat)(b:By)(a:Nat)(c:Int->(List Blk)->Option R)(d:By->Nat->Option R):Option R:=C43 (α:=By->Nat->Option R) (λ_ _=>none) (λn self b a=>Ar L n self b a c d) n b a
def Cx(L n:Nat)(b:By)(a:Nat)(c:Int->(List Blk)->Option R)(d:By->Nat->Option R):Mx L (n+1) b a c d=Ar L n (λb a=>Mx L n b a c d) b a c d:=rfl
def Ae7(n:Nat)(b:By)(a:Nat):D4 1 ((Lu L).keep 18) (bd (Lu L) Q Y (cd [1,1,1,1,0,1,0,0] Al3)) n ⟨gp [(1,.s (.str (([47,63,35]:By)))),(43,.it 0)] 9,[.iter b a],s⟩ k =
 Mx L n b a (λn0 c=>k .ret ⟨gp [(4,.s (.int .i64 n0))] 50,c,s⟩) (λb a=>k (.exit 2) ⟨gp [] 55,[.iter b a],s⟩):=by
 induction n generalizing b a with
 | zero=>rfl
 | succ n d=>rw[Cx];unfold Ar;exact(j8 (by kernel_rfl) (A0 (A6 λe=>(A0 (A0 (A0 rfl (d b (a+((aa4 ⟨aa7 b⟩ a)).2))) rfl) rfl)) rfl))
def Ae6(L:Nat)(t:By)(e:Int->(List Blk)->Option R):Option R:=cond (ltI (8:Int) (↑(c9 t):Int)) (none) (Mx L L t 0 (λc a=>e c a) (λd b=>e (-1) [(Blk.iter d b)]))
def Cm2(d:Nat)(t:By):evC (Lu L) (d+1) W Y 49 [.s (.str t),.s (.str (([47,63,35]:By)))] [] s=Ae6 L t (λb a=>some (.s (.int .i64 b),a,s)):=evT am8 λQ=>by
 unfold Ae6;exact(j8 (by kernel_rfl) (A0 rfl (ag (Ae7 L Q Y s (F2 2 (F6 (Lu L) Q Y (cd [1,1,1,1,1] Al3) (I8 (Lu L) am8))) L t 0))))
end
end
section
open Go
def Ly{c:UInt8}{s:By}(h:c∉s):al5 s [c]=(s,[],false):=by unfold al5;rw[Wh h,ae (by decide)]
def Ak{c:UInt8}{p r:By}(h:c∉p):al5 (p++c::r) [c]=(p,r,true):=by unfold al5;rw[DB h,W4,j0,aj9,ad1];rw[show p++c::r=(p++[c])++r by simp,ag0 (by simp)]
def Yw:Int->By->Option Int
 | n,[]=>some n
 | n,b::r=>if 48<=b.toNat/\b.toNat<=57 then Yw (min (10*max n 0+((b.toNat-48:Nat):Int)) 65536) r else none
def ZT:∀(s:By) (n:Int),Kv n s=(Yw n s).bind λm=>if m<65536 then some m else none
 | [],n=>rfl
 | b::r,n=>by
  rw[Kv,Yw];split
  ·exact ZT r _
  ·rfl
def MZ:∀(s:By) (n p:Int),-1<=n->Kv n s=some p->-1<=p/\p<65536
 | [],n,p,a,h=>by
  rw[Kv] at h;split at h
  ·rename_i c;obtain rfl:=ag4 h;exact⟨a,c⟩
  ·cases h
 | b::r,n,p,a,h=>by
  rw[Kv] at h;split at h
  ·exact MZ r _ p (by omega) h
  ·cases h
def Rl(s:By):Prop:=∀b∈s,ctl b=false
def Ef4(s:By):Prop:=∀b∈s,Z9 b=false
structure CU (u:X1):Prop where
 ns:D2 u.sch=false->Ae u.sch=true/\C6 u.sch=u.sch/\u.user=[]/\u.host=N3/\u.port=-1/\Rl u.rest
 sp:D2 u.sch=true->Rl u.user/\Ef4 u.user/\Qj u.host/\P3 u.host=true/\(u.port=-1\/(0<=u.port/\u.port<=65535/\u.port≠V4 u.sch))/\(∃r,u.rest=47::r)/\Rl u.rest
def Dh7{s:By}:s.any ctl=false↔Rl s:=by unfold Rl;rw[List.any_eq_false];exact⟨λh b a=>by simpa using h b a,λh b a=>by simp[h b a]⟩
def Re{e user c a:By}(h:(R2 e user c a).2=0):∃f b,(R2 e user c a).1=⟨e,user,f,b,c⟩/\Qj f/\P3 f=true/\(b=-1\/(0<=b/\b<=65535/\b≠V4 e)):=by
 unfold R2 at h ⊢;cases i:Mo a with
 | none=>rw[i] at h;simp at h
 | some q=>
  obtain⟨name,tail⟩:=q;rw[i] at h;simp only at h ⊢;by_cases g:tail≠[]/\tail.head?≠some 58
  ·rw[ac g] at h;simp at h
  ·rw[ae g] at h ⊢;by_cases d:(E2 name).2≠0
   ·rw[ac d] at h;exact absurd h d
   ·rw[ae d] at h ⊢;cases j:Kv (-1) (tail.drop 1) with
    | none=>rw[j] at h;simp at h
    | some p=>
     have o:=MZ _ _ _ (by omega) j;obtain⟨m,n⟩:=Cf9 name;refine⟨_,_,rfl,m,n (by simpa using d),?_⟩;split
     ·exact .inl rfl
     ·rename_i l;by_cases k:p=-1
      ·exact .inl k
      ·exact .inr ⟨by omega,by omega,l⟩
def Ny{c user b a:By}(h:(R2 c user b a).2≠0):(R2 c user b a).1=Be:=by
 unfold R2 at h ⊢;split
 ·rfl
 ·rename_i name tail f;rw[f] at h;simp only at h ⊢;split
  ·rfl
  ·rename_i d;rw[ae d] at h;split
   ·rfl
   ·rename_i e;rw[ae e] at h;split
    ·rfl
    ·rename_i p g;rw[g] at h;exact absurd rfl h
def Bc8(s:By):C6 (C6 s)=C6 s:=by
 unfold C6;rw[ac1];apply ab8;intro b _;show Dl (Dl b)=Dl b;rcases X9 b with⟨_,e⟩|⟨_,e⟩|⟨c,d,e⟩
 ·rw[e,e]
 ·rw[e,e]
 ·rcases X9 (Dl b) with⟨_,a⟩|⟨_,a⟩|⟨f,g,_⟩
  ·exact a
  ·exact a
  ·omega
def Bc5(b:UInt8):R9 (Dl b)=R9 b:=by
 rw[y5,X8,X8];rcases X9 b with⟨_,e⟩|⟨_,e⟩|⟨a,c,e⟩
 ·rw[e]
 ·rw[e]
 ·omega
def ZL{b c:UInt8}(f:c.toNat<65):Dl b=c↔b=c:=by
 rcases X9 b with⟨_,e⟩|⟨_,e⟩|⟨a,d,e⟩
 ·rw[e]
 ·rw[e]
 ·constructor
  ·intro h;rw[h] at e;omega
  ·intro h;subst h;omega
def A03(b:UInt8):Q7 (Dl b)=Q7 b:=by
 rw[y5,Ka,Ka,ZL (by decide),ZL (by decide),ZL (by decide)];rcases X9 b with⟨_,e⟩|⟨_,e⟩|⟨a,c,e⟩
 ·rw[e]
 ·rw[e]
 ·constructor
  ·rintro(h|h|h|h)<;>first|omega|exact .inr (.inr (.inr h))
  ·rintro(h|h|h|h)<;>first|omega|exact .inr (.inr (.inr h))
def A05(s:By):Ae (C6 s)=Ae s:=by
 cases s with
 | nil=>rfl
 | cons b r=>
  show(R9 (Dl b)&&(r.map Dl).all Q7)=(R9 b&&r.all Q7)
  rw[Bc5,af7]
  congr 1
  apply List.all_congr rfl;intro b;exact A03 b
def Af1(r:By):∃t,U9 r=47::t:=by
 unfold U9;split
 ·rename_i h;cases r with
  | nil=>cases h
  | cons b t=>
   obtain rfl:=ag4 h;exact⟨t,rfl⟩
 ·exact⟨r,rfl⟩
def A11{r:By}(h:Rl r):Rl (U9 r):=by
 unfold U9;split
 ·exact h
 ·intro b a;rcases aa0.1 a with rfl|a
  ·decide
  ·exact h b a
def Cg6{j c a:By}(p:D2 j=true)(q:Rl a)(i:Ef4 a)(o:Rl c)(f:∃r,c=47::r)(h:(I9 j c a).2=0):CU (I9 j c a).1:=by
 unfold I9 at h ⊢;by_cases n:0<=M9 64 a
 ·rw[ac n] at h ⊢;obtain⟨t,g,e,k,l,m⟩:=Re h;rw[e];exact⟨λh=>(by rw[p] at h;cases h),λ_=>⟨λb d=>q b (ad7 d),λb d=>i b (ad7 d),k,l,m,f,o⟩⟩
 ·rw[ae n] at h ⊢;obtain⟨t,g,e,k,l,m⟩:=Re h;rw[e];exact⟨λh=>(by rw[p] at h;cases h),λ_=>⟨λb d=>(by cases d),λb d=>(by cases d),k,l,m,f,o⟩⟩
def At7{s:By}(h:(D3 s).2=0):CU (D3 s).1:=by
 unfold D3 at h ⊢;cases f:s.any ctl with
 | true=>rw[f] at h;simp at h
 | false=>
  rw[f] at h;have j:=Dh7.1 f;simp only[p9,if_false] at h ⊢;rcases V0 58 s with c|⟨p,r,rfl,c⟩
  ·rw[Ly c] at h;simp at h
  ·rw[Ak c] at h ⊢;have k:Rl p:=λb d=>j b (by simp[d])
   have g:Rl r:=λb d=>j b (by simp[d])
   cases a:Ae p with
   | false=>rw[a] at h;simp at h
   | true=>
    rw[a] at h;simp only[j5,Bool.or_self,p9,if_false] at h ⊢;cases e:D2 (C6 p) with
    | false=>
     simp only[j7,if_true];exact⟨λ_=>⟨by rw[A05];exact a,Bc8 p,rfl,rfl,rfl,g⟩,λh=>(by simp only at h;rw[e] at h;cases h)⟩
    | true=>
     rw[e] at h;simp only[j5,p9,if_false] at h ⊢;cases i:([47,47]:By).isPrefixOf r with
     | false=>rw[i] at h;simp at h
     | true=>
      rw[i] at h;simp only[j5,p9,if_false] at h ⊢;exact Cg6 e (λb d=>g b (ad6 (ad7 d))) (Bp8 _) (A11 λb d=>g b (ad6 (ad6 d))) (Af1 _) h
def Bg1{d b a:By}(h:(I9 d b a).2≠0):(I9 d b a).1=Be:=by
 unfold I9 at h ⊢;split
 ·rename_i c;rw[ac c] at h;exact Ny h
 ·rename_i c;rw[ae c] at h;exact Ny h
def TG{s:By}(h:(D3 s).2≠0):(D3 s).1=Be:=by
 unfold D3 at h ⊢;split
 ·rfl
 ·rename_i b;rw[ae b] at h;split
  ·rfl
  ·rename_i c;rw[ae c] at h;split
   ·rename_i a;rw[ac a] at h;exact absurd rfl h
   ·rename_i a;rw[ae a] at h;split
    ·rfl
    ·rename_i d;rw[ae d] at h;exact Bg1 h
def Yn(c user b a:By):(R2 c user b a).1.sch.length<=c.length/\(R2 c user b a).1.user.length<=user.length/\(R2 c user b a).1.rest.length<=b.length:=by
 by_cases h:(R2 c user b a).2=0
 ·obtain⟨f,d,e,_⟩:=Re h;rw[e];exact⟨aa3 _,aa3 _,aa3 _⟩
 ·rw[Ny h];exact⟨ab2 _,ab2 _,ab2 _⟩
def Bg2(c b a:By):(I9 c b a).1.sch.length<=c.length/\(I9 c b a).1.user.length<=a.length/\(I9 c b a).1.rest.length<=b.length:=by
 unfold I9;split
 ·obtain⟨d,e,f⟩:=Yn c (a.take (M9 64 a).toNat) b (a.drop ((M9 64 a).toNat+1));rw[x3] at e;exact⟨d,by omega,f⟩
 ·obtain⟨d,e,f⟩:=Yn c [] b a;simp only[p7] at e;exact⟨d,by omega,f⟩
def A12(r:By):(U9 r).length<=r.length+1:=by
 unfold U9;split
 ·omega
 ·simp
def Cg1(s:By):(D3 s).1.sch.length<=s.length/\(D3 s).1.user.length<=s.length/\(D3 s).1.rest.length<=s.length+1:=by
 have z:Be.sch.length<=s.length/\Be.user.length<=s.length/\Be.rest.length<=s.length+1:=⟨ab2 _,ab2 _,ab2 _⟩
 unfold D3;split
 ·exact z
 ·rcases V0 58 s with a|⟨p,r,rfl,a⟩
  ·rw[Ly a];exact z
  ·rw[Ak a];have b:(p++58::r).length=p.length+r.length+1:=by rw[o0,j4];omega
   simp only;split
   ·exact z
   ·split
    ·simp only[Cu,p7];omega
    ·split
     ·exact z
     ·obtain⟨c,d,e⟩:=Bg2 (C6 p) (U9 ((r.drop 2).drop (L6 (r.drop 2)))) ((r.drop 2).take (L6 (r.drop 2)));have f:=A12 ((r.drop 2).drop (L6 (r.drop 2)));simp only[x3,o5,Cu] at c d e f;omega
structure Ai0 (u:X1):Prop where
 host:Qj u.host
 port:-1<=u.port/\u.port<65536
def DM:Qj N3:=⟨by decide,B88,by decide⟩
def CU.ok{u:X1}(h:CU u):Ai0 u:=by
 cases hs:D2 u.sch with
 | false=>
  obtain⟨_,_,_,a4,a5,_⟩:=h.ns hs;exact⟨by rw[a4];exact DM,by omega⟩
 | true=>
  obtain⟨_,_,a3,_,a5,_⟩:=h.sp hs;exact⟨a3,by omega⟩
def Yz(s:By):Ai0 (D3 s).1:=by
 by_cases h:(D3 s).2=0
 ·exact(At7 h).ok
 ·rw[TG h];exact⟨DM,by decide,by decide⟩
def C26{m n j l:By}{h v4:Nat}{a b c d e f g i:Nat}{k:Int}(o:h<4):mkU m n (h:Int) j (v4:Int) (n8 a b c d e f g i) k l=⟨m,n,⟨h,j,v4,[a,b,c,d,e,f,g,i]⟩,k,l⟩:=by unfold mkU C25 n8;rw[ac (E9.2 ⟨by omega,by omega⟩)];simp only[j0]
def TF(s:By):Ai0 (C1 s).1:=by
 unfold C1;split
 ·exact⟨DM,by decide,by decide⟩
 ·exact Yz s
def Be8{s:By}(h:(C1 s).2≠0):(C1 s).1=Be:=by
 unfold C1 at h ⊢;split
 ·rfl
 ·rename_i c;rw[ae c] at h;exact TG h
def Cg0{s:By}(h:(C1 s).2=0):CU (C1 s).1:=by
 unfold C1 at h ⊢;split
 ·rename_i c;rw[ac c] at h;cases h
 ·rename_i c;rw[ae c] at h;exact At7 h
def Wm(s:By):(C1 s).1.sch.length<=s.length/\(C1 s).1.user.length<=s.length/\(C1 s).1.rest.length<=s.length+1:=by
 unfold C1;split
 ·exact⟨ab2 _,ab2 _,ab2 _⟩
 ·exact Cg1 s
def Ks(c:UInt8):∀s:By,x9 s c=match Im c s with|some k=>(k:Int)|none=>-1
 | []=>rfl
 | b::r=>by
  have a:=Ks c r;unfold x9 Im;by_cases h:b=c
  ·rw[ac h,ac (by simpa using h)];rfl
  ·rw[ae h,ae (by simpa using h),a];cases Im c r with
   | none=>rfl
   | some k=>
    have e:((k:Int)==-1)=false:=by rw[beq_eq_false_iff_ne];omega
    simp only[ab1,e,p9,if_false];rfl
def Cm7(b:UInt8):isl.contains b=Z9 b:=by rw[y5];simp[isl,Z9,or_assoc]
def Jf(b:UInt8)(r:By):L6 (b::r)=if Z9 b then 0 else L6 r+1:=by unfold L6;rw[List.takeWhile_cons];cases h:Z9 b<;>simp
def Zz:∀s:By,L6 s<=s.length
 | []=>aa3 _
 | b::r=>by
  have:=Zz r;rw[Jf,j4];split<;>omega
def Kr:∀s:By,al6 s isl=if L6 s<s.length then (L6 s:Int) else -1
 | []=>rfl
 | b::r=>by
  have c:=Kr r;have d:=Zz r;rw[al6,Cm7,Jf,j4,c];cases Z9 b with
  | true=>simp
  | false=>
   simp only[p9,if_false];by_cases h:L6 r<r.length
   ·have e:((L6 r:Int)==-1)=false:=by rw[beq_eq_false_iff_ne];omega
    have a:L6 r+1<r.length+1:=by omega
    simp only[ac h,ac a,e,p9,if_false];rfl
   ·have a:¬L6 r+1<r.length+1:=by omega
    simp only[ae h,ae a];rfl
def D54(b:UInt8)(t:By)(g:128<=b.toNat):128<=(p6 (b::t)).1/\(p6 (b::t)).1<1114112/\1<=(p6 (b::t)).2/\(p6 (b::t)).2<=t.length+1/\∀i,i<(p6 (b::t)).2->128<=((b::t).getD i 0).toNat:=by
 have d:=ag7 (b::t) (by simp);have l:=ac8 (b::t);have n:=ai6 (b::t);rw[j4] at d;refine⟨?_,by omega,l,d,?_⟩;all_goals
  clear d l n;rw[ah4];rcases Lib.decodeN_shape (b::t).length ((b::t).getD 0 0).toNat ((b::t).getD 1 0).toNat ((b::t).getD 2 0).toNat ((b::t).getD 3 0).toNat with⟨c,e⟩|⟨h,j,k,f,e⟩|⟨h,j,k,m,f,cs,e⟩|⟨h,j,k,m,o,f,p,e⟩|e
  all_goals rw[e]
 ·exact absurd g (by simp at c;omega)
 ·exact f
 ·simp only;omega
 ·simp only;omega
 ·simp only;omega
 ·exact absurd g (by simp at c;omega)
 ·intro i a;have:i=0\/i=1:=by simp only at a;omega
  rcases this with rfl|rfl<;>omega
 ·intro i a;have:i=0\/i=1\/i=2:=by simp only at a;omega
  rcases this with rfl|rfl|rfl<;>omega
 ·intro i a;have:i=0\/i=1\/i=2\/i=3:=by simp only at a;omega
  rcases this with rfl|rfl|rfl|rfl<;>omega
 ·intro i a;have:i=0:=by simp only at a;omega
  subst this;exact g
def C84{b:UInt8}(h:128<=b.toNat):Z9 b=false:=by
 unfold Z9;have n:∀c:UInt8,c.toNat<128->(b==c)=false:=λc a=>by
  rw[beq_eq_false_iff_ne];rintro rfl;omega
 rw[n 47 (by decide),n 63 (by decide),n 35 (by decide)];rfl
def C07{r:Int}(h:128<=r):irn r=-1:=by unfold irn;rw[I6,I6,I6]
def D65(b:UInt8):ltI (irn (b.toNat:Int)) 0 = !Z9 b:=by
 have e:∀c:UInt8,((b.toNat:Int)=(c.toNat:Int))=(b=c):=λc=>propext ⟨λh=>aj6.1 (by omega),λh=>by rw[h]⟩
 have g:((b.toNat:Int)=47)=(b=47):=e 47;have i:((b.toNat:Int)=63)=(b=63):=e 63;have j:((b.toNat:Int)=35)=(b=35):=e 35;unfold irn Z9;simp only[g,i,j];by_cases a:b=47
 ·subst a;rfl
 ·by_cases d:b=63
  ·subst d;rfl
  ·by_cases f:b=35
   ·subst f;rfl
   ·have n:∀c,b≠c->(b==c)=false:=λc h=>by rwa [beq_eq_false_iff_ne]
    rw[ae a,ae d,ae f,n _ a,n _ d,n _ f];rfl
end
section
open Go Go.Proofs
section
variable {W R : Type} (Y : Nat) (J : G1) (Q : Yh W) (s : W) (k : Out -> St W -> Option R)
noncomputable def Bz1(Y:Nat):=mkC Y 97 [] [(1,[6]),(0,[3,0,0])] [] [6]
def C19(Y:Nat)(d b:By)(a:Int)(c:By->By->Int->Option R):Option R:=c d b a
def C20(d:Nat)(a sep1 sepSave2):evC (Bz1 Y) (d+1) W Q 97 [pS a,pS sep1,pI sepSave2] [] s=C19 Y a sep1 sepSave2 (λa c b=>some (.fnr (v8 134) [] [.ptr 1 0 0,.ptr 0 0 0,.ptr 2 0 0],[.box [pS a],.box [pS c],.box [pI b]],s)):=evT Tryz.f97 λJ=>by
 unfold C19;kernel_rfl
noncomputable def Cx5(Y:Nat):=mkC Y 53 [] [(1,[4]),(0,[0,0])] [] [4] [(97,VR)]
def D81(Y:Nat)(c a:By)(b:By->By->Option R):Option R:=b c a
def Dv2(d:Nat)(a sep1):evC (Cx5 Y) (d+1) W Q 53 [pS a,pS sep1] [] s=D81 Y a sep1 (λa b=>some (.fnr (v8 134) [] [.ptr 1 0 0,.ptr 0 0 0,.ptr 2 0 0],[.box [pS a],.box [pS b],.box [pI 0]],s)):=evT Tryz.f53 λJ=>by
 unfold D81;kernel_rfl
noncomputable abbrev QQ:Code:=D7 ak2
noncomputable def Qz(Y:Nat):=mkC Y 43 [] [(7,[2]),(6,[2]),(5,[2,13]),(4,[2,0]),(3,[2,9]),(2,[2]),(1,[0,1,7]),(0,[0,1])] [(0,[2]),(1,[2])] [2] [(83,Rz),(53,JU),(84,VU)] [83,84] [] [(134,Se)]
def GW(Y:Nat)(a:By)(xs:List By)(self:Unit->Option R)(c:Unit->Option R)(b:Unit->Option R):Option R:=cond (A2 a.length) (cond (not (N5 a)) (b ()) (self ())) none
def MB(Y:Nat)(L:List By)(b:Unit->Option R)(c:Unit->Option R):Option R:=C44 (α:=Unit->Option R) (λ_=>b ()) (λa xs self _=>GW Y a xs self  b c) L ()
def Aq9(Y:Nat)(a:By)(xs:List By)(b:Unit->Option R)(c:Unit->Option R):MB Y (a::xs)  b c=GW Y a xs (λ_=>MB Y xs  b c)  b c:=rfl
def Cc8(L:List By):V9 #[13] (gp [(2,.ptr 0 0 0),(9,.fnr (v8 134) [] [.bad,.bad,.bad])] 4) (bd (Qz Y) J Q (cd [1,1,0,1,0,0] QQ)) (bd (Qz Y) J Q (cd [1,1,0,1,0,1] QQ)) (L.map (λ(a:By)=>([pS a]:List PV))) [.box [pB false],.dead,.dead,.dead] s (rgK (gp [(2,.ptr 0 0 0),(9,.fnr (v8 134) [] [.bad,.bad,.bad])] 4) (λH=>Y4 H [2,1,3] [.box [.bad],.box [.bad],.box [.bad]]) k) =
 MB Y L  (λ_=>k .normal ⟨gp [(2,.ptr 0 0 0),(9,.fnr (v8 134) [] [.bad,.bad,.bad])] 4,[.box [pB false],.box [.bad],.box [.bad],.box [.bad]],s⟩) (λ_=>k .ret ⟨gp [(2,.ptr 0 0 0),(9,.fnr (v8 134) [] [.bad,.bad,.bad])] 4,[.box [pB false],.box [.bad],.box [.bad],.box [.bad]],s⟩):=by
 induction L with
 | nil=>rfl
 | cons a xs b=>rw[Aq9];unfold GW;exact(j8 (by kernel_rfl) (A0 (A0 rfl b) rfl))
def YX(Y:Nat)(a:By)(b:Unit->Option R)(c:Unit->Option R):Option R:=cond ((A2 a.length)&&((1==1)&&((0:Int)==0))) (MB Y (pcs (w6 ([46]:By) 0 0) a)  b c) none
abbrev Aq8(b:Code):Prop:=∀(k:Out->St W->Option R) s0,C3 (Qz Y) J Q b ⟨gp [(2,.ptr 0 0 0),(9,.fnr (v8 134) [] [.ptr 2 0 0,.ptr 1 0 0,.ptr 3 0 0])] 4,[.box [pB false],.box [pS s0],.box [pS ([46]:By)],.box [pI 0]],s⟩ k=YX Y s0 (λ_=>k .normal ⟨gp [(2,.ptr 0 0 0),(9,.fnr (v8 134) [] [.bad,.bad,.bad])] 4,[.box [pB false],.box [.bad],.box [.bad],.box [.bad]],s⟩) (λ_=>k .ret ⟨gp [(2,.ptr 0 0 0),(9,.fnr (v8 134) [] [.bad,.bad,.bad])] 4,[.box [pB false],.box [.bad],.box [.bad],.box [.bad]],s⟩)
def Cc7:Aq8 (R:=R) Y J Q s (cd [1,1,0,1,0] QQ):=by intro k a;unfold YX;exact(ag (B18 [1,1,0,1,0] (by kernel_rfl))).trans (Oj (Cc8 Y J Q s k (pcs (w6 ([46]:By) 0 0) a) ))
def hvn(Y:Nat)(a:By)(b:Unit->Option R)(c:Bool->Bool->Option R):Option R:=cond (ltI 253 (a.length:Int)) (b ()) (cond (A2 a.length) (cond (I7 a) (b ()) (YX Y a (λ_=>c true true) (λ_=>c false false))) none)
def D61(a:Code)(c:Aq8 (R:=PV × List Blk × W) Y J Q s a)(b:By):C3 (Qz Y) J Q (cd [] (Q9 [1,1,0,1,0] a QQ)) ⟨[pS b]++tps 16,[],s⟩ (I8 (Qz Y) ak2)=hvn Y b (λ_=>some (pB false,[.box [pB false]],s)) (λe d=>some (pB e,[.box [pB d],.box [.bad],.box [.bad],.box [.bad]],s)):=by unfold hvn;exact(j8 (by kernel_rfl) (A0 rfl (A0 (A0 rfl (ag (c (F2 0 (F6 (Qz Y) J Q (cd [1,1,1] QQ) (I8 (Qz Y) ak2))) b))) rfl)))
def D62(d:Nat)(name0):evC (Qz Y) (d+1) W Q 43 [pS name0] [] s=hvn Y name0 (λ_=>some (pB false,[.box [pB false]],s)) (λb a=>some (pB b,[.box [pB a],.box [.bad],.box [.bad],.box [.bad]],s)):=
 (evE (fn:=ak2) (by kernel_rfl)).trans (j8 (by kernel_rfl) (D61 Y (evC (Qz Y) d) Q s (cd [1,1,0,1,0] QQ) (Cc7 Y (evC (Qz Y) d) Q s) name0))
noncomputable abbrev Xq:Code:=D7 aj0
noncomputable def Dh(Y:Nat):=mkC Y 134 [(5,[0,0,0,0]),(1,[0,1])] [(10,[]),(9,[0,0,0,0]),(8,[0,0,0,0,3,34]),(7,[0,0,0,0,3,0]),(6,[0,0,0,0,3,25]),(5,[0,0,0,0,3]),(4,[0,1]),(3,[0,1,3,18]),(2,[0,1,3]),(1,[0,1,11]),(0,[0,0,0,0,7])] [(2,[0,1]),(3,[0,0,0,0]),(0,[]),(1,[0,1])] [] [(135,Xj),(136,JP)] [136]
def OG{W R:Type}(Q:Yh W)(Y n:Nat)(d a:By)(c:Int)(s:W)(b:By->By->Int->W->Option R):Option R:=match n with|0=>none|n+1=>cond (ltI 0 (a.length:Int)) none (b d a c s)
def A18(n:Nat)(b c:By)(a:Int)(s:W):D4 3 ((Dh Y).keep 1) (bd (Dh Y) J Q (cd [0,1,0,0,0,0] Xq)) n ⟨gp [(0,.yd),(1,.ptr 1 0 0)] 49,[.box [pS b],.box [pS c],.box [pI a]],s⟩ k =
 OG Q Y n b c a s (λb c a s=>k (.exit 0) ⟨gp [] 52,[.box [pS b],.box [pS c],.box [pI a]],s⟩):=by
 induction n generalizing b c a s with
 | zero=>rfl
 | succ n d=>rw[OG];kernel_rfl
def W6{W R:Type}(Q:Yh W)(Y n:Nat)(c a:By)(g:Int)(s:W)(i:By->By->Int->W->Option R)(j:By->By->Int->W->Option R):Option R:=match n with
 | 0=>none
 | n+1=>
  cond (A2 a.length)
   (cond (ltI (ak6 a c) (0:Int))
   (i c a g s)
   (vl (A1 ((ak6 a c)+g)) λe=>
    cond (J5 0 e a.length)
    (ydK (Q [pS (cut a 0 e)] s) λd b=>
     (cond (not d)
     (j c a g b)
     (vl (A1 ((ak6 a c)+(c.length:Int))) λf=>
      cond (J5 f (a.length:Int) a.length)
      (vl (cut a f (a.length:Int)) λh=>
       W6 Q Y n c h g b i j)
      none)))
    none))
   none
def A19(n:Nat)(b c:By)(a:Int)(s:W):D4 3 ((Dh Y).keep 5) (bd (Dh Y) J Q (cd [1,0,0,0] Xq)) n ⟨gp [(0,.yd),(0,.ptr 0 0 0),(0,.ptr 1 0 0),(0,.ptr 2 0 0)] 48,[.box [pS b],.box [pS c],.box [pI a]],s⟩ k =
 W6 Q Y n b c a s (λb c a s=>k (.exit 2) ⟨gp [(0,.yd),(1,.ptr 1 0 0)] 49,[.box [pS b],.box [pS c],.box [pI a]],s⟩) (λb c a s=>k .ret ⟨gp [] 52,[.box [pS b],.box [pS c],.box [pI a]],s⟩):=by
 induction n generalizing b c a s with
 | zero=>rfl
 | succ n d=>rw[W6];simp only[<-d];kernel_rfl
def A17{W R:Type}(Q:Yh W)(Y:Nat)(p t:By)(n:Int)(s:W)(j:By->By->Int->W->Option R):Option R:=
 cond ((p.length:Int)==0)
 (OG Q Y Y p t n s (λm o l q=>j m o l q))
 (W6 Q Y Y p t n s (λr a c e=>ydK (Q [pS a] e) λi b=>
  (j r a c b)) (λf g d h=>j f g d h))
def C88(d:Nat)(p t n s):evC (Dh Y) (d+1) W Q 134 [.yd,.ptr 0 0 0,.ptr 1 0 0,.ptr 2 0 0] [.box [pS p],.box [pS t],.box [pI n]] s=A17 Q Y p t n s (λb c a s=>some (.tup [],[.box [pS b],.box [pS c],.box [pI a]],s)):=evT aj0 λJ=>by
 unfold A17;exact(j8 (by kernel_rfl) (A0 (ag (A18 Y J Q (F2 0 (F6 (Dh Y) J Q (cd [0,1,0,1] Xq) (F6 (Dh Y) J Q (cd [1] Xq) (I8 (Dh Y) aj0)))) Y p t n s)) (ag (A19 Y J Q (F2 2 (F6 (Dh Y) J Q (cd [1,1] Xq) (I8 (Dh Y) aj0))) Y p t n s))))
end
section
variable {W R : Type} (L : Nat) (Q : G1) (Y : Yh W) (s : W) (k : Out -> St W -> Option R)
noncomputable def By6(L:Nat):=mkC L 191 [] [(1,[2]),(0,[0])] [] [2]
def D27(L:Nat)(a:Unit->Option R):Option R:=a ()
def C10(d:Nat):evC (By6 L) (d+1) W Y 191 [pI 16] [] s=D27 L  (λ_=>some (pB true,[],s)):=evT Tryz.f191 λQ=>by
 unfold D27;kernel_rfl
noncomputable abbrev XR:Code:=D7 al1
noncomputable def Nr(L:Nat):=mkC L 169 [(11,[0,0,1,0,5,0,0,0,0,0,0]),(18,[0,0,1,0,5,0,0,0,3])] [(30,[10,0]),(29,[10,0]),(28,[0,9,0,0,0,80]),(27,[0,3,5,0,0,0]),(26,[0,3,5,0,0,0]),(25,[0,3,5,0,0,0,75]),(16,[0,2,0,5,0,0,0]),(15,[0,0,1,0,5,0,0,0]),(14,[0,0,1,0,5,0,0,0,0,0,0]),(13,[0,0,1,0,5,0,0,0,0,0,0]),(12,[0,0,1,0,5,0,0,0,0,0,0]),(11,[0,0,1,0,5,0,0,0,0,0,0,29]),(10,[0,0,1,0,5,0,0,0,0,0,0]),(9,[0,0,0,0,0,5,0,0,0,0,0]),(8,[0,0,0,0,0,5,0,0,0,0]),(24,[0,2,0,5,0,0,0]),(23,[0,0,1,0,5,0,0,0]),(22,[0,0,1,0,5,0,0,0,3]),(21,[0,2,0,5,0,0,0,3,0]),(20,[0,0,1,0,5,0,0,0,3,0]),(19,[0,0,1,0,5,0,0,0,3]),(18,[0,0,1,0,5,0,0,0,3,50]),(17,[0,0,1,0,5,0,0,0,3]),(7,[0,0,0,0,0,5,0,0,0,20]),(6,[0,0,0,0,0,5,0,0,0]),(5,[0,0,0,0,0,5,0,0,0,16]),(4,[0,0,0,0,0,5,0,0,0]),(3,[0,0,0,0,0,5,0,0]),(2,[0,0,0,0,0,5,0]),(1,[0,0,0,0,0,5,0,16]),(0,[0,0,0,0,0,5,0])] [(0,[0,0,1,0,5,0,0,0]),(1,[0,0,1,0,5,0,0,0,0,0,0]),(2,[0,0,1,0,5,0,0,0]),(3,[0,0,1,0,5,0,0,0,3])] [10,0] [(191,VG),(192,D38)] [191,192]
abbrev Kdi(R:Type):=Bool->Bool->LL->Int->Int->LL->Option R
def Mb(L n:Nat)(b a:Bool)(c:LL)(g d:Int)(f:LL)(j:Kdi R):Option R:=match n with|0=>none|n+1=>cond (not (ltI g 16)) (vl (A80 .u64 g (15:Int)) λe=>cond (inR e 36) (vl (bAt (([48,49,50,51,52,53,54,55,56,57,97,98,99,100,101,102,103,104,105,106,107,108,109,110,111,112,113,114,115,116]:By)++[117,118,119,120,121,122]) e) λi=>cond (inR (A1 (d-1)) 65) (cond (decide ((k9 (A1 (d-1)))<f.length)) (vl (ai4 f (k9 (A1 (d-1))) (I4 (w6 f (k9 (A1 (d-1))) []) 0 [(SV.int .u8 i)])) λh=>Mb L n b a c (Qi .u64 g (4:Int)) (A1 (d-1)) h j) none) none) none) (j b a c g d f)
def Ap5(n b a c f d e):D4 2 ((Nr L).keep 11) (bd (Nr L) Q Y (cd [1,1,1,1,1,0,1,0,1,1,1,0,0,0] XR)) n ⟨gp [(0,.s (.sl b a 0 c)),(0,p64 f),(1,pB false),(0,pB false),(5,.fl 0),(0,pS ([]:By)),(0,.ptr 1 0 0),(0,pI d),(0,p64 4),(0,p64 16),(0,p64 15)] 85,[.arr true 5 1 [],.arr false 183 1 e],s⟩ k =
 Mb L n b a c f d e (λb a c f d e=>k (.exit 0) ⟨gp [(0,.s (.sl b a 0 c)),(0,p64 f),(1,pB false),(0,pB false),(5,.fl 0),(0,pS ([]:By)),(0,.ptr 1 0 0),(0,pI d)] 88,[.arr true 5 1 [],.arr false 183 1 e],s⟩):=by
 induction n generalizing b a c f d e with
 | zero=>rfl
 | succ n g=>rw[Mb];simp only[<-g];kernel_rfl
def Ap4(L:Nat)(e d:Bool)(ds:LL)(v:Int)(m:By->LL->Option R):Option R:=cond ((16:Int)==16) (cond ((16:Int)==16) (Mb L L e d ds v 65 (x7 65 [(SV.int .u8 0)]) (λg f j i a c=>cond (inR i 36) (vl (bAt (([48,49,50,51,52,53,54,55,56,57,97,98,99,100,101,102,103,104,105,106,107,108,109,110,111,112,113,114,115,116]:By)++[117,118,119,120,121,122]) i) λl=>cond (inR (A1 (a-1)) 65) (cond (decide ((k9 (A1 (a-1)))<c.length)) (vl (ai4 c (k9 (A1 (a-1))) (I4 (w6 c (k9 (A1 (a-1))) []) 0 [(SV.int .u8 l)])) λb=>cond (decide (b.length=65)) (cond (J5 (A1 (a-1)) (65:Int) 65) (cond (w8 (ae1 (65-(k9 (A1 (a-1)))) (ac7 (k9 (A1 (a-1))) b)) Qh) (vl (j9 Nu (ae1 (65-(k9 (A1 (a-1)))) (ac7 (k9 (A1 (a-1))) b))) λh=>m h b) none) none) none) none) none) none)) none) none
def Cy9(d:Nat)(ds_z ds_t ds v):evC (Nr L) (d+1) W Y 169 [.s (.sl ds_z ds_t 0 ds),p64 v,pI 16,pB false,pB false] [] s=Ap4 L ds_z ds_t ds v (λb a=>some (.tup [.fl 0,pS b],[.arr true 5 1 [],.arr false 183 1 a],s)):=evT al1 λQ=>by
 unfold Ap4;exact(j8 (by kernel_rfl) (A0 (A0 (ag (Ap5 L Q Y s (F2 0 (F6 (Nr L) Q Y (cd [1,1,1,1,1,0,1,0,1,1,1,1] XR) (F6 (Nr L) Q Y (cd [1,1,1,1,1,1] XR) (I8 (Nr L) al1)))) L ds_z ds_t ds v 65 (x7 65 [(SV.int .u8 0)]))) rfl) rfl))
noncomputable def By5(L:Nat):=mkC L 140 [] [(9,[4]),(8,[8]),(7,[4]),(6,[5,0]),(5,[0,4,0]),(4,[0,4]),(3,[4]),(2,[0,11]),(1,[0,0,8]),(0,[0,0])] [] [4] [(169,US)]
def B29(L:Nat)(v:Int)(a:By->Option R):Option R:=cond (ltN v 65536) (cond ((16:Int)==16) (a (V5 (k9 v))) none) none
def C04(d:Nat)(v):evC (By5 L) (d+1) W Y 140 [p64 v,pI 16] [] s=B29 L v (λa=>some (pS a,[],s)):=evT Tryz.f140 λQ=>by
 unfold B29;kernel_rfl
noncomputable def Cv6(L:Nat):=mkC L 101 [] [(1,[4]),(0,[0,0])] [] [4] [(140,VE)] [140]
def Dk2(L:Nat)(v:Int)(a:By->Option R):Option R:=cond (ltN v 65536) (cond ((16:Int)==16) (a (V5 (k9 v))) none) none
def Dk3(d:Nat)(v):evC (Cv6 L) (d+1) W Y 101 [p64 v,pI 16] [] s=Dk2 L v (λa=>some (pS a,[],s)):=evT Tryz.f101 λQ=>by
 unfold Dk2;kernel_rfl
end
end
end Go.Proofs.YteickfjoihhgkaaGreatDoor.E
namespace Go.Proofs
open Go.Shelf
def Tryz.lays156_ren:y7:=⟨fun|156=>102|165=>141|166=>142|169=>143|240=>170|241=>171|276=>193|277=>194|n=>n,fun|31=>25|9=>9|3=>3|4=>4|0=>0|20=>20|72=>139|76=>143|70=>137|37=>103|75=>142|127=>162|164=>184|5=>5|80=>145|n=>n,fun|n=>n⟩
theorem Tryz.lays156:an8 p4 Tryz.lays156_ren:=by repeat' (first|kernel_rfl|decide|intro _|constructor)
theorem Tryz.Builder_Extra_156:Builder.Extra p4 Tryz.lays156_ren:=by repeat' (first|kernel_rfl|decide|intro _|constructor)
def Tryz.lays195_ren:y7:=⟨fun|195=>164|n=>n,fun|9=>9|3=>3|0=>0|4=>4|n=>n,fun|n=>n⟩
theorem Tryz.lays195:ao1 p4 Tryz.lays195_ren:=by repeat' (first|kernel_rfl|decide|intro _|constructor)
def Tryz.laysM171_ren:y7:=⟨fun|171=>57|243=>100|246=>139|283=>166|284=>167|285=>168|286=>169|129=>70|317=>189|318=>190|319=>191|320=>192|337=>204|338=>205|n=>n,fun|3=>3|9=>9|2=>2|4=>4|171=>158|0=>0|53=>96|37=>103|5=>5|173=>160|212=>182|51=>36|20=>20|213=>183|46=>67|232=>192|233=>193|n=>n,fun|17=>3|18=>4|19=>5|n=>n⟩
theorem Tryz.laysM171:am4 p4 Tryz.laysM171_ren:=by repeat' (first|kernel_rfl|decide|intro _|constructor)
def Tryz.lays143_ren:y7:=⟨fun|143=>136|219=>121|217=>122|225=>125|224=>124|267=>157|266=>158|314=>184|n=>n,fun|9=>9|3=>3|4=>4|5=>5|46=>67|146=>173|51=>36|n=>n,fun|1=>0|n=>n⟩
theorem Tryz.lays143:an5 p4 Tryz.lays143_ren:=by repeat' (first|kernel_rfl|decide|intro _|constructor)
def Tryz.lays145_ren:y7:=⟨fun|145=>45|220=>85|219=>121|217=>122|225=>125|224=>124|267=>157|266=>158|314=>184|n=>n,fun|9=>9|4=>4|59=>70|3=>3|5=>5|46=>67|146=>173|51=>36|n=>n,fun|1=>0|n=>n⟩
theorem Tryz.lays145:an6 p4 Tryz.lays145_ren:=by repeat' (first|kernel_rfl|decide|intro _|constructor)
def Tryz.lays138_ren:y7:=⟨fun|138=>187|195=>164|218=>203|143=>136|219=>121|217=>122|225=>125|224=>124|267=>157|266=>158|314=>184|n=>n,fun|9=>9|3=>3|4=>4|5=>5|0=>0|46=>67|146=>173|51=>36|n=>n,fun|1=>0|n=>n⟩
theorem Tryz.lays138:an4 p4 Tryz.lays138_ren:=by repeat' (first|kernel_rfl|decide|intro _|constructor)
def Tryz.lays196_ren:y7:=⟨fun|196=>163|259=>188|n=>n,fun|9=>9|4=>4|3=>3|5=>5|12=>12|119=>177|0=>0|46=>67|139=>180|138=>179|53=>96|n=>n,fun|3=>1|4=>2|n=>n⟩
theorem Tryz.lays196:ao2 p4 Tryz.lays196_ren:=by repeat' (first|kernel_rfl|decide|intro _|constructor)
def Tryz.lays2_21_ren:y7:=⟨fun|21=>198|27=>207|28=>208|35=>210|39=>211|n=>n,fun|22=>151|3=>3|4=>4|0=>0|n=>n,fun|n=>n⟩
theorem Tryz.lays2_21:ao3 p4 Tryz.lays2_21_ren:=by repeat' (first|kernel_rfl|decide|intro _|constructor)
def Tryz.lays7_27_ren:y7:=⟨fun|27=>192|28=>204|29=>205|n=>n,fun|25=>67|3=>3|27=>36|22=>96|4=>4|53=>192|0=>0|5=>5|54=>193|n=>n,fun|0=>4|1=>5|n=>n⟩
theorem Tryz.lays7_27:ao4 p4 Tryz.lays7_27_ren:=by repeat' (first|kernel_rfl|decide|intro _|constructor)
def Tryz.lays137_ren:y7:=⟨fun|137=>86|217=>122|266=>158|n=>n,fun|9=>9|5=>5|3=>3|n=>n,fun|n=>n⟩
theorem Tryz.lays137:an3 p4 Tryz.lays137_ren:=by repeat' (first|kernel_rfl|decide|intro _|constructor)
def Tryz.lays153_ren:y7:=⟨fun|153=>49|152=>88|226=>89|227=>90|228=>91|137=>86|119=>123|224=>124|225=>125|217=>122|266=>158|n=>n,fun|9=>9|3=>3|4=>4|5=>5|21=>21|117=>108|116=>107|0=>0|46=>67|124=>132|n=>n,fun|n=>n⟩
theorem Tryz.lays153:an7 p4 Tryz.lays153_ren:=by repeat' (first|kernel_rfl|decide|intro _|constructor)
def Tryz.lays190_ren:y7:=⟨fun|190=>16|125=>35|258=>34|128=>69|129=>70|302=>60|303=>61|304=>62|305=>63|306=>64|307=>65|308=>66|309=>67|310=>68|333=>103|329=>104|330=>105|334=>106|335=>107|336=>108|344=>144|n=>n,fun|31=>25|9=>9|3=>3|46=>67|0=>0|51=>36|53=>96|4=>4|183=>88|182=>87|131=>92|5=>5|218=>116|222=>120|228=>146|229=>82|n=>n,fun|n=>n⟩
theorem Tryz.lays190:an9 p4 Tryz.lays190_ren:=by repeat' (first|kernel_rfl|decide|intro _|constructor)
def Tryz.lays194_ren:y7:=⟨fun|194=>17|n=>n,fun|31=>25|9=>9|3=>3|4=>4|0=>0|n=>n,fun|n=>n⟩
theorem Tryz.lays194:ao0 p4 Tryz.lays194_ren:=by repeat' (first|kernel_rfl|decide|intro _|constructor)
end Go.Proofs
namespace Go.Proofs.YteickfjoihhgkaaGreatDoor.E
set_option linter.all false
section
open Go Go.Proofs Go.Sort
def YP{C:Cfg}{St:Nat->Prop}{w:World}{g:Nat}{k:IntKind}{zs:List Int}(a:GOK C St w)(b:C.G=GX)(h:GX.tab g=some (k,zs)):∃e x,w.heap[g]? = some (.cells (zs.map λz=>Value.int k z).toArray e x):=(a.1 g k zs (by rw[b];exact h)).2
def Cz4{C:Cfg}{St:Nat->Prop}{w:World}(a:GOK C St w)(b:C.G=GX):∃m,w.cell? ⟨0,0,none⟩=some (.int .i64 m):=(a.2 _ (by rw[b];rfl)).2
def GU{w:World}{g:Nat}{a:List Int}{k:IntKind}{e:TypeId}{x}(h:w.heap[g]? = some (.cells (a.map λz=>Value.int k z).toArray e x))(i:Nat)(b:i<a.length):w.cell? ⟨g,i,none⟩=some (.int k (a.getD i 0)):=by simp[World.cell?,h,o6,x5 b]
def Dk5{C:Cfg}{St:Nat->Prop}{w:World}(f:GOK C St w)(a:C.G=GX):Lib.Utf8Tabs 1 2 w:=by
 obtain⟨j,m,h⟩:=YP (g:=1) (k:=.u8) (zs:=ai2) f a rfl;obtain⟨b,n,d⟩:=YP (g:=2) (k:=.u8) (zs:=Ia) f a rfl;refine⟨λc a=>?_,λi l=>⟨?_,?_⟩⟩
 ·rw[GU h c (by simp[ai2];omega)];simp[ai2,o6,x5,a]
 ·rw[GU d (2*i) (by simp[Ia];omega)];have:2*i<32:=by omega
  simp[Ia,o6,this]
 ·rw[GU d (2*i+1) (by simp[Ia];omega)];have:2*i+1<32:=by omega
  have e:(2*i+1) / 2=i:=by omega
  have b:¬(2*i+1) % 2=0:=by omega
  simp[Ia,o6,this,e,b]
def Cz5{C:Cfg}{St:Nat->Prop}{w:World}(b:GOK C St w)(c:C.G=GX):Lib.TabIs p4 w "internal/strconv.uint64pow10" .u64 al7:=by
 obtain⟨d,e,a⟩:=YP (g:=3) (k:=.u64) (zs:=al7) b c rfl;unfold Lib.TabIs World.var?
 rw [show p4.globalNamed "internal/strconv.uint64pow10" = some 3 by kernel_rfl]
 simp only[af6,a]
def Bt7:C0 p4 GX 136 JP:=by
 refine C0.fix (pf:=XB) _ (L7 (fn:=Tryz.f136) (by kernel_rfl) (by kernel_rfl) (by kernel_rfl) ?_);intro args ret o h;unfold XB at h;split at h
 ·rename_i s p;obtain⟨b,h⟩:=C8 h;obtain⟨rfl,rfl⟩:=J6 h;refine⟨rfl,rfl,λC r a t w q c f d=>?_⟩;obtain⟨U,V,rfl,j,k⟩:=d.arr2;obtain⟨n,rfl,rfl⟩:=j.inv_str;obtain⟨l,rfl,rfl⟩:=k.inv_str;obtain⟨m,g⟩:=Cz4 c a;have i:=L4 b;refine(Any.strings_Index Tryz.lays143 n l m w (by simp at i;omega) g).mono ?_;rintro e w' ⟨rfl,rfl⟩;exact⟨_,rfl,ad0 _ _,VP.mk_int _ _⟩
 ·cases h
def De9:C0 p4 GX 45 A68:=by
 refine C0.fix (pf:=XA) _ (L7 (fn:=Tryz.f45) (by kernel_rfl) (by kernel_rfl) (by kernel_rfl) ?_);intro args ret q h;unfold XA at h;split at h
 ·rename_i s p;obtain⟨b,h⟩:=C8 h;obtain⟨rfl,rfl⟩:=J6 h;refine⟨rfl,rfl,λC t a u w r c f d=>?_⟩;obtain⟨U,V,rfl,j,k⟩:=d.arr2;obtain⟨o,rfl,rfl⟩:=j.inv_str;obtain⟨l,rfl,rfl⟩:=k.inv_str;obtain⟨m,g⟩:=Cz4 c a;have i:=L4 b;refine(Any.strings_Cut Tryz.lays145 o l m w (by simp at i;omega) g).mono ?_;rintro e w' ⟨rfl,n,rfl⟩;exact⟨_,rfl,Qx _ _,VP.mk_tup3 (VP.mk_str _) (VP.mk_str _) (VP.mk_bool _)⟩
 ·cases h
def De8:C0 p4 GX 187 A67:=by
 refine C0.fix (pf:=WZ) _ (L7 (fn:=Tryz.f187) (by kernel_rfl) (by kernel_rfl) (by kernel_rfl) ?_);intro args ret o h;unfold WZ at h;split at h
 ·rename_i s p;obtain⟨f,h⟩:=C8 h;obtain⟨rfl,rfl⟩:=J6 h;refine⟨rfl,rfl,λC t g u w q r j i=>?_⟩;obtain⟨U,V,rfl,l,m⟩:=i.arr2;obtain⟨n,rfl,rfl⟩:=l.inv_str;obtain⟨b,rfl,k⟩:=m.inv_str;obtain⟨c,rfl⟩:∃c,p=[c]:=by
   match p,f with
   | [c],_=>exact⟨c,rfl⟩
  have a:b=⟨#[c]⟩:=by
   cases b with
   | mk d=>congr 1;exact Array.toList_inj.1 k
  subst a;refine(Any.strings_Count_one Tryz.lays138 n c w).mono ?_;rintro e w' ⟨rfl,rfl⟩;exact⟨_,rfl,ad0 _ _,VP.mk_int _ _⟩
 ·cases h
def Dd0:C0 p4 GX 57 A54:=by
 refine C0.fix (pf:=VH) _ (L7 (fn:=Tryz.f57) (by kernel_rfl) (by kernel_rfl) (by kernel_rfl) ?_);intro args ret l h;unfold VH at h;split at h
 ·rename_i n;obtain⟨b,h⟩:=C8 h;obtain⟨rfl,rfl⟩:=J6 h;refine⟨rfl,rfl,λC o a p w m c i g=>?_⟩;obtain⟨U,rfl,j⟩:=g.arr1;obtain rfl:=j.inv_int;obtain⟨d,f⟩:=E9.1 b;refine(Any.strconv_Itoa Tryz.laysM171 n (by omega) (by omega) w (Cz5 c a)).mono ?_;rintro e w' ⟨rfl,k,os,rfl⟩;refine⟨_,rfl,(Qx w k).trans (show am2 w.heap.size _ _ from KM (w.drewN k) os),?_⟩;have:Lib.itoa n=Lib.decDigits n.toNat:=by unfold Lib.itoa;rw[I6]
  rw[this];exact VP.mk_str _
 ·cases h
def Ca{l:LL}(h:l.all isS=true):l=A9 (l.map elS):=by
 unfold A9;rw[ac1]
 symm
 rw[ab8 (g:=id)]
 ·simp
 ·intro x a;have:=ab3.1 h x a;unfold isS at this;split at this
  ·rfl
  grind
def B84:C0 p4 GX 102 XE:=by
 refine C0.fix (pf:=JS) _ (L7 (fn:=Tryz.f102) (by kernel_rfl) (by kernel_rfl) (by kernel_rfl) ?_);intro args ret Hc h;unfold JS at h;split at h
 ·rename_i z t l p;obtain⟨L,h⟩:=C8 h;obtain⟨O,h⟩:=C8 h;obtain⟨P,h⟩:=C8 h;obtain⟨rfl,rfl⟩:=J6 h;refine⟨rfl,rfl,λC hP Q Γ w Vs hG H R=>?_⟩;obtain⟨U,V,rfl,Z,hv⟩:=R.arr2;obtain⟨u,rfl,rfl⟩:=hv.inv_str;have m:=L4 O;have hn:=L4 P;have Y:=Z.inv_s;have c:∀(a:Option Addr) (cap:Nat),l=[]->Calls p4 102 #[.slice a 0 cap,.string u] w λe w'=>∃V,e = .returned V/\am2 w.heap.size w w'/\VP Γ (A3 []) w' (.s (.str (ad5 (l.map elS) u.data.toList))) V:=by
   intro a cap T;subst T;refine(Any.strings_Join_none Tryz.lays156 Tryz.Builder_Extra_156 a cap u w).mono ?_;rintro e w' ⟨rfl,rfl⟩;exact⟨_,rfl,ad0 _ _,VP.mk_str _⟩
  cases Y with
  | nil=>exact c _ _ rfl
  | emp=>exact c _ _ rfl
  | sl _ _ g off n cap sz Vc I M hm ht S W y K=>
   subst I;have N:=Ca L;have J:∀i (h:i<l.length),∃b:ByteArray,(l[i])=[SV.str b.data.toList]/\w.cell? ⟨g,off+i,none⟩=some (.string b):=by
    intro i B;have d:=ab3.1 L (l[i]) (List.getElem_mem B);unfold isS at d;split at d
    ·rename_i x r;have k:=y i B 0 (by rw[r];simp);have o:=K i B 0 (by rw[r];simp);simp only[r,List.getElem_cons_zero] at o;obtain⟨b,f,rfl⟩:=o.inv_str;rw[f] at k;exact⟨b,r,by simpa using k⟩
    ·cases d
   obtain⟨xs,q,A⟩:∃xs:List ByteArray,xs.map (·.data.toList)=l.map elS/\∀(j:Nat) x,xs[j]? = some x->w.cell? ⟨g,off+j,none⟩=some (.string x):=by
    refine⟨(l.map elS).map λs=>⟨s.toArray⟩,by simp[ae5],?_⟩;intro j x d;simp only[List.getElem?_map] at d;cases D:l[j]? with
    | none=>simp[D] at d
    | some el=>
     obtain⟨F,rfl⟩:=List.getElem?_eq_some_iff.1 D;obtain⟨b,f,v⟩:=J j F;simp only[D,ab1,o8] at d;rw[f] at d;simp[elS,SV.gS] at d;rw[<-d];exact v
   have G:xs.length=l.length:=by
    have:=congrArg c9 q;simpa using this
   rw[<-q] at m ⊢;have f:g<w.heap.size:=H g S;have X:l.length<=140737488355328:=by omega
   refine(G▸Any.strings_Join Tryz.lays156 Tryz.Builder_Extra_156 g off cap xs u w A f (by omega) (by omega) (by omega)).mono ?_;rintro e w' ⟨rfl,hw⟩;exact⟨_,rfl,hw,VP.mk_str _⟩
 ·cases h
def OO(b:Nat)(f:b<=9223372036854775808):C0 p4 GX 81 (Nj b):=by
 induction b with
 | zero=>
  intro args ret c h;exfalso;unfold Nj Jn at h;split at h
  ·rename_i n g;obtain⟨a,h⟩:=C8 h;have:=E9.1 a;omega
  ·cases h
 | succ b d=>
  refine C0.fix (pf:=Jn (b+1)) _ (J0 [] (C₀:=QY b) (M3.ok (l:=[(81,Nj b)]) rfl ⟨d (by omega),trivial⟩) (H7 rfl (by kernel_rfl)) follows ?_);intro args ret c h;unfold Jn at h;split at h
  ·rename_i n;obtain⟨a,h⟩:=C8 h;obtain⟨rfl,rfl⟩:=J6 h;have e:=(Ba5 b noY () 0 n).trans (YO b (by omega) n a);exact⟨rfl,rfl,rfl,1,_,_,e,rfl⟩
  ·cases h
def UI:C0 p4 GX 81 AP:=OO 4294967296 (by omega)
def Ed7(x:Nat)(h:x<65536):A80 .u64 (x:Int) 15=((x % 16:Nat):Int):=by unfold A80;rw[show IntKind.bits .u64=64 from rfl,show(15:Int)=((15:Nat):Int) from rfl,D18 64 x 15 (by omega) (by omega),show x &&& 15=x % 16 from Nat.and_two_pow_sub_one_eq_mod x 4];exact Ag8 (by omega) (by omega)
def Ei0(x:Nat):Qi .u64 (x:Int) 4=((x / 16:Nat):Int):=by unfold Qi;show Int.fdiv (x:Int) 16=_;grind
def B16(d:Nat)(h:d<16):bAt (([48,49,50,51,52,53,54,55,56,57,97,98,99,100,101,102,103,104,105,106,107,108,109,110,111,112,113,114,115,116]:By)++([117,118,119,120,121,122]:By)) (d:Int)=((Ur d).toNat:Int):=by
 have:∀d:Fin 16,bAt (([48,49,50,51,52,53,54,55,56,57,97,98,99,100,101,102,103,104,105,106,107,108,109,110,111,112,113,114,115,116]:By)++([117,118,119,120,121,122]:By)) (d.val:Int)=((Ur d.val).toNat:Int):=by decide
 exact this ⟨d,h⟩
def We(i:Nat)(s:By):LL:=x7 i [SV.int .u8 0]++s.map F4
def LG(i:Nat)(s:By):(We i s).length=i+s.length:=by simp[We]
def Ao4(i:Nat)(s:By)(c:UInt8):ai4 (We (i+1) s) i (I4 (w6 (We (i+1) s) i []) 0 [SV.int .u8 (c.toNat:Int)])=We i (c::s):=by
 have a:w6 (We (i+1) s) i []=[SV.int .u8 0]:=by
  unfold We;grind
 rw[a];unfold We;rw[List.replicate_succ',aa1,List.set_append_right _ _ (by simp),List.length_replicate,Nat.sub_self];rfl
def Ba1(z t:Bool)(l:LL){e:Kdi R}:∀(v i n:Nat) (s:By),v<65536->v<n->i+s.length=65->(V5 v).length+s.length<=60->
  ∃(u a:Nat) (b:By),u<16/\Ur u::b=V5 v++s/\a+b.length=65/\Mb LF n z t l (v:Int) (i:Int) (We i s) e=e z t l (u:Int) (a:Int) (We a b):=by
 intro v
 induction v using Nat.strongRecOn with
 | _ v w=>
  intro i n s r y q x;rcases n with _|n;omega
  rw[Mb];by_cases h:v<16
  ·refine⟨v,i,s,h,by rw[Il h];rfl,q,?_⟩;rw[A7];rfl
  ·have d:=Hs h;have c:(V5 v).length=(V5 (v / 16)).length+1:=by rw[d];simp
   obtain⟨j,rfl⟩:∃j,i=j+1:=⟨i-1,by omega⟩
   have f:A1 (((j+1:Nat):Int)-1)=(j:Int):=by rw[A4];omega
   obtain⟨u,a,b,g,k,o,p⟩:=w (v / 16) (by omega) j n (Ur (v % 16)::s) (by omega) (by omega) (by rw[j4];omega) (by rw[j4];omega);refine⟨u,a,b,g,by rw[k,d];simp,o,?_⟩;rw[A5,j7,aa,Ed7 v r];simp only[vl];rw[Ei0,f,j0,G2,B16 _ (by omega),G2];simp only[aa];rw[Ao4,LG,show(decide (j<j+1+s.length))=true from decide_eq_true (by omega)];exact p
def Cb5{k0:By->LL->Option R}(z t:Bool)(l:LL)(v:Int)(f:ltN v 65536=true):∃p,Ap4 LF z t l v k0=k0 (V5 v.toNat) p:=by
 obtain⟨d,m⟩:=E9.1 f;obtain⟨v,rfl⟩:=x6 d;have k:=C9;have r:=MA v (by omega);rw[j0];unfold Ap4;have o:(x7 65 [SV.int .u8 0])=We 65 []:=by unfold We;rw[af8,ab0]
 rw[o];obtain⟨u,i,s,g,c,q,h⟩:=Ba1 (R:=R) z t l v 65 LF [] (by omega) (by omega) rfl (by rw[p7];omega);rw[ab0] at c;have n:s.length<=3:=by have:=congrArg c9 c;rw[j4] at this;omega
 obtain⟨j,rfl⟩:∃j,i=j+1:=⟨i-1,by omega⟩
 refine⟨We j (Ur u::s),?_⟩;rw[show((16:Int)==16)=true from rfl,aa,aa];refine j8 h ?_;have e:A1 (((j+1:Nat):Int)-1)=(j:Int):=by rw[A4];omega
 simp only[vl];rw[e,j0,G2,B16 u g,G2];simp only[aa];have a:(Ur u::s).length=s.length+1:=rfl;have b:((We j (Ur u::s)).drop j).take (65-j)=(Ur u::s).map F4:=by
  unfold We;rw[ag0 (by simp),af9 (by rw[v7,a];omega)]
 rw[Ao4,LG,LG,show(decide (j<j+1+s.length))=true from decide_eq_true (by omega),a,show(decide (j+(s.length+1)=65))=true from decide_eq_true (by omega),K2,b,Af,An,c];rfl
def Ba2(z t:Bool)(l:LL)(v:Int)(c:ltN v 65536=true):∃r H,Ap4 LF z t l v (λb a=>rv (.tup [.fl 0,.s (.str b)]) [.arr true 5 1 [],.arr false 183 1 a])=rv r H/\r.stab [1,0] H = .tup [.s (.sl true true 1 []),.s (.str (V5 v.toNat))]:=by obtain⟨d,e⟩:=Cb5 (k0:=(λb a=>rv (.tup [.fl 0,.s (.str b)]) [.arr true 5 1 [],.arr false 183 1 a])) z t l v c;exact⟨_,_,e,rfl⟩
def Cb6{C:Cfg}{St:Nat->Prop}{w:World}(c:GOK C St w)(d:C.G=GX):TabAt 5 ai0 w:=by obtain⟨e,f,b⟩:=YP (g:=5) (k:=.u8) (zs:=ai0.map λn:Nat=>(n:Int)) c d rfl;intro j a;rw[GU b j (by rw[v7];exact a)];simp[o6,x5 a]
def Ei1:C0 p4 GX 192 D38:=by
 refine C0.fix (pf:=Cs9) _ (L7 (fn:=Tryz.f192) (by kernel_rfl) (by kernel_rfl) (by kernel_rfl) ?_);intro args ret i h;unfold Cs9 at h;split at h
 ·rename_i x;obtain⟨b,h⟩:=C8 h;obtain⟨rfl,rfl⟩:=J6 h;obtain rfl:x=16:=eq_of_beq b;refine⟨rfl,rfl,λC k a l w j c f d=>?_⟩;obtain⟨U,rfl,g⟩:=d.arr1;obtain rfl:=g.inv_int;refine(Any7.bits_TrailingZeros Tryz.lays7_27 16 (by omega) w (λ_=>Cb6 c a)).mono ?_;rintro e w' ⟨rfl,rfl⟩;exact⟨_,rfl,ad0 _ _,VP.mk_int _ _⟩
 ·cases h
def Dx6:C0 p4 GX 191 VG:=by
 refine C0.fix (pf:=ID) _ (J0 [] (C₀:=By6 LF) (M3.ok (l:=[]) rfl trivial) (H7 rfl (by kernel_rfl)) follows ?_);intro args ret b h;unfold ID at h;split at h
 ·rename_i x;obtain⟨a,h⟩:=C8 h;obtain⟨rfl,rfl⟩:=J6 h;obtain rfl:x=16:=eq_of_beq a;exact⟨rfl,rfl,rfl,1,_,_,C10 LF noY () 0,rfl⟩
 ·cases h
def Dx2:C0 p4 GX 169 US:=by
 refine C0.fix (pf:=HW) _ (J0 [1,0] (C₀:=Nr LF) (M3.ok (l:=[(191,VG),(192,D38)]) rfl ⟨Dx6,Ei1,trivial⟩) (H7 rfl (by kernel_rfl)) follows ?_);intro args ret k h;unfold HW at h;split at h
 ·rename_i c a ds v b neg app;obtain⟨d,h⟩:=C8 h;obtain⟨f,h⟩:=C8 h;obtain⟨g,h⟩:=C8 h;obtain⟨i,h⟩:=C8 h;obtain⟨rfl,rfl⟩:=J6 h;obtain rfl:b=16:=eq_of_beq f;obtain rfl:neg=false:=by simpa using g
  obtain rfl:app=false:=by simpa using i
  obtain⟨r,H,e,j⟩:=Ba2 c a ds v d;exact⟨rfl,rfl,rfl,1,r,H,(Cy9 LF noY () 0 c a ds v).trans e,j⟩
 ·cases h
def Dx5:C0 p4 GX 140 VE:=by
 refine C0.fix (pf:=IC) _ (J0 [] (C₀:=By5 LF) (M3.ok (l:=[(169,US)]) rfl ⟨Dx2,trivial⟩) (H7 rfl (by kernel_rfl)) follows ?_);intro args ret f h;unfold IC at h;split at h
 ·rename_i v b;obtain⟨a,h⟩:=C8 h;obtain⟨c,h⟩:=C8 h;obtain⟨rfl,rfl⟩:=J6 h;obtain rfl:b=16:=eq_of_beq c;have e:B29 LF v (λd=>rv (.s (.str d)) [])=rv (.s (.str (V5 v.toNat))) []:=by
   unfold B29;rw[a];rfl
  exact⟨rfl,rfl,rfl,1,_,_,(C04 LF noY () 0 v).trans e,rfl⟩
 ·cases h
def Ea2:C0 p4 GX 101 Cq7:=by
 refine C0.fix (pf:=UT) _ (J0 [] (C₀:=Cv6 LF) (M3.ok (l:=[(140,VE)]) rfl ⟨Dx5,trivial⟩) (H7 rfl (by kernel_rfl)) follows ?_);intro args ret f h;unfold UT at h;split at h
 ·rename_i v b;obtain⟨a,h⟩:=C8 h;obtain⟨c,h⟩:=C8 h;obtain⟨rfl,rfl⟩:=J6 h;obtain rfl:b=16:=eq_of_beq c;have e:Dk2 LF v (λd=>rv (.s (.str d)) [])=rv (.s (.str (V5 v.toNat))) []:=by
   unfold Dk2;rw[a];rfl
  exact⟨rfl,rfl,rfl,1,_,_,(Dk3 LF noY () 0 v).trans e,rfl⟩
 ·cases h
end
section
open Go Go.Proofs
def D94(z t:Bool)(l:LL)(c:l.all Yq=true)(d:p5 l.length 8=true):∃r H,v6j LF z t l (λb a=>rv (.s (.str b)) [.arr true 9 1 a])=rv r H/\r.stab [] H = .s (.str (X3 (l.map elN))):=by obtain⟨f,e⟩:=Dc0 (k0:=(λb a=>rv (.s (.str b)) [.arr true 9 1 a])) z t l c d;exact⟨_,_,e,rfl⟩
def D92(a b c d f g h i:Int)(l:ok8 a b c d f g h i=true):∃r H,v6f LF a b c d f g h i (λk j=>rv (.s (.str k)) [.arr false 38 1 j])=rv r H/\r.stab [] H = .s (.str (Qd (n8 a b c d f g h i))):=by obtain⟨m,e⟩:=Db8 (k0:=(λk j=>rv (.s (.str k)) [.arr false 38 1 j])) a b c d f g h i l;exact⟨_,_,e,rfl⟩
def v6V(s:By):PV:=.tup [.agg [.s (.int .u16 (v6c 0 s)),.s (.int .u16 (v6c 1 s)),.s (.int .u16 (v6c 2 s)),.s (.int .u16 (v6c 3 s)),.s (.int .u16 (v6c 4 s)),.s (.int .u16 (v6c 5 s)),.s (.int .u16 (v6c 6 s)),.s (.int .u16 (v6c 7 s))],.s (.bool (v6B s).isSome)]
def D96(s:By)(k:A2 s.length=true):∃r H,v6p LF s (λb c d f g h i j r8 a l10=>rv (.tup [.agg [.s (.int .u16 b),.s (.int .u16 c),.s (.int .u16 d),.s (.int .u16 f),.s (.int .u16 g),.s (.int .u16 h),.s (.int .u16 i),.s (.int .u16 j)],.s (.bool r8)]) [.arr false 38 1 a,.arr false 38 1 l10])=rv r H/\r.stab [0,0] H=v6V s:=by obtain⟨l,m,e⟩:=Dc1 (k0:=(λb c d f g h i j r8 a l10=>rv (.tup [.agg [.s (.int .u16 b),.s (.int .u16 c),.s (.int .u16 d),.s (.int .u16 f),.s (.int .u16 g),.s (.int .u16 h),.s (.int .u16 i),.s (.int .u16 j)],.s (.bool r8)]) [.arr false 38 1 a,.arr false 38 1 l10])) s k;exact⟨_,_,e,rfl⟩
def Du5(s:By)(k:A2 s.length=true):∃r H,C81 LF s (λb c d f g h i j r8 a l10=>rv (.tup [.agg [.s (.int .u16 b),.s (.int .u16 c),.s (.int .u16 d),.s (.int .u16 f),.s (.int .u16 g),.s (.int .u16 h),.s (.int .u16 i),.s (.int .u16 j)],.s (.bool r8)]) [.arr false 38 1 a,.arr false 38 1 l10])=rv r H/\r.stab [0,0] H=v6V s:=by obtain⟨l,m,e⟩:=Cl7 (k0:=(λb c d f g h i j r8 a l10=>rv (.tup [.agg [.s (.int .u16 b),.s (.int .u16 c),.s (.int .u16 d),.s (.int .u16 f),.s (.int .u16 g),.s (.int .u16 h),.s (.int .u16 i),.s (.int .u16 j)],.s (.bool r8)]) [.arr false 38 1 a,.arr false 38 1 l10])) s k;exact⟨_,_,e,rfl⟩
section
variable {W R : Type} (L : Nat) (Q : G1) (Y : Yh W) (s : W) (k : Out -> St W -> Option R)
noncomputable abbrev Ak5:Code:=D7 an1
noncomputable def Lm(L:Nat):=mkC L 94 [(16,[2,0,4,41,0,0])] [(28,[2,0]),(25,[2,0]),(27,[2,0]),(26,[2,10,64]),(24,[2,10,59]),(23,[2,10]),(22,[2,5,41,0,0]),(21,[2,5,41,0,0]),(20,[2,0]),(19,[2,5,0,1,0,37,0,0,10]),(18,[2,5,0,1,0,37,0,0]),(17,[2,5,0,0,39,0,0]),(16,[2,5,41,0,0,0]),(15,[2,5,41,0,0]),(14,[2,5]),(13,[2,0]),(12,[2,0]),(11,[2,3,37]),(10,[2,3,0]),(9,[2,1,32]),(8,[2,1]),(7,[2,0]),(6,[2,1,27]),(5,[2,1,0]),(2,[2,0]),(4,[2,0]),(3,[0,1,16]),(1,[0,1,11]),(0,[0,1])] [(3,[2,10]),(1,[2,5]),(2,[2,5,41,0,0]),(0,[0,1])] [2,0] [(50,IB),(127,Bu5),(128,Cr0),(129,Bw8),(83,Rz),(130,Cr8),(131,QK),(132,Cr5),(102,XE)] [50,128,129,83,130,132,102]
def W3(L n:Nat)(a:Nat)(i c:Int)(e:LL)(g:Int->LL->Option R)(h:Nat->LL->Option R):Option R:=match n with|0=>none|n+1=>cond (ltI c i) (cond (inR c a) (cond (okE Aa e (0+(k9 c)) 0) (vl (gX e (0+(k9 c)) 0) λb=>cond (A2 b.length) (vl (↑((K9 b)).2:Int) λd=>cond (d !=0) (g d e) (cond (inR c a) (cond (decide ((0+(k9 c))<e.length)) (vl (ai4 e (0+(k9 c)) (I4 (w6 e (0+(k9 c)) []) 0 [(SV.str ((K9 b)).1)])) λf=>W3 L n a i (A1 (c+1)) f g h) none) none)) none) none) none) (h a e)
def YW(n:Nat)(a:Nat)(d e:Int)(c:LL):D4 2 ((Lm L).keep 16) (bd (Lm L) Q Y (cd [1,1,1,1,1,1,1,0,1,0,0] Ak5)) n ⟨gp [(2,.ptr 0 0 0),(5,.vw 1 0 a),(41,.vw 1 0 a),(0,pI d),(0,pI e)] 31,[.box [pI 0,pS ([]:By),p32 0,p16 0,p16 0,p16 0,p16 0,p16 0,p16 0,p16 0,p16 0],.arr false 9 1 c],s⟩ k =
 W3 L n a d e c (λn0 b=>k .ret ⟨gp [(2,.ptr 0 0 0),(0,pI n0)] 80,[.box [pI 0,pS ([]:By),p32 0,p16 0,p16 0,p16 0,p16 0,p16 0,p16 0,p16 0,p16 0],.arr false 9 1 b],s⟩) (λa b=>k (.exit 1) ⟨gp [(2,.ptr 0 0 0),(5,.vw 1 0 a)] 75,[.box [pI 0,pS ([]:By),p32 0,p16 0,p16 0,p16 0,p16 0,p16 0,p16 0,p16 0,p16 0],.arr false 9 1 b],s⟩):=by
 induction n generalizing a d e c with
 | zero=>rfl
 | succ n f=>rw[W3];simp only[<-f];kernel_rfl
def CZ(L:Nat)(a:By)(t:Int->By->Int->Int->Int->Int->Int->Int->Int->Int->Int->Int->Int->By->Int->Int->Int->Int->Int->Int->Int->Int->Int->Option R)(y:Int->By->Int->Int->By->LL->Option R):Option R:=cond (ltI 1024 (a.length:Int)) (t 0 ([]:By) 0 0 0 0 0 0 0 0 0 3 0 ([]:By) 0 0 0 0 0 0 0 0 0) (cond (A2 a.length) (cond (ac5 ([91]:By) a) (cond (A2 a.length) (cond (C08 a) (vl (↑(C2.kind ((S8 a)).1):Int) λf=>vl (C2.name ((S8 a)).1) λr=>vl (↑(C2.v4 ((S8 a)).1):Int) λg=>vl (↑(w6 (C2.v6 ((S8 a)).1) 0 0):Int) λh=>vl (↑(w6 (C2.v6 ((S8 a)).1) 1 0):Int) λi=>vl (↑(w6 (C2.v6 ((S8 a)).1) 2 0):Int) λj=>vl (↑(w6 (C2.v6 ((S8 a)).1) 3 0):Int) λl=>vl (↑(w6 (C2.v6 ((S8 a)).1) 4 0):Int) λm=>vl (↑(w6 (C2.v6 ((S8 a)).1) 5 0):Int) λn=>vl (↑(w6 (C2.v6 ((S8 a)).1) 6 0):Int) λo=>vl (↑(w6 (C2.v6 ((S8 a)).1) 7 0):Int) λp=>vl (↑((S8 a)).2:Int) λw=>t f r g h i j l m n o p w f r g h i j l m n o p) none) none) (cond (A2 a.length) (cond (not (ae7 (V3 a))) (t 0 ([]:By) 0 0 0 0 0 0 0 0 0 14 0 ([]:By) 0 0 0 0 0 0 0 0 0) (cond (A2 (c9 (Gy a))) (vl (Ag1 (Gy a) ([46]:By)) λb=>cond (A2 b.length) (cond (I7 b) (cond (A2 b.length) (vl (↑(O9 (pnB b)):Int) λq=>cond (not (ae7 (pnB b))) (t 0 ([]:By) 0 0 0 0 0 0 0 0 0 14 0 ([]:By) 0 0 0 0 0 0 0 0 0) (t 2 ([]:By) q 0 0 0 0 0 0 0 0 0 2 ([]:By) q 0 0 0 0 0 0 0 0)) none) (cond (A2 b.length) (cond (1==1) (vl (A9 (pcs (w6 ([46]:By) 0 0) b)) λu=>W3 L L (c9 (pcs (w6 ([46]:By) 0 0) b)) (↑(c9 (pcs (w6 ([46]:By) 0 0) b)):Int) 0 u (λx v=>y 0 ([]:By) x 0 ([]:By) v) (λc d=>cond (w8 (ae1 c (ac7 0 d)) isS) (cond (A2 (c9 (ad5 (j9 elS (ae1 c (ac7 0 d))) ([46]:By)))) (cond (A2 (c9 (ae1 c (ac7 0 d)))) (vl (ad5 (j9 elS (ae1 c (ac7 0 d))) ([46]:By)) λe=>cond (ltI 253 (e.length:Int)) (y 0 ([]:By) 3 0 ([]:By) d) (cond (A2 e.length) (cond (I7 e) (y 0 ([]:By) 14 0 ([]:By) d) (y 1 e 0 1 e d)) none)) none) none) none)) none) none)) none) none)) none)) none)
def Cc3(d:Nat)(raw0):evC (Lm L) (d+1) W Y 94 [pS raw0] [] s=CZ L raw0 (λo p t x y z A B r8 C q r c u e f g h i j l m n=>some (.tup [.agg [pI o,pS p,p32 t,p16 x,p16 y,p16 z,p16 A,p16 B,p16 r8,p16 C,p16 q],pI r],[.box [pI c,pS u,p32 e,p16 f,p16 g,p16 h,p16 i,p16 j,p16 l,p16 m,p16 n]],s)) (λo p t w D v=>some (.tup [.agg [pI o,pS p,p32 0,p16 0,p16 0,p16 0,p16 0,p16 0,p16 0,p16 0,p16 0],pI t],[.box [pI w,pS D,p32 0,p16 0,p16 0,p16 0,p16 0,p16 0,p16 0,p16 0,p16 0],.arr false 9 1 v],s)):=evT an1 λQ=>by
 unfold CZ;exact(j8 (by kernel_rfl) (A0 rfl (A0 (A0 rfl (A0 (A0 rfl (A0 (A6 λa=>(A0 (A0 rfl (A0 (A0 (A6 λb=>(ag (YW L Q Y s (F2 1 (F6 (Lm L) Q Y (cd [1,1,1,1,1,1,1,1] Ak5) (I8 (Lm L) an1))) L (c9 (pcs (w6 ([46]:By) 0 0) a)) (↑(c9 (pcs (w6 ([46]:By) 0 0) a)):Int) 0 b))) rfl) rfl)) rfl)) rfl)) rfl)) rfl)))
noncomputable abbrev Bx3:Code:=D7 ak7
noncomputable def Sm(L:Nat):=mkC L 120 [(6,[0,1,0,1,10,0,0])] [(13,[2]),(12,[0,3,0,2]),(11,[0,2,1,10,0,0]),(10,[0,2,1,10,0,0]),(9,[2]),(8,[0,2,1,1,8,0,0,8]),(7,[0,2,1,1,8,0,0]),(6,[0,2,1,10,0,0,0]),(5,[0,2,1,10,0,0]),(4,[0,2,1]),(3,[2]),(2,[0,2,11]),(1,[0,2,0]),(0,[0])] [(0,[0,2,1]),(1,[0,2,1,10,0,0])] [2] [(155,Cr7),(156,A60)] [156]
abbrev Kdc(R:Type):=By->Bool->LL->Bool->Option R
def Am(L n:Nat)(i:By)(b:Bool)(a:LL)(c:Bool)(h e:Int)(f:Unit->Option R)(g:Kdc R):Option R:=match n with|0=>none|n+1=>cond (ltI e h) (cond (inR e a.length) (cond (okE Na a (k9 e) 0) (vl (gE a (k9 e) 0) λd=>cond (not (ltI d 65)) (cond (not (ltI 90 d)) (f ()) (cond c (Am L n i b a (ltI d 128) h (A1 (e+1)) f g) (Am L n i b a false h (A1 (e+1)) f g))) (cond c (Am L n i b a (ltI d 128) h (A1 (e+1)) f g) (Am L n i b a false h (A1 (e+1)) f g))) none) none) (g i b a c)
def As2(n d a b c n4 n5):D4 0 ((Sm L).keep 6) (bd (Sm L) Q Y (cd [1,1,1,1,0,1,0,0] Bx3)) n ⟨gp [(0,pS d),(2,.s (.sl a a 1 b)),(1,pB c),(10,.s (.sl a a 1 b)),(0,pI n4),(0,pI n5)] 31,[],s⟩ k =
 Am L n d a b c n4 n5 (λ_=>k .ret ⟨gp [(2,pB false)] 47,[],s⟩) (λd a b c=>k (.exit 0) ⟨gp [(0,pS d),(2,.s (.sl a a 1 b)),(1,pB c)] 44,[],s⟩):=by
 induction n generalizing d a b c n4 n5 with
 | zero=>rfl
 | succ n e=>rw[Am];simp only[<-e];kernel_rfl
def B36(L:Nat)(d:By)(e:Bool->Option R):Option R:=cond (A2 d.length) (cond ((↑((P6 d)).2:Int)!=0) (e false) (Am L L d (x4 ((P6 d)).1) (Oi ((P6 d)).1) true (↑(c9 (Oi ((P6 d)).1)):Int) 0 (λ_=>e false) (λg c a b=>cond (w8 a Px) (vl ((Z8 (j9 elI a))).1 λh=>vl (↑((Z8 (j9 elI a))).2:Int) λf=>cond (not b) (cond (f==0) (e (h==g)) (e false)) (e false)) none))) none
def C18(d:Nat)(s0):evC (Sm L) (d+1) W Y 120 [pS s0] [] s=B36 L s0 (λa=>some (pB a,[],s)):=evT ak7 λQ=>by
 unfold B36;exact(j8 (by kernel_rfl) (A0 (A0 rfl (ag (As2 L Q Y s (F2 0 (F6 (Sm L) Q Y (cd [1,1,1,1,1] Bx3) (I8 (Sm L) ak7))) L s0 (x4 ((P6 s0)).1) (Oi ((P6 s0)).1) true (↑(c9 (Oi ((P6 s0)).1)):Int) 0))) rfl))
noncomputable abbrev Cu0:Code:=D7 an0
noncomputable def CG(L:Nat):=mkC L 84 [(4,[0,1,26,0])] [(11,[2]),(10,[5,0]),(9,[0,28,0]),(8,[2]),(7,[0,28,0,28]),(6,[0,3,24,0]),(5,[0,2,25,0]),(4,[0,28,0,0]),(3,[0,28,0]),(2,[2]),(1,[0,26]),(0,[0])] [(0,[0]),(1,[0,28,0])] [2] [(48,A50),(120,Bu9)] [48,120]
def U6(L n:Nat)(b:By)(e a:Int)(c:Unit->Option R)(d:By->Option R):Option R:=match n with|0=>none|n+1=>cond (ltI a e) (cond (inR a b.length) (cond (not (ltI (bAt b a) (97:Int))) (cond (not (not (ltI 122 (bAt b a)))) (cond (not (ltI (bAt b a) (48:Int))) (cond (not (not (ltI 57 (bAt b a)))) (cond ((bAt b a)!=45) (cond ((bAt b a)!=95) (c ()) (U6 L n b e (A1 (a+1)) c d)) (U6 L n b e (A1 (a+1)) c d)) (U6 L n b e (A1 (a+1)) c d)) (cond ((bAt b a)!=45) (cond ((bAt b a)!=95) (c ()) (U6 L n b e (A1 (a+1)) c d)) (U6 L n b e (A1 (a+1)) c d))) (U6 L n b e (A1 (a+1)) c d)) (cond (not (ltI (bAt b a) (48:Int))) (cond (not (not (ltI 57 (bAt b a)))) (cond ((bAt b a)!=45) (cond ((bAt b a)!=95) (c ()) (U6 L n b e (A1 (a+1)) c d)) (U6 L n b e (A1 (a+1)) c d)) (U6 L n b e (A1 (a+1)) c d)) (cond ((bAt b a)!=45) (cond ((bAt b a)!=95) (c ()) (U6 L n b e (A1 (a+1)) c d)) (U6 L n b e (A1 (a+1)) c d)))) none) (d b)
def Bd4(n a n1 n2):D4 0 ((CG L).keep 4) (bd (CG L) Q Y (cd [1,1,0,1,0,0] Cu0)) n ⟨gp [(0,pS a),(28,pI n1),(0,pI n2)] 41,[],s⟩ k =
 U6 L n a n1 n2 (λ_=>k .ret ⟨gp [(2,pB false)] 69,[],s⟩) (λa=>k (.exit 0) ⟨gp [(0,pS a)] 71,[],s⟩):=by
 induction n generalizing a n1 n2 with
 | zero=>rfl
 | succ n b=>rw[U6];simp only[<-b];kernel_rfl
def Do6(L:Nat)(a:By)(b:Bool->Option R):Option R:=cond (ltI (a.length:Int) (1:Int)) (b false) (cond (ltI 63 (a.length:Int)) (b false) (cond (inR 0 a.length) (cond ((bAt a (0:Int))==45) (b false) (vl (A1 ((a.length:Int)-1)) λd=>cond (inR d a.length) (cond ((bAt a d)==45) (b false) (U6 L L a (a.length:Int) 0 (λ_=>b false) (λc=>cond (A2 c.length) (vl (Ie c ([120,110,45,45]:By)) λe=>cond (not (ac5 ([120,110,45,45]:By) c)) (b true) (cond (A2 e.length) (b (Fl e)) none)) none))) none)) none))
def Do7(d:Nat)(s0):evC (CG L) (d+1) W Y 84 [pS s0] [] s=Do6 L s0 (λb=>some (pB b,[],s)):=evT an0 λQ=>by
 unfold Do6;exact(j8 (by kernel_rfl) (A0 rfl (A0 rfl (A0 (A0 rfl (A6 λa=>(A0 (A0 rfl (ag (Bd4 L Q Y s (F2 0 (F6 (CG L) Q Y (cd [1,1,1] Cu0) (I8 (CG L) an0))) L s0 (s0.length:Int) 0))) rfl))) rfl))))
noncomputable abbrev A81:Code:=D7 al0
noncomputable def Vz(L:Nat):=mkC L 132 [(9,[2,0,1,20])] [(18,[2,0]),(17,[2,0]),(16,[4,41]),(15,[4]),(14,[2,0]),(13,[8,32]),(12,[8,0]),(11,[5,20]),(10,[5,1,18]),(9,[5,20,0,0]),(8,[5,20]),(7,[4,0]),(6,[4,19]),(5,[0,3]),(2,[2,0]),(4,[2,0]),(3,[0,13]),(1,[0,9]),(0,[0])] [(1,[5]),(2,[5,20]),(0,[0])] [2,0] [(163,Aj7),(164,Aj5),(47,II),(156,A60),(84,VU)] [163,164,47,156,84]
def Gt(L n:Nat)(c:LL)(b:By)(a:Nat)(e:LL->By->Nat->Option R):Option R:=match n with|0=>none|n+1=>cond (decide (a<b.length)) (vl ((aa4 ⟨aa7 b⟩ a)).1 λd=>cond (G0 (c.length+1)) (Gt L n (c++[[(SV.int .i64 (A1 d))]]) b (a+((aa4 ⟨aa7 b⟩ a)).2) e) none) (e c b a)
def Bb7(n:Nat)(a:LL)(c:By)(b:Nat):D4 2 ((Vz L).keep 9) (bd (Vz L) Q Y (cd [1,1,1,0,1,0,1,0,1,0,0] A81)) n ⟨gp [(5,.fl 0),(20,.it 1)] 21,[.arr true 3 1 a,.iter c b],s⟩ k =
 Gt L n a c b (λa c b=>k (.exit 1) ⟨gp [(5,.fl 0)] 42,[.arr true 3 1 a,.iter c b],s⟩):=by
 induction n generalizing a c b with
 | zero=>rfl
 | succ n d=>rw[Gt];simp only[<-d];kernel_rfl
abbrev Kda(R:Type):=By->Int->LL->By->Nat->Option R
def As0(L:Nat)(b:By)(g:By->Int->Option R)(h:Kda R):Option R:=cond (A2 b.length) (cond (not (ae7 (Ey b))) (g ([]:By) 4) (cond (A2 b.length) (vl (↑(ae2 b):Int) λi=>cond (ltI 256 i) (g ([]:By) 3) (cond (A2 b.length) (cond (A2 b.length) (vl (↑(ae2 b):Int) λj=>cond (ltI j (b.length:Int)) (Gt L L [] (C6 b) 0 (λa e d=>cond (w8 a Px) (vl ((Z8 (j9 elI a))).1 λf=>vl (↑((Z8 (j9 elI a))).2:Int) λl=>cond (l !=0) (h ([]:By) 14 a e d) (cond (F7 4 f.length) (vl (([120,110,45,45]:By)++f) λc=>cond (A2 c.length) (cond (not (N5 c)) (h ([]:By) 14 a e d) (h c 0 a e d)) none) none)) none)) (cond (A2 (c9 (C6 b))) (cond (not (N5 (C6 b))) (g ([]:By) 14) (g (C6 b) 0)) none)) none) none)) none)) none
def Dn5(d:Nat)(s0):evC (Vz L) (d+1) W Y 132 [pS s0] [] s=As0 L s0 (λa b=>some (.tup [pS a,pI b],[],s)) (λa b c h e=>some (.tup [pS a,pI b],[.arr true 3 1 c,.iter h e],s)):=evT al0 λQ=>by
 unfold As0;exact(j8 (by kernel_rfl) (A0 (A0 rfl (A0 (A6 λf=>(A0 rfl (A0 (A0 (A6 λg=>(A0 (ag (Bb7 L Q Y s (F2 1 (F6 (Vz L) Q Y (cd [1,1,1,0,1,0,1,1] A81) (F6 (Vz L) Q Y (cd [1,1,1,1] A81) (I8 (Vz L) al0)))) L [] (C6 s0) 0)) rfl)) rfl) rfl))) rfl)) rfl))
noncomputable def Cv8(L:Nat):=mkC L 160 [] [(7,[2]),(2,[2]),(4,[2]),(6,[2]),(5,[0,23]),(3,[0,12]),(1,[0,2]),(0,[0])] [(0,[])] [2]
def YU(a:Int)(h:Bool)(f:Int->Option R)(g:Int->Bool->Option R):Option R:=cond h (vl (A1 (wu8 (a-97))) λb=>vl (A1 (b+10)) λc=>f c) (cond (not (ltI a 65)) (cond (not (ltI 70 a)) (vl (A1 (wu8 (a-65))) λd=>vl (A1 (d+10)) λe=>f e) (g a (not (ltI 70 a)))) (g a false))
def YV(b:Int)(l:Bool)(f:Int->Option R)(j:Int->Bool->Option R):Option R:=cond l (vl (A1 (wu8 (b-48))) λg=>f g) (cond (not (ltI b 97)) (YU b (not (ltI 102 b)) (λh=>f h) (λc d=>j c d)) (YU b false (λi=>f i) (λe a=>j e a)))
def Dl2(L:Nat)(c:Int)(d:Int->Option R):Option R:=cond (not (ltI c 48)) (YV c (not (ltI 57 c)) (λa=>d a) (λe f=>d (-1))) (YV c false (λb=>d b) (λg h=>d (-1)))
def Dl3(d:Nat)(b0):evC (Cv8 L) (d+1) W Y 160 [p8 b0] [] s=Dl2 L b0 (λa=>some (pI a,[],s)):=evT Tryz.f160 λQ=>by
 unfold Dl2;kernel_rfl
noncomputable abbrev Ct7:Code:=D7 ak9
noncomputable def CD(L:Nat):=mkC L 128 [(3,[0,1,0,0,0])] [(14,[2,0]),(4,[0,3,0]),(13,[0,3,0]),(12,[0,3,0]),(11,[2,0]),(10,[0,3,0,0,0,39]),(9,[0,3,0,0,0]),(8,[2,0]),(7,[0,3,0,25]),(6,[0,3,0]),(5,[0,3,0,14]),(3,[0,3,0,8]),(2,[0,3,0]),(1,[0,3]),(0,[0])] [(0,[4]),(1,[0,3,0])] [2,0] [(160,Cr1)] [160]
def V6(L n:Nat)(b:By)(a:Int)(c:LL)(f:LL->Option R)(g:LL->Option R):Option R:=match n with|0=>none|n+1=>cond (ltI a (b.length:Int)) (cond (inR a b.length) (cond ((bAt b a)!=37) (cond (inR a b.length) (cond (G0 (c.length+1)) (V6 L n b (A1 (a+1)) (c++[[(SV.int .u8 (bAt b a))]]) f g) none) none) (cond (not (ltI (A1 (a+2)) (b.length:Int))) (f c) (cond (inR (A1 (a+1)) b.length) (vl (bAt b (A1 (a+1))) λd=>cond (inR d 256) (cond (inR (A1 (a+2)) b.length) (vl (bAt b (A1 (a+2))) λe=>cond (inR e 256) (cond (ltI (Gq (u8n d)) (0:Int)) (f c) (cond (ltI (Gq (u8n e)) (0:Int)) (f c) (vl (A1 ((16:Int)*(Gq (u8n d)))) λh=>vl (A1 (h+(Gq (u8n e)))) λi=>cond (G0 (c.length+1)) (vl (A1 ((A1 (a+2))+1)) λj=>V6 L n b j (c++[[(SV.int .u8 (wu8 i))]]) f g) none))) none) none) none) none))) none) (g c)
def Bb1(n s0 i1 l2):D4 1 ((CD L).keep 3) (bd (CD L) Q Y (cd [1,0,1,1,0,1,0,0] Ct7)) n ⟨gp [(0,pS s0),(3,.fl 0),(0,pI i1)] 54,[.arr false 5 1 l2],s⟩ k =
 V6 L n s0 i1 l2 (λa=>k .ret ⟨gp [(2,pS ([]:By)),(0,pB false)] 56,[.arr false 5 1 a],s⟩) (λa=>k (.exit 0) ⟨gp [(4,.fl 0)] 55,[.arr false 5 1 a],s⟩):=by
 induction n generalizing s0 i1 l2 with
 | zero=>rfl
 | succ n b=>rw[V6];simp only[<-b];kernel_rfl
def C02(L:Nat)(c:By)(d:By->Bool->LL->Option R):Option R:=cond ((decide ((0:Int)<=(c.length:Int)))&&(G0 (k9 (c.length:Int)))) (V6 L L c 0 [] (λb=>d ([]:By) false b) (λa=>cond (w8 a Qh) (d (j9 Nu a) true a) none)) none
def Dl0(d:Nat)(s0):evC (CD L) (d+1) W Y 128 [pS s0] [] s=C02 L s0 (λb c a=>some (.tup [pS b,pB c],[.arr false 5 1 a],s)):=evT ak9 λQ=>by
 unfold C02;exact(j8 (by kernel_rfl) (A0 (ag (Bb1 L Q Y s (F2 0 (F6 (CD L) Q Y (cd [1,0,1,1,1] Ct7) (I8 (CD L) ak9))) L s0 0 [])) rfl))
noncomputable def By4(L:Nat):=mkC L 127 [] [(6,[2,0]),(5,[2,0]),(4,[2,2,15]),(3,[2,2,0]),(2,[0,1,1,8]),(1,[0,1,1]),(0,[0,1])] [] [2,0] [(159,D13)]
def B23(L:Nat)(b:By)(l:Int->Int->Int->Int->Int->Int->Int->Int->Int->Int->Int->LL->Option R)(m:Unit->Option R):Option R:=vl (A1 ((b.length:Int)-1)) λa=>cond (inR a b.length) (cond ((bAt b a)==93) (cond (J5 1 a b.length) (cond (A2 (c9 (cut b 1 a))) (vl (↑(v6c 0 (cut b 1 a)):Int) λc=>vl (↑(v6c 1 (cut b 1 a)):Int) λd=>vl (↑(v6c 2 (cut b 1 a)):Int) λe=>vl (↑(v6c 3 (cut b 1 a)):Int) λf=>vl (↑(v6c 4 (cut b 1 a)):Int) λg=>vl (↑(v6c 5 (cut b 1 a)):Int) λh=>vl (↑(v6c 6 (cut b 1 a)):Int) λi=>vl (↑(v6c 7 (cut b 1 a)):Int) λj=>cond (ae7 (v6B (cut b 1 a))) (l 3 c d e f g h i j 0 3 [[(SV.int .u16 c)],[(SV.int .u16 d)],[(SV.int .u16 e)],[(SV.int .u16 f)],[(SV.int .u16 g)],[(SV.int .u16 h)],[(SV.int .u16 i)],[(SV.int .u16 j)]]) (l 0 0 0 0 0 0 0 0 0 14 0 [[(SV.int .u16 c)],[(SV.int .u16 d)],[(SV.int .u16 e)],[(SV.int .u16 f)],[(SV.int .u16 g)],[(SV.int .u16 h)],[(SV.int .u16 i)],[(SV.int .u16 j)]])) none) none) (m ())) none
def Cz9(d:Nat)(s0):evC (By4 L) (d+1) W Y 127 [pS s0] [] s=B23 L s0 (λl c e f g h i j r8 m b a=>some (.tup [.agg [pI l,pS ([]:By),p32 0,p16 c,p16 e,p16 f,p16 g,p16 h,p16 i,p16 j,p16 r8],pI m],[.box [pI b,pS ([]:By),p32 0,p16 c,p16 e,p16 f,p16 g,p16 h,p16 i,p16 j,p16 r8],.arr false 38 1 a],s)) (λ_=>some (.tup [.agg [pI 0,pS ([]:By),p32 0,p16 0,p16 0,p16 0,p16 0,p16 0,p16 0,p16 0,p16 0],pI 14],[.box [pI 0,pS ([]:By),p32 0,p16 0,p16 0,p16 0,p16 0,p16 0,p16 0,p16 0,p16 0]],s)):=evT Tryz.f127 λQ=>by
 unfold B23;kernel_rfl
noncomputable def Cw3(L:Nat):=mkC L 25 [] [(9,[2]),(4,[2]),(6,[2]),(8,[2]),(7,[1,31]),(5,[1,1,1,16]),(3,[1,1,1,0]),(2,[1,1,1]),(1,[1,1]),(0,[1])] [(0,[])] [2] [(43,Cr3)] [43]
abbrev Kcd(R:Type):=Bool->Int->By->Int->Int->Int->Int->Int->Int->Int->Int->Int->LL->Option R
def Qf(L:Nat)(c:Int)(b:By)(d e f g h i j l a:Int)(m:Kcd R):Option R:=cond (c==1) (cond (A2 b.length) (cond (W9 b) (cond (d==0) (m ((e==0)&&((f==0)&&((g==0)&&((h==0)&&((i==0)&&((j==0)&&((l==0)&&((a==0)&&true)))))))) c b d e f g h i j l a (x7 8 [(SV.int .u16 0)])) (m false c b d e f g h i j l a (x7 8 [(SV.int .u16 0)]))) (m false c b d e f g h i j l a (x7 8 [(SV.int .u16 0)]))) none) (cond (c==2) (cond (b==[]) (m ((e==0)&&((f==0)&&((g==0)&&((h==0)&&((i==0)&&((j==0)&&((l==0)&&((a==0)&&true)))))))) c b d e f g h i j l a (x7 8 [(SV.int .u16 0)])) (m false c b d e f g h i j l a (x7 8 [(SV.int .u16 0)]))) (cond (c==3) (cond (b==[]) (m (d==0) c b d e f g h i j l a (x7 8 [(SV.int .u16 0)])) (m false c b d e f g h i j l a (x7 8 [(SV.int .u16 0)]))) (m false c b d e f g h i j l a (x7 8 [(SV.int .u16 0)]))))
def Dm1(d:Nat)(h0 h1 h2 h3 h4 h5 h6 h7 h8 h9 h10):evC (Cw3 L) (d+1) W Y 25 [.agg [pI h0,pS h1,p32 h2,p16 h3,p16 h4,p16 h5,p16 h6,p16 h7,p16 h8,p16 h9,p16 h10]] [] s=Qf L h0 h1 h2 h3 h4 h5 h6 h7 h8 h9 h10 (λn f o g h i j l e m b c a=>some (pB n,[.box [pI f,pS o,p32 g,p16 h,p16 i,p16 j,p16 l,p16 e,p16 m,p16 b,p16 c],.arr false 38 1 a],s)):=evT Tryz.f25 λQ=>by
 unfold Qf;kernel_rfl
noncomputable def Cw0(L:Nat):=mkC L 15 [] [(7,[2]),(2,[2]),(4,[2]),(6,[2]),(5,[1,11]),(3,[1,5]),(1,[1,1]),(0,[1])] [(0,[1])] [2] [(25,VC),(32,D09),(33,D11)] [25,32,33]
abbrev Kch(R:Type):=By->Int->By->Int->Int->Int->Int->Int->Int->Int->Int->Int->Option R
def Dl6(L:Nat)(j:Int)(l:By)(b c d e f g h i a:Int)(o:Kch R):Option R:=cond (A2 l.length) (cond (ltN b 4294967296) (cond (ok8 c d e f g h i a) (cond (not (P3 (mkH j l b (n8 c d e f g h i a)))) (o ([]:By) j l b c d e f g h i a) (cond (j==1) (o l j l b c d e f g h i a) (cond (j==2) (cond (ltN b 4294967296) (o (Jj (k9 b)) j l b c d e f g h i a) none) (cond (ok8 c d e f g h i a) (vl (Qd (n8 c d e f g h i a)) λm=>cond (F7 1 m.length) (vl (([91]:By)++m) λn=>cond (F7 n.length 1) (vl (n++[93]) λp=>o p j l b c d e f g h i a) none) none) none)))) none) none) none
def Dl7(d:Nat)(h0 h1 h2 h3 h4 h5 h6 h7 h8 h9 h10):evC (Cw0 L) (d+1) W Y 15 [.agg [pI h0,pS h1,p32 h2,p16 h3,p16 h4,p16 h5,p16 h6,p16 h7,p16 h8,p16 h9,p16 h10]] [] s=Dl6 L h0 h1 h2 h3 h4 h5 h6 h7 h8 h9 h10 (λm e n f g h i j c l a b=>some (pS m,[.box [pI e,pS n,p32 f,p16 g,p16 h,p16 i,p16 j,p16 c,p16 l,p16 a,p16 b]],s)):=evT Tryz.f15 λQ=>by
 unfold Dl6;kernel_rfl
noncomputable def Cv7(L:Nat):=mkC L 56 [] [(1,[4]),(0,[0,0])] [] [4] [(43,Cr3),(99,Cr2)] [43,99]
def Dk8(L:Nat)(a b:By)(c:Bool->Option R):Option R:=cond (A2 a.length) (cond (W9 a) (cond (A2 b.length) (cond (W9 b) (cond (a==b) (c true) (cond (F7 1 a.length) (vl (([46]:By)++a) λd=>cond (A2 b.length) (c (List.isSuffixOf d b)) none) none)) (c false)) none) (c false)) none
def Dk9(d:Nat)(super0 name1):evC (Cv7 L) (d+1) W Y 56 [pS super0,pS name1] [] s=Dk8 L super0 name1 (λa=>some (pB a,[],s)):=evT Tryz.f56 λQ=>by
 unfold Dk8;kernel_rfl
end
section
variable {W R : Type} (L : Nat) (Q : G1) (Y : Yh W) (s : W) (k : Out -> St W -> Option R)
noncomputable def Cw9(L:Nat):=mkC L 199 [] [(2,[2]),(1,[1,1]),(0,[1])] [] [2]
def D74(L:Nat)(b:Int)(a:Int->Option R):Option R:=a b
def Dq7(d:Nat)(b):evC (Cw9 L) (d+1) W Y 199 [pI b] [] s=D74 L b (λn0=>some (.fnr (v8 209) [] [.ptr 1 0 0,.ptr 0 0 0],[.box [pI n0],.box [pI 0]],s)):=evT Tryz.f199 λQ=>by
 unfold D74;kernel_rfl
noncomputable def Bz6(L:Nat):=mkC L 209 [] [(2,[2]),(1,[0,0]),(0,[0,0])] [] [2]
def B48(L:Nat)(k b:Int)(d:Int->Int->Int->Option R):Option R:=vl (A1 ((A1 (k+36))-b)) λa=>vl (if ((26:Int)<(if ((1:Int) > a) then (1:Int) else a)) then (26:Int) else (if ((1:Int) > a) then (1:Int) else a)) λc=>d c (A1 (k+36)) b
def C39(d:Nat)(k b):evC (Bz6 L) (d+1) W Y 209 [.ptr 0 0 0,.ptr 1 0 0] [.box [pI k],.box [pI b]] s=B48 L k b (λe a c=>some (pI e,[.box [pI a],.box [pI c]],s)):=evT Tryz.f209 λQ=>by
 unfold B48;kernel_rfl
noncomputable abbrev D44:Code:=D7 al2
noncomputable def KV(L:Nat):=mkC L 182 [(2,[0,0,4,0])] [(6,[0,0,5]),(5,[0,0,5,0]),(4,[6]),(3,[0,0,5,0,6]),(2,[0,0,5,0]),(1,[0,0,5]),(0,[0,0,0])] [(0,[6]),(1,[0,0,5])] [6] [(199,IQ),(200,A59)] [200] [(209,Sa)] [] [209]
abbrev Kce(R:Type):=Bool->LL->Int->Int->Option R
def Js(L n:Nat)(f:Int)(p:Bool)(g:LL)(a b:Int)(o:Kce R):Option R:=match n with|0=>none|n+1=>cond (ltN b 1000000000000) (cond (ltN a 1000000) (cond (ltI f (N4 b a)) (cond (ltN f 36) (vl (↑(an2 (Bn (k9 f))):Int) λh=>cond (G0 (g.length+1)) (o p (g++[[(SV.int .u8 h)]]) a (ac4 b (36:Int))) none) none) (vl (A1 (f-(N4 b a))) λi=>vl (A1 ((36:Int)-(N4 b a))) λc=>cond (c !=0) (vl (A1 ((N4 b a)+(ah9 i c))) λd=>cond (ltN d 36) (vl (↑(an2 (Bn (k9 d))):Int) λj=>cond (G0 (g.length+1)) (vl (A1 (f-(N4 b a))) λl=>vl (A1 ((36:Int)-(N4 b a))) λe=>cond (e !=0) (vl (A1 (ag6 l e)) λm=>Js L n m p (g++[[(SV.int .u8 j)]]) a (ac4 b (36:Int)) o) none) none) none) none)) none) none
def Be7(n q0 z1 l2 a n4):D4 3 ((KV L).keep 2) (bd (KV L) Q Y (cd [1,1,0,0] D44)) n ⟨gp [(0,.fl 0),(0,pI q0),(5,.fnr (v8 209) [] [.ptr 2 0 0,.ptr 1 0 0])] 31,[.arr z1 5 1 l2,.box [pI a],.box [pI n4]],s⟩ k =
 Js L n q0 z1 l2 a n4 (λe c d a=>k .ret ⟨gp [(6,.fl 0)] 32,[.arr e 5 1 c,.box [pI d],.box [pI a]],s⟩):=by
 induction n generalizing q0 z1 l2 a n4 with
 | zero=>rfl
 | succ n b=>rw[Js];simp only[<-b];kernel_rfl
def D72(L:Nat)(q b:Int)(z:Bool)(l:LL)(f:Kce R):Option R:=Js L L q z l b 0 (λe a c d=>f e a c d)
def Dp6(d:Nat)(q b z l):evC (KV L) (d+1) W Y 182 [.fl 0,pI q,pI b] [.arr z 5 1 l] s=D72 L q b z l (λf a c e=>some (.fl 0,[.arr f 5 1 a,.box [pI c],.box [pI e]],s)):=evT al2 λQ=>by
 unfold D72;exact(j8 (by kernel_rfl) (ag (Be7 L Q Y s (F2 0 (I8 (KV L) al2)) L q z l b 0)))
noncomputable abbrev Gg:Code:=D7 aj1
noncomputable def T9(L:Nat):=mkC L 156 [(29,[0,1,0,0,2,0,0,0,0,61,0,0]),(21,[0,1,0,0,2,0,0,0,0,0,38,0,0]),(17,[0,1,0,0,2,0,0,0,0]),(5,[0,1,0,0,15,0,0])] [(40,[2,0]),(18,[0,3,2,0,0,0,0]),(39,[0,3,2,0,0,0,0]),(38,[0,3,2,0,0,0,0,61,0,0]),(32,[0,3,2,0,0,0,0,61,0,0]),(37,[0,3,2,0,0,0,0,61,0,0]),(36,[0,3,2,0,0,0,0,61,0,0]),(35,[0,3,2,0,1,0,61,0,0]),(34,[0,3,2,0,0,1,61,0,0]),(33,[0,3,2,0,0,0,0,61,0,0,9]),(31,[0,3,2,0,0,0,0,4,56,0,0,3]),(30,[0,3,2,0,0,0,0,4,56,0,0]),(29,[0,3,2,0,0,0,0,61,0,0,0]),(28,[0,3,2,0,0,0,0,61,0,0]),(27,[0,3,2,0,0,0,0]),(26,[0,3,2,1,0,0,0]),(25,[0,3,2,0,0,0,0,0,38,0,0]),(24,[0,3,2,0,0,0,0,0,38,0,0]),(23,[0,3,2,0,0,0,0,0,1,36,0,0,5]),(22,[0,3,2,0,0,0,0,0,1,36,0,0]),(21,[0,3,2,0,0,0,0,0,38,0,0,0]),(20,[0,3,2,0,0,0,0,0,38,0,0]),(19,[0,3,2,0,0,0,0,0]),(17,[0,3,2,0,0,0,0,36]),(16,[0,3,2,0,0,0,0]),(15,[0,3,2,0,0,0]),(14,[0,3,2]),(13,[0,3,2,32]),(12,[0,3,2]),(11,[0,3,15,0,0]),(10,[0,3,15,0,0]),(9,[0,3,1,13,0,0,7]),(8,[2,0]),(7,[0,3,1,13,0,0,5]),(6,[0,3,1,13,0,0]),(5,[0,3,15,0,0,0]),(4,[0,3,15,0,0]),(3,[0,3]),(2,[2,0]),(1,[0,18]),(0,[0])] [(2,[4]),(3,[0,3,2,0,0,0,0]),(6,[0,3,2,0,0,0,0]),(7,[0,3,2,0,0,0,0,61,0,0]),(8,[0,3,2,0,0,0,0,61,0,0]),(4,[0,3,2,0,0,0,0,0]),(5,[0,3,2,0,0,0,0,0,38,0,0]),(0,[0,3]),(1,[0,3,15,0,0])] [2,0] [(181,Qo),(183,Qm)] [181,183] [(182,VW)] [] [182]
abbrev Kbd(R:Type):=Bool->Bool->LL->LL->Option R
def Y1(L n:Nat)(c b:Bool)(a:LL)(i e:Int)(f:LL)(g:LL->Option R)(h:Kbd R):Option R:=match n with|0=>none|n+1=>cond (ltI e i) (cond (inR e a.length) (cond (okE Na a (k9 e) 0) (vl (gE a (k9 e) 0) λd=>cond (not (ptI d)) (g f) (cond (ltI d 128) (cond (G0 (f.length+1)) (Y1 L n c b a i (A1 (e+1)) (f++[[(SV.int .u8 (wu8 d))]]) g h) none) (Y1 L n c b a i (A1 (e+1)) f g h))) none) none) (h c b a f)
def Bf7(n b a c n3 n4 l5):D4 1 ((T9 L).keep 5) (bd (T9 L) Q Y (cd [1,1,1,0,1,0,0] Gg)) n ⟨gp [(0,.s (.sl b a 1 c)),(3,.fl 0),(15,.s (.sl b a 1 c)),(0,pI n3),(0,pI n4)] 84,[.arr true 5 1 l5],s⟩ k =
 Y1 L n b a c n3 n4 l5 (λe=>k .ret ⟨gp [(2,pS ([]:By)),(0,pI 2)] 103,[.arr true 5 1 e],s⟩) (λb a c f=>k (.exit 0) ⟨gp [(0,.s (.sl b a 1 c)),(3,.fl 0)] 102,[.arr true 5 1 f],s⟩):=by
 induction n generalizing b a c n3 n4 l5 with
 | zero=>rfl
 | succ n d=>rw[Y1];simp only[<-d];kernel_rfl
abbrev Kah(R:Type):=Bool->Bool->LL->Int->Int->Int->Int->Int->Int->LL->Option R
def Ju(L n:Nat)(c b:Bool)(a:LL)(d o e f g m q h:Int)(i:LL)(p:Kah R):Option R:=match n with|0=>none|n+1=>cond (ltI h q) (cond (inR h a.length) (cond (okE Na a (k9 h) 0) (vl (gE a (k9 h) 0) λj=>cond (not (ltI j o)) (vl (if (j<m) then j else m) λl=>Ju L n c b a d o e f g l q (A1 (h+1)) i p) (Ju L n c b a d o e f g m q (A1 (h+1)) i p)) none) none) (p c b a d o e f g m i)
def Bf8(n b a c d i e f g h n9 n10 l11):D4 1 ((T9 L).keep 21) (bd (T9 L) Q Y (cd [1,1,1,1,1,1,1,0,1,0,0,1,0,0,1,0,1,0,0] Gg)) n ⟨gp [(0,.s (.sl b a 1 c)),(3,.fl 0),(2,pI d),(0,pI i),(0,pI e),(0,pI f),(0,pI g),(0,pI h),(38,.s (.sl b a 1 c)),(0,pI n9),(0,pI n10)] 53,[.arr true 5 1 l11],s⟩ k =
 Ju L n b a c d i e f g h n9 n10 l11 (λb a c d i e f g h l=>k (.exit 4) ⟨gp [(0,.s (.sl b a 1 c)),(3,.fl 0),(2,pI d),(0,pI i),(0,pI e),(0,pI f),(0,pI g),(0,pI h)] 94,[.arr true 5 1 l],s⟩):=by
 induction n generalizing b a c d i e f g h n9 n10 l11 with
 | zero=>rfl
 | succ n j=>rw[Ju];simp only[<-j];kernel_rfl
abbrev Kbj(R:Type):=Bool->Bool->LL->Int->Int->Int->Int->Int->LL->Option R
def Dq(L n:Nat)(d c:Bool)(a:LL)(e m b g f i l:Int)(l10:LL)(t:Kbj R):Option R:=match n with|0=>none|n+1=>cond (ltI l i) (cond (inR l a.length) (cond (okE Na a (k9 l) 0) (vl (gE a (k9 l) 0) λj=>cond (ltI j m) (vl (A1 (b+1)) λp=>Dq L n d c a e m p g f i (A1 (l+1)) l10 t) (cond (j==m) (cond (ltN b 1152921504606846976) (cond (ltN g 1000000) (cond (p5 l10.length 100000) (vl (aj3 l10 (j9 F4 (R8 (k9 b) 0 (k9 g)))) λo=>vl (A1 (f+1)) λh=>cond (ltN b 1152921504606846976) (cond (ltN h 1000000) (cond (ltI 0 h) (vl (↑(T4 (k9 b) (k9 h) (f==e)):Int) λq=>vl (A1 (f+1)) λr=>Dq L n d c a e m 0 q r i (A1 (l+1)) o t) none) none) none) none) none) none) (Dq L n d c a e m b g f i (A1 (l+1)) l10 t))) none) none) (t d c a e m b g f l10)
def Bf9(n b a c d h e f g n8v n9 l10):D4 1 ((T9 L).keep 29) (bd (T9 L) Q Y (cd [1,1,1,1,1,1,1,0,1,0,0,1,0,0,1,1,1,1,0,1,0,0] Gg)) n ⟨gp [(0,.s (.sl b a 1 c)),(3,.fl 0),(2,pI d),(0,pI h),(0,pI e),(0,pI f),(0,pI g),(61,.s (.sl b a 1 c)),(0,pI n8v),(0,pI n9)] 31,[.arr true 5 1 l10],s⟩ k =
 Dq L n b a c d h e f g n8v n9 l10 (λb a c d h e f g j=>k (.exit 6) ⟨gp [(0,.s (.sl b a 1 c)),(3,.fl 0),(2,pI d),(0,pI h),(0,pI e),(0,pI f),(0,pI g)] 95,[.arr true 5 1 j],s⟩):=by
 induction n generalizing b a c d h e f g n8v n9 l10 with
 | zero=>rfl
 | succ n i=>rw[Dq];simp only[<-i];kernel_rfl
def Gz(L n:Nat)(j i:Bool)(b:LL)(v K w y u:Int)(J:LL)(I:LL->Option R):Option R:=match n with|0=>none|n+1=>cond (ltI u (b.length:Int)) (Ju L L j i b v K w y u 1114112 (b.length:Int) 0 J (λe c a l B o q g x z=>vl (A1 (g+1)) λC=>vl (A1 ((A1 (x-B))*C)) λD=>Dq L L e c a l x (A1 (o+D)) q g (a.length:Int) 0 z (λf d h m F p r t A=>vl (A1 (p+1)) λG=>vl (A1 (F+1)) λH=>Gz L n f d h m H G r t A I))) (I J)
def NH(n points_z0 points_t1 points2 basic3 n4 delta5 bias6 done7 l8):D4 1 ((T9 L).keep 17) (bd (T9 L) Q Y (cd [1,1,1,1,1,1,1,0,1,0,0] Gg)) n ⟨gp [(0,.s (.sl points_z0 points_t1 1 points2)),(3,.fl 0),(2,pI basic3),(0,pI n4),(0,pI delta5),(0,pI bias6),(0,pI done7)] 95,[.arr true 5 1 l8],s⟩ k =
 Gz L n points_z0 points_t1 points2 basic3 n4 delta5 bias6 done7 l8 (λB=>k (.exit 2) ⟨gp [(4,.fl 0)] 102,[.arr true 5 1 B],s⟩):=by
 induction n generalizing points_z0 points_t1 points2 basic3 n4 delta5 bias6 done7 l8 with
 | zero=>rfl
 | succ n A=>rw[Gz];exact(j8 (by kernel_rfl) (A0 ((Bf8 L Q Y s (F2 4 (F6 (T9 L) Q Y (cd [1,1,1,1,1,1,1,0,1,0,0,1,0,0,1,1] Gg) (F2 3 (F6 (T9 L) Q Y (cd [1,1,1,1,1,1,1,0,1,0,0,1,1] Gg) (lpK 1 ((T9 L).keep 17) (bd (T9 L) Q Y (cd [1,1,1,1,1,1,1,0,1,0,0] Gg)) n k))))) L points_z0 points_t1 points2 basic3 n4 delta5 bias6 done7 1114112 (points2.length:Int) 0 l8).trans (congr rfl (Cz3 λd b a g x i j m t q=>(j8 (by kernel_rfl) (A6 λy=>(A6 λu=>((Bf9 L Q Y s (F2 6 (F6 (T9 L) Q Y (cd [1,1,1,1,1,1,1,0,1,0,0,1,0,0,1,1,1,1,1] Gg) (F2 3 (F6 (T9 L) Q Y (cd [1,1,1,1,1,1,1,0,1,0,0,1,1] Gg) (lpK 1 ((T9 L).keep 17) (bd (T9 L) Q Y (cd [1,1,1,1,1,1,1,0,1,0,0] Gg)) n k))))) L d b a g t (A1 (i+u)) j m (a.length:Int) 0 q).trans (congr rfl (fx9 λe c f h z p l o r=>(j8 (by kernel_rfl) (A6 λv=>(A6 λw=>(A e c f h w v l o r))))))))))))) rfl))
def Au0(L:Nat)(l j:Bool)(p:LL)(m:Unit->Option R)(h:By->Int->LL->Option R):Option R:=cond (ltI 256 (p.length:Int)) (m ()) (Y1 L L l j p (p.length:Int) 0 [] (λi=>h ([]:By) 2 i) (λb a c g=>vl (g.length:Int) λf=>cond (ltI 0 f) (cond (G0 (g.length+1)) (Gz L L b a c f 128 0 72 f (g++[[(SV.int .u8 45)]]) (λd=>cond (w8 d Qh) (h (j9 Nu d) 0 d) none)) none) (Gz L L b a c f 128 0 72 f g (λe=>cond (w8 e Qh) (h (j9 Nu e) 0 e) none))))
def Dq1(d:Nat)(p_z p_t p):evC (T9 L) (d+1) W Y 156 [.s (.sl p_z p_t 1 p)] [] s=Au0 L p_z p_t p (λ_=>some (.tup [pS ([]:By),pI 3],[],s)) (λi j h=>some (.tup [pS i,pI j],[.arr true 5 1 h],s)):=evT aj1 λQ=>by
 unfold Au0;exact let g:=(F2 2 (F6 (T9 L) Q Y (cd [1,1,1,1,1,1,1,1] Gg) (I8 (T9 L) aj1)));(j8 (by kernel_rfl) (A0 rfl ((Bf7 L Q Y s (F2 0 (F6 (T9 L) Q Y (cd [1,1,1,1] Gg) (I8 (T9 L) aj1))) L p_z p_t p (p.length:Int) 0 []).trans (congr (congr rfl (by kernel_rfl)) (fx4 λb a c f=>(j8 (by kernel_rfl) (A6 λe=>(A0 (A0 (ag (NH L Q Y s g L b a c e 128 0 72 e (f++[[(SV.int .u8 45)]]))) rfl) (ag (NH L Q Y s g L b a c e 128 0 72 e f))))))))))
end
def AC(k b:Nat):N4 ((36*k:Nat):Int) (b:Int)=(thr k b:Int):=by unfold N4 thr;omega
def Ch0{a:Int->Option R}(b:Int):D74 LF b a=a b:=rfl
def Bg3{a:Int->Int->Int->Option R}(k b:Int)(e:ltN k 1000000000000=true)(f:ltN b 1000000=true):B48 LF k b a=a (N4 k b) (ac4 k 36) b:=by
 obtain⟨g,h⟩:=E9.1 e;obtain⟨i,j⟩:=E9.1 f;unfold B48;have c:A1 (k+36)=k+36:=A4;have d:A1 (k+36-b)=k+36-b:=A4;simp only[vl,c,d];have:(if (26:Int)<(if (1:Int) > k+36-b then (1:Int) else k+36-b) then (26:Int) else (if (1:Int) > k+36-b then (1:Int) else k+36-b))=N4 k b:=by
  unfold N4;omega
 grind
def Ti{q k b:Nat}(h:q<thr k b):R8 q k b=[Bn q]:=by rw[R8,dif_pos h]
def CV{q k b:Nat}(h:¬q<thr k b):R8 q k b=Bn (thr k b+(q-thr k b) % (36-thr k b))::R8 ((q-thr k b) / (36-thr k b)) (k+1) b:=by rw[R8,dif_neg h]
def YJ{x y m:Nat}(a:10<=y)(h:x<10*m):x / y<m:=by have b:x / y<=x / 10:=Nat.div_le_div_left a (by omega);omega
def A98(b:Nat):∀(r q k:Nat),q<10 ^ r->(R8 q k b).length<=r+1:=by
 intro r
 induction r with
 | zero=>
  intro q k h;have c:=Z6 k b;rw[Ti (by simp at h;omega)];simp
 | succ r d=>
  intro q k h;have c:=Z6 k b;by_cases a:q<thr k b
  ·rw[Ti a];simp
  ·rw[CV a,j4];have:=d ((q-thr k b) / (36-thr k b)) (k+1) (YJ (by omega) (by rw[am0] at h;omega));omega
def Cf7(z:Bool)(b:Nat)(K:b<1000000):∀(r q k n:Nat) (l:LL),q<10 ^ r->q<1152921504606846976->k+r<=1000->r<n->l.length+r<=200000->
  ∃(d f:Int),∀(R:Type) (a:Kce R),Js LF n (q:Int) z l (b:Int) ((36*k:Nat):Int) a=a z (l++(R8 q k b).map F4) d f:=by
 have c:∀(q k n:Nat) (l:LL),q<thr k b->k<=1000->l.length<=200000->∃(d f:Int),∀(R:Type) (a:Kce R),Js LF (n+1) (q:Int) z l (b:Int) ((36*k:Nat):Int) a=a z (l++(R8 q k b).map F4) d f:=by
  intro q k n l g i j;have p:=Z6 k b;refine⟨(b:Int),ac4 ((36*k:Nat):Int) 36,λR a=>?_⟩;rw[Js];rw[O0,O0,AC,A7,O0,Ti g];simp only[vl,aa,j0];rw[E8 (by omega)];rfl
 intro r
 induction r with
 | zero=>
  intro q k n l h _ i H j;have p:=Z6 k b;rcases n with _|n;omega
  exact c q k n l (by simp at h;omega) (by omega) (by omega)
 | succ r I=>
  intro q k n l h o i H j;have p:=Z6 k b;rcases n with _|n;omega
  by_cases g:q<thr k b
  ·exact c q k n l g (by omega) (by omega)
  ·have D:(q-thr k b) / (36-thr k b)<10 ^ r:=YJ (by omega) (by rw[am0] at h;omega);have F:(q-thr k b) / (36-thr k b)<=q:=al9 (ag3 _ _) (by omega);have G:(q-thr k b) % (36-thr k b)<36-thr k b:=ak0 _ (by omega);obtain⟨d,f,e⟩:=I ((q-thr k b) / (36-thr k b)) (k+1) n (l++[F4 (Bn (thr k b+(q-thr k b) % (36-thr k b)))]) D (by omega) (by omega) (by omega) (by rw[o0,ad1];omega);refine⟨d,f,λR a=>?_⟩;rw[Js];have t:A1 ((q:Int)-(thr k b:Int))=((q-thr k b:Nat):Int):=by rw[A4];omega
   have u:A1 ((36:Int)-(thr k b:Int))=((36-thr k b:Nat):Int):=by rw[A4];omega
   have v:ah9 ((q-thr k b:Nat):Int) ((36-thr k b:Nat):Int)=(((q-thr k b) % (36-thr k b):Nat):Int):=Dy _ _;have w:ag6 ((q-thr k b:Nat):Int) ((36-thr k b:Nat):Int)=(((q-thr k b) / (36-thr k b):Nat):Int):=O2 _ _;have C:((((36-thr k b:Nat):Int))!=0)=true:=by rw[bne_iff_ne];omega
   rw[O0,O0,AC,A5];simp only[vl,t,u,v,w,C,aa,ab];rw[CV g];generalize hA:(q-thr k b) / (36-thr k b)=A at *;generalize J:(q-thr k b) % (36-thr k b)=B at *;have x:A1 ((thr k b:Int)+(B:Int))=((thr k b+B:Nat):Int):=ah
   have y:A1 (A:Int)=(A:Int):=A4;rw[x,y,O0,E8 (by omega),j0,show ac4 ((36*k:Nat):Int) 36=((36*(k+1):Nat):Int) from(by show((36*k:Nat):Int)+36=_;omega)];refine j8 (e R a) ?_;simp[aa1]
def Cf8(q b:Int)(z:Bool)(l:LL)(h:ltN q 1152921504606846976=true)(i:ltN b 1000000=true)(j:p5 l.length 100000=true) :
  ∃(c d:Int),∀(R:Type) (a:Kce R),D72 LF q b z l a=a z (aj3 l ((R8 q.toNat 0 b.toNat).map F4)) c d:=by
 obtain⟨f,m⟩:=E9.1 h;obtain⟨g,n⟩:=E9.1 i;obtain⟨q,rfl⟩:=x6 f;obtain⟨b,rfl⟩:=x6 g;have o:=ad3 j;have k:=C9;obtain⟨c,d,e⟩:=Cf7 z b (by omega) 19 q 0 LF l (by omega) (by omega) (by omega) (by omega) (by omega);exact⟨c,d,λR a=>e R _⟩
def Cf(l:List Int):LL:=l.map λx=>[SV.int .i64 x]
def C4(l:List Nat):LL:=l.map λx:Nat=>[SV.int .i64 (x:Int)]
def To(l:List Nat):Cf (l.map λn:Nat=>(n:Int))=C4 l:=by simp[Cf,C4,ae5]
def Y8(l:List Int):(Cf l).length=l.length:=by simp[Cf]
def E4(l:List Nat):(C4 l).length=l.length:=by simp[C4]
def Mp(a b:List Nat):C4 (a++b)=C4 a++C4 b:=by simp[C4]
def ZX{l:List Int}{i:Nat}(h:i<l.length):okE Na (Cf l) i 0=true:=by unfold okE Cf Na;simp[o6,h,okS,SV.has]
def Ba6(l:List Int)(i:Nat)(h:i<l.length):gE (Cf l) i 0=l.getD i 0:=by unfold gE gC Cf;simp[o6,x5 h,SV.gI]
def Tq{l:List Nat}{i:Nat}(h:i<l.length):okE Na (C4 l) i 0=true:=by rw[<-To];exact ZX (by simpa using h)
def CX(l:List Nat)(i:Nat)(h:i<l.length):gE (C4 l) i 0=(l.getD i 0:Int):=by rw[<-To,Ba6 _ _ (by simpa using h)];grind
def B27{l:LL}(h:l.all Px=true):∃P:List Int,l=Cf P:=by
 induction l with
 | nil=>exact⟨[],rfl⟩
 | cons x r b=>
  simp only[ab6,s9] at h;obtain⟨P,rfl⟩:=b h.2;have a:=h.1;unfold Px at a;split at a
  ·rename_i n;exact⟨n::P,rfl⟩
  ·cases a
def Ap1(P:List Int):(Cf P).map elI=P:=by
 unfold Cf;rw[ac1]
 conv=>rhs;rw[<-am5 P]
 apply ab8;intro x _;simp[elI,SV.gI]
def Ap0(l:List Int)(i:Nat)(h:i<l.length):l.drop i=l.getD i 0::l.drop (i+1):=by simp_all
def Xy(l:List Nat)(i:Nat)(h:i<l.length):l.drop i=l.getD i 0::l.drop (i+1):=by simp_all
def Dh4:∀(r d k:Nat),d<456*35 ^ r->BU d k<=k+36*r+36:=by
 intro r
 induction r with
 | zero=>
  intro d k h;rw[Vu (by simp at h;omega)];have:36*d / (d+38)<=36:=by
   apply Nat.div_le_of_le_mul;omega
  omega
 | succ r b=>
  intro d k h;by_cases a:455<d
  ·rw[KG a];grind
  grind
def Qs(d c:Nat)(f:Bool)(h:d<1152921504606846976):T4 d c f<=500:=by
 unfold T4;have a:∀x:Nat,x<=d->BU (x+x / c) 0<=500:=by
  intro x a;have:=ag3 x c;have:=Dh4 11 (x+x / c) 0 (by omega);omega
 grind
def RX{q k b:Nat}(h:q<1152921504606846976):(R8 q k b).length<=20:=A98 b 19 q k (by omega)
def B46(z t:Bool)(c:List Nat)(a m:Nat)(Q:m<=1114112)(P:c.length<=256):∀(r i n:Nat) (s:UL),i+r=c.length->r<n->s.delta+r<=1000000000000->s.bias<=500->s.out.length+20*r<=90000->s.done+r<=1000->a<=256->
  (∀(R:Type) (d:Kbj R),Dq LF n z t (C4 c) (a:Int) (m:Int) (s.delta:Int) (s.bias:Int) (s.done:Int) (c.length:Int) (i:Int) (s.out.map F4) d =
   d z t (C4 c) (a:Int) (m:Int) ((K3 m a (c.drop i) s).delta:Int) ((K3 m a (c.drop i) s).bias:Int) ((K3 m a (c.drop i) s).done:Int) ((K3 m a (c.drop i) s).out.map F4))/\
  (K3 m a (c.drop i) s).bias<=500/\(K3 m a (c.drop i) s).out.length<=s.out.length+20*(c.drop i).countP (· == m)/\(K3 m a (c.drop i) s).done=s.done+(c.drop i).countP (· == m)/\
  (K3 m a (c.drop i) s).delta<=(if 0<(c.drop i).countP (· == m) then r else s.delta+r):=by
 intro r
 induction r with
 | zero=>
  intro i n s N O K x L M y;rcases n with _|n;omega
  rw[o7 (by omega)];refine⟨λR d=>?_,x,by simp[K3],by simp[K3],by simp[K3]⟩;rw[Dq];rw[A5];rfl
 | succ r F=>
  intro i n s N O K x L M y;rcases n with _|n;omega
  rw[Xy c i (by omega)];have C:=CX c i (by omega);have ok:=Tq (l:=c) (i:=i) (by omega);generalize c.getD i 0=p at *;have A:A1 ((i:Int)+1)=((i+1:Nat):Int):=ah
  have I:A1 ((s.delta:Int)+1)=((s.delta+1:Nat):Int):=ah
  have J:A1 ((s.done:Int)+1)=((s.done+1:Nat):Int):=ah
  by_cases D:p<m
  ·have e:(p==m)=false:=by rw[beq_eq_false_iff_ne];omega
   have j:K3 m a (p::c.drop (i+1)) s=K3 m a (c.drop (i+1)) { s with delta:=s.delta+1 }:=by rw[K3,ac D]
   obtain⟨o,u,v,w,f⟩:=F (i+1) n { s with delta:=s.delta+1 } (by omega) (by omega) (by simp only;omega) x (by simp only;omega) (by simp only;omega) y;rw[j,af1 (by rw[e];simp)];refine⟨λR d=>?_,u,v,w,?_⟩
   ·rw[Dq];rw[A7,E4,G2,j0,ok];simp only[aa,vl,C,A,I];rw[A7,aa];exact o R d
   ·simp only at f;split at f<;>split<;>omega
  ·by_cases H:p=m
   ·subst H;have G:=RX (q:=s.delta) (k:=0) (b:=s.bias) (by omega);have B:=Qs s.delta (s.done+1) (s.done==a) (by omega);have j:K3 p a (p::c.drop (i+1)) s=K3 p a (c.drop (i+1)) { delta:=0,bias:=T4 s.delta (s.done+1) (s.done==a),done:=s.done+1,out:=s.out++R8 s.delta 0 s.bias }:=by rw[K3,ae D,ac rfl]
    obtain⟨o,u,v,w,f⟩:=F (i+1) n { delta:=0,bias:=T4 s.delta (s.done+1) (s.done==a),done:=s.done+1,out:=s.out++R8 s.delta 0 s.bias } (by omega) (by omega) (by simp only;omega) B (by simp only[o0];omega) (by simp only;omega) y;rw[j,List.countP_cons_of_pos (by simp)];refine⟨λR d=>?_,u,?_,?_,?_⟩
    ·rw[Dq];have g:((s.done:Int)==(a:Int))=(s.done==a):=by grind
     rw[A7,E4,G2,j0,ok];simp only[aa,vl,C,A,J];rw[A5,ab,beq_self_eq_true,aa,O0,O0,v7,ad2 (show s.out.length<=100000 by omega),O0,A7,g];simp only[aa,j0];have h:aj3 (s.out.map F4) ((R8 s.delta 0 s.bias).map F4)=(s.out++R8 s.delta 0 s.bias).map F4:=by rw[ag1];rfl
     rw[h];exact o R d
    ·simp only[o0] at v;omega
    ·simp only at w;omega
    ·simp only at f;rw[W4];split at f<;>omega
   ·have e:(p==m)=false:=by rw[beq_eq_false_iff_ne];omega
    have j:K3 m a (p::c.drop (i+1)) s=K3 m a (c.drop (i+1)) s:=by rw[K3,ae D,ae H]
    obtain⟨o,u,v,w,f⟩:=F (i+1) n s (by omega) (by omega) (by omega) x (by omega) (by omega) y;rw[j,af1 (by rw[e];simp)];refine⟨λR d=>?_,u,v,w,?_⟩
    ·rw[Dq];rw[A7,E4,G2,j0,ok];simp only[aa,vl,C,A];rw[A5,ab,show((p:Int)==(m:Int))=false by rw[beq_eq_false_iff_ne];omega,ab];exact o R d
    ·split at f<;>split<;>omega
def Bg0{k0:Kah R}(z t:Bool)(a:List Nat)(k:a.length<=256)(n0:Nat)(b delta c done:Int)(l:LL):∀(r i n m:Nat),i+r=a.length->r<n->
  Ju LF n z t (C4 a) b (n0:Int) delta c done (m:Int) (a.length:Int) (i:Int) l k0=k0 z t (C4 a) b (n0:Int) delta c done ((J9 n0 (a.drop i) m:Nat):Int) l:=by
 intro r
 induction r with
 | zero=>
  intro i n m g j;rcases n with _|n;omega
  rw[Ju];rw[A5,o7 (by omega)];rfl
 | succ r d=>
  intro i n m g j;rcases n with _|n;omega
  have f:=CX a i (by omega);have ok:=Tq (l:=a) (i:=i) (by omega);rw[Ju,Xy a i (by omega)];generalize a.getD i 0=p at *;have e:A1 ((i:Int)+1)=((i+1:Nat):Int):=ah
  rw[A7,E4,G2,j0,ok];simp only[aa,vl,f,e,J9];by_cases h:n0<=p
  ·rw[ac h,A5,j7,aa];have:(if (p:Int)<(m:Int) then (p:Int) else (m:Int))=((min m p:Nat):Int):=by split<;>omega
   rw[this];exact d (i+1) n (min m p) (by omega) (by omega)
  ·rw[ae h,A7,j5,ab];exact d (i+1) n m (by omega) (by omega)
def Fx(n:Nat):∀(l:List Nat) (m:Nat),(J9 n l m=m\/(J9 n l m∈l/\n<=J9 n l m))/\J9 n l m<=m/\∀p∈l,n<=p->J9 n l m<=p
 | [],m=>⟨.inl rfl,aa3 _,λp h=>by cases h⟩
 | q::r,m=>by
  obtain⟨a,b,c⟩:=Fx n r (if n<=q then min m q else m);simp only[J9];grind
def Xv{n m:Nat}(a:n<=m):∀l:List Nat,(∀p∈l,n<=p->m<=p)->l.countP (λp=>decide (p<m+1))=l.countP (λp=>decide (p<n))+l.countP (· == m)
 | [],_=>rfl
 | p::l,h=>by
  have d:=Xv a l (λq b=>h q (ac0 _ b));have c:=h p List.mem_cons_self;grind
def A90{n:Nat}{l:List Nat}(h:l.countP (λp=>decide (p<n))<l.length):∃p∈l,n<=p:=by
 apply ae3;intro a;have:l.countP (λp=>decide (p<n))=l.length:=by simp_all
 omega
def C37(z t:Bool)(a:List Nat)(b:Nat)(x:a.length<=256)(N:b<=256)(g:∀p∈a,p<=1114111):∀(f n d:Nat) (s:UL),s.done=a.countP (λp=>decide (p<n))->a.length<=s.done+f->f<d->s.delta<=300->s.bias<=500->s.out.length+20*(a.length-s.done)<=80000->n<=1114112->
  ∀(R:Type) (k0:LL->Option R),Gz LF d z t (C4 a) (b:Int) (n:Int) (s.delta:Int) (s.bias:Int) (s.done:Int) (s.out.map F4) k0=k0 ((U0 a b f n s).out.map F4):=by
 intro f;have M:=C9
 induction f with
 | zero=>
  intro n d s P S T I v J L R k0;rcases d with _|d;omega
  rw[Gz];rw[E4,A5];rfl
 | succ f U=>
  intro n d s P S T I v J L R k0;rcases d with _|d;omega
  rw[Gz];rw[E4];have O:a.countP (λp=>decide (p<n))<=a.length:=aa5;by_cases j:s.done<a.length
  ·obtain⟨A,k,q⟩:=A90 (n:=n) (l:=a) (by omega);obtain⟨g1,g2,u⟩:=Fx n a 1114112;have g4:=u A k q;have g5:=g A k;have e:J9 n a 1114112∈a/\n<=J9 n a 1114112:=by grind
   have Q:U0 a b (f+1) n s=U0 a b f (J9 n a 1114112+1) { K3 (J9 n a 1114112) b a { s with delta:=s.delta+(J9 n a 1114112-n)*(s.done+1) } with delta:=(K3 (J9 n a 1114112) b a { s with delta:=s.delta+(J9 n a 1114112-n)*(s.done+1) }).delta+1 }:=by
    rw[U0,ac j]
   rw[Q,A7,aa];have c:=λ(K:Kah R)=>Bg0 (k0:=K) z t a x n (b:Int) (s.delta:Int) (s.bias:Int) (s.done:Int) (s.out.map F4) a.length 0 LF 1114112 (by omega) (by omega)
   rw[w9] at c;refine j8 (c _) ?_;generalize J9 n a 1114112=m at *;have y:(m-n)*(s.done+1)<=1114112*256:=ag9 (by omega) (by omega);have B:A1 ((s.done:Int)+1)=((s.done+1:Nat):Int):=ah
   have C:A1 ((m:Int)-(n:Int))=((m-n:Nat):Int):=by rw[A4];omega
   have D:A1 (((m-n:Nat):Int)*((s.done+1:Nat):Int))=(((m-n)*(s.done+1):Nat):Int):=by
    rw[<-Int.natCast_mul];exact A4
   have F:A1 ((s.delta:Int)+(((m-n)*(s.done+1):Nat):Int))=((s.delta+(m-n)*(s.done+1):Nat):Int):=by
    rw[A4];rfl
   simp only[vl,B,C,D,F];have i:=B46 z t a b m (by omega) x a.length 0 LF { s with delta:=s.delta+(m-n)*(s.done+1) } (by omega) (by omega) (by simp only;omega) v (by simp only;omega) (by simp only;omega) N;rw[w9] at i;obtain⟨V,W,X,Y,Z⟩:=i;rw[E4];refine j8 (V R _) ?_;have h:0<a.countP (· == m):=ah1.2 ⟨m,e.1,by simp⟩;rw[ac h] at Z;have r:=Xv e.2 a u;generalize K3 m b a { s with delta:=s.delta+(m-n)*(s.done+1) } = o at *;simp only at X Y;have G:A1 ((o.delta:Int)+1)=((o.delta+1:Nat):Int):=ah
   have H:A1 ((m:Int)+1)=((m+1:Nat):Int):=ah
   have w:a.countP (λp=>decide (p<m+1))<=a.length:=aa5;simp only[G,H];exact U (m+1) d { o with delta:=o.delta+1 } (by simp only;omega) (by simp only;omega) (by omega) (by simp only;omega) W (by simp only;omega) (by omega) R k0
  ·rw[A5];rw[U0,ae j];rfl
def Z7(l:List Int):By:=(l.filter λx=>decide (x<128)).map λx=>y9 x.toNat
def Da6(x:Int)(a:0<=x)(h:x<128):[SV.int .u8 (wu8 x)]=F4 (y9 x.toNat):=by
 unfold F4;have e:wu8 x=x:=by unfold wu8;exact Int.emod_eq_of_lt a (show x<256 by omega)
 rw[e];have:((y9 x.toNat).toNat:Int)=x:=by simp;omega
 rw[this]
def Wn{x:Int}(h:ptI x=true):0<=x/\x<=1114111:=by
 cases x with
 | negSucc m=>cases h
 | ofNat m=>
  have:Z0 m=true:=h;unfold Z0 at this;simp only[s9,x8] at this;grind
def Bf5(z t:Bool)(P:List Int)(A:P.length<=256):∀(r i n:Nat) (out:By),i+r=P.length->r<n->out.length+r<=1000->
  ((P.drop i).all ptI=true->∀(R:Type) (a:LL->Option R) (b:Kbd R),Y1 LF n z t (Cf P) (P.length:Int) (i:Int) (out.map F4) a b=b z t (Cf P) ((out++Z7 (P.drop i)).map F4))/\
  ((P.drop i).all ptI=false->∃l,∀(R:Type) (a:LL->Option R) (b:Kbd R),Y1 LF n z t (Cf P) (P.length:Int) (i:Int) (out.map F4) a b=a l):=by
 intro r
 induction r with
 | zero=>
  intro i n out u v w;rcases n with _|n;omega
  rw[o7 (by omega)];refine⟨λ_ R a b=>?_,λh=>(by cases h)⟩;rw[Y1];rw[A5];simp[Z7]
 | succ r q=>
  intro i n out u v w;rcases n with _|n;omega
  have j:=Ba6 P i (by omega);have ok:=ZX (l:=P) (i:=i) (by omega);rw[Ap0 P i (by omega)];generalize P.getD i 0=x at *;have p:A1 ((i:Int)+1)=((i+1:Nat):Int):=ah
  cases f:ptI x with
  | false=>
   refine⟨λh=>?_,λ_=>⟨out.map F4,λR a b=>?_⟩⟩
   ·rw[ab6,f] at h;cases h
   ·rw[Y1];rw[A7,Y8,G2,j0,ok];simp only[aa,vl,j,f,j7]
  | true=>
   obtain⟨y,B⟩:=Wn f;rw[ab6,f,ab5];by_cases c:x<128
   ·have d:Z7 (x::P.drop (i+1))=y9 x.toNat::Z7 (P.drop (i+1)):=by
     unfold Z7;rw[List.filter_cons_of_pos (by simpa using c)];rfl
    have g:out.map F4++[[SV.int .u8 (wu8 x)]]=(out++[y9 x.toNat]).map F4:=by rw[Da6 x y c];simp
    obtain⟨k,o⟩:=q (i+1) n (out++[y9 x.toNat]) (by omega) (by omega) (by simp;omega);have step:∀(R:Type) (a:LL->Option R) (b:Kbd R),Y1 LF (n+1) z t (Cf P) (P.length:Int) (i:Int) (out.map F4) a b=Y1 LF n z t (Cf P) (P.length:Int) ((i+1:Nat):Int) ((out++[y9 x.toNat]).map F4) a b:=by
     intro R a b;rw[Y1];rw[A7,Y8,G2,j0,ok];simp only[aa,vl,j,f,j5,ab,p];rw[C5 c,v7,E8 (by omega),g];rfl
    refine⟨λh R a b=>?_,λh=>?_⟩
    ·rw[step,k h,d];simp
    ·obtain⟨l,e⟩:=o h;exact⟨l,λR a b=>by rw[step];exact e R a b⟩
   ·have d:Z7 (x::P.drop (i+1))=Z7 (P.drop (i+1)):=by
     unfold Z7;rw[List.filter_cons_of_neg (by simpa using c)]
    obtain⟨k,o⟩:=q (i+1) n out (by omega) (by omega) (by omega);have step:∀(R:Type) (a:LL->Option R) (b:Kbd R),Y1 LF (n+1) z t (Cf P) (P.length:Int) (i:Int) (out.map F4) a b=Y1 LF n z t (Cf P) (P.length:Int) ((i+1:Nat):Int) (out.map F4) a b:=by
     intro R a b;rw[Y1];rw[A7,Y8,G2,j0,ok];simp only[aa,vl,j,f,j5,ab,p];rw[A5];rfl
    refine⟨λh R a b=>?_,λh=>?_⟩
    ·rw[step,k h,d]
    ·obtain⟨l,e⟩:=o h;exact⟨l,λR a b=>by rw[step];exact e R a b⟩
def B49{P:List Int}(h:P.all ptI=true):∃a:List Nat,P=a.map (λn:Nat=>(n:Int))/\a.all Z0=true/\∀p∈a,p<=1114111:=by
 induction P with
 | nil=>exact⟨[],rfl,rfl,by simp⟩
 | cons x P c=>
  rw[ab6,s9] at h;obtain⟨a,rfl,b,e⟩:=c h.2;obtain⟨d,f⟩:=Wn h.1;obtain⟨m,rfl⟩:=x6 d;refine⟨m::a,rfl,?_,?_⟩
  ·rw[ab6,b,ac2];exact h.1
  grind
def KL(a:List Nat):Z7 (a.map λn:Nat=>(n:Int))=K8 a:=by
 unfold Z7 K8
 induction a with
 | nil=>rfl
 | cons p r b=>
  grind
def Vy(a:List Nat):(K8 a).length=a.countP (λp=>decide (p<128)):=by unfold K8;grind
def Bf6(z t:Bool)(P:List Int):(Z8 P=([],3)/\∀(R:Type) (b:Unit->Option R) (f:By->Int->LL->Option R),Au0 LF z t (Cf P) b f=b ())\/
  (∃l,∀(R:Type) (b:Unit->Option R) (f:By->Int->LL->Option R),Au0 LF z t (Cf P) b f=f (Z8 P).1 ((Z8 P).2:Nat) l):=by
 have x:=C9;by_cases j:256<P.length
 ·refine .inl ⟨by unfold Z8;rw[ac j],λR b f=>?_⟩;unfold Au0;rw[Y8,A7];rfl
 ·right
  obtain⟨v,w⟩:=Bf5 z t P (by omega) P.length 0 LF [] (by omega) (by omega) (by simp;omega);rw[w9] at v w;cases g:P.all ptI with
  | false=>
   obtain⟨l,e⟩:=w g;refine⟨l,λR b f=>?_⟩;unfold Au0;rw[Y8,A5,ab];refine j8 (e R _ _) ?_;unfold Z8;rw[ae j,g];rfl
  | true=>
   obtain⟨a,rfl,A,q⟩:=B49 g;rw[v7] at j;have m:Z8 (a.map λn:Nat=>(n:Int))=El a:=by
    unfold Z8;rw[v7,ae j,g];simp[ae5]
   have k:=Vy a;have y:a.countP (λp=>decide (p<128))<=a.length:=aa5;have main:∀(o:By),o.length<=300->∀(R:Type) (b:LL->Option R),Gz LF LF z t (C4 a) ((K8 a).length:Int) 128 0 72 ((K8 a).length:Int) (o.map F4) b=b ((U0 a (K8 a).length 256 128 { delta:=0,bias:=72,done:=(K8 a).length,out:=o }).out.map F4):=by
    intro o B R b;exact C37 z t a (K8 a).length (by omega) (by omega) q 256 128 LF { delta:=0,bias:=72,done:=(K8 a).length,out:=o } k (by simp only;omega) (by omega) (by simp) (by simp) (by simp only;omega) (by omega) R b
   have d:El a=((U0 a (K8 a).length 256 128 { delta:=0,bias:=72,done:=(K8 a).length,out:=if (K8 a).isEmpty then [] else K8 a++[45] }).out,0):=by
    unfold El;grind
   refine⟨(El a).1.map F4,λR b f=>?_⟩;unfold Au0;rw[Y8,v7,A5,ab,m];have i:=v g R;rw[v7] at i;refine j8 (i _ _) ?_;rw[ab4,KL,To];simp only[vl,v7];by_cases c:K8 a=[]
   ·rw[c,p7,A5,ab];have r:=main [] (by simp) R;rw[c,p7] at r;rw[af8] at r;refine j8 (r _) ?_;rw[c] at d;rw[d];simp only[ai7,if_true,p7];rw[Af,An];rfl
   ·have u:0<(K8 a).length:=aa2.2 c;rw[A7,aa,E8 (by omega),aa];have h:(K8 a).map F4++[[SV.int .u8 45]]=(K8 a++[45]).map F4:=by rw[ag1];rfl
    rw[h];refine j8 (main (K8 a++[45]) (by simp;omega) R _) ?_;rw[d,ae (by simpa using c)];rw[Af,An];rfl
def Dq2(z t:Bool)(p:LL)(b:p.all Px=true):∃r H,Au0 LF z t p (λ_=>rv (.tup [.s (.str []),.s (.int .i64 3)]) []) (λd e l=>rv (.tup [.s (.str d),.s (.int .i64 e)]) [.arr true 5 1 l])=rv r H/\
  r.stab [0,0] H = .tup [.s (.str (Z8 (p.map elI)).1),.s (.int .i64 ((Z8 (p.map elI)).2:Nat))]:=by
 obtain⟨P,rfl⟩:=B27 b;rw[Ap1];rcases Bf6 z t P with⟨c,a⟩|⟨l,a⟩
 ·exact⟨_,_,a _ _ _,by rw[c];rfl⟩
 ·exact⟨_,_,a _ _ _,rfl⟩
section
variable {W R : Type} (L : Nat) (Q : G1) (Y : Yh W) (s : W) (k : Out -> St W -> Option R)
noncomputable abbrev D43:Code:=D7 al3
noncomputable def KT(L:Nat):=mkC L 197 [(3,[0,1,0,0])] [(17,[2]),(16,[0,2,0,53]),(15,[0,2,0]),(14,[2]),(13,[0,2,0,1,45]),(12,[0,2,0,0,0]),(11,[2]),(10,[0,2,0,0,41]),(9,[0,2,0,0]),(8,[0,2,0,0]),(7,[2]),(6,[0,2,0,0,18]),(5,[0,2,0,0]),(4,[2]),(3,[0,2,0,11]),(2,[0,2,0]),(1,[0,2]),(0,[0])] [(0,[2]),(1,[0,2,0])] [2] [(199,IQ),(206,A61)] [206] [(209,Sa)] [] [209]
abbrev Kbe(R:Type):=Int->By->Int->Int->Int->Bool->Bool->LL->Int->Option R
def Gr(L n:Nat)(p:Int)(c:By)(j o d:Int)(g l:Bool)(i:LL)(a:Int)(h:Kbe R):Option R:=match n with|0=>none|n+1=>cond (c==[]) (h 4 c j o d g l i a) (cond (inR 0 c.length) (cond (inR (bAt c (0:Int)) 256) (vl (F5 (u8n (bAt c (0:Int)))) λf=>cond (ltI f 0) (h 4 c j o d g l i a) (cond (J5 1 (c.length:Int) c.length) (vl (cut c 1 (c.length:Int)) λe=>vl (A1 (o+(A1 (f*p)))) λb=>cond (ltI 1099511627776 b) (h 19 e j b d g l i a) (cond (ltN a 1000000000000) (cond (ltN d 1000000) (cond (ltI f (N4 a d)) (h 0 e j b d g l i (ac4 a (36:Int))) (vl (A1 ((36:Int)-(N4 a d))) λm=>cond (ltI 1099511627776 (A1 (p*m))) (h 19 e j b d g l i (ac4 a (36:Int))) (Gr L n (A1 (p*m)) e j b d g l i (ac4 a (36:Int)) h))) none) none)) none)) none) none)
def A96(n w0 g e f b c h d a):D4 4 ((KT L).keep 3) (bd (KT L) Q Y (cd [1,1,1,0,0] D43)) n ⟨gp [(0,.ptr 0 0 0),(2,.fnr (v8 209) [] [.ptr 3 0 0,.ptr 2 0 0]),(0,pI w0)] 54,[.box [pS g,.fl 1,pI e,pI f,pI b,pB c],.arr h 3 1 d,.box [pI b],.box [pI a]],s⟩ k =
 Gr L n w0 g e f b c h d a (λn0 g e f b c h d a=>k .ret ⟨gp [(2,pI n0)] 56,[.box [pS g,.fl 1,pI e,pI f,pI b,pB c],.arr h 3 1 d,.box [pI b],.box [pI a]],s⟩):=by
 induction n generalizing w0 g e f b c h d a with
 | zero=>rfl
 | succ n i=>rw[Gr];simp only[<-i];kernel_rfl
def D57(L:Nat)(g:By)(n i b:Int)(q z:Bool)(l:LL)(p:Kbe R):Option R:=Gr L L 1 g n i b q z l 0 (λj o m d e a h c f=>p j o m d e a h c f)
def Dj5(d:Nat)(rest n i b st z l):evC (KT L) (d+1) W Y 197 [.ptr 0 0 0] [.box [pS rest,.fl 1,pI n,pI i,pI b,pB st],.arr z 3 1 l] s=D57 L rest n i b st z l (λj m g h c e o f a=>some (pI j,[.box [pS m,.fl 1,pI g,pI h,pI c,pB e],.arr o 3 1 f,.box [pI c],.box [pI a]],s)):=evT al3 λQ=>by
 unfold D57;exact(j8 (by kernel_rfl) (ag (A96 L Q Y s (F2 0 (I8 (KT L) al3)) L 1 rest n i b st z l 0)))
noncomputable def By3(L:Nat):=mkC L 180 [] [(16,[2]),(15,[]),(14,[0]),(13,[2]),(12,[0,67]),(11,[2]),(10,[0,4,60]),(9,[0,4]),(8,[0,4]),(7,[0,4]),(6,[0,4]),(5,[0,2,1]),(4,[2]),(3,[0,2,0,8]),(2,[0,2,0]),(1,[0,2]),(0,[0])] [] [2] [(183,Qm),(181,Qo)] [183,181] [(197,UR),(198,XD)] [] [197,198]
abbrev Kde(R:Type):=Int->By->Int->Int->Int->Bool->Bool->LL->Option R
def B17(L:Nat)(a:By)(n i b:Int)(m z:Bool)(l:LL)(j:Kde R):Option R:=cond (A2 a.length) (cond (ltN b 1000000) (cond (ltN i 1099511627777) (cond ((MY b a i)!=0) (j (MY b a i) (NA b a i) n (Wl b a i) b m z l) (vl (A1 ((l.length:Int)+1)) λc=>vl (A1 ((Wl b a i)-i)) λh=>cond (ltN h 1152921504606846976) (cond (ltN c 1000000) (cond (ltI 0 c) (vl (↑(T4 (k9 h) (k9 c) (not m)):Int) λf=>cond (c !=0) (vl (A1 (ag6 (Wl b a i) c)) λd=>cond (c !=0) (vl (ah9 (Wl b a i) c) λe=>cond (not (ptI (A1 (n+d)))) (j 2 (NA b a i) (A1 (n+d)) e f true z l) (cond (ltI 256 c) (j 3 (NA b a i) (A1 (n+d)) e f true z l) (cond (ltN e (Nat.add l.length 1)) (cond (p5 l.length 100000) (vl (Oa l (k9 e) (A1 (n+d))) λg=>j 0 (NA b a i) (A1 (n+d)) (A1 (e+1)) f true z g) none) none))) none) none) none) none) none)) none) none) none
def Cy6(d:Nat)(rest n i b st z l):evC (By3 L) (d+1) W Y 180 [.ptr 0 0 0] [.box [pS rest,.fl 1,pI n,pI i,pI b,pB st],.arr z 3 1 l] s=B17 L rest n i b st z l (λh j e f g a m c=>some (pI h,[.box [pS j,.fl 1,pI e,pI f,pI g,pB a],.arr m 3 1 c],s)):=evT Tryz.f180 λQ=>by
 unfold B17;kernel_rfl
noncomputable abbrev Vw:Code:=D7 ah0
noncomputable def Cd(L:Nat):=mkC L 155 [(20,[2,0,1]),(13,[0,1,0,1,0,22,0]),(4,[0,1,0,9,0])] [(24,[2,0]),(23,[2,0]),(22,[5,2,59]),(21,[5,2]),(20,[5,58]),(19,[2,0]),(18,[5,53]),(17,[5]),(16,[0,4,0,22,0]),(15,[0,4,0,22,0]),(14,[0,4,0,0,21,0]),(13,[0,4,0,22,0,0]),(12,[0,4,0,22,0]),(11,[0,4,0,21]),(10,[0,4,0]),(9,[0,4]),(8,[0,12,0]),(7,[2,0]),(6,[0,12,0,5]),(5,[0,3,8,0]),(4,[0,12,0,0]),(3,[0,12,0]),(2,[2,0]),(1,[0,10]),(0,[0])] [(4,[5]),(5,[5]),(2,[0,4,0]),(3,[0,4,0,22,0]),(0,[0]),(1,[0,12,0])] [2,0] [(93,GP)] [93] [(180,GO)] [] [180] (nt:=[(170,1,3,1)])
def On(L n:Nat)(b:By)(e a:Int)(c:Unit->Option R)(d:By->Option R):Option R:=match n with|0=>none|n+1=>cond (ltI a e) (cond (inR a b.length) (cond (not (ltI (bAt b a) (128:Int))) (c ()) (On L n b e (A1 (a+1)) c d)) none) (d b)
def Bf3(n a n1 n2):D4 0 ((Cd L).keep 4) (bd (Cd L) Q Y (cd [1,1,0,1,0,0] Vw)) n ⟨gp [(0,pS a),(12,pI n1),(0,pI n2)] 59,[],s⟩ k =
 On L n a n1 n2 (λ_=>k .ret ⟨gp [(2,.fl 0),(0,pI 4)] 70,[.arr true 3 1 []],s⟩) (λa=>k (.exit 0) ⟨gp [(0,pS a)] 73,[],s⟩):=by
 induction n generalizing a n1 n2 with
 | zero=>rfl
 | succ n b=>rw[On];simp only[<-b];kernel_rfl
def Jt(L n:Nat)(c:By)(a b:Int)(d:LL)(e:By->Int->LL->Option R):Option R:=match n with|0=>none|n+1=>cond (ltI b a) (cond (inR b c.length) (cond (G0 (d.length+1)) (Jt L n c a (A1 (b+1)) (d++[[(SV.int .i64 (A1 (bAt c b)))]]) e) none) none) (e c a d)
def Bf4(n b a n2 l3):D4 2 ((Cd L).keep 13) (bd (Cd L) Q Y (cd [1,1,1,1,0,1,1,0,0,1,0,0] Vw)) n ⟨gp [(0,pS b),(4,.ptr 1 0 0),(0,pI a),(22,pI a),(0,pI n2)] 43,[.arr true 3 1 l3,.box [pS b,.fl 0,pI 128,pI 0,pI 72,pB false]],s⟩ k =
 Jt L n b a n2 l3 (λb a d=>k (.exit 2) ⟨gp [(0,pS b),(4,.ptr 1 0 0),(0,pI a)] 67,[.arr true 3 1 d,.box [pS b,.fl 0,pI 128,pI 0,pI 72,pB false]],s⟩):=by
 induction n generalizing b a n2 l3 with
 | zero=>rfl
 | succ n c=>rw[Jt];simp only[<-c];kernel_rfl
abbrev Kag(R:Type):=Int->LL->By->Int->Int->Int->Bool->Option R
abbrev Kai(R:Type):=LL->By->Int->Int->Int->Bool->Option R
def V7(L n:Nat)(b:LL)(a:By)(c d e:Int)(f:Bool)(i:Kag R)(j:Kai R):Option R:=match n with|0=>none|n+1=>cond (not (a==[])) (cond (A2 a.length) (cond (ltN e 1000000) (cond (ltN d 1099511627777) (cond (ltN c 1152921504606846976) (cond (p5 b.length 100000) (vl ((G5 (DS.mk a c d e f b))).1 λh=>vl (DS.l ((G5 (DS.mk a c d e f b))).2) λg=>cond (h !=0) (i h g (DS.rest ((G5 (DS.mk a c d e f b))).2) (DS.n ((G5 (DS.mk a c d e f b))).2) (DS.i ((G5 (DS.mk a c d e f b))).2) (DS.b ((G5 (DS.mk a c d e f b))).2) (DS.st ((G5 (DS.mk a c d e f b))).2)) (V7 L n g (DS.rest ((G5 (DS.mk a c d e f b))).2) (DS.n ((G5 (DS.mk a c d e f b))).2) (DS.i ((G5 (DS.mk a c d e f b))).2) (DS.b ((G5 (DS.mk a c d e f b))).2) (DS.st ((G5 (DS.mk a c d e f b))).2) i j)) none) none) none) none) none) (j b a c d e f)
def NG(n d f e a b c):D4 2 ((Cd L).keep 20) (bd (Cd L) Q Y (cd [1,1,1,1,1,1,0,0,0] Vw)) n ⟨gp [(5,.ptr 1 0 0)] 68,[.arr true 3 1 d,.box [pS f,.fl 0,pI e,pI a,pI b,pB c]],s⟩ k =
 V7 L n d f e a b c (λn0 i l a b j g=>k .ret ⟨gp [(2,.fl 2),(0,pI n0)] 70,[.arr true 3 1 i,.box [pS l,.fl 0,pI a,pI b,pI j,pB g],.arr true 3 1 []],s⟩) (λd f e a b c=>k (.exit 4) ⟨gp [(5,.ptr 1 0 0)] 68,[.arr true 3 1 d,.box [pS f,.fl 0,pI e,pI a,pI b,pB c]],s⟩):=by
 induction n generalizing d f e a b c with
 | zero=>rfl
 | succ n h=>rw[V7];simp only[<-h];kernel_rfl
def Za(L:Nat)(M:By)(N:Int->Option R)(K:Kag R)(O:Kai R):Option R:=cond (ltI 1024 (M.length:Int)) (N 3) (On L L M (M.length:Int) 0 (λ_=>N 4) (λa=>cond (A2 a.length) (vl (M9 (u8n (45:Int)) a) λC=>cond (ltI 0 C) (Jt L L a C 0 [] (λb h c=>vl (A1 (h+1)) λD=>cond (J5 D (b.length:Int) b.length) (vl (cut b D (b.length:Int)) λJ=>cond (ltI 256 (c.length:Int)) (K 3 c J 128 0 72 false) (V7 L L c J 128 0 72 false (λn i F o p q d=>K n i F o p q d) (λj G r t u e=>O j G r t u e))) none)) (V7 L L [] a 128 0 72 false (λv l H w x y f=>K v l H w x y f) (λm I z A B g=>O m I z A B g))) none))
def Dp7(d:Nat)(s0):evC (Cd L) (d+1) W Y 155 [pS s0] [] s=Za L s0 (λg=>some (.tup [.fl 0,pI g],[.arr true 3 1 []],s)) (λg o v e f r m=>some (.tup [.fl 2,pI g],[.arr true 3 1 o,.box [pS v,.fl 0,pI e,pI f,pI r,pB m],.arr true 3 1 []],s)) (λn u q e f l=>some (.tup [.fl 0,pI 0],[.arr true 3 1 n,.box [pS u,.fl 0,pI q,pI e,pI f,pB l]],s)):=evT ah0 λQ=>by
 unfold Za;exact let i:=(F2 4 (F6 (Cd L) Q Y (cd [1,1,1,1,1,1,1] Vw) (I8 (Cd L) ah0)));(j8 (by kernel_rfl) (A0 rfl ((Bf3 L Q Y s (F2 0 (F6 (Cd L) Q Y (cd [1,1,1] Vw) (I8 (Cd L) ah0))) L s0 (s0.length:Int) 0).trans (congr (congr rfl (by kernel_rfl)) (fx1 λa=>(j8 (by kernel_rfl) (A0 (A6 λc=>(A0 ((Bf4 L Q Y s (F2 2 (F6 (Cd L) Q Y (cd [1,1,1,1,0,1,1,0,1] Vw) (F6 (Cd L) Q Y (cd [1,1,1,1,1] Vw) (I8 (Cd L) ah0)))) L a c 0 []).trans (congr rfl (fx3 λt j b=>(j8 (by kernel_rfl) (A6 λp=>(A0 (A6 λh=>(A0 rfl (ag (NG L Q Y s i L b h 128 0 72 false)))) rfl)))))) (ag (NG L Q Y s i L [] a 128 0 72 false)))) rfl)))))))
noncomputable abbrev Ak6:Code:=D7 ak8
noncomputable def Ln(L:Nat):=mkC L 126 [(2,[0,0,2,0])] [(6,[4]),(3,[0,0,3]),(5,[4]),(4,[0,0,3,11]),(2,[0,0,3,4]),(1,[0,0,3]),(0,[0,0])] [(0,[]),(1,[0,0,3])] [4]
def Eo(L n:Nat)(b:By)(c a:Int)(d:Int->Option R)(e:Unit->Option R):Option R:=match n with|0=>none|n+1=>cond (not (ltI a 0)) (cond (inR a b.length) (cond ((bAt b a)==c) (d a) (Eo L n b c (A1 (a-1)) d e)) none) (e ())
def ZA(n s0 c1 i2):D4 0 ((Ln L).keep 2) (bd (Ln L) Q Y (cd [1,0,1,0,0] Ak6)) n ⟨gp [(0,pS s0),(0,p8 c1),(3,pI i2)] 13,[],s⟩ k =
 Eo L n s0 c1 i2 (λn0=>k .ret ⟨gp [(4,pI n0)] 14,[],s⟩) (λ_=>k (.exit 0) ⟨gp [] 19,[],s⟩):=by
 induction n generalizing s0 c1 i2 with
 | zero=>rfl
 | succ n a=>rw[Eo];simp only[<-a];kernel_rfl
def YZ(L:Nat)(d:By)(e:Int)(c:Int->Option R):Option R:=vl (A1 ((d.length:Int)-1)) λa=>Eo L L d e a (λb=>c b) (λ_=>c (-1))
def Cd2(d:Nat)(s0 c1):evC (Ln L) (d+1) W Y 126 [pS s0,p8 c1] [] s=YZ L s0 c1 (λb=>some (pI b,[],s)):=evT ak8 λQ=>by
 unfold YZ;exact(j8 (by kernel_rfl) (A6 λa=>(ag (ZA L Q Y s (F2 0 (F6 (Ln L) Q Y (cd [1,1] Ak6) (I8 (Ln L) ak8))) L s0 c1 a))))
noncomputable def By8(L:Nat):=mkC L 93 [] [(1,[4]),(0,[0,0])] [] [4] [(126,Ai5)] [126]
def B33(L:Nat)(b:By)(a:Int)(c:Int->Option R):Option R:=cond (A2 b.length) (cond (inR a 256) (c (M9 (u8n a) b)) none) none
def C14(d:Nat)(s0 c1):evC (By8 L) (d+1) W Y 93 [pS s0,p8 c1] [] s=B33 L s0 c1 (λa=>some (pI a,[],s)):=evT Tryz.f93 λQ=>by
 unfold B33;kernel_rfl
end
def Hj(c:UInt8):-1<=F5 c/\F5 c<=35:=by unfold F5 Qe;grind
def Pm(k b:Int):1<=N4 k b/\N4 k b<=26:=by unfold N4;omega
def Ev{x w:Int}(b:0<=x)(c:x<=35)(a:0<=w)(w1:w<=1099511627776):0<=x*w/\x*w<=38482906972160:=by refine⟨aj7 b a,?_⟩;have:=Int.mul_le_mul c w1 a (show(0:Int)<=35 by omega);omega
def Xw(b:Int):∀(s:By) (i w k:Int),0<=i->0<=w->w<=1099511627776->(X2 b s i w k).1=0->i<=(X2 b s i w k).2.2/\(X2 b s i w k).2.2<=1099511627776/\(X2 b s i w k).2.1.length<s.length
 | [],i,w,k,_,_,_,h=>by simp[X2] at h
 | c::r,i,w,k,m,d,a,h=>by
  have l:=Hj c;have o:=Pm k b;unfold X2 at h ⊢;split at h
  ·simp at h
  ·rename_i e;rw[ae e];have n:=Ev (by omega) l.2 d a;split at h
   ·simp at h
   ·rename_i f;rw[ae f];split at h
    ·grind
    ·rename_i g;rw[ae g];split at h
     ·omega
     ·rename_i j;rw[ae j];obtain⟨p,q,t⟩:=Xw b r (i+F5 c*w) (w*(36-N4 k b)) (k+36) (by omega) (aj7 d (by omega)) (by omega) h;grind
def Cb1(f:Int)(b:Int)(g z:Bool)(l:LL)(M:0<=b)(N:b<1000000):∀(s:By) (n:Nat) (i w k:Int),s.length<n->s.length<=1000000000->0<=i->i<=1099511627776->0<=w->w<=1099511627776->0<=k->k+36*s.length<=100000000000->
  ∃H,∀(R:Type) (a:Kbe R),Gr LF n w s f i b g z l k a=a (X2 b s i w k).1 (X2 b s i w k).2.1 f (X2 b s i w k).2.2 b g z l H:=by
 intro s
 induction s with
 | nil=>
  intro n i w k K L O B G h P o;rcases n with _|n;omega
  refine⟨k,λR a=>?_⟩;rw[Gr];rfl
 | cons c r T=>
  intro n i w k K L O B G h P o;rcases n with _|n;omega
  rw[j4] at K L o;have S:=Hj c;have V:=Pm k b;have Q:u8n (bAt (c::r) 0)=c:=by unfold u8n bAt;simp
  have C:inR (bAt (c::r) 0) 256=true:=by rw[Bk];have:=c.toNat_lt;exact G9 (by omega) (by simp;omega)
  have j:cut (c::r) 1 ((c::r).length:Int)=r:=by
   have:=Fj (c::r) 1 (c::r).length;grind
  have F:((c::r)==([]:By))=false:=rfl;have start:∀(R:Type) (a:Kbe R),Gr LF (n+1) w (c::r) f i b g z l k a =
    cond (ltI (F5 c) 0) (a 4 (c::r) f i b g z l k)
     (vl (A1 (i+(A1 (F5 c*w)))) λd=>cond (ltI 1099511627776 d) (a 19 r f d b g z l k)
      (cond (ltI (F5 c) (N4 k b)) (a 0 r f d b g z l (ac4 k 36))
       (vl (A1 (36-(N4 k b))) λp=>cond (ltI 1099511627776 (A1 (w*p))) (a 19 r f d b g z l (ac4 k 36)) (Gr LF n (A1 (w*p)) r f d b g z l (ac4 k 36) a)))):=by
   intro R a;rw[Gr];rw[F,C,G9 (by omega) (by rw[j4];omega),W7 (by omega) (by rw[j4];omega) (by omega),j,Q,O0,O0];rfl
  unfold X2;by_cases u:F5 c<0
  ·rw[ac u];refine⟨k,λR a=>?_⟩;rw[start,C5 u];rfl
  ·rw[ae u];have U:=Ev (by omega) S.2 G h;have q:A1 (F5 c*w)=F5 c*w:=A4;have t:A1 (i+F5 c*w)=i+F5 c*w:=A4;by_cases v:1099511627776<i+F5 c*w
   ·rw[ac v];refine⟨k,λR a=>?_⟩;rw[start,A5,q,t];simp only[vl,ab];rw[C5 v];rfl
   ·rw[ae v];by_cases y:F5 c<N4 k b
    ·rw[ac y];refine⟨ac4 k 36,λR a=>?_⟩;rw[start,A5,q,t];simp only[vl,ab];rw[A5,C5 y];rfl
    ·rw[ae y];have I:A1 (36-N4 k b)=36-N4 k b:=A4;have D:=Ev (x:=36-N4 k b) (by omega) (by omega) G h;rw[Int.mul_comm] at D;have J:A1 (w*(36-N4 k b))=w*(36-N4 k b):=A4;by_cases A:1099511627776<w*(36-N4 k b)
     ·rw[ac A];refine⟨ac4 k 36,λR a=>?_⟩;rw[start,A5,q,t];simp only[vl,ab];rw[A5,A5,I,J,C5 A];rfl
     ·rw[ae A];obtain⟨H,e⟩:=T n (i+F5 c*w) (w*(36-N4 k b)) (k+36) (by omega) (by omega) (by omega) (by omega) (by omega) (by omega) (by omega) (by omega);refine⟨H,λR a=>?_⟩;rw[start,A5,q,t];simp only[vl,ab];rw[A5,A5,I,J,A5];exact e R a
def Cb2(a:By)(n i b:Int)(f z:Bool)(l:LL)(h:A2 a.length=true)(j:ltN b 1000000=true)(k:ltN i 1099511627777=true) :
  ∃c,∀(R:Type) (d:Kbe R),D57 LF a n i b f z l d=d (MY b a i) (NA b a i) n (Wl b a i) b f z l c:=by
 have q:=L4 h;obtain⟨g,p⟩:=E9.1 j;obtain⟨o,r⟩:=E9.1 k;have m:=C9;obtain⟨c,e⟩:=Cb1 n b f z l g (by omega) a LF i 1 0 (by omega) (by omega) o (by omega) (by omega) (by omega) (by omega) (by omega);exact⟨c,λR d=>e R _⟩
def A97{j:Kde R}(a:By)(n i b:Int)(d z:Bool)(l:LL)(y:A2 a.length=true)(C:ltN b 1000000=true)(g:ltN i 1099511627777=true)(D:ltN n 1152921504606846976=true)(h:p5 l.length 100000=true) :
  B17 LF a n i b d z l j=j (G5 ⟨a,n,i,b,d,l⟩).1 (G5 ⟨a,n,i,b,d,l⟩).2.rest (G5 ⟨a,n,i,b,d,l⟩).2.n (G5 ⟨a,n,i,b,d,l⟩).2.i (G5 ⟨a,n,i,b,d,l⟩).2.b (G5 ⟨a,n,i,b,d,l⟩).2.st z (G5 ⟨a,n,i,b,d,l⟩).2.l:=by
 obtain⟨F,P⟩:=E9.1 g;obtain⟨n0,Q⟩:=E9.1 D;have M:=ad3 h;unfold B17 G5;rw[y,C,g];simp only[aa];by_cases e:MY b a i=0
 ·rw[ac e,e];obtain⟨G,I,S⟩:=Xw b a i 1 0 F (by omega) (by omega) e;have H:i<=Wl b a i:=G;have J:Wl b a i<=1099511627776:=I;have o:A1 ((l.length:Int)+1)=(l.length:Int)+1:=A4;simp only[vl];rw[o];generalize Wl b a i=x at *;have f:0<=x:=by omega
  obtain⟨X,rfl⟩:=x6 f;have p:A1 ((X:Int)-i)=(X:Int)-i:=A4;have u:((l.length:Int)+1)=((l.length+1:Nat):Int):=rfl;have v:ag6 (X:Int) ((l.length+1:Nat):Int)=((X / (l.length+1):Nat):Int):=O2 _ _;have w:ah9 (X:Int) ((l.length+1:Nat):Int)=((X % (l.length+1):Nat):Int):=Dy _ _;have L:=ag3 X (l.length+1);have N:=ak0 X (show 0<l.length+1 by omega);rw[p,u,v,w];generalize hA:X / (l.length+1)=A at *;generalize K:X % (l.length+1)=B at *;have q:A1 (A:Int)=(A:Int):=A4;have r:A1 (n+(A:Int))=n+(A:Int):=A4;have t:A1 ((B:Int)+1)=(B:Int)+1:=A4;have k:((0:Int)!=0)=false:=rfl;have m:((((l.length+1:Nat):Int))!=0)=true:=by rw[bne_iff_ne];omega
  rw[q,r,t,k,O0,O0,A7,m];simp only[aa,ab];cases O:ptI (n+(A:Int)) with
  | false=>simp
  | true=>
   simp only[j5,ab,if_true];by_cases c:(256:Int)<((l.length+1:Nat):Int)
   ·rw[ac c,C5 c];rfl
   ·rw[ae c,A5,ab,Uy (by omega) (by show(B:Int)<((l.length+1:Nat):Int);omega),h];rfl
 ·rw[ae e,show(MY b a i !=0)=true from bne_iff_ne.2 e];rfl
def MI(c:UInt8):∀l:By,-1<=M9 c l
 | []=>by simp[M9]
 | b::r=>by
  have:=MI c r;unfold M9;omega
def MJ(c b:UInt8):∀l:By,M9 c (l++[b])=if b=c then (l.length:Int) else M9 c l
 | []=>by
  by_cases h:b=c<;>simp[M9,h]
 | a::l=>by
  have d:=MJ c b l;rw[af0,M9,d];by_cases h:b=c
  ·grind
  ·rw[ae h,ae h];rfl
def Ar2{b:Int->Option R}{d:Unit->Option R}(s:By)(c:UInt8)(l:s.length<=1000000000):∀(m n:Nat),m<=s.length->m<n->
  Eo LF n s (c.toNat:Int) ((m:Int)-1) b d=if M9 c (s.take m)<0 then d () else b (M9 c (s.take m)):=by
 intro m
 induction m with
 | zero=>
  intro n g i;rcases n with _|n;omega
  rw[Eo];rw[A7];rfl
 | succ m k=>
  intro n g i;rcases n with _|n;omega
  rw[Eo];have e0:(((m+1:Nat):Int)-1)=(m:Int):=by omega
  have e:A1 ((m:Int)-1)=(m:Int)-1:=A4;have j:s.take (m+1)=s.take m++[s.getD m 0]:=by
   rw[List.take_add_one,o6,x5 (by omega)];rfl
  rw[e0,e,A5,G2,E1,j,MJ];simp only[j7,aa];by_cases h:s.getD m 0=c
  ·rw[ac h,h,beq_self_eq_true,aa,x3,aj5 (by omega),I6]
  ·have a:(((s.getD m 0).toNat:Int)==(c.toNat:Int))=false:=by
    rw[beq_eq_false_iff_ne];intro f;exact h (UInt8.toNat.inj (Int.ofNat.inj f))
   rw[ae h,a,ab];exact k n (by omega) (by omega)
def Da8{c:Int}(h:inR c 256=true):c=((u8n c).toNat:Int):=by simp only[inR,s9,af] at h;unfold u8n;simp;omega
def Ar3{a:Int->Option R}(s:By)(c:Int)(e:A2 s.length=true)(f:inR c 256=true):YZ LF s c a=a (M9 (u8n c) s):=by
 have j:=L4 e;have g:=C9;have i:=Da8 f;generalize u8n c=d at *;subst i;unfold YZ;have b:A1 ((s.length:Int)-1)=(s.length:Int)-1:=A4;simp only[vl];rw[b];refine j8 (Ar2 s d (by omega) s.length LF (by omega) (by omega)) ?_;rw[af5];have:=MI d s;by_cases h:M9 d s<0
 ·rw[ac h,show M9 d s=-1 by omega]
 ·rw[ae h]
def Bb8{a:Int->Option R}(s:By)(c:Int)(b:A2 s.length=true)(d:inR c 256=true):B33 LF s c a=a (M9 (u8n c) s):=by unfold B33;grind
def Rg:∀s:By,(45∈s->M9 45 s=(J2 s:Int))/\(45∉s->M9 45 s=-1/\J2 s=0)
 | []=>⟨λh=>(by cases h),λ_=>⟨rfl,rfl⟩⟩
 | b::r=>by
  obtain⟨a,c⟩:=Rg r;unfold M9 J2;grind
def A31{c:UInt8}(h:Qe c=none):F5 c=-1:=by unfold F5;rw[h]
def A32{c:UInt8}{x:Nat}(h:Qe c=some x):F5 c=x:=by unfold F5;rw[h]
def Xx(b:Nat):∀(s:By) (i w k:Nat),X2 (b:Int) s (i:Int) (w:Int) ((36*k:Nat):Int)=((((F3 b s i w k).2.2:Nat):Int),(X2 (b:Int) s (i:Int) (w:Int) ((36*k:Nat):Int)).2)/\
  ((F3 b s i w k).2.2=0->(X2 (b:Int) s (i:Int) (w:Int) ((36*k:Nat):Int)).2=((F3 b s i w k).2.1,((F3 b s i w k).1:Int)))
 | [],i,w,k=>⟨rfl,λh=>by simp[F3] at h⟩
 | c::r,i,w,k=>by
  unfold X2 F3;cases d:Qe c with
  | none=>
   rw[A31 d,W4];grind
  | some x=>
   rw[A32 d,I6,AC];have e:(i:Int)+(x:Int)*(w:Int)=((i+x*w:Nat):Int):=by push_cast;rfl
   have n:=Z6 k b;have f:(w:Int)*(36-(thr k b:Int))=((w*(36-thr k b):Nat):Int):=by grind
   have g:((36*k:Nat):Int)+36=((36*(k+1):Nat):Int):=by omega
   have a:Ec=1099511627776:=by decide
   rw[e,f,g,a];simp only;generalize i+x*w=I;generalize w*(36-thr k b)=W;by_cases j:1099511627776<I
   ·grind
   ·rw[I6,ae j];by_cases l:x<thr k b
    ·grind
    ·rw[I6,ae l];by_cases m:1099511627776<W
     ·grind
     ·rw[I6,ae m];exact Xx b r I W (k+1)
def C05(l:List Nat)(i n:Nat):Oa (C4 l) i (n:Int)=C4 (Y9 l i n):=by unfold Oa Y9 C4;simp_all
def ZV(b:Nat)(s:By)(i:Nat):MY (b:Int) s (i:Int)=((F3 b s i 1 0).2.2:Int)/\((F3 b s i 1 0).2.2=0->NA (b:Int) s (i:Int)=(F3 b s i 1 0).2.1/\Wl (b:Int) s (i:Int)=((F3 b s i 1 0).1:Int)):=by obtain⟨a,c⟩:=Xx b s i 1 0;have e:X2 (b:Int) s (i:Int) 1 0=X2 (b:Int) s (i:Int) ((1:Nat):Int) ((36*0:Nat):Int):=rfl;unfold MY NA Wl;rw[e];refine⟨by rw[a],λh=>?_⟩;have:=c h;rw[this];exact⟨rfl,rfl⟩
def Ee4(s:By)(a:List Nat)(n i b:Nat)(c:Bool)(h:(F3 b s i 1 0).2.2=0)(q:i<=(F3 b s i 1 0).1)(o:Z0 (n+(F3 b s i 1 0).1 / (a.length+1))=true)(p:¬ 256<a.length+1) :
  G5 ⟨s,(n:Int),(i:Int),(b:Int),c,C4 a⟩=(0,⟨(F3 b s i 1 0).2.1,((n+(F3 b s i 1 0).1 / (a.length+1):Nat):Int),(((F3 b s i 1 0).1 % (a.length+1)+1:Nat):Int),((T4 ((F3 b s i 1 0).1-i) (a.length+1) (!c):Nat):Int),true,C4 (Y9 a ((F3 b s i 1 0).1 % (a.length+1)) (n+(F3 b s i 1 0).1 / (a.length+1)))⟩):=by
 obtain⟨j,k⟩:=ZV b s i;obtain⟨l,m⟩:=k h;unfold G5;simp only;rw[j,h,ac (show((0:Nat):Int)=0 from rfl),l,m,E4];generalize (F3 b s i 1 0).1=X at *;have d:((a.length:Int)+1)=((a.length+1:Nat):Int):=rfl;have e:ag6 (X:Int) ((a.length+1:Nat):Int)=((X / (a.length+1):Nat):Int):=O2 _ _;have f:ah9 (X:Int) ((a.length+1:Nat):Int)=((X % (a.length+1):Nat):Int):=Dy _ _;have g:(n:Int)+((X / (a.length+1):Nat):Int)=((n+X / (a.length+1):Nat):Int):=rfl;rw[d,e,f,g,Oo,o,ac rfl,I6,j0,C05,j0,show((X:Int)-(i:Int)).toNat=X-i by omega];rfl
def D58(s:By)(a:List Nat)(n i b:Nat)(f:Bool):((F3 b s i 1 0).2.2≠0->(G5 ⟨s,(n:Int),(i:Int),(b:Int),f,C4 a⟩).1=((F3 b s i 1 0).2.2:Int))/\
  ((F3 b s i 1 0).2.2=0->Z0 (n+(F3 b s i 1 0).1 / (a.length+1))=false->(G5 ⟨s,(n:Int),(i:Int),(b:Int),f,C4 a⟩).1=2)/\
  ((F3 b s i 1 0).2.2=0->Z0 (n+(F3 b s i 1 0).1 / (a.length+1))=true->256<a.length+1->(G5 ⟨s,(n:Int),(i:Int),(b:Int),f,C4 a⟩).1=3):=by
 obtain⟨c,l⟩:=ZV b s i;have g:(((C4 a).length:Int)+1)=((a.length+1:Nat):Int):=by rw[E4];rfl
 have j:∀X:Nat,ag6 (X:Int) ((a.length+1:Nat):Int)=((X / (a.length+1):Nat):Int):=λX=>O2 _ _
 have k:∀A:Nat,(n:Int)+(A:Int)=((n+A:Nat):Int):=λA=>rfl
 refine⟨λh=>?_,λh e=>?_,λh e o=>?_⟩
 ·unfold G5;simp only;rw[c,I6]
 ·obtain⟨m,d⟩:=l h;unfold G5;simp only;rw[c,h,ac (show((0:Nat):Int)=0 from rfl),d,g,j,k,Oo,e,ae (by simp)]
 ·obtain⟨m,d⟩:=l h;unfold G5;simp only;rw[c,h,ac (show((0:Nat):Int)=0 from rfl),d,g,j,k,Oo,e,ac rfl,W4]
def Ej(a:List Nat)(n i b:Nat)(f:Bool):J8 [] a n i b f=(a,0):=by rw[J8];rfl
def Ig{s:By}(c:s≠[])(a:List Nat)(n i b:Nat)(f:Bool)(h:(F3 b s i 1 0).2.2≠0):J8 s a n i b f=([],(F3 b s i 1 0).2.2):=by rw[J8,dif_neg c];grind
def Fs{s:By}(c:s≠[])(a:List Nat)(n i b:Nat)(f:Bool)(h:(F3 b s i 1 0).2.2=0):J8 s a n i b f =
  if Z0 (n+(F3 b s i 1 0).1 / (a.length+1)) then (if 256<a.length+1 then ([],3) else J8 (F3 b s i 1 0).2.1 (Y9 a ((F3 b s i 1 0).1 % (a.length+1)) (n+(F3 b s i 1 0).1 / (a.length+1))) (n+(F3 b s i 1 0).1 / (a.length+1)) ((F3 b s i 1 0).1 % (a.length+1)+1) (T4 ((F3 b s i 1 0).1-i) (a.length+1) f) false) else ([],2):=by
 rw[J8,dif_neg c];simp only;rw[dif_pos h]
def Cq(l:List Nat)(i n:Nat):(Y9 l i n).length=l.length+1:=by unfold Y9;grind
def Cg4:∀(r:Nat) (s:By) (a:List Nat) (n i b f:Nat) (c:Bool),s.length<=r->r<f->s.length<=1000000->a.length<=256->n<=1114111->i<=1000->b<=500->
  ((J8 s a n i b (!c)).2=0->∃u t q p j,∀(R:Type) (d:Kag R) (g:Kai R),V7 LF f (C4 a) s (n:Int) (i:Int) (b:Int) c d g=g (C4 (J8 s a n i b (!c)).1) u t q p j)/\
  ((J8 s a n i b (!c)).2≠0->(J8 s a n i b (!c)).1=[]/\∃l u t q p j,∀(R:Type) (d:Kag R) (g:Kai R),V7 LF f (C4 a) s (n:Int) (i:Int) (b:Int) c d g=d ((J8 s a n i b (!c)).2:Nat) l u t q p j):=by
 intro r
 induction r with
 | zero=>
  intro s a n i b f c h K _ _ _ _ _;rcases f with _|f;omega
  have v:s=[]:=o9.1 (by omega);subst v;rw[Ej];refine⟨λ_=>⟨[],n,i,b,c,λR d g=>?_⟩,λh=>absurd rfl h⟩;rw[V7];rfl
 | succ r L=>
  intro s a n i b f c h K X Y Z h4 h5;rcases f with _|f;omega
  by_cases v:s=[]
  ·subst v;rw[Ej];refine⟨λ_=>⟨[],n,i,b,c,λR d g=>?_⟩,λh=>absurd rfl h⟩;rw[V7];rfl
  ·have start:∀(R:Type) (d:Kag R) (g:Kai R),V7 LF (f+1) (C4 a) s (n:Int) (i:Int) (b:Int) c d g =
     cond ((G5 ⟨s,n,i,b,c,C4 a⟩).1 !=0) (d (G5 ⟨s,n,i,b,c,C4 a⟩).1 (G5 ⟨s,n,i,b,c,C4 a⟩).2.l (G5 ⟨s,n,i,b,c,C4 a⟩).2.rest (G5 ⟨s,n,i,b,c,C4 a⟩).2.n (G5 ⟨s,n,i,b,c,C4 a⟩).2.i (G5 ⟨s,n,i,b,c,C4 a⟩).2.b (G5 ⟨s,n,i,b,c,C4 a⟩).2.st)
      (V7 LF f (G5 ⟨s,n,i,b,c,C4 a⟩).2.l (G5 ⟨s,n,i,b,c,C4 a⟩).2.rest (G5 ⟨s,n,i,b,c,C4 a⟩).2.n (G5 ⟨s,n,i,b,c,C4 a⟩).2.i (G5 ⟨s,n,i,b,c,C4 a⟩).2.b (G5 ⟨s,n,i,b,c,C4 a⟩).2.st d g):=by
    intro R d g;rw[V7];rw[show(s==([]:By))=false from beq_eq_false_iff_ne.2 v,M5,O0,O0,O0,E4,ad2 (show a.length<=100000 by omega)];rfl
   obtain⟨G,H,I⟩:=D58 s a n i b c;have o:=Ee4 s a n i b c;generalize G5 ⟨s,n,i,b,c,C4 a⟩=D at *;by_cases k:(F3 b s i 1 0).2.2=0
   ·rw[Fs v a n i b (!c) k];obtain⟨M,N⟩:=ZV b s i;obtain⟨O,P⟩:=N k;have J:MY (b:Int) s (i:Int)=0:=by rw[M,k];rfl
    obtain⟨U,V,W⟩:=Xw b s i 1 0 (by omega) (by omega) (by omega) J;have A:(i:Int)<=Wl (b:Int) s (i:Int):=U;have B:Wl (b:Int) s (i:Int)<=1099511627776:=V;have C:(NA (b:Int) s (i:Int)).length<s.length:=W;rw[P] at A B;rw[O] at C;cases x:Z0 (n+(F3 b s i 1 0).1 / (a.length+1)) with
    | false=>
     rw[ae (by simp)];refine⟨λh=>by simp at h,λ_=>⟨rfl,D.2.l,D.2.rest,D.2.n,D.2.i,D.2.b,D.2.st,λR d g=>?_⟩⟩
     ·rw[start,H k x];rfl
    | true=>
     rw[ac rfl];by_cases w:256<a.length+1
     ·rw[ac w];refine⟨λh=>by simp at h,λ_=>⟨rfl,D.2.l,D.2.rest,D.2.n,D.2.i,D.2.b,D.2.st,λR d g=>?_⟩⟩;rw[start,I k x w];rfl
     ·rw[ae w];have o:=o k (by omega) x w;have z:n+(F3 b s i 1 0).1 / (a.length+1)<=1114111:=by
       unfold Z0 at x;simp_all
      have F:=ak0 (F3 b s i 1 0).1 (show 0<a.length+1 by omega);have y:=Qs ((F3 b s i 1 0).1-i) (a.length+1) (!c) (by omega);have:=L (F3 b s i 1 0).2.1 (Y9 a ((F3 b s i 1 0).1 % (a.length+1)) (n+(F3 b s i 1 0).1 / (a.length+1))) (n+(F3 b s i 1 0).1 / (a.length+1)) ((F3 b s i 1 0).1 % (a.length+1)+1) (T4 ((F3 b s i 1 0).1-i) (a.length+1) (!c)) f true (by omega) (by omega) (by omega) (by rw[Cq];omega) z (by omega) y;obtain⟨Q,S⟩:=this;refine⟨λh=>?_,λh=>?_⟩
      ·obtain⟨u,t,q,p,j,e⟩:=Q h;refine⟨u,t,q,p,j,λR d g=>?_⟩;rw[start,o];exact e R d g
      ·obtain⟨T,l,u,t,q,p,j,e⟩:=S h;refine⟨T,l,u,t,q,p,j,λR d g=>?_⟩;rw[start,o];exact e R d g
   ·rw[Ig v a n i b (!c) k];refine⟨λh=>absurd h k,λ_=>⟨rfl,D.2.l,D.2.rest,D.2.n,D.2.i,D.2.b,D.2.st,λR d g=>?_⟩⟩;rw[start,G k,show(((F3 b s i 1 0).2.2:Int)!=0)=true by rw[bne_iff_ne];omega];rfl
def Ew(l:List Nat):Oi l=C4 l:=rfl
def Bf1{k0:Unit->Option R}{k1:By->Option R}(s:By)(f:s.length<=1000000):∀(r i n:Nat),i+r=s.length->r<n->
  On LF n s (s.length:Int) (i:Int) k0 k1=if (s.drop i).any (λb=>p5 128 b.toNat) then k0 () else k1 s:=by
 intro r
 induction r with
 | zero=>
  intro i n c d;rcases n with _|n;omega
  rw[On];rw[A5,o7 (by omega)];rfl
 | succ r e=>
  intro i n c d;rcases n with _|n;omega
  rw[On];have a:A1 ((i:Int)+1)=((i+1:Nat):Int):=ah
  rw[A7,G2,E1,E6 s i (by omega),a,ab7];simp only[aa];generalize s.getD i 0=b;by_cases h:128<=b.toNat
  ·rw[A5,ad2 h];rfl
  ·have:p5 128 b.toNat=false:=by rw[aa8,ne_eq,x8];exact h
   rw[A7,this,ac3];exact e (i+1) n (by omega) (by omega)
def Cg3{k0:By->Int->LL->Option R}(s:By)(q:s.length<=1000000)(k:Nat)(p:k<=s.length):∀(r i n:Nat) (l:List Nat),i+r=k->r<n->l.length=i->
  Jt LF n s (k:Int) (i:Int) (C4 l) k0=k0 s (k:Int) (C4 (l++((s.take k).drop i).map (·.toNat))):=by
 intro r
 induction r with
 | zero=>
  intro i n l f h g;rcases n with _|n;omega
  rw[Jt];rw[A5,o7 (by rw[x3];omega)];simp
 | succ r j=>
  intro i n l f h g;rcases n with _|n;omega
  rw[Jt];have c:A1 ((i:Int)+1)=((i+1:Nat):Int):=ah
  have e:(s.take k).drop i=s.getD i 0::(s.take k).drop (i+1):=by
   rw[E6 (s.take k) i (by rw[x3];omega)]
   congr 1
   rw[o6,o6,List.getElem?_take_of_lt (by omega)]
  rw[A7,G2,E1,e,E4,E8 (by omega),c];simp only[aa];generalize s.getD i 0=b;have o:=b.toNat_lt;have d:A1 (b.toNat:Int)=(b.toNat:Int):=A4;have a:C4 l++[[SV.int .i64 (A1 (b.toNat:Int))]]=C4 (l++[b.toNat]):=by rw[d,Mp];rfl
  rw[a,j (i+1) n _ (by omega) (by omega) (by simp;omega)];simp
def Rh:∀s:By,J2 s<=s.length-1
 | []=>by simp[J2]
 | b::r=>by
  have:=Rh r;unfold J2;grind
def Bf2(s:By)(M:A2 s.length=true):(∃e,P6 s=([],e)/\∀(R:Type) (k0:Int->Option R) (k1:Kag R) (a:Kai R),Za LF s k0 k1 a=k0 (e:Nat))\/
  (∃e l k j i f c,P6 s=([],e)/\∀(R:Type) (k0:Int->Option R) (k1:Kag R) (a:Kai R),Za LF s k0 k1 a=k1 (e:Nat) l k j i f c)\/
  ((P6 s).2=0/\∃k j i f c,∀(R:Type) (k0:Int->Option R) (k1:Kag R) (a:Kai R),Za LF s k0 k1 a=a (C4 (P6 s).1) k j i f c):=by
 have N:=C9;unfold P6;by_cases C:1024<s.length
 ·rw[ac C];refine .inl ⟨3,rfl,λR k0 k1 a=>?_⟩;unfold Za;rw[A7];rfl
 ·rw[ae C];have r:=λ(R:Type) (G:Unit->Option R) (H:By->Option R)=>Bf1 (k0:=G) (k1:=H) s (by omega) s.length 0 LF (by omega) (by omega)
  rw[w9] at r;cases A:s.any (λb=>p5 128 b.toNat) with
  | true=>
   rw[ac rfl];refine .inl ⟨4,rfl,λR k0 k1 a=>?_⟩;unfold Za;rw[A5,ab];refine j8 (r R _ _) ?_;rw[A,ac rfl];rfl
  | false=>
   rw[ae (by simp)];obtain⟨I,J⟩:=Rg s;have O:=Rh s;have key:∀(d:List Nat) (t:By),d.length<=256->t.length<=1024->(∀(R:Type) (k0:Int->Option R) (k1:Kag R) (a:Kai R),Za LF s k0 k1 a=V7 LF LF (C4 d) t 128 0 72 false k1 a)->
     (∃e l k j i f c,J8 t d 128 0 72 true=([],e)/\∀(R:Type) (k0:Int->Option R) (k1:Kag R) (a:Kai R),Za LF s k0 k1 a=k1 (e:Nat) l k j i f c)\/
     ((J8 t d 128 0 72 true).2=0/\∃k j i f c,∀(R:Type) (k0:Int->Option R) (k1:Kag R) (a:Kai R),Za LF s k0 k1 a=a (C4 (J8 t d 128 0 72 true).1) k j i f c):=by
    intro d t P V B;obtain⟨D,F⟩:=Cg4 t.length t d 128 0 72 LF false (aa3 _) (by omega) (by omega) P (by omega) (by omega) (by omega);rw[j7] at D F;by_cases w:(J8 t d 128 0 72 true).2=0
    ·obtain⟨k,j,i,f,c,e⟩:=D w;exact .inr ⟨w,k,j,i,f,c,λR k0 k1 a=>by rw[B];exact e R k1 a⟩
    ·obtain⟨S,l,k,j,i,f,c,e⟩:=F w;exact .inl ⟨_,l,k,j,i,f,c,Prod.ext S rfl,λR k0 k1 a=>by rw[B];exact e R k1 a⟩
   have Q:u8n 45=45:=rfl;have top:∀(R:Type) (k0:Int->Option R) (k1:Kag R) (a:Kai R),Za LF s k0 k1 a =
     cond (ltI 0 (M9 45 s)) (Jt LF LF s (M9 45 s) 0 [] (λn x u=>cond (J5 (A1 (x+1)) (n.length:Int) n.length)
      (vl (cut n (A1 (x+1)) (n.length:Int)) λy=>cond (ltI 256 (u.length:Int)) (k1 3 u y 128 0 72 false) (V7 LF LF u y 128 0 72 false k1 a)) none))
      (V7 LF LF [] s 128 0 72 false k1 a):=by
    intro R k0 k1 a;unfold Za;rw[A5,ab];refine j8 (r R _ _) ?_;rw[A,ae (by simp),M,Q];rfl
   by_cases T:0<J2 s
   ·have v:45∈s:=by
     apply ae3;intro h;have:=(J h).2;omega
    have z:=I v;generalize J2 s=m at *;have g:=λ(R:Type) (K:By->Int->LL->Option R)=>Cg3 (k0:=K) s (by omega) m (by omega) m 0 LF [] (by omega) (by omega) rfl
    rw[w9] at g;have L:A1 ((m:Int)+1)=((m+1:Nat):Int):=ah
    have p:((s.take m).map (·.toNat)).length=m:=by rw[v7,x3];omega
    have q:∀(R:Type) (k0:Int->Option R) (k1:Kag R) (a:Kai R),Za LF s k0 k1 a =
      cond (ltI 256 (m:Int)) (k1 3 (C4 ((s.take m).map (·.toNat))) (s.drop (m+1)) 128 0 72 false) (V7 LF LF (C4 ((s.take m).map (·.toNat))) (s.drop (m+1)) 128 0 72 false k1 a):=by
     intro R k0 k1 a;rw[top,z,A7,aa];refine j8 (g R _) ?_;rw[L,K2,Fj,af5,ab4,E4,p];rfl
    by_cases o:256<m
    ·rw[ac o];refine .inr (.inl ⟨3,C4 ((s.take m).map (·.toNat)),s.drop (m+1),128,0,72,false,rfl,λR k0 k1 a=>?_⟩);rw[q,A7];rfl
    ·rw[ae o,ae (show ¬m=0 by omega)];exact .inr (key _ (s.drop (m+1)) (by rw[p];omega) (by rw[o5];omega) (λR k0 k1 a=>by rw[q,A5];rfl))
   ·have w:J2 s=0:=by omega
    have z:¬ 0<M9 45 s:=by
     by_cases U:45∈s;all_goals grind
    rw[w,I6,ac rfl];refine .inr (key [] s (by simp) (by omega) (λR k0 k1 a=>?_));rw[top,A5];rfl
def Yu(l:List Nat):(C4 l).isEmpty=l.isEmpty:=by cases l<;>rfl
def Dp8(s:By)(k:A2 s.length=true):∃r H,Za LF s (λf=>rv (.tup [.fl 0,.s (.int .i64 f)]) [.arr true 3 1 []]) (λf o w c d t j=>rv (.tup [.fl 2,.s (.int .i64 f)]) [.arr true 3 1 o,.box [.s (.str w),.fl 0,.s (.int .i64 c),.s (.int .i64 d),.s (.int .i64 t),.s (.bool j)],.arr true 3 1 []]) (λn v q c d i=>rv (.tup [.fl 0,.s (.int .i64 0)]) [.arr true 3 1 n,.box [.s (.str v),.fl 0,.s (.int .i64 q),.s (.int .i64 c),.s (.int .i64 d),.s (.bool i)]])=rv r H/\
  r.stab [1,0] H = .tup [.s (.sl (P6 s).1.isEmpty (P6 s).1.isEmpty 1 (Oi (P6 s).1)),.s (.int .i64 ((P6 s).2:Nat))]:=by
 rcases Bf2 s k with⟨e,a,b⟩|⟨e,l,u,p,m,h,g,a,b⟩|⟨a,u,p,m,h,g,b⟩
 ·refine⟨_,_,b _ _ _ _,?_⟩;rw[a];rfl
 ·refine⟨_,_,b _ _ _ _,?_⟩;rw[a];rfl
 ·refine⟨_,_,b _ _ _ _,?_⟩;rw[a,Ew];simp[PV.stab,Nv,Md,PV.snap,Q3,Yu]
end
section
open Go
def FI:∀(f:Nat) (l:By),al8 f l=(Bf f l).isSome
 | 0,_=>rfl
 | f+1,l=>by
  unfold al8 Bf;split
  ·rfl
  ·split
   ·rfl
   ·rw[FI f,ae6]
def Bs5(l:By):Lib.validD l=(Ey l).isSome:=FI _ l
def NI:∀(n m:Nat) (l:By),l.length<=n->l.length<=m->Bf n l=Bf m l
 | 0,m,l,b,_=>by
  have:l=[]:=o9.1 (by omega);subst this;cases m<;>simp[Bf]
 | n+1,0,l,_,hm=>by
  have:l=[]:=o9.1 (by omega);subst this;simp[Bf]
 | n+1,m+1,l,b,hm=>by
  unfold Bf;split
  ·rfl
  ·rename_i a;have d:=ac8 l;have c:0<l.length:=aa2.2 a;rw[NI n m (l.drop (p6 l).2) (by rw[o5];omega) (by rw[o5];omega)]
def Ch1(l:By)(a:l≠[]):Ey l=if (p6 l).1=65533/\(p6 l).2=1 then none else (Ey (l.drop (p6 l).2)).map ((p6 l).1::·):=by
 have c:0<l.length:=aa2.2 a;have d:=ac8 l;obtain⟨n,b⟩:∃n,l.length=n+1:=⟨l.length-1,by omega⟩
 unfold Ey;rw[b]
 conv=>lhs;unfold Bf
 rw[ae a,NI n (l.drop (p6 l).2).length _ (by rw[o5];omega) (aa3 _)]
def TU:∀(f:Nat) (s:ByteArray) (pos:Nat) (p:List Nat),pos<=s.size->Bf f (s.data.toList.drop pos)=some p->s.size-pos<=f->ai3 s f pos=p.length
 | 0,s,pos,p,e,h,d=>by
  simp only[Bf,o8] at h;subst h;rfl
 | f+1,s,pos,p,e,h,d=>by
  have g:s.data.toList.length=s.size:=by rw[Array.length_toList];rfl
  unfold Bf at h;rw[ae8] at h;by_cases a:pos<s.size
  ·rw[ae (by rw[<-o9,o5];omega)] at h;split at h
   ·cases h
   ·cases b:Bf f (ac7 (aa4 s pos).2 (ac7 pos s.data.toList)) with
    | none=>rw[b] at h;cases h
    | some q=>
     rw[b] at h;simp only[ab1,o8] at h;subst h;have i:=Lib.decode_width_pos s pos a;have c:pos+(aa4 s pos).2<=s.size:=by
      have:=ag7 (s.data.toList.drop pos) (by rw[ne_eq,<-o9,o5];omega);rw[ae8,o5] at this;omega
     rw[aj8] at b;unfold ai3;rw[ac a,TU f s _ q c b (by omega)];grind
  ·rw[ac (by rw[<-o9,o5];omega)] at h;simp only[o8] at h;subst h;rw[Lib.runeCountFrom_end s _ _ a];rfl
def NS{l:By}{p:List Nat}(h:Ey l=some p):ae2 l=p.length:=by
 unfold ae2 Lib.runeCount;have a:(ByteArray.mk l.toArray).size=l.length:=by simp[ByteArray.size]
 refine TU _ _ 0 p (ab2 _) ?_ (by omega);rw[a,w9];simpa[Ey] using h
open Lib in theorem Eh4(n b a d e:Nat)(g:194<=b/\b<224)(f:a<256):decodeN n b a d e=if 2<=n/\128<=a/\a<=191 then ((b-192)*64+a-128,2) else (65533,1):=by
 unfold decodeN;rw[I6];by_cases c:2<=n/\128<=a/\a<=191
 ·rw[ac c,W4,W4];exact Prod.ext (by show b % 32*64+a % 64=(b-192)*64+a-128;omega) rfl
 ·rw[ae c,I6,I6,I6]
open Lib in theorem Eh5(n c a b f:Nat)(i:224<=c/\c<240)(g:a<256)(h:b<256):decodeN n c a b f=if 3<=n/\(128<=a/\a<=191)/\(128<=b/\b<=191) then
  (if 2048<=((c-224)*64+a-128)*64+b-128/\Z0 (((c-224)*64+a-128)*64+b-128)=true then (((c-224)*64+a-128)*64+b-128,3) else (65533,1)) else (65533,1):=by
 unfold decodeN;rw[I6,I6];by_cases d:3<=n/\(128<=a/\a<=191)/\(128<=b/\b<=191)
 ·rw[ac d,W4];have e:c % 16*4096+a % 64*64+b % 64=((c-224)*64+a-128)*64+b-128:=by omega
  rw[e];generalize ((c-224)*64+a-128)*64+b-128=v
  congr 1
  simp only[Z0,s9,ad8,x8,Nat.blt_eq];apply propext;omega
 ·rw[ae d,I6,I6]
open Lib in theorem Eh6(n d a b c:Nat)(j:240<=d/\d<245)(g:a<256)(h:b<256)(i:c<256):decodeN n d a b c=if 4<=n/\(128<=a/\a<=191)/\(128<=b/\b<=191)/\(128<=c/\c<=191) then
  (if 65536<=(((d-240)*64+a-128)*64+b-128)*64+c-128/\Z0 ((((d-240)*64+a-128)*64+b-128)*64+c-128)=true then ((((d-240)*64+a-128)*64+b-128)*64+c-128,4) else (65533,1)) else (65533,1):=by
 unfold decodeN;rw[I6,I6,I6];by_cases f:4<=n/\(128<=a/\a<=191)/\(128<=b/\b<=191)/\(128<=c/\c<=191)
 ·rw[ac f,W4];have e:d % 8*262144+a % 64*4096+b % 64*64+c % 64=(((d-240)*64+a-128)*64+b-128)*64+c-128:=by omega
  rw[e];generalize (((d-240)*64+a-128)*64+b-128)*64+c-128=v
  congr 1
  simp only[Z0,s9,ad8,x8,Nat.blt_eq];apply propext;omega
 ·rw[ae f,I6]
end
section
open Go Go.Proofs
def Yb(l:List Nat):Z8 (l.map λn:Nat=>(n:Int))=El l:=by
 have b:(l.map λn:Nat=>(n:Int)).all ptI=l.all Z0:=by
  rw[af7]
  congr 1
 have c:(l.map λn:Nat=>(n:Int)).map k9=l:=by
  rw[ac1];exact(ab8 λa _=>by simp).trans (am5 l)
 unfold Z8;rw[v7,b,c];by_cases h:256<l.length
 ·rw[ac h];unfold El;rw[ac h]
 ·rw[ae h];cases d:l.all Z0 with
  | true=>rw[ac rfl]
  | false=>
   rw[ae (by simp)];unfold El;grind
def Xz(l:List Nat):(C4 l).map elI=l.map λn:Nat=>(n:Int):=by unfold C4;rw[ac1];exact ab8 λa _=>rfl
def Fi(l:List Nat):(C4 l).all Px=true:=by unfold C4;rw[af7,ab3];intro x _;rfl
def Bc9{a:Unit->Option R}{d:Kdc R}(s:By)(z:Bool)(p:List Nat)(t:p.length<=1000000000):∀(r i n:Nat) (b:Bool),i+r=p.length->r<n->
  Am LF n s z (C4 p) b (p.length:Int) (i:Int) a d=if (p.drop i).any (λp=>p5 65 p&&p5 p 90) then a () else d s z (C4 p) (b&&!((p.drop i).any λp=>p5 128 p)):=by
 intro r
 induction r with
 | zero=>
  intro i n b h j;rcases n with _|n;omega
  rw[Am];rw[A5,o7 (by omega)];simp
 | succ r k=>
  intro i n b h j;rcases n with _|n;omega
  rw[Am];have f:A1 ((i:Int)+1)=((i+1:Nat):Int):=ah
  have g:p.drop i=p.getD i 0::p.drop (i+1):=by
   rw[o6,x5 (by omega),ai9,List.getElem_cons_drop]
  rw[A7,E4,G2,j0,Tq (by omega),CX _ _ (by omega),g,ab7,ab7,f];simp only[aa,vl];generalize p.getD i 0=q;have go:∀c:Bool,Am LF n s z (C4 p) c (p.length:Int) ((i+1:Nat):Int) a d=_:=λc=>k (i+1) n c (by omega) (by omega)
  by_cases l:q<65
  ·rw[A7,show p5 65 q=false by rw[aa8,ne_eq,x8];omega];have e:p5 128 q=false:=by rw[aa8,ne_eq,x8];omega
   rw[show ltI (q:Int) (128:Int)=true from A7,e];simp only[j5,ab,ag5,ac3];cases b<;>simp only[aa,ab]<;>rw[go]
  ·rw[A5,show p5 65 q=true by rw[x8];omega];simp only[j7,aa,ab5];by_cases e:90<q
   ·rw[A7,show p5 q 90=false by rw[aa8,ne_eq,x8];omega];simp only[j5,ab,ac3];by_cases o:q<128
    ·rw[show ltI (q:Int) (128:Int)=true from A7,show p5 128 q=false by rw[aa8,ne_eq,x8];omega];cases b<;>simp only[aa,ab,ac3]<;>rw[go]
    ·rw[show ltI (q:Int) (128:Int)=false from A5,show p5 128 q=true by rw[x8];omega];cases b<;>simp only[aa,ab,al4,j5,Bool.and_false]<;>rw[go]<;>simp
   ·rw[A5,show p5 q 90=true by rw[x8];omega];simp
def A94:∀(m:Nat) (s:By) (a:List Nat) (n i b:Nat) (f:Bool),s.length<=m->a.length<=256->(J8 s a n i b f).1.length<=256:=by
 intro m
 induction m with
 | zero=>
  intro s a n i b f e d;obtain rfl:=o9.1 (Nat.le_zero.1 e);rw[Ej];exact d
 | succ m j=>
  intro s a n i b f e d;by_cases h:s=[]
  ·grind
  ·by_cases c:(F3 b s i 1 0).2.2=0
   ·rw[Fs h _ _ _ _ _ c];have g:=Th b s i 1 0 c;split
    ·split
     ·grind
     ·rename_i k;exact j _ _ _ _ _ _ (by omega) (by rw[Cq];omega)
    grind
   ·rw[Ig h _ _ _ _ _ c];grind
def Ao5(s:By):(P6 s).1.length<=256:=by
 unfold P6;split
 ·grind
 ·split
  ·grind
  ·split
   ·grind
   ·rename_i h;exact A94 _ _ _ _ _ _ _ (aa3 _) (by rw[v7,x3];omega)
def Bd0{a:Bool->Option R}(s:By)(b:A2 s.length=true):B36 LF s a=a (Fl s):=by
 have c:=C9;unfold B36 Fl;rw[b,aa];by_cases h:(P6 s).2=0
 ·have e:(((P6 s).2:Int)!=(0:Int))=false:=by rw[h];rfl
  rw[e,ab,Ew,E4,h];have i:=Ao5 s;refine j8 (Bc9 s _ (P6 s).1 (by omega) (P6 s).1.length 0 LF true (by omega) (by omega)) ?_;rw[w9];cases d:(P6 s).1.any (λp=>p5 65 p&&p5 p 90) with
  | true=>simp
  | false=>
   rw[ae (by simp),Fi,Xz,Yb];simp only[aa,vl,ab5,j7];cases f:(P6 s).1.any (λp=>p5 128 p) with
   | false=>simp
   | true=>
    simp only[j5,j7,aa,ac2,beq_self_eq_true,ab5];by_cases g:(El (P6 s).1).2=0;all_goals grind
 grind
def Cf0{d:Unit->Option R}{e:By->Option R}(s:By)(w:s.length<=1000000000):∀(r i n:Nat),i+r=s.length->r<n->
  U6 LF n s (s.length:Int) (i:Int) d e=if (s.drop i).all X7 then e s else d ():=by
 intro r
 induction r with
 | zero=>
  intro i n l c;rcases n with _|n;omega
  rw[U6];rw[A5,o7 (by omega)];rfl
 | succ r o=>
  intro i n l c;rcases n with _|n;omega
  rw[U6];have k:A1 ((i:Int)+1)=((i+1:Nat):Int):=ah
  rw[A7,G2,E1,E6 s i (by omega),k,ab6];simp only[aa];rw[o (i+1) n (by omega) (by omega)];generalize s.getD i 0=b;have j:=Ri b;have u:((b.toNat:Int)!=45) = !(b==45):=congrArg _ (T7 b 45 (by omega));have v:((b.toNat:Int)!=95) = !(b==95):=congrArg _ (T7 b 95 (by omega));rw[u,v];have t:∀{x:Bool},X7 b=x->(if (X7 b&&(s.drop (i+1)).all X7)=true then e s else d ())=if (x&&(s.drop (i+1)).all X7)=true then e s else d ():=λh=>by rw[h]
  cases a:X7 b with
  | true=>
   rw[j] at a;simp only[ab5];by_cases f:b=45
   ·subst f;simp (disch:=decide) [ltI]
   ·by_cases g:b=95
    ·subst g;simp (disch:=decide) [ltI]
    ·rcases a with a|a|a|a
     ·rw[show ltI (b.toNat:Int) 97=false from A5,show ltI (122:Int) b.toNat=false from A5];rfl
     ·rw[show ltI (b.toNat:Int) 97=true from A7,show ltI (b.toNat:Int) 48=false from A5,show ltI (57:Int) b.toNat=false from A5];rfl
     ·exact absurd a f
     ·exact absurd a g
  | false=>
   have c:¬((97<=b.toNat/\b.toNat<=122)\/(48<=b.toNat/\b.toNat<=57)\/b=45\/b=95):=λh=>by rw[j.2 h] at a;cases a
   have p:(b==45)=false:=by simpa using λh=>c (.inr (.inr (.inl h)))
   have q:(b==95)=false:=by simpa using λh=>c (.inr (.inr (.inr h)))
   rw[p,q];simp only[j7,aa,ag5,p9,if_false];by_cases f:b.toNat<48
   ·rw[show ltI (b.toNat:Int) 97=true from A7,show ltI (b.toNat:Int) 48=true from A7];rfl
   ·by_cases g:b.toNat<97
    ·rw[show ltI (b.toNat:Int) 97=true from A7,show ltI (b.toNat:Int) 48=false from A5,show ltI (57:Int) b.toNat=true from A7];rfl
    ·rw[show ltI (b.toNat:Int) 97=false from A5,show ltI (122:Int) b.toNat=true from A7,show ltI (b.toNat:Int) 48=false from A5,show ltI (57:Int) b.toNat=true from A7];rfl
def Cf1{a:Bool->Option R}(s:By)(b:A2 s.length=true):Do6 LF s a=a (N5 s):=by
 have k:=L4 b;have h:=C9;unfold Do6 N5;by_cases c:s=[]
 ·simp_all
 ·have o:0<s.length:=aa2.2 c;have j:s.isEmpty=false:=by simpa using c
  rw[A5,ab,j];by_cases m:63<s.length
  ·rw[A7,show p5 s.length 63=false by rw[aa8,ne_eq,x8];omega];rfl
  ·rw[A5,ab,show p5 s.length 63=true by rw[x8];omega,G2];have l:(bAt s 0==(45:Int))=(s.getD 0 0==45):=by rw[Bk];exact T7 _ 45 (by omega)
   have d:A1 ((s.length:Int)-1)=((s.length-1:Nat):Int):=by rw[A4];omega
   rw[l,d];simp only[aa,vl];rw[G2,E1,show((((s.getD (s.length-1) 0).toNat:Nat):Int)==45)=(s.getD (s.length-1) 0==45) from T7 _ 45 (by omega)];cases e:(s.getD 0 0==45) with
   | true=>
    grind
   | false=>
    rw[show(s.getD 0 0 !=45)=true by unfold bne;rw[e];rfl];simp only[aa,ab];cases f:(s.getD (s.length-1) 0==45) with
    | true=>
     grind
    | false=>
     rw[show(s.getD (s.length-1) 0 !=45)=true by unfold bne;rw[f];rfl];simp only[ab];refine j8 (Cf0 s k s.length 0 LF (by omega) (by omega)) ?_;rw[w9];cases n:s.all X7 with
     | false=>simp
     | true=>
      rw[ac rfl,b,aa];simp only[j7,ab5,ac2];show cond (!(xnB.isPrefixOf s)) _ _=_;cases g:xnB.isPrefixOf s with
      | false=>rfl
      | true=>
       have i:Ie s xnB=s.drop 4:=by unfold Ie;rw[g];rfl
       show cond (A2 (Ie s xnB).length) (a (Fl (Ie s xnB))) none=_;rw[i,D5 (by rw[o5];omega)];rfl
def A99(a:List Nat)(b:Nat)(F:a.length<=256)(A:b<=256)(d:∀p∈a,p<=1114111):∀(f n:Nat) (s:UL),s.done=a.countP (λp=>decide (p<n))->s.delta<=300->s.bias<=500->s.out.length+20*(a.length-s.done)<=80000->n<=1114112->
  (U0 a b f n s).out.length<=80000:=by
 intro f;have z:=C9
 induction f with
 | zero=>intro n s C w q x y;unfold U0;omega
 | succ f G=>
  intro n s C w q x y;have B:a.countP (λp=>decide (p<n))<=a.length:=aa5;by_cases h:s.done<a.length
  ·obtain⟨u,i,j⟩:=A90 (n:=n) (l:=a) (by omega);obtain⟨L,M,o⟩:=Fx n a 1114112;have N:=o u i j;have O:=d u i;have c:J9 n a 1114112∈a/\n<=J9 n a 1114112:=by grind
   have D:U0 a b (f+1) n s=U0 a b f (J9 n a 1114112+1) { K3 (J9 n a 1114112) b a { s with delta:=s.delta+(J9 n a 1114112-n)*(s.done+1) } with delta:=(K3 (J9 n a 1114112) b a { s with delta:=s.delta+(J9 n a 1114112-n)*(s.done+1) }).delta+1 }:=by
    rw[U0,ac h]
   rw[D];generalize J9 n a 1114112=m at *;have t:(m-n)*(s.done+1)<=1114112*256:=ag9 (by omega) (by omega);have g:=B46 false false a b m (by omega) F a.length 0 LF { s with delta:=s.delta+(m-n)*(s.done+1) } (by omega) (by omega) (by simp only;omega) q (by simp only;omega) (by simp only;omega) A;rw[w9] at g;obtain⟨_,H,I,J,K⟩:=g;have e:0<a.countP (· == m):=ah1.2 ⟨m,c.1,by simp⟩;rw[ac e] at K;have k:=Xv c.2 a o;generalize K3 m b a { s with delta:=s.delta+(m-n)*(s.done+1) } = v at *;simp only at I J;have r:a.countP (λp=>decide (p<m+1))<=a.length:=aa5;exact G (m+1) { v with delta:=v.delta+1 } (by simp only;omega) (by simp only;omega) H (by simp only;omega) (by omega)
  ·rw[U0,ae h];omega
def Ap3(p:List Nat):(El p).1.length<=80000:=by
 unfold El;split
 ·grind
 ·rename_i h;split
  ·grind
  ·rename_i a;have d:∀q∈p,q<=1114111:=λq e=>by
    have a:p.all Z0=true:=by simpa using a
    have:=ab3.1 a q e;simp only[Z0,s9,x8] at this;omega
   have b:=Vy p;have c:p.countP (λq=>decide (q<128))<=p.length:=aa5;refine A99 p _ (by omega) (by omega) d 256 128 _ b (by simp) (by simp) ?_ (by omega);grind
def ZM{b:UInt8}(h:128<=b.toNat):Dl b=b:=by
 rcases X9 b with⟨_,e⟩|⟨_,e⟩|⟨_,a,_⟩
 all_goals omega
def ZN{b:UInt8}(h:b.toNat<128):(Dl b).toNat<128:=by
 rcases X9 b with⟨_,e⟩|⟨_,e⟩|⟨_,a,e⟩
 all_goals grind
def Ca7(n:Nat)(a c d e:UInt8)(h:128<=a.toNat):aj2 n a.toNat (Dl c).toNat (Dl d).toNat (Dl e).toNat=aj2 n a.toNat c.toNat d.toNat e.toNat:=by
 have i:∀b:UInt8,b.toNat / 64=2->Dl b=b:=λb f=>ZM (by omega)
 have j:∀b:UInt8,¬b.toNat / 64=2->¬(Dl b).toNat / 64=2:=λb f h=>by
  by_cases g:128<=b.toNat
  ·rw[ZM g] at h;exact f h
  ·have:=ZN (b:=b) (by omega);omega
 unfold aj2;grind
def Dj0(l:By)(c:l≠[]):(p6 (C6 l)).2=(p6 l).2/\(¬((p6 l).1=65533/\(p6 l).2=1)->¬((p6 (C6 l)).1=65533/\(p6 (C6 l)).2=1)):=by
 cases l with
 | nil=>exact absurd rfl c
 | cons b t=>
  by_cases a:b.toNat<128
  ·have d:=ai1 b t a;have f:p6 (C6 (b::t))=((Dl b).toNat,1):=ai1 (Dl b) (C6 t) (ZN a);rw[d,f];refine⟨rfl,λ_ h=>?_⟩;have:=ZN a;omega
  ·have e:p6 (C6 (b::t))=p6 (b::t):=by
    rw[ah4,ah4,Cu,Oe,Oe,Oe,Oe];have e0:Dl ((b::t).getD 0 0)=b:=ZM (b:=b) (show 128<=b.toNat by omega);rw[e0];exact Ca7 (b::t).length b ((b::t).getD 1 0) ((b::t).getD 2 0) ((b::t).getD 3 0) (show 128<=b.toNat by omega)
   grind
def TH:∀(f:Nat) (l:By),(Bf f l).isSome=true->(Bf f (C6 l)).isSome=true
 | 0,_,_=>rfl
 | f+1,l,h=>by
  unfold Bf at h ⊢;by_cases a:l=[]
  ·subst a;rfl
  ·rw[ae a] at h;rw[ae (by rw[Ce7];exact a)];obtain⟨b,c⟩:=Dj0 l a;split at h
   ·cases h
   ·rename_i d;rw[ae (c d),ae6,b,Bc7];rw[ae6] at h;exact TH f _ h
def Au3{l:By}(h:(Ey l).isSome=true):(Ey (C6 l)).isSome=true:=by unfold Ey at h ⊢;rw[Cu];exact TH _ _ h
def Ce0(t:By)(C:t.length<=1000000000):∀(f pos:Nat) (P q:List Nat) (n:Nat),pos<=t.length->t.length-pos<=f->f<n->P.length<=pos->Bf f (t.drop pos)=some q->
  ∃m,∀(R:Type) (h:LL->By->Nat->Option R),Gt LF n (C4 P) t pos h=h (C4 (P++q)) t m:=by
 intro f
 induction f with
 | zero=>
  intro pos P q n u v w x a;rcases n with _|n;omega
  simp only[Bf,o8] at a;subst a;refine⟨pos,λR h=>?_⟩;rw[Gt];rw[decide_eq_false (by omega),ab,ab0]
 | succ f z=>
  intro pos P q n u v w x a;rcases n with _|n;omega
  by_cases l:pos<t.length
  ·have b:t.drop pos≠[]:=by rw[ne_eq,<-o9,o5];omega
   have y:=ae8 ⟨t.toArray⟩ pos;have i:aa4 ⟨aa7 t⟩ pos=p6 (t.drop pos):=by rw[<-y]
   unfold Bf at a;rw[ae b] at a;split at a
   ·cases a
   ·have D:=ac8 (t.drop pos);have j:=ag7 (t.drop pos) b;have B:=ai6 (t.drop pos);rw[o5] at j;rw[aj8] at a;generalize p6 (t.drop pos)=p at *;obtain⟨c,o⟩:=p;simp only at *;cases k:Bf f (t.drop (pos+o)) with
    | none=>rw[k] at a;cases a
    | some A=>
     rw[k] at a;simp only[ab1,o8] at a;subst a;obtain⟨m,e⟩:=z (pos+o) (P++[c]) A n (by omega) (by omega) (by omega) (by simp;omega) k;refine⟨m,λR h=>?_⟩;rw[Gt];rw[decide_eq_true l,aa,i,E4,E8 (by omega)];simp only[vl,aa];have r:A1 (c:Int)=(c:Int):=A4;have g:C4 P++[[SV.int .i64 (A1 (c:Int))]]=C4 (P++[c]):=by rw[r,Mp];rfl
     rw[g,e,aa1];rfl
  ·have d:t.drop pos=[]:=by rw[<-o9,o5];omega
   unfold Bf at a;rw[d,ac rfl] at a;simp only[o8] at a;subst a;refine⟨pos,λR h=>?_⟩;rw[Gt];rw[decide_eq_false l,ab,ab0]
def Bb6(s:By)(i:A2 s.length=true):(∀(R:Type) (b:By->Int->Option R) (c:Kda R),As0 LF s b c=b (K9 s).1 ((K9 s).2:Nat))\/
  (∃l t m,∀(R:Type) (b:By->Int->Option R) (c:Kda R),As0 LF s b c=c (K9 s).1 ((K9 s).2:Nat) l t m):=by
 have x:=L4 i;have u:=C9;unfold K9;cases h:Ey s with
 | none=>
  refine .inl λR b c=>?_
  unfold As0;rw[i,h];rfl
 | some p=>
  have k:=NS h;have top:∀(R:Type) (b:By->Int->Option R) (c:Kda R),As0 LF s b c=cond (ltI 256 (p.length:Int)) (b [] 3) (cond (ltI (p.length:Int) (s.length:Int)) (Gt LF LF [] (C6 s) 0 (λa g f=>cond (w8 a Px)
      (cond (((Z8 (j9 elI a)).2:Int)!=(0:Int))
       (c ([]:By) 14 a g f)
       (cond (F7 4 (c9 ((Z8 (j9 elI a))).1))
        (cond (A2 (c9 (xnB++((Z8 (j9 elI a))).1)))
         (cond (not (N5 (xnB++((Z8 (j9 elI a))).1)))
         (c ([]:By) 14 a g f)
         (c (xnB++((Z8 (j9 elI a))).1) 0 a g f))
         (none))
        (none)))
      (none)))
     (cond (A2 (c9 (C6 s)))
      (cond (not (N5 (C6 s)))
      (b ([]:By) 14)
      (b (C6 s) 0))
      (none))):=by
   intro R b c;unfold As0;rw[i,h,k];rfl
  simp only;by_cases n:256<p.length
  ·rw[ac n];refine .inl λR b c=>?_
   rw[top,A7];rfl
  ·rw[ae n];by_cases o:p.length<s.length
   ·rw[ac o];have d:=Au3 (l:=s) (by rw[h];rfl);cases r:Ey (C6 s) with
    | none=>rw[r] at d;cases d
    | some q=>
     have w:=Cu s;obtain⟨m,e⟩:=Ce0 (C6 s) (by omega) (C6 s).length 0 [] q LF (by omega) (by omega) (by omega) (by simp) (by rw[w9];exact r);refine .inr ⟨C4 q,C6 s,m,λR b c=>?_⟩;rw[top,A5,ab,A7,aa];refine j8 (e R _) ?_;have v:=Ap3 q;rw[ab4,Fi,Xz,Yb,aa,I1 (by omega),aa,D5 (by rw[o0];simp only[xnB,j4,p7];omega),aa];simp only;by_cases j:(El q).2=0
     ·rw[j,ac rfl];cases y:N5 (xnB++(El q).1) with
      | true=>rfl
      | false=>rfl
     ·rw[ae j];have:(((El q).2:Int)!=(0:Int))=true:=by simpa using j
      rw[this];rfl
   ·rw[ae o];refine .inl λR b c=>?_
    rw[top,A5,ab,A5,ab,D5 (by rw[Cu];exact x),aa];cases N5 (C6 s)<;>rfl
def Dn6(s:By)(c:A2 s.length=true):∃r H,As0 LF s (λa b=>rv (.tup [.s (.str a),.s (.int .i64 b)]) []) (λa b d f e=>rv (.tup [.s (.str a),.s (.int .i64 b)]) [.arr true 3 1 d,.iter f e])=rv r H/\
  r.stab [0,0] H = .tup [.s (.str (K9 s).1),.s (.int .i64 ((K9 s).2:Nat))]:=by
 rcases Bb6 s c with h|⟨l,t,m,h⟩
 ·exact⟨_,_,h _ _ _,rfl⟩
 ·exact⟨_,_,h _ _ _,rfl⟩
def Cc0{g:Int->Option R}(b:Int)(h:inR b 256=true):Dl2 LF b g=g (Gq (u8n b)):=by
 simp only[inR,s9,af] at h;have j:b=((u8n b).toNat:Int):=by
  unfold u8n;simp;omega
 generalize u8n b=c at *;subst j;have i:=c.toNat_lt;unfold Dl2;simp only[YV,YU,vl,Gq];rcases Ek c with⟨d,f,e⟩|⟨d,f,e⟩|⟨d,f,e⟩|⟨d,f,o,e⟩
 ·have a:A1 (wu8 ((c.toNat:Int)-48))=((dig c:Nat):Int):=by
   rw[O4,A4];omega
  rw[W4];simp (disch:=omega) only[C5,D8,j5,j7,ab,aa,a]
 ·have a:A1 (A1 (wu8 ((c.toNat:Int)-97))+10)=((dig c:Nat):Int):=by
   rw[O4,E0 (n:=(c.toNat:Int)-97) (by omega) (by omega),A4];omega
  rw[W4];simp (disch:=omega) only[C5,D8,j5,j7,ab,aa,a]
 ·have a:A1 (A1 (wu8 ((c.toNat:Int)-65))+10)=((dig c:Nat):Int):=by
   rw[O4,E0 (n:=(c.toNat:Int)-65) (by omega) (by omega),A4];omega
  rw[W4];simp (disch:=omega) only[C5,D8,j5,j7,ab,aa,a]
 ·rw[e,ae (by decide)];by_cases k:c.toNat<48
  ·simp (disch:=omega) only[C5,D8,j5,j7,ab,aa]
  ·by_cases l:c.toNat<65
   ·simp (disch:=omega) only[C5,D8,j5,j7,ab,aa]
   ·by_cases m:c.toNat<97
    ·simp (disch:=omega) only[C5,D8,j5,j7,ab,aa]
    ·simp (disch:=omega) only[C5,D8,j5,j7,ab,aa]
def Aa5{b:UInt8}(r:By)(h:b≠37):V3 (b::r)=(V3 r).map (b::·):=by
 conv=>lhs;unfold V3
 grind
def NF(x y:UInt8)(r:By):V3 (37::x::y::r)=if dig x<16/\dig y<16 then (V3 r).map (y9 (16*dig x+dig y)::·) else none:=by
 conv=>lhs;unfold V3
 grind
def Ao7(x:UInt8):ltI (Gq x) 0 = !(decide (dig x<16)):=by
 unfold Gq;by_cases h:dig x<16
 ·simp_all
 ·rw[ae h,A7,decide_eq_false h];rfl
def HD:∀(s t:By),V3 s=some t->t.length<=s.length
 | [],t,h=>by simp only[V3,o8] at h;subst h;exact aa3 _
 | b::r,t,h=>by
  by_cases c:b=37
  ·subst c
   match r,h with
   | [],h=>cases h
   | [x],h=>cases h
   | x::y::d,h=>
    rw[NF] at h;split at h
    ·cases a:V3 d with
     | none=>rw[a] at h;cases h
     | some q=>
      rw[a] at h;simp only[ab1,o8] at h;subst h;have:=HD d q a;simp only[j4];omega
    ·cases h
  ·rw[Aa5 _ c] at h;cases a:V3 r with
   | none=>rw[a] at h;cases h
   | some q=>
    rw[a] at h;simp only[ab1,o8] at h;subst h;have:=HD r q a;grind
def Cb9(s:By)(P:s.length<=1000000000):∀(m i n:Nat) (a:By),i<=s.length->s.length-i<=m->m<n->a.length<=i->
  (∀t,V3 (s.drop i)=some t->∀(R:Type) (c:LL->Option R) (d:LL->Option R),V6 LF n s (i:Int) (a.map F4) c d=d ((a++t).map F4))/\
  (V3 (s.drop i)=none->∃l,∀(R:Type) (c:LL->Option R) (d:LL->Option R),V6 LF n s (i:Int) (a.map F4) c d=c l):=by
 intro m
 induction m with
 | zero=>
  intro i n a J K L I;rcases n with _|n;omega
  rw[o7 (by omega)];refine⟨λt f R c d=>?_,λh=>(by cases h)⟩;simp only[V3,o8] at f;subst f;rw[V6];rw[A5,ab0];rfl
 | succ m G=>
  intro i n a J K L I;rcases n with _|n;omega
  by_cases z:i<s.length
  ·have D:A1 ((i:Int)+1)=((i+1:Nat):Int):=ah
   have F:A1 ((i:Int)+2)=((i+2:Nat):Int):=ah
   have H:A1 (((i+2:Nat):Int)+1)=((i+3:Nat):Int):=by rw[A4];omega
   have p:(a.map F4).length=a.length:=v7 _;have v:∀b:UInt8,a.map F4++[[SV.int .u8 (b.toNat:Int)]]=(a++[b]).map F4:=λb=>by rw[ag1];rfl
   have C:(((s.getD i 0).toNat:Int)!=37) = !(s.getD i 0==37):=congrArg _ (T7 _ 37 (by omega));rw[E6 s i z];by_cases g:s.getD i 0=37
   ·by_cases O:i+2<s.length
    ·rw[E6 s (i+1) (by omega),E6 s (i+1+1) (by omega),g,NF];obtain⟨A,B⟩:=G (i+3) n (a++[y9 (16*dig (s.getD (i+1) 0)+dig (s.getD (i+2) 0))]) (by omega) (by omega) (by omega) (by simp;omega);have top:∀(R:Type) (c:LL->Option R) (d:LL->Option R),V6 LF (n+1) s (i:Int) (a.map F4) c d=cond (decide (dig (s.getD (i+1) 0)<16)&&decide (dig (s.getD (i+2) 0)<16)) (V6 LF n s ((i+3:Nat):Int) ((a++[y9 (16*dig (s.getD (i+1) 0)+dig (s.getD (i+2) 0))]).map F4) c d) (c (a.map F4)):=by
      intro R c d;rw[V6];rw[A7,G2,E1,C,g,p,F,A7,D,G2,G2,E1,E1];simp only[aa,vl,j5,ab,beq_self_eq_true,Ag4,Kf,Ao7,E8 (show a.length+1<=68719476736 by omega),H];generalize s.getD (i+1) 0=x at *;generalize s.getD (i+2) 0=y at *;by_cases M:dig x<16
      ·by_cases N:dig y<16
       ·have w1:Gq x=(dig x:Int):=by unfold Gq;rw[ac M]
        have S:Gq y=(dig y:Int):=by unfold Gq;rw[ac N]
        have T:A1 ((16:Int)*(dig x:Int))=((16*dig x:Nat):Int):=by rw[A4];omega
        have U:A1 (((16*dig x:Nat):Int)+(dig y:Int))=((16*dig x+dig y:Nat):Int):=by rw[A4];omega
        have V:wu8 ((16*dig x+dig y:Nat):Int)=((y9 (16*dig x+dig y)).toNat:Int):=by
         rw[O4];simp;omega
        grind
       grind
      grind
     by_cases o:dig (s.getD (i+1) 0)<16/\dig (s.getD (i+2) 0)<16
     ·rw[ac o];have w:(decide (dig (s.getD (i+1) 0)<16)&&decide (dig (s.getD (i+2) 0)<16))=true:=by rw[decide_eq_true o.1,decide_eq_true o.2];rfl
      refine⟨λt f R c d=>?_,λh=>?_⟩
      ·cases j:V3 (s.drop (i+3)) with
       | none=>rw[show i+1+1+1=i+3 from rfl,j] at f;cases f
       | some q=>
        rw[show i+1+1+1=i+3 from rfl,j] at f;simp only[ab1,o8] at f;subst f;rw[top,w,aa,A q j,aa1];rfl
      ·cases j:V3 (s.drop (i+3)) with
       | some q=>rw[show i+1+1+1=i+3 from rfl,j] at h;cases h
       | none=>
        obtain⟨l,e⟩:=B j;exact⟨l,λR c d=>by rw[top,w,aa,e]⟩
     ·rw[ae o];have w:(decide (dig (s.getD (i+1) 0)<16)&&decide (dig (s.getD (i+2) 0)<16))=false:=by grind
      exact⟨λt h=>(by cases h),λ_=>⟨_,λR c d=>by rw[top,w,ab]⟩⟩
    ·have k:V3 (s.getD i 0::s.drop (i+1))=none:=by
      rw[g];cases o:s.drop (i+1) with
      | nil=>rfl
      | cons x r=>
       cases r with
       | nil=>rfl
       | cons y Q=>
        exfalso;have:=congrArg c9 o;rw[o5,j4,j4] at this;omega
     rw[k];refine⟨λt h=>(by cases h),λ_=>⟨a.map F4,λR c d=>?_⟩⟩;rw[V6];rw[A7,G2,E1,C,g,F,A5];rfl
   ·rw[Aa5 _ g];obtain⟨A,B⟩:=G (i+1) n (a++[s.getD i 0]) (by omega) (by omega) (by omega) (by simp;omega);have u:(s.getD i 0==37)=false:=by simpa using g
    have top:∀(R:Type) (c:LL->Option R) (d:LL->Option R),V6 LF (n+1) s (i:Int) (a.map F4) c d=V6 LF n s ((i+1:Nat):Int) ((a++[s.getD i 0]).map F4) c d:=by
     intro R c d;rw[V6];rw[A7,G2,E1,C,u,p,E8 (by omega),D,v];rfl
    refine⟨λt f R c d=>?_,λh=>?_⟩
    ·cases j:V3 (s.drop (i+1)) with
     | none=>rw[j] at f;cases f
     | some q=>
      rw[j] at f;simp only[ab1,o8] at f;subst f;rw[top,A q j,aa1];rfl
    ·cases j:V3 (s.drop (i+1)) with
     | some q=>rw[j] at h;cases h
     | none=>
      obtain⟨l,e⟩:=B j;exact⟨l,λR c d=>by rw[top,e]⟩
  ·rw[o7 (by omega)];refine⟨λt f R c d=>?_,λh=>(by cases h)⟩;simp only[V3,o8] at f;subst f;rw[V6];rw[A5,ab0];rfl
def Dl1(s:By)(f:A2 s.length=true):∃r H,C02 LF s (λj k i=>rv (.tup [.s (.str j),.s (.bool k)]) [.arr false 5 1 i])=rv r H/\
  r.stab [0,0] H = .tup [.s (.str (Gy s)),.s (.bool (V3 s).isSome)]:=by
 have h:=L4 f;have g:=C9;have a:((decide ((0:Int)<=(s.length:Int)))&&(G0 (k9 (s.length:Int))))=true:=by
  rw[j0,E8 (by omega),decide_eq_true (by omega)];rfl
 obtain⟨c,d⟩:=Cb9 s h s.length 0 LF [] (by omega) (by omega) (by omega) (by simp);rw[w9] at c d;unfold Gy;cases b:V3 s with
 | none=>
  obtain⟨l,e⟩:=d b;refine⟨.tup [.s (.str []),.s (.bool false)],[.arr false 5 1 l],?_,rfl⟩;unfold C02;rw[a,aa];exact e _ _ _
 | some t=>
  refine⟨.tup [.s (.str t),.s (.bool true)],[.arr false 5 1 (t.map F4)],?_,rfl⟩;unfold C02;rw[a,aa];refine j8 (c t b _ _ _) ?_;rw[ab4,Af,An];rfl
abbrev Up(i:Int)(j:By)(v4 a b c d e f g h:Int):List PV:=[.s (.int .i64 i),.s (.str j),.s (.int .u32 v4),.s (.int .u16 a),.s (.int .u16 b),.s (.int .u16 c),.s (.int .u16 d),.s (.int .u16 e),.s (.int .u16 f),.s (.int .u16 g),.s (.int .u16 h)]
def EX(h:C2):PV:=.agg [.s (.int .i64 (h.kind:Nat)),.s (.str h.name),.s (.int .u32 (h.v4:Nat)),.s (.int .u16 (h.v6.getD 0 0:Nat)),.s (.int .u16 (h.v6.getD 1 0:Nat)),.s (.int .u16 (h.v6.getD 2 0:Nat)),.s (.int .u16 (h.v6.getD 3 0:Nat)),.s (.int .u16 (h.v6.getD 4 0:Nat)),.s (.int .u16 (h.v6.getD 5 0:Nat)),.s (.int .u16 (h.v6.getD 6 0:Nat)),.s (.int .u16 (h.v6.getD 7 0:Nat))]
abbrev Eh7:Int->Int->Int->Int->Int->Int->Int->Int->Int->Int->Int->LL->Option (PV × List Blk × Unit):=λj c d e f g h i r8 k b a=>rv (.tup [.agg (Up j [] 0 c d e f g h i r8),.s (.int .i64 k)]) [.box (Up b [] 0 c d e f g h i r8),.arr false 38 1 a]
abbrev Ee5:Unit->Option (PV × List Blk × Unit):=λ_=>rv (.tup [.agg (Up 0 [] 0 0 0 0 0 0 0 0 0),.s (.int .i64 14)]) [.box (Up 0 [] 0 0 0 0 0 0 0 0 0)]
def GY(s:By)(c:UInt8)(h:s≠[]):(s.getLast? = some c)↔s.getD (s.length-1) 0=c:=by have:0<s.length:=aa2.2 h;grind
def C00(s:By)(g:A2 s.length=true)(e:C08 s=true):∃r H,B23 LF s Eh7 Ee5=rv r H/\r.stab [0,0] H = .tup [EX (S8 s).1,.s (.int .i64 ((S8 s).2:Nat))]:=by
 have m:=L4 g;have c:s≠[]:=by rintro rfl;cases e
 have l:0<s.length:=aa2.2 c;have i:s.getD 0 0=91:=by
  cases s with
  | nil=>exact absurd rfl c
  | cons b t=>
   simp only[C08,ac5,ac2,beq_iff_eq] at e;grind
 have f:A1 ((s.length:Int)-1)=((s.length-1:Nat):Int):=by rw[A4];omega
 have k:(((s.getD (s.length-1) 0).toNat:Int)==93)=(s.getD (s.length-1) 0==93):=T7 _ 93 (by omega);have bad:∃r H,Ee5 ()=rv r H/\r.stab [0,0] H = .tup [EX N3,.s (.int .i64 14)]:=⟨_,_,rfl,rfl⟩
 unfold B23 S8;simp only[vl,f];rw[G2,E1,k,aa];by_cases d:s.getD (s.length-1) 0=93
 ·have h:2<=s.length:=by grind
  rw[ac ⟨(GY s 93 c).2 d,h⟩,d,beq_self_eq_true,aa,show(1:Int)=((1:Nat):Int) from rfl,K2,aa,Fj];have j:((s.take (s.length-1)).drop 1).length<=s.length:=by rw[o5,x3];omega
  rw[M5,aa];unfold v6c;cases n:v6B ((s.take (s.length-1)).drop 1) with
  | none=>exact⟨_,_,rfl,rfl⟩
  | some a=>exact⟨_,_,rfl,rfl⟩
 grind
def C91(l:List By)(i:Nat)(y:By)(h:i<l.length):ai4 (A9 l) i (I4 ((A9 l).getD i []) 0 [SV.str y])=A9 (l.set i y):=by
 have e:(A9 l).getD i []=[SV.str (l.getD i [])]:=by
  unfold A9;grind
 rw[e];unfold A9;rw[List.map_set];rfl
def Aq7(N:Nat)(hN:N<=1000000001):∀(a:List By) (done:List By) (n:Nat),done.length+a.length=N->a.length<n->(∀x∈a,x.length<=1000000000)->
  ((G8 a).2=0->∀(R:Type) (b:Int->LL->Option R) (c:Nat->LL->Option R),W3 LF n N (N:Int) (done.length:Int) (A9 (done++a)) b c=c N (A9 (done++(G8 a).1)))/\
  ((G8 a).2≠0->∃l,∀(R:Type) (b:Int->LL->Option R) (c:Nat->LL->Option R),W3 LF n N (N:Int) (done.length:Int) (A9 (done++a)) b c=b ((G8 a).2:Nat) l):=by
 intro a
 induction a with
 | nil=>
  intro done n i o p;obtain⟨n,rfl⟩:∃m,n=m+1:=⟨n-1,by simp at o;omega⟩
  simp only[p7] at i;refine⟨λ_ R b c=>?_,λh=>absurd rfl h⟩;rw[W3];rw[A5];rfl
 | cons x r z=>
  intro done n i o p;simp only[j4] at i o;rcases n with _|n;omega
  have v:A1 ((done.length:Int)+1)=((done.length+1:Nat):Int):=ah
  have q:(done++x::r).length=N:=by rw[o0,j4];omega
  have k:(done++x::r).getD done.length []=x:=by grind
  have f:∀y,(done++x::r).set done.length y=(done++[y])++r:=λy=>by grind
  have top:∀(R:Type) (b:Int->LL->Option R) (c:Nat->LL->Option R),W3 LF (n+1) N (N:Int) (done.length:Int) (A9 (done++x::r)) b c=cond (((K9 x).2:Int)!=0) (b ((K9 x).2:Nat) (A9 (done++x::r))) (W3 LF n N (N:Int) ((done.length+1:Nat):Int) (A9 ((done++[(K9 x).1])++r)) b c):=by
   intro R b c;rw[W3];rw[A7,G2,j0,am1,K5 (by omega),L9,k];simp only[vl,aa];rw[D5 (p x (by simp)),A8,decide_eq_true (show done.length<(done++x::r).length by omega),C91 _ _ _ (by omega),f,v];rfl
  unfold G8;obtain⟨t,u⟩:=z (done++[(K9 x).1]) n (by simp;omega) (by omega) (λy w=>p y (by simp[w]));have j:(done++[(K9 x).1]).length=done.length+1:=by simp
  rw[j] at t u;by_cases h:(K9 x).2=0
  ·rw[ac h];have g:(((K9 x).2:Int)!=0)=false:=by rw[h];rfl
   refine⟨λd R b c=>?_,λd=>?_⟩
   ·rw[top,g,ab,t d,aa1];rfl
   ·obtain⟨l,e⟩:=u d;exact⟨l,λR b c=>by rw[top,g,ab,e]⟩
  ·rw[ae h];have g:(((K9 x).2:Int)!=0)=true:=by simpa using h
   exact⟨λd=>absurd d h,λ_=>⟨_,λR b c=>by rw[top,g,aa]⟩⟩
def ZD(p:By)(m:Nat):∀l:List By,(∀x∈l,x.length<=m)->(ad5 l p).length<=(m+p.length)*l.length
 | [],_=>by simp[ad5]
 | [x],h=>by
  have:=h x (by simp);rw[show ad5 [x] p=x by simp[ad5,Lib.joinTail]];grind
 | x::y::r,h=>by
  have b:=h x (by simp);have c:=ZD p m (y::r) (λz a=>h z (by simp[a]));rw[MG,o0,o0,j4,Nat.mul_add,Nat.mul_one];omega
def XP(l:List By):(A9 l).all isS=true:=by unfold A9;rw[af7,ab3];intro x _;rfl
def Da2(s:By):Ag1 s [46]=K7 s:=by
 unfold Ag1 K7;by_cases h:s.getLast? = some 46
 ·obtain⟨t,rfl⟩:=List.getLast?_eq_some_iff.1 h;grind
 ·rw[ae h,ae];rw[List.isSuffixOf_iff_suffix];rintro⟨t,a⟩;grind
abbrev Ee6:Int->By->Int->Int->Int->Int->Int->Int->Int->Int->Int->Int->Int->By->Int->Int->Int->Int->Int->Int->Int->Int->Int->Option (PV × List Blk × Unit):=λn o p q r t u v r8 w k l a m b c d e f g h i j=>rv (.tup [.agg (Up n o p q r t u v r8 w k),.s (.int .i64 l)]) [.box (Up a m b c d e f g h i j)]
abbrev Ee7:Int->By->Int->Int->By->LL->Option (PV × List Blk × Unit):=λc d e b f a=>rv (.tup [.agg (Up c d 0 0 0 0 0 0 0 0 0),.s (.int .i64 e)]) [.box (Up b f 0 0 0 0 0 0 0 0 0),.arr false 9 1 a]
def Cc4(s:By)(n:A2 s.length=true):∃r H,CZ LF s Ee6 Ee7=rv r H/\r.stab [0,0] H = .tup [EX (E2 s).1,.s (.int .i64 ((E2 s).2:Nat))]:=by
 have Q:=L4 n;have A:=C9;have bad:∀e:Nat,∃r H,Ee6 0 [] 0 0 0 0 0 0 0 0 0 (e:Int) 0 [] 0 0 0 0 0 0 0 0 0=rv r H/\r.stab [0,0] H = .tup [EX N3,.s (.int .i64 (e:Nat))]:=λe=>⟨_,_,rfl,rfl⟩
 have a:∀(e:Nat) (l:LL),∃r H,Ee7 0 [] (e:Int) 0 [] l=rv r H/\r.stab [0,0] H = .tup [EX N3,.s (.int .i64 (e:Nat))]:=λe l=>⟨_,_,rfl,rfl⟩
 by_cases i:1024<s.length
 ·have e:E2 s=(N3,3):=by unfold E2;rw[ac i]
  rw[e];unfold CZ;rw[A7,aa];exact bad 3
 ·have f:([91]:By).isPrefixOf s=decide (s.head? = some 91):=by
   cases s with
   | nil=>rfl
   | cons b t=>
    grind
  by_cases d:s.head? = some 91
  ·have j:([91]:By).isPrefixOf s=true:=by rw[f,decide_eq_true d]
   have e:E2 s=S8 s:=by unfold E2 S8;rw[ae i,ac d]<;>rfl
   rw[e];unfold CZ;rw[A5,ab,n,aa,j,aa,aa,show C08 s=true from j,aa];exact⟨_,_,rfl,rfl⟩
  ·have j:([91]:By).isPrefixOf s=false:=by rw[f,decide_eq_false d]
   unfold CZ;rw[A5,ab,n,aa,j,ab,aa];cases k:V3 s with
   | none=>
    have e:E2 s=(N3,14):=by unfold E2;rw[ae i,ae d,k]
    rw[e];exact bad 14
   | some t=>
    have L:t.length<=s.length:=HD s t k;have M:Gy s=t:=by unfold Gy;rw[k];rfl
    rw[M,M5];simp only[Option.isSome_some,j5,ab,aa,vl];rw[Da2];have K:(K7 t).length<=t.length:=by unfold K7;split<;>simp
    have B:E2 s=if I7 (K7 t) then (match pnB (K7 t) with
      | some v=>(⟨2,[],v,z8⟩,0)
      | none=>(N3,14))
     else if (G8 (pcs 46 (K7 t))).2=0 then (
      let name:=ad5 (G8 (pcs 46 (K7 t))).1 [46]
      if 253<name.length then (N3,3) else if I7 name then (N3,14) else (⟨1,name,0,z8⟩,0))
     else (N3,(G8 (pcs 46 (K7 t))).2):=by
     unfold E2;rw[ae i,ae d,k];rfl
    rw[B];generalize K7 t=u at *;rw[M5,aa];cases O:I7 u with
    | true=>
     rw[ac rfl,aa,aa];cases P:pnB u with
     | none=>exact bad 14
     | some v=>exact⟨_,_,rfl,rfl⟩
    | false=>
     rw[ae (by simp),ab,aa,show((1:Nat)==1)=true from rfl,aa];have C:([46]:By).getD 0 0=46:=rfl;rw[C];have J:=Dp 46 u;have D:=Bm 46 u;obtain⟨w,y⟩:=Aq7 (pcs 46 u).length (by omega) (pcs 46 u) [] LF (by simp) (by omega) (λx p=>by have:=(Ad p).2;omega);rw[ab4,p7] at w y;by_cases g:(G8 (pcs 46 u)).2=0
     ·rw[ac g];obtain⟨z,N⟩:=Lh _ g;have G:=ZD [46] 63 (G8 (pcs 46 u)).1 (λx p=>(Uo (z x p)).le);have F:∀{R:Type} (m:Int->LL->Option R) (h:Nat->LL->Option R),W3 LF LF (pcs 46 u).length ((pcs 46 u).length:Int) 0 (A9 (pcs 46 u)) m h=h (pcs 46 u).length (A9 (G8 (pcs 46 u)).1):=λm h=>w g _ m h
      rw[F];have hA:(G8 (pcs 46 u)).1.length<=1025:=by omega
      have o:ae1 (pcs 46 u).length (ac7 0 (A9 (G8 (pcs 46 u)).1))=A9 (G8 (pcs 46 u)).1:=by
       rw[w9,af9 (by rw[A8];omega)]
      have q:(63+([46]:By).length)*(G8 (pcs 46 u)).1.length<=64*1025:=ag9 (by simp) hA;rw[o,XP,Ap2,A8,M5,M5];simp only[aa];generalize ad5 (G8 (pcs 46 u)).1 [46]=name at *;by_cases c:253<name.length
      ·rw[ac c,A7,aa];exact a 3 _
      ·rw[ae c,A5,ab];cases I:I7 name with
       | true=>exact a 14 _
       | false=>exact⟨_,_,rfl,rfl⟩
     ·rw[ae g];obtain⟨l,e⟩:=y g;simp_all
def Ar0{k0 k1:Unit->Option R}:∀l:List By,(∀x∈l,x.length<=1000000000)->MB LF l k0 k1=if l.all N5 then k0 () else k1 ()
 | [],_=>rfl
 | x::r,h=>by
  rw[Aq9];unfold GW;rw[D5 (h x (by simp)),aa,ab6];have b:=Ar0 (k0:=k0) (k1:=k1) r (λy a=>h y (by simp[a]));grind
def D63(s:By)(a:A2 s.length=true):∃r H,hvn LF s (λ_=>rv (.s (.bool false)) [.box [.s (.bool false)]]) (λd b=>rv (.s (.bool d)) [.box [.s (.bool b)],.box [.bad],.box [.bad],.box [.bad]])=rv r H/\r.stab [] H = .s (.bool (W9 s)):=by
 have h:=L4 a;unfold hvn YX W9;by_cases e:253<s.length
 ·rw[A7,show p5 s.length 253=false by rw[aa8,ne_eq,x8];omega];exact⟨_,_,rfl,rfl⟩
 ·rw[A5,ab,a,aa,show p5 s.length 253=true by rw[x8];omega];cases f:I7 s with
  | true=>exact⟨_,_,rfl,rfl⟩
  | false=>
   rw[ab,show((1:Nat)==1&&(0:Int)==(0:Int))=true from rfl,show([46]:By).getD 0 0=46 from rfl,ac2,aa,Ar0 _ (λx c=>by have:=(Ad c).2;omega)];cases g:(pcs 46 s).all N5 with
   | true=>exact⟨_,_,rfl,rfl⟩
   | false=>exact⟨_,_,rfl,rfl⟩
def Ef1(a c d f g h i j:Nat):(n8 (a:Int) c d f g h i j==z8)=(((a:Int)==0)&&(((c:Int)==0)&&(((d:Int)==0)&&(((f:Int)==0)&&(((g:Int)==0)&&(((h:Int)==0)&&(((i:Int)==0)&&(((j:Int)==0)&&true)))))))):=by
 have e:n8 (a:Int) c d f g h i j=[a,c,d,f,g,h,i,j]:=rfl;have q:∀b:Nat,((b:Int)==0)=(b==0):=λb=>by grind
 rw[e];simp only[q,z8];rfl
def B26(a:Int)(b:By)(v4 l m n o p q t u:Int)(D:A2 b.length=true)(F:ltN v4 4294967296=true)(G:ok8 l m n o p q t u=true) :
  ∃r H,Qf LF a b v4 l m n o p q t u (λV M W N O P Q R n8 S y z x=>rv (.s (.bool V)) [.box (Up M W N O P Q R n8 S y z),.arr false 38 1 x])=rv r H/\
   r.stab [] H = .s (.bool (P3 (mkH a b v4 (n8 l m n o p q t u)))):=by
 obtain⟨c,d,e,f,g,i,j,k,rfl,rfl,rfl,rfl,rfl,rfl,rfl,rfl,X⟩:=Tp G;obtain⟨v0,v1⟩:=E9.1 F;obtain⟨v,rfl⟩:=x6 v0;have U:((v:Int)==0)=(v==0):=by
  rw[y5,beq_iff_eq,beq_iff_eq];omega
 have T:(b==([]:By))=b.isEmpty:=by cases b<;>rfl
 have J:(mkH a b (v:Int) (n8 (c:Int) d e f g i j k)).kind=if ltN a 4 then a.toNat else 0:=rfl
 have K:(mkH a b (v:Int) (n8 (c:Int) d e f g i j k)).name=b:=rfl;have L:(mkH a b (v:Int) (n8 (c:Int) d e f g i j k)).v4=v:=j0 v;have I:(mkH a b (v:Int) (n8 (c:Int) d e f g i j k)).v6=n8 (c:Int) d e f g i j k:=rfl;unfold Qf P3;rw[J,K,L,I,Ef1,U,T];by_cases A:a=1
 ·subst A;rw[show((1:Int)==1)=true from rfl,aa,D,aa,ac (by decide)];cases W9 b with
  | false=>exact⟨_,_,rfl,rfl⟩
  | true=>
   cases (v==0) with
   | false=>exact⟨_,_,rfl,rfl⟩
   | true=>exact⟨_,_,rfl,rfl⟩
 ·rw[show(a==(1:Int))=false by simpa using A,ab];by_cases B:a=2
  ·subst B;rw[show((2:Int)==2)=true from rfl,aa,ae (by decide),ac (by decide)];cases b.isEmpty with
   | false=>exact⟨_,_,rfl,rfl⟩
   | true=>exact⟨_,_,rfl,rfl⟩
  ·rw[show(a==(2:Int))=false by simpa using B,ab];by_cases C:a=3
   ·subst C;rw[show((3:Int)==3)=true from rfl,aa,ae (by decide),ae (by decide),ac (by decide)];cases b.isEmpty with
    | false=>exact⟨_,_,rfl,rfl⟩
    | true=>exact⟨_,_,rfl,rfl⟩
   ·rw[show(a==(3:Int))=false by simpa using C,ab];have w:(if ltN a 4 then a.toNat else 0)=0:=by
     split
     ·rename_i h;have:=E9.1 h;omega
     ·rfl
    rw[w];exact⟨_,_,rfl,rfl⟩
def D31{a b c d e f g i:Int}(h:ok8 a b c d e f g i=true):(n8 a b c d e f g i).length=8/\∀x∈n8 a b c d e f g i,x<65536:=by obtain⟨k,l,m,n,o,p,q,r,rfl,rfl,rfl,rfl,rfl,rfl,rfl,rfl,t⟩:=Tp h;refine⟨rfl,λx j=>?_⟩;simp only[n8,j0,aa0,ai8,or_false] at j;omega
def B25(a:Int)(j:By)(v4 b c d e f g h i:Int)(q:A2 j.length=true)(t:ltN v4 4294967296=true)(n:ok8 b c d e f g h i=true) :
  ∃r H,Dl6 LF a j v4 b c d e f g h i (λI k J y z A B C n8 D l m=>rv (.s (.str I)) [.box (Up k J y z A B C n8 D l m)])=rv r H/\
   r.stab [] H = .s (.str (Y7 (mkH a j v4 (n8 b c d e f g h i)))):=by
 obtain⟨F,G⟩:=D31 n;have v:=Db7 _ F G;unfold Dl6 Y7;rw[q,t,n];simp only[aa,vl];have u:(mkH a j v4 (n8 b c d e f g h i)).kind=if ltN a 4 then a.toNat else 0:=rfl
 cases w:P3 (mkH a j v4 (n8 b c d e f g h i)) with
 | false=>exact⟨_,_,rfl,rfl⟩
 | true=>
  rw[ac rfl,j5,ab,u];by_cases o:a=1
  ·subst o;rw[ac (by decide)];exact⟨_,_,rfl,rfl⟩
  ·rw[show(a==(1:Int))=false by simpa using o,ab];have k:¬(if ltN a 4 then a.toNat else 0)=1:=by grind
   rw[ae k];by_cases p:a=2
   ·subst p;rw[ac (by decide)];exact⟨_,_,rfl,rfl⟩
   ·rw[show(a==(2:Int))=false by simpa using p,ab];have x:¬(if ltN a 4 then a.toNat else 0)=2:=by grind
    rw[ae x,I1 (by omega),aa,I1 (by rw[o0,ad1];omega),aa];exact⟨_,_,rfl,rfl⟩
def Cb8{b:Bool->Option R}(p s:By)(a:A2 p.length=true)(c:A2 s.length=true):Dk8 LF p s b=b (Gp p s):=by have d:=L4 a;unfold Dk8 Gp;rw[a,c,I1 (by omega)];grind
def Bd1{a:By->By->Int->Option R}(t p:By)(n:Int):C19 LF t p n a=a t p n:=rfl
def Cm9{a:By->By->Option R}(t p:By):D81 LF t p a=a t p:=rfl
def Bq2{l R:Type}(g:Yh l)(c:UInt8):∀(m:Nat) (t:By) (n:Nat) (s i:l),t.length<=m->t.length<=1000000000->m<n->U2 g ((pcs c t).map λx=>([.s (.str x)]:List PV)) s=some i->
  ∃u , (∃w:l,∃b:Bool,g [.s (.str u)] w=some (b,i)/\∀(a d:By->By->Int->l->Option R),W6 g LF n [c] t 0 s a d=a [c] u 0 w)\/(∀(a d:By->By->Int->l->Option R),W6 g LF n [c] t 0 s a d=d [c] u 0 i):=by
 intro m
 induction m with
 | zero=>
  intro t n s i z o F h;obtain rfl:=o9.1 (Nat.le_zero.1 z);rcases n with _|n;omega
  rw[Rp (by simp)] at h;simp only[aa6,af8,U2] at h;refine⟨[],.inl ⟨s,?_⟩⟩;have e:∀(a d:By->By->Int->l->Option R),W6 g LF (n+1) [c] [] 0 s a d=a [c] [] 0 s:=λa d=>by
   rw[W6];rw[Wh (by simp)];rfl
  cases k:g [.s (.str [])] s with
  | none=>rw[k] at h;cases h
  | some q=>
   obtain⟨b,j⟩:=q;rw[k] at h;have:j=i:=by cases b<;>simpa using h
   subst this;exact⟨b,rfl,e⟩
 | succ m G=>
  intro t n s i z o F h;rcases n with _|n;omega
  rcases V0 c t with v|⟨p,r,rfl,v⟩
  ·rw[Rp v] at h;simp only[aa6,af8,U2] at h;refine⟨t,.inl ⟨s,?_⟩⟩;have e:∀(a d:By->By->Int->l->Option R),W6 g LF (n+1) [c] t 0 s a d=a [c] t 0 s:=λa d=>by
    rw[W6];rw[Wh v,D5 o];rfl
   cases k:g [.s (.str t)] s with
   | none=>rw[k] at h;cases h
   | some q=>
    obtain⟨b,j⟩:=q;rw[k] at h;have:j=i:=by cases b<;>simpa using h
    subst this;exact⟨b,rfl,e⟩
  ·rw[Aa4 v] at h;simp only[aa6,U2] at h;have y:(p++c::r).length=p.length+r.length+1:=by rw[o0,j4];omega
   have A:A1 ((p.length:Int)+0)=((p.length:Nat):Int):=by rw[A4];omega
   have B:A1 ((p.length:Int)+(([c]:By).length:Int))=((p.length+1:Nat):Int):=by
    rw[E0 (by simp;omega) (by simp;omega)];simp
   have C:cut (p++c::r) 0 (p.length:Int)=p:=by rw[M8,j0,aj9]
   have D:cut (p++c::r) ((p.length+1:Nat):Int) ((p++c::r).length:Int)=r:=by
    rw[R7,j0,show p++c::r=(p++[c])++r by simp,ag0 (by simp)]
   have top:∀(a d:By->By->Int->l->Option R),W6 g LF (n+1) [c] (p++c::r) 0 s a d=ydK (g [.s (.str p)] s) λb j=>cond (not b) (d [c] (p++c::r) 0 j) (W6 g LF n [c] r 0 j a d):=λa d=>by
    rw[W6];rw[DB v,D5 o,aa,A5,ab];simp only[vl,A,B,C,D];rw[K2,aa,K2];rfl
   cases k:g [.s (.str p)] s with
   | none=>rw[k] at h;cases h
   | some q=>
    obtain⟨b,j⟩:=q;rw[k] at h top;cases b with
    | false=>
     have:j=i:=by simpa using h
     subst this;exact⟨p++c::r,.inr λa d=>by rw[top];rfl⟩
    | true=>
     simp only at h;obtain⟨u,⟨w,b,e,f⟩|f⟩:=G r n j i (by omega) (by omega) (by omega) h
     ·exact⟨u,.inl ⟨w,b,e,λa d=>by rw[top];exact f a d⟩⟩
     ·exact⟨u,.inr λa d=>by rw[top];exact f a d⟩
def Bq3{j R:Type}(i:Yh j)(p t:By)(n:Int)(s g:j)(h:(A2 t.length&&(p.length==1&&n==0))=true)(o:U2 i ((pcs (p.getD 0 0) t).map λx=>([.s (.str x)]:List PV)) s=some g) :
  ∃d,∀(a:By->By->Int->j->Option R),A17 i LF p t n s a=a p d n g:=by
 have m:=C9;simp only[s9,beq_iff_eq] at h;obtain⟨k,l,rfl⟩:=h;obtain⟨c,rfl⟩:=List.length_eq_one_iff.1 l;have q:=L4 k;obtain⟨d,⟨r,b,e,f⟩|f⟩:=Bq2 (R:=R) i c t.length t LF s g (aa3 _) q (by omega) o
 ·refine⟨d,λa=>?_⟩;unfold A17;rw[show(((([c]:By).length:Nat):Int)==0)=false from rfl,ab];refine j8 (f _ _) ?_;rw[e];rfl
 ·refine⟨d,λa=>?_⟩;unfold A17;rw[show(((([c]:By).length:Nat):Int)==0)=false from rfl,ab];exact f _ _
def Bd2{b:By->Option R}(s p:By)(a:A2 s.length=true):B37 LF s p b=b (Ie s p):=by
 have:=L4 a;unfold B37 Ie;rw[a];cases h:p.isPrefixOf s with
 | false=>simp
 | true=>
  have:p.length<=s.length:=by rw[Gi] at h;simp at h;exact h.1
  simp (disch:=omega)
def Cn7{a:By->Option R}(s p:By)(b:A2 s.length=true):Dv7 LF s p a=a (Ie s p):=by unfold Dv7;rw[b];rfl
def Br7{e:Int->Option R}(s:By):B70 LF s e=e (V4 s):=by unfold B70 V4 Pt bWs Eg BW;generalize (s==([104,116,116,112]:By))=a;generalize (s==([119,115]:By))=b;generalize (s==([104,116,116,112,115]:By))=c;generalize (s==([119,115,115]:By))=d;cases a<;>cases b<;>cases c<;>cases d<;>rfl
def Bs0{a:Bool->Option R}(s:By):B72 LF s a=a (D2 s):=by unfold B72;rw[Y0,OX]
def ZS:By:=[48,49,50,51,52,53,54,55,56,57,43,45,46]
def Nz(c:UInt8):∀l:By,ltI (x9 l c) 0 = !l.contains c
 | []=>rfl
 | b::r=>by
  have f:=Nz c r;have g:=Lib.indexByte_ge r c;unfold x9;by_cases h:b=c
  ·subst h;simp[D8]
  ·have e:(b==c)=false:=by simpa using h
   have d:(c==b)=false:=by simpa using Ne.symm h
   rw[List.contains_cons,d,ac3,<-f,e];simp only[p9,if_false];by_cases a:x9 r c=-1
   ·rw[a];rfl
   ·have:(x9 r c==-1)=false:=by simpa using a
    rw[this,ae (by simp),A5,A5]
def A04:∀b:UInt8,Q7 b=(R9 b||ZS.contains b):=by
 have:∀n:Fin 256,Q7 (y9 n.val)=(R9 (y9 n.val)||ZS.contains (y9 n.val)):=by decide +kernel
 intro b;have h:=this ⟨b.toNat,b.toNat_lt⟩;simpa using h
def A29{c:Unit->Option R}{d:Kdg R}(s:By)(i:Nat)(b:UInt8)(l:Bool)(n:Int):Pq s (i:Int) (b.toNat:Int) l n c d=if l then d s n i false else if i=0 then c () else if ZS.contains b then d s n i false else c ():=by
 unfold Pq;cases l with
 | true=>rfl
 | false=>
  rw[j7,aa,ae (by simp)];by_cases a:i=0
  ·subst a;rfl
  ·have f:=b.toNat_lt;rw[show((i:Int)==0)=false by simpa using a,ab,G2,aa,ae a];simp only[vl];rw[Kf];have e:=Nz b ZS;rw[show([48,49,50,51,52,53,54,55,56,57,43,45,46]:By)=ZS from rfl,e];cases ZS.contains b<;>rfl
def OK{a:Unit->Option R}{c:By->Option R}(s:By)(r:s.length<=1000000000)(n i:Nat)(p:i<s.length) :
  P8 LF (n+1) s (s.length:Int) (i:Int) a c=if R9 (s.getD i 0) then P8 LF n s s.length ((i+1:Nat):Int) a c else if i=0 then a () else if ZS.contains (s.getD i 0) then P8 LF n s s.length ((i+1:Nat):Int) a c else a ():=by
 have k:A1 ((i:Int)+1)=((i+1:Nat):Int):=ah
 rw[P8,A7,G2,E1];simp only[aa];generalize s.getD i 0=b;have go:∀l,Pq s (i:Int) (b.toNat:Int) l (s.length:Int) (λ_=>a ()) (λj g h m=>P8 LF n j g (A1 (h+(1:Int))) a c)=if l then P8 LF n s s.length ((i+1:Nat):Int) a c else if i=0 then a () else if ZS.contains b then P8 LF n s s.length ((i+1:Nat):Int) a c else a ():=λl=>by
  rw[A29,k]
 have q:R9 b=((p5 97 b.toNat&&p5 b.toNat 122)||(p5 65 b.toNat&&p5 b.toNat 90)):=rfl;by_cases f:97<=b.toNat
 ·rw[A5,j7,aa];by_cases d:b.toNat<=122
  ·rw[A5,j7,aa,ac (X8.2 (.inl ⟨f,d⟩))];unfold B71;simp only[k]
  ·rw[A7,j5,ab,A5,j7,aa,A7,j5];have e:R9 b=false:=by
    rw[<-ai5,X8];omega
   rw[e];exact go false
 ·rw[A7,j5,ab];by_cases o:65<=b.toNat
  ·rw[A5,j7,aa];have e:R9 b = !ltI 90 (b.toNat:Int):=by
    rw[y5,X8,ah7,Rj];omega
   rw[e];exact go _
  ·rw[A7,j5,ab];have e:R9 b=false:=by
    rw[<-ai5,X8];omega
   rw[e];exact go false
def Co6{k0:Unit->Option R}{k1:By->Option R}(s:By)(d:s.length<=1000000000):∀(r i n:Nat),i+r=s.length->r<n->0<i->
  P8 LF n s (s.length:Int) (i:Int) k0 k1=if (s.drop i).all Q7 then k1 s else k0 ():=by
 intro r
 induction r with
 | zero=>
  intro i n b c a;rcases n with _|n;omega
  rw[P8];rw[A5,o7 (by omega)];rfl
 | succ r e=>
  intro i n b c a;rcases n with _|n;omega
  rw[OK s d n i (by omega),e (i+1) n (by omega) (by omega) (by omega),E6 s i (by omega),ab6,A04,ae (by omega:¬i=0)];cases R9 (s.getD i 0) with
  | true=>simp
  | false=>
   cases ZS.contains (s.getD i 0)<;>simp
def Co7{k0:Bool->Option R}(s:By)(f:A2 s.length=true):Dw4 LF s k0=k0 (Ae s):=by
 have c:=L4 f;have g:=C9;unfold Dw4;obtain⟨n,d⟩:∃m,LF=m+1:=⟨LF-1,by omega⟩
 cases s with
 | nil=>
  rw[show @P8 R LF LF = @P8 R LF (n+1) by rw[<-d]];rfl
 | cons b t=>
  rw[show @P8 R LF LF = @P8 R LF (n+1) by rw[<-d]];refine j8 (OK (b::t) c n 0 (by simp)) ?_;have e:=Co6 (k0:=λ_=>k0 false) (k1:=λa=>k0 (not (a==([]:By)))) (b::t) c t.length 1 n (by simp;omega) (by simp at c;omega) (by omega);rw[ae0];simp only[am1,if_true];rw[show(((0+1:Nat):Int))=((1:Nat):Int) from rfl,e];rw[show(b::t).drop 1=t from rfl,show Ae (b::t)=(R9 b&&t.all Q7) from rfl];cases R9 b with
  | false=>rfl
  | true=>cases t.all Q7<;>rfl
def ZU:∀(s:By) (n:Int),GK.go n s=(Yw n s).getD 0
 | [],n=>rfl
 | b::r,n=>by
  unfold GK.go Yw;split
  ·exact ZU r _
  ·rfl
def Cn9{a:Unit->Option R}{c:Int->Option R}(s:By)(y:s.length<=1000000000):∀(r i n:Nat) (v:Int),i+r=s.length->r<n->-1<=v->v<=65536->
  Po LF n s v (s.length:Int) (i:Int) a c=match Yw v (s.drop i) with|some m=>c m|none=>a ():=by
 intro r
 induction r with
 | zero=>
  intro i n v p q j k;rcases n with _|n;omega
  rw[Po];rw[A5,o7 (by omega)];rfl
 | succ r t=>
  intro i n v p q j k;rcases n with _|n;omega
  have d:A1 ((i:Int)+1)=((i+1:Nat):Int):=ah
  rw[Po];rw[A7,G2,E1,E6 s i (by omega),d];have x:=(s.getD i 0).toNat_lt;generalize s.getD i 0=b at *;unfold Yw;simp only[aa,vl];by_cases l:b.toNat<48
  ·rw[A7,aa,I6]
  ·rw[A5,ab];by_cases o:57<b.toNat
   ·rw[A7,aa,I6]
   ·rw[A5,ab,ac (show 48<=b.toNat/\b.toNat<=57 by omega)];have u:(if (0:Int) > v then (0:Int) else v)=max v 0:=by omega
    have e:A1 (10*max v 0)=10*max v 0:=A4;have f:wu8 ((b.toNat:Int)-48)=((b.toNat-48:Nat):Int):=by rw[O4];omega
    have g:A1 ((b.toNat-48:Nat):Int)=((b.toNat-48:Nat):Int):=A4;have h:A1 (10*max v 0+((b.toNat-48:Nat):Int))=10*max v 0+((b.toNat-48:Nat):Int):=A4;rw[u,e,f,g,h];have w:(if (65536:Int)<10*max v 0+((b.toNat-48:Nat):Int) then (65536:Int) else 10*max v 0+((b.toNat-48:Nat):Int))=min (10*max v 0+((b.toNat-48:Nat):Int)) 65536:=by omega
    rw[w];exact t (i+1) n _ (by omega) (by omega) (by omega) (by omega)
def Co0{a:Int->Bool->Option R}(s:By)(b:A2 s.length=true):Dw0 LF s a=a (GK s) (Kv (-1) s).isSome:=by
 have d:=L4 b;have c:=C9;unfold Dw0;refine j8 (Cn9 s d s.length 0 LF (-1) (by omega) (by omega) (by omega) (by omega)) ?_;rw[w9,ZT,show GK s=GK.go (-1) s from rfl,ZU];cases Yw (-1) s with
 | none=>rfl
 | some m=>
  simp only[ai9,af6];rw[Y0];by_cases h:m<65536
  ·rw[decide_eq_true h,ac h];rfl
  ·rw[decide_eq_false h,ae h];rfl
def C29{s:By}{p:Int}(h:Kv (-1) s=some p):GK s=p:=by
 rw[ZT] at h;rw[show GK s=GK.go (-1) s from rfl,ZU];cases a:Yw (-1) s with
 | none=>rw[a] at h;cases h
 | some m=>
  rw[a] at h;simp only[af6] at h;split at h
  ·exact ag4 h
  ·cases h
def hpT(name tail b user a:By):X1 × Nat:=
 if (E2 name).2≠0 then (Be,(E2 name).2)
 else match Kv (-1) (tail.drop 1) with
  | none=>(Be,16)
  | some p=>(⟨b,user,(E2 name).1,if p=V4 b then -1 else p,a⟩,0)
def hpC(name tail b user a:By):X1 × Nat:=if tail≠[]/\tail.head?≠some 58 then (Be,4) else hpT name tail b user a
def Ym(c user b a:By):R2 c user b a=match Mo a with|none=>(Be,4)|some (name,tail)=>hpC name tail c user b:=by
 unfold R2;cases Mo a with
 | none=>rfl
 | some q=>
  obtain⟨name,tail⟩:=q;rfl
def Wd{t:By}(h:t=[]\/t.head? = some 58):Ie t [58]=t.drop 1:=by
 rcases h with rfl|h
 ·rfl
 ·cases t with
  | nil=>cases h
  | cons b r=>
   simp only[List.head?_cons,o8] at h;subst h;simp[Ie]
def AG(name tail:By)(f:name.length<=1000000000)(j:tail.length<=1000000000)(h:tail=[]\/tail.head? = some 58)(d u:By)(v:Int)(y:By)(w n8 x k l m n o r:Int)(c:By) :
  ∃B H,∀(R:Type) (a:Int->Blk->By->By->Int->By->Int->Int->Int->Int->Int->Int->Int->Int->Int->Int->By->List Blk->Option R),Da name tail d u v y w n8 x k l m n o r (-1) c a=(λq=>a (uE q) B (uS q) (uU q) (uK q) (uN q) (uV q) (uA q 0) (uA q 1) (uA q 2) (uA q 3) (uA q 4) (uA q 5) (uA q 6) (uA q 7) (uP q) (uR q) H) (hpT name tail d u c):=by
 have i:(tail.drop 1).length<=1000000000:=by rw[o5];omega
 by_cases b:(E2 name).2=0
 ·cases g:Kv (-1) (tail.drop 1) with
  | none=>
   apply s8;apply s8;intro R a;unfold Da hpT;rw[D5 f,aa,Wd h,D5 j];simp only[vl,aa];rw[b,D5 i,g];rfl
  | some p=>
   have t:=C29 g;by_cases e:p=V4 d
   ·apply s8;apply s8;intro R a;unfold Da hpT;rw[D5 f,aa,Wd h,D5 j];simp only[vl,aa];rw[b,D5 i,g,t,show(p !=V4 d)=false by simpa using e];simp only[e,if_true];rfl
   ·apply s8;apply s8;intro R a;unfold Da hpT;rw[D5 f,aa,Wd h,D5 j];simp only[vl,aa];rw[b,D5 i,g,t,show(p !=V4 d)=true by simpa using e];simp only[e,if_false];rfl
 ·apply s8;apply s8;intro R a;unfold Da hpT;rw[D5 f,aa];simp only[vl];rw[show(((E2 name).2:Int)!=0)=true by simpa using b,aa,ac b];rfl
def Pp(name tail:By)(w:name.length<=1000000000)(x:tail.length<=1000000000)(l m:By)(p:Int)(v:By)(t n8 u d f g i j k:Int)(a:By) :
  ∃B H,∀(R:Type) (c:Int->Blk->By->By->Int->By->Int->Int->Int->Int->Int->Int->Int->Int->Int->Int->By->List Blk->Option R),W8 name tail l m p v t n8 u d f g i j k (-1) a c=(λq=>c (uE q) B (uS q) (uU q) (uK q) (uN q) (uV q) (uA q 0) (uA q 1) (uA q 2) (uA q 3) (uA q 4) (uA q 5) (uA q 6) (uA q 7) (uP q) (uR q) H) (hpC name tail l m a):=by
 cases tail with
 | nil=>
  obtain⟨B,H,e⟩:=AG name [] w x (.inl rfl) l m p v t n8 u d f g i j k a;refine⟨B,H,λR c=>?_⟩;unfold W8 hpC;exact e R c
 | cons b r=>
  by_cases n:b=58
  ·subst n;obtain⟨B,H,e⟩:=AG name (58::r) w x (.inr rfl) l m p v t n8 u d f g i j k a;refine⟨B,H,λR c=>?_⟩;unfold W8 hpC;rw[G9 (by omega) (by simp),ae (by simp)];exact e R c
  ·apply s8;apply s8;intro R c;unfold W8 hpC;have o:(((b.toNat:Int))!=(58:Int))=true:=by
    rw[bne_iff_ne];intro h;have y:b.toNat=58:=by omega
    exact n (aj6.1 y)
   rw[G9 (by omega) (by simp),ac (by simpa using n),Bk,ae0,o];rfl
def B28{c:UInt8}{s:By}(h:Im c s=none):x9 s c=-1:=by rw[Ks,h]
def YY{c:UInt8}{s:By}{k:Nat}(h:Im c s=some k):x9 s c=(k:Int)/\k<s.length:=by obtain⟨p,r,rfl,_,rfl⟩:=Tj h;exact⟨by rw[Ks,h],by simp⟩
def D73(c:UInt8)(s:By):([c]:By).isPrefixOf s=(s.head? == some c):=by
 cases s with
 | nil=>rfl
 | cons b r=>
  grind
abbrev KU(R:Type):=By->By->Int->By->Int->Int->Int->Int->Int->Int->Int->Int->Int->Int->By->Int->List Blk->Option R
abbrev KZ(a:KU R)(q:X1 × Nat)(H:List Blk):Option R:=a (uS q) (uU q) (uK q) (uN q) (uV q) (uA q 0) (uA q 1) (uA q 2) (uA q 3) (uA q 4) (uA q 5) (uA q 6) (uA q 7) (uP q) (uR q) (uE q) H
def Br5(u:By)(J:Int)(O:By)(v4 y z A C D F G I:Int)(t a:By)(h2:A2 a.length=true) :
  ∃H,∀(R:Type) (o:KU R),ED LF u [] J O v4 y z A C D F G I (-1) t a o=KZ o (I9 u t a) H:=by
 have ha:=L4 h2;have ge:=MI 64 a;have key:∀(x b:By),b.length<=1000000000->∃H,∀(R:Type) (o:KU R),(cond (A2 (c9 b)) (cond (ac5 (([91]:By)) b)
   (cond (A2 (c9 b))
    (vl (x9 b (u8n (93:Int))) λc=>
    cond (ltI c (0:Int))
     (o ([]:By) ([]:By) 0 ([]:By) 0 0 0 0 0 0 0 0 0 0 ([]:By) 4 [(bU u x J O v4 y z A C D F G I (-1) t),bU0])
     (cond (J5 (0:Int) (A1 (c+(1:Int))) (c9 b))
      (cond (J5 (A1 (c+(1:Int))) (↑(c9 b):Int) (c9 b))
       (W8 (cut b (0:Int) (A1 (c+(1:Int)))) (cut b (A1 (c+(1:Int))) (↑(c9 b):Int)) u x J O v4 y z A C D F G I (-1) t (λn0 T P Q K S L M n8 N f g i j l m n q=>o P Q K S L M n8 N f g i j l m n n0 (T::((bU P Q K S L M n8 N f g i j l m n)::q))))
       (none))
      (none)))
    (none))
   (cond (A2 (c9 b))
    (vl (x9 b (u8n (58:Int))) λd=>
    cond (not (ltI d (0:Int)))
     (cond (J5 (0:Int) d (c9 b))
      (cond (J5 d (↑(c9 b):Int) (c9 b))
       (W8 (cut b (0:Int) d) (cut b d (↑(c9 b):Int)) u x J O v4 y z A C D F G I (-1) t (λn0 T P Q K S L M n8 N f g i j l m n q=>o P Q K S L M n8 N f g i j l m n n0 (T::((bU P Q K S L M n8 N f g i j l m n)::q))))
      (none))
     (none))
     (W8 b ([]:By) u x J O v4 y z A C D F G I (-1) t (λn0 T P Q K S L M n8 N f g i j l m n q=>o P Q K S L M n8 N f g i j l m n n0 (T::((bU P Q K S L M n8 N f g i j l m n)::q)))))
    (none))) none)=KZ o (R2 u x t b) H:=by
  intro x b hb;rw[Ym];unfold Mo;have w:A2 b.length=true:=D5 hb;have W:u8n (93:Int)=93:=rfl;have U:u8n (58:Int)=58:=rfl;by_cases v:b.head? = some 91
  ·rw[ac v];have Z:([91]:By).isPrefixOf b=true:=by rw[D73,v];rfl
   cases Y:Im 93 b with
   | none=>
    apply s8;intro R o;rw[w,Z,W,B28 Y];rfl
   | some k=>
    obtain⟨e,hk⟩:=YY Y;have e1:A1 ((k:Int)+1)=((k+1:Nat):Int):=ah
    obtain⟨B,H,X⟩:=Pp (b.take (k+1)) (b.drop (k+1)) (by rw[x3];omega) (by rw[o5];omega) u x J O v4 y z A C D F G I t;apply s8;intro R o;rw[w,Z,W,e];simp only[vl,aa];rw[A5,ab,e1,K2,K2,aa,aa,M8,R7,j0,X]
  ·rw[ae v];have Z:([91]:By).isPrefixOf b=false:=by rw[D73];simpa using v
   cases Y:Im 58 b with
   | none=>
    obtain⟨B,H,X⟩:=Pp b [] hb (by simp) u x J O v4 y z A C D F G I t;apply s8;intro R o;rw[w,Z,U,B28 Y];simp only[vl,aa,ab];rw[A7,j5,ab,X]
   | some k=>
    obtain⟨e,hk⟩:=YY Y;obtain⟨B,H,X⟩:=Pp (b.take k) (b.drop k) (by rw[x3];omega) (by rw[o5];omega) u x J O v4 y z A C D F G I t;apply s8;intro R o;rw[w,Z,U,e];simp only[vl,aa,ab];rw[A5,j7,aa,K2,K2,aa,aa,M8,R7,j0,X]
 have V:u8n (64:Int)=64:=rfl;unfold I9;by_cases h:0<=M9 64 a
 ·obtain⟨p,r,rfl,_,hl⟩:=MK h;rw[ac h,hl,j0];rw[o0,j4] at ha;obtain⟨H,e⟩:=key ((p++64::r).take p.length) ((p++64::r).drop (p.length+1)) (by rw[o5,o0,j4];omega);refine⟨H,λR o=>?_⟩;refine j8 ?_ (e R o);have e1:A1 ((p.length:Int)+1)=((p.length+1:Nat):Int):=ah
  have ln:(p++64::r).length=p.length+r.length+1:=by rw[o0,j4];omega
  unfold ED;rw[h2,V,hl];simp only[vl,aa];rw[A5,j7,aa,e1,K2,K2,aa,aa,M8,R7,j0,j0];rfl
 ·rw[ae h];obtain⟨H,e⟩:=key [] a ha;refine⟨H,λR o=>?_⟩;refine j8 ?_ (e R o);unfold ED;rw[h2,V];simp only[vl,aa];rw[A7,j5,ab];rfl
def Tru(x:Option (PV × List Blk × Unit)):Prop:=∃H,x=some (.s (.bool true),H,())
def eq8{v6:List Nat}(h:v6.length=8):∃a b c d e f g i,v6=[a,b,c,d,e,f,g,i]:=by
 match v6,h with
 | [a,b,c,d,e,f,g,i],_=>exact⟨a,b,c,d,e,f,g,i,rfl⟩
def Dp3{a b c d e f g i:Nat}(h:∀x∈[a,b,c,d,e,f,g,i],x<65536):ok8 a b c d e f g i=true:=by
 have q:∀x∈[a,b,c,d,e,f,g,i],ltN (x:Int) 65536=true:=λx j=>E9.2 ⟨by omega,by have:=h x j;omega⟩
 simp[ok8,q a,q b,q c,q d,q e,q f,q g,q i]
def GF{h:C2}(a:P3 h=true):h.name.length<=253:=by
 unfold P3 at a;split at a
 ·simp only[s9] at a;exact(OL.1 a.1.1).le
 ·split at a
  ·simp only[s9,af3] at a;rw[a.1];simp
  ·split at a
   ·simp only[s9,af3] at a;rw[a.1];simp
   ·cases a
def Yg{h:C2}(ok:Qj h):(Y7 h).length<=300:=by
 cases a:P3 h with
 | false=>rw[LU a];simp
 | true=>
  have d:=GF a;have c:=Db7 _ ok.v6.1 ok.v6.2;have b:=D87 _ ok.v4;unfold Y7;rw[ac a];split
  ·omega
  ·split
   ·omega
   ·simp only[j4,o0,p7];omega
def GV{h0 b c d e f g i j a:Int}{h1:By}(k:ltN b 4294967296=true)(l:ok8 c d e f g i j a=true):Qj (mkH h0 h1 b (n8 c d e f g i j a)):=by
 have⟨m,n⟩:=E9.1 k;refine⟨by show b.toNat<_;omega,D31 l,?_⟩;show(if ltN h0 4 then h0.toNat else 0)<4;split
 ·rename_i h;have:=E9.1 h;omega
 ·omega
def Co4(c z:By)(x:Int)(y:By)(v4 m n o p t u v w k:Int)(b a:By)(O:A2 c.length=true)(P:A2 b.length=true)(A:A2 a.length=true)(B:z.isEmpty=true)(C:(k==-1)=true) :
  ∃r H,ED LF c z x y v4 m n o p t u v w k b a (λL M D N F G I J n8 K f g h i l j d=>rv (.tup [gU L M D N F G I J n8 K f g h i l,.s (.int .i64 j)]) d)=rv r H/\
   r.stab [0,0] H=(λq=>.tup [gU (uS q) (uU q) (uK q) (uN q) (uV q) (uA q 0) (uA q 1) (uA q 2) (uA q 3) (uA q 4) (uA q 5) (uA q 6) (uA q 7) (uP q) (uR q),.s (.int .i64 (uE q))]) (I9 c b a):=by
 obtain rfl:=af3.1 B;obtain rfl:k=-1:=by simpa using C
 obtain⟨H,e⟩:=Br5 c x y v4 m n o p t u v w b a A;exact⟨_,_,e _ _,rfl⟩
def B15(b:UInt8):ctl b=(!ltI 32 (b.toNat:Int)||((b.toNat:Int)==127)):=by rw[y5,Di7,ad8,ah7,Rj,beq_iff_eq];omega
def Co5{a:List Blk->Option R}{b:By->Option R}(s:By)(g:s.length<=1000000000):∀(r i n:Nat),i+r=s.length->r<n->
  Kg LF n s (s.length:Int) (i:Int) a b=if (s.drop i).any ctl then a [] else b s:=by
 intro r
 induction r with
 | zero=>
  intro i n d e;rcases n with _|n;omega
  rw[Kg];rw[A5,o7 (by omega)];rfl
 | succ r f=>
  intro i n d e;rcases n with _|n;omega
  have c:A1 ((i:Int)+1)=((i+1:Nat):Int):=ah
  rw[Kg];rw[A7,G2,E1,E6 s i (by omega),c,ab7,B15];simp only[aa];rw[f (i+1) n (by omega) (by omega)];cases ltI 32 ((s.getD i 0).toNat:Int) with
  | false=>rfl
  | true=>cases (((s.getD i 0).toNat:Int)==127)<;>rfl
def Db0(s:By)(i:A2 s.length=true):∃H,∀(R:Type) (a:KU R),PZ LF s a=KZ a (D3 s) H:=by
 have y:=L4 i;have v:=C9;have L:∀{R:Type} (a:List Blk->Option R) (l:By->Option R),Kg LF LF s (s.length:Int) 0 a l=if s.any ctl then a [] else l s:=λa l=>Co5 s y s.length 0 LF (by omega) (by omega)
 unfold D3;by_cases h:s.any ctl=true
 ·rw[ac h];apply s8;intro R a;unfold PZ;rw[L,ac h];rfl
 rw[ae h];rcases V0 58 s with b|⟨p,r,rfl,b⟩
 ·apply s8;intro R a;unfold PZ;rw[L,ae h,i,Ly b];rfl
 have B:(p++58::r).length=p.length+r.length+1:=by rw[o0,j4];omega
 have sp:A2 p.length=true:=M5;have o:A2 r.length=true:=M5;rw[Ak b];simp only[j5,ac3];cases c:Ae p with
 | false=>
  apply s8;intro R a;unfold PZ;rw[L,ae h,i,Ak b];simp only[vl,aa,j5,ab];rw[sp,c];rfl
 | true=>
 rw[ae (by simp)];cases f:D2 (C6 p) with
 | false=>
  apply s8;intro R a;unfold PZ;rw[L,ae h,i,Ak b];simp only[vl,aa,j5,ab];rw[sp,c,f];rfl
 | true=>
 rw[ae (by simp)];cases Wg:([47,47]:By).isPrefixOf r with
 | false=>
  apply s8;intro R a;unfold PZ;rw[L,ae h,i,Ak b];simp only[vl,aa,j5,ab];rw[sp,c,f,o,Wg];rfl
 | true=>
 rw[ae (by simp)];have j:Ie r [47,47]=r.drop 2:=by unfold Ie;rw[Wg,ac rfl];rfl
 generalize m:r.drop 2=t;rw[m] at j;have lt:t.length<=r.length:=by rw[<-m,o5];omega
 have u:A2 t.length=true:=M5;have z:=Zz t;have sl:A2 (C6 p).length=true:=by rw[Cu];exact sp
 have tail:∀(R:Type) (a:KU R) (X d:By),X.length<=t.length->d.length<=t.length->
   (cond (A2 (c9 X))
    (cond (not (ac5 (([47]:By)) X))
     (cond (F7 1 (c9 X))
     (cond (A2 (c9 (C6 p)))
      (cond (A2 (c9 (([47]:By)++X)))
       (cond (A2 (c9 d))
       (cond (((-1):Int)==((-1):Int))
        (KZ a (I9 (C6 p) (([47]:By)++X) d) ((λq=>[bU (uS q) (uU q) (uK q) (uN q) (uV q) (uA q 0) (uA q 1) (uA q 2) (uA q 3) (uA q 4) (uA q 5) (uA q 6) (uA q 7) (uP q) (uR q),bU (C6 p) [] 0 [] 0 0 0 0 0 0 0 0 0 (-1) (([47]:By)++X)]) (I9 (C6 p) (([47]:By)++X) d)))
        (none))
       (none))
       (none))
      (none))
     (none))
     (cond (A2 (c9 (C6 p)))
     (cond (A2 (c9 X))
      (cond (A2 (c9 d))
      (cond (((-1):Int)==((-1):Int))
       (KZ a (I9 (C6 p) X d) ((λq=>[bU (uS q) (uU q) (uK q) (uN q) (uV q) (uA q 0) (uA q 1) (uA q 2) (uA q 3) (uA q 4) (uA q 5) (uA q 6) (uA q 7) (uP q) (uR q),bU (C6 p) [] 0 [] 0 0 0 0 0 0 0 0 0 (-1) X]) (I9 (C6 p) X d)))
       (none))
      (none))
      (none))
     (none)))
    none)=KZ a (I9 (C6 p) (U9 X) d) ((λq=>[bU (uS q) (uU q) (uK q) (uN q) (uV q) (uA q 0) (uA q 1) (uA q 2) (uA q 3) (uA q 4) (uA q 5) (uA q 6) (uA q 7) (uP q) (uR q),bU (C6 p) [] 0 [] 0 0 0 0 0 0 0 0 0 (-1) (U9 X)]) (I9 (C6 p) (U9 X) d)):=by
  intro R a X d A w;rw[M5,sl,D73,D5 (n:=d.length) (by omega)];unfold U9;by_cases g:X.head? = some 47
  ·rw[ac g,g];rfl
  ·have e:(X.head? == some 47)=false:=by simpa using g
   rw[ae g,e,I1 (by omega),D5 (by simp;omega)];rfl
 refine⟨(λX=>(λq=>[bU (uS q) (uU q) (uK q) (uN q) (uV q) (uA q 0) (uA q 1) (uA q 2) (uA q 3) (uA q 4) (uA q 5) (uA q 6) (uA q 7) (uP q) (uR q),bU (C6 p) [] 0 [] 0 0 0 0 0 0 0 0 0 (-1) (U9 X)]) (I9 (C6 p) (U9 X) (t.take (L6 t)))) (t.drop (L6 t)),λR a=>?_⟩;refine j8 ?_ (tail R a (t.drop (L6 t)) (t.take (L6 t)) (by rw[o5];omega) (by rw[x3];omega));unfold PZ;rw[L,ae h,i,Ak b];simp only[vl,aa,j5,ab];rw[sp,c,f,o,Wg,j,u];rw[show DE ([47,63,35]:By)=true from rfl,show([47,63,35]:By)=isl from rfl,Kr];simp only[aa,j5,ab];by_cases k:L6 t<t.length
 ·rw[ac k,A5,j7,aa,M8,j0,x3,aj5 (by omega),K2,K2,R7,j0];rfl
 ·have x:L6 t=t.length:=by omega
  rw[ae k,A7,j5,ab,K2,R7,j0,x,af5,u];rfl
abbrev rvU(n o:By)(h:Int)(p:By)(i j k l n8 m b c d e:Int)(g:By)(f:Int)(a:List Blk):=rv (.tup [gU n o h p i j k l n8 m b c d e g,.s (.int .i64 f)]) a
abbrev pvU(q:X1 × Nat):PV:=.tup [gU (uS q) (uU q) (uK q) (uN q) (uV q) (uA q 0) (uA q 1) (uA q 2) (uA q 3) (uA q 4) (uA q 5) (uA q 6) (uA q 7) (uP q) (uR q),.s (.int .i64 (uE q))]
def Dw3(s:By)(a:A2 s.length=true):∃r H,PZ LF s rvU=rv r H/\r.stab [0,0] H=pvU (D3 s):=by obtain⟨H,e⟩:=Db0 s a;exact⟨_,_,e _ _,rfl⟩
def Co2(s:By)(a:A2 s.length=true):∃r H,Ag5 LF s rvU=rv r H/\r.stab [0,0] H=pvU (C1 s):=by
 unfold Ag5 C1;by_cases h:2048<s.length
 ·rw[A7,ac h];exact⟨_,_,rfl,rfl⟩
 ·rw[A5,ae h,a];exact⟨_,_,rfl,rfl⟩
def SM{p:Int}(h:Eb p=true):(Mh p).length<=20:=by
 obtain⟨a,b⟩:=Yo.1 h;unfold Mh;split
 ·have:=Hp 19 (-p).toNat (by omega) (by omega);rw[j4];omega
 ·have:=Hp 19 p.toNat (by omega) (by omega);omega
def EW(b:Int)(c:By)(v4:Int)(a:List Nat):Y7 (mkH b c v4 a)=Y7 (C25 b c v4 a):=by
 unfold mkH C25;cases h:ltN b 4 with
 | true=>rfl
 | false=>
  rw[ae (by simp),ae (by simp),LU (by rfl),LU (by rfl)]
def Kc{c d a b:By}(h:smU c d a b=true):c.length<=100000000/\d.length<=100000000/\a.length<=100000000/\b.length<=100000000:=by simp only[smU,s9,x8,and_assoc] at h;exact h
def UC{l m:By}{kd:Int}{a:By}{v4 b c d e f g h i j:Int}{k:By}(h0:smU l m a k=true)(h1:ltN v4 4294967296=true)(n:ok8 b c d e f g h i=true)(o:Eb j=true) :
  (Cz (mkU l m kd a v4 (n8 b c d e f g h i) j k)).length<=400000000:=by
 obtain⟨r,t,u,v⟩:=Kc h0;have p:=Yg (GV (h0:=kd) (h1:=a) h1 n);rw[EW] at p;have q:=SM o;unfold Cz mkU KK;simp only;split
 ·split<;>split<;>simp only[o0,j4,p7]<;>omega
 ·simp only[o0,j4];omega
def Db3(c n:By)(m:Int)(a:By)(v4 e f g h i j k l b:Int)(d:By)(h0:smU c n a d=true)(h1:ltN v4 4294967296=true)(t:ok8 e f g h i j k l=true)(x:Eb b=true) :
  ∃r H,Vf LF c n m a v4 e f g h i j k l b d (λu q=>rv (.s (.str u)) q)=rv r H/\r.stab [] H = .s (.str (Cz (mkU c n m a v4 (n8 e f g h i j k l) b d))):=by
 obtain⟨D,F,G,I⟩:=Kc h0;have A:=Yg (GV (h0:=m) (h1:=a) h1 t);have C:=SM x;have key:∀T:By,Vf LF c n m a v4 e f g h i j k l b d (λu q=>rv (.s (.str u)) q)=rv (.s (.str T)) [bU c n m a v4 e f g h i j k l b d]->T=Cz (mkU c n m a v4 (n8 e f g h i j k l) b d)->∃r H,Vf LF c n m a v4 e f g h i j k l b d (λu q=>rv (.s (.str u)) q)=rv r H/\r.stab [] H = .s (.str (Cz (mkU c n m a v4 (n8 e f g h i j k l) b d))):=λT y z=>⟨_,_,y,by rw[<-z];rfl⟩
 have w:A2 a.length=true:=M5;cases o:D2 c with
 | false=>
  refine key (c++[58]++d) ?_ ?_
  ·unfold Vf;rw[o,I1 (by omega)];simp only[vl,aa,j7];rw[I1 (by simp;omega)];rfl
  ·unfold Cz mkU;simp only[o];simp
 | true=>
  have B:=A;by_cases v:n=[]
  ·subst v;have e0:(([]:By)==([]:By))=true:=rfl;by_cases p:b=-1
   ·subst p;refine key (((c++[58,47,47])++Y7 (mkH m a v4 (n8 e f g h i j k l)))++d) ?_ ?_
    ·unfold Vf;rw[o,w,h1,t,e0];simp only[vl,aa,ab,j5,show((-1:Int)!=-1)=false from rfl]
     repeat rw[I1 (by first|omega|(simp only[o0,j4,p7];omega))]
     rfl
    ·unfold Cz mkU KK;simp[o,EW]
   ·refine key (((c++[58,47,47])++Y7 (mkH m a v4 (n8 e f g h i j k l)))++([58]++Mh b)++d) ?_ ?_
    ·unfold Vf;rw[o,w,h1,t,x,e0];simp only[vl,aa,ab,j5,show(b !=-1)=true by simpa using p]
     repeat rw[I1 (by first|omega|(simp only[o0,j4,p7];omega))]
     rfl
    ·unfold Cz mkU KK;simp[o,EW,p]
  ·have e0:(n==([]:By))=false:=by simpa using v
   by_cases p:b=-1
   ·subst p;refine key (((c++[58,47,47])++(n++[64])++Y7 (mkH m a v4 (n8 e f g h i j k l)))++d) ?_ ?_
    ·unfold Vf;rw[o,w,h1,t,e0];simp only[vl,aa,ab,j5,j7,show((-1:Int)!=-1)=false from rfl]
     repeat rw[I1 (by first|omega|(simp only[o0,j4,p7];omega))]
     rfl
    ·unfold Cz mkU KK;simp[o,EW,v]
   ·refine key (((c++[58,47,47])++(n++[64])++Y7 (mkH m a v4 (n8 e f g h i j k l)))++([58]++Mh b)++d) ?_ ?_
    ·unfold Vf;rw[o,w,h1,t,x,e0];simp only[vl,aa,ab,j5,j7,show(b !=-1)=true by simpa using p]
     repeat rw[I1 (by first|omega|(simp only[o0,j4,p7];omega))]
     rfl
    ·unfold Cz mkU KK;simp[o,EW,p,v]
def Dn1{a:Int}{k:Nat}(d:k<4):(a==(k:Int))=(k==(if ltN a 4 then a.toNat else 4)):=by
 rw[y5,beq_iff_eq,beq_iff_eq];cases h:ltN a 4 with
 | true=>
  obtain⟨b,c⟩:=E9.1 h;rw[ac rfl];omega
 | false=>
  rw[ae (by simp)];have:¬(0<=a/\a<4):=λq=>by
   have:=E9.2 q;rw[h] at this;cases this
  omega
def Qy(a b:By):(a==b)=(b==a):=by rw[y5,beq_iff_eq,beq_iff_eq];exact eq_comm
def Bx(a b:Int):(a==b)=(b==a):=by rw[y5,beq_iff_eq,beq_iff_eq];exact eq_comm
def Gw(a b:Nat):((a:Int)==(b:Int))=(b==a):=by rw[y5,beq_iff_eq,beq_iff_eq];omega
def RM{sc us:By}{kd:Int}{nm:By}{v4 a b c d f g h i po:Int}{re:By}{p:X1 × Nat}(L:ltN v4 4294967296=true)(M:ok8 a b c d f g h i=true)(P:Ai0 p.1) :
  ((sc==(uS p))&&((us==(uU p))&&((kd==(uK p))&&((nm==(uN p))&&((v4==(uV p))&&((a==(uA p 0))&&((b==(uA p 1))&&((c==(uA p 2))&&((d==(uA p 3))&&((f==(uA p 4))&&((g==(uA p 5))&&((h==(uA p 6))&&((i==(uA p 7))&&((po==(uP p))&&((re==(uR p))&&true)))))))))))))))=eqU p.1 (mkU sc us kd nm v4 (n8 a b c d f g h i) po re):=by
 obtain⟨⟨s,u,⟨k,n,v,l⟩,q,t⟩,e⟩:=p;obtain⟨K,_⟩:=P;obtain⟨B,C,D,F,G,H,I,J,rfl⟩:=eq8 K.v6.1;obtain⟨j,m,o,r,x,y,z,A,rfl,rfl,rfl,rfl,rfl,rfl,rfl,rfl,_⟩:=Tp M;obtain⟨w,rfl⟩:=x6 (E9.1 L).1;have N:k<4:=K.kd;have O:(([B,C,D,F,G,H,I,J]:List Nat)==[j,m,o,r,x,y,z,A])=((B==j)&&((C==m)&&((D==o)&&((F==r)&&((G==x)&&((H==y)&&((I==z)&&((J==A)&&true)))))))):=rfl;simp only[eqU,eqH,mkU,C25,n8,j0,O,ae0,ah2];rw[Dn1 N,Qy sc,Qy us,Qy nm,Qy re,Bx po,Gw w,Gw j,Gw m,Gw o,Gw r,Gw x,Gw y,Gw z,Gw A];simp only[Bool.and_assoc,ac2];rfl
def Bs2(m n:By)(kd:Int)(j:By)(v4 a b c d f g h i k:Int)(l:By)(u:smU m n j l=true)(o:ltN v4 4294967296=true)(q:ok8 a b c d f g h i=true)(v:Eb k=true) :
  ∃r H,HS LF m n kd j v4 a b c d f g h i k l (λz w=>rv (.s (.bool z)) w)=rv r H/\r.stab [] H = .s (.bool (Fe (mkU m n kd j v4 (n8 a b c d f g h i) k l))):=by
 have A:=UC (kd:=kd) u o q v;unfold HS Fe;rw[u,o,q,v];simp only[vl,aa];rw[M5,aa];have x:=Yz (Cz (mkU m n kd j v4 (n8 a b c d f g h i) k l));rw[RM o q x];generalize D3 (Cz (mkU m n kd j v4 (n8 a b c d f g h i) k l))=p;obtain⟨y,e⟩:=p;by_cases t:e=0
 ·subst t;exact⟨_,_,rfl,rfl⟩
 ·rw[show(uE (y,e)==(0:Int))=false by simpa using t,show(e==0)=false by simpa using t];exact⟨_,_,rfl,rfl⟩
end
section
open Go
def ofB(u:X1):Bool:=D2 u.sch&&Fe u
structure OC where
 s:By
 k:Int
 n:By
 v:Int
 a:List Int
 p:Int
 b:Bool
def ofC(i n:By)(j:Int)(k:By)(v4 a b c d e f g h l:Int)(m:By):OC:=
 cond (ofB (mkU i n j k v4 (n8 a b c d e f g h) l m)) ⟨i,j,k,v4,[a,b,c,d,e,f,g,h],prt i l,true⟩ ⟨[],0,[],0,[0,0,0,0,0,0,0,0],0,false⟩
abbrev oS(c:OC):By:=c.s
abbrev oK(c:OC):Int:=c.k
abbrev oN(c:OC):By:=c.n
abbrev oV(c:OC):Int:=c.v
abbrev oA(c:OC)(i:Nat):Int:=c.a.getD i 0
abbrev oP(c:OC):Int:=c.p
abbrev oB(c:OC):Bool:=c.b
def Eh2:By:=[108,111,99,97,108,104,111,115,116]
def FF(i:Int)(j:By)(v4 a b c d e f g h:Int):Bool:=
 cond (P3 (mkH i j v4 (n8 a b c d e f g h))) (cond (i==2) (Qi .u32 v4 24==127) (cond (i==3) ((a==0)&&((b==0)&&((c==0)&&((d==0)&&((e==0)&&((f==0)&&((g==0)&&((h==1)&&true)))))))) (Gp Eh2 j))) false
def Ak2:By:=[102,105,108,101]
def Kl:By:=[97,98,111,117,116]
def Pn(i n:By)(k:Int)(l:By)(v4 a b c d e f g h m:Int)(j:By):Bool:=
 cond (Fe (mkU i n k l v4 (n8 a b c d e f g h) m j)) (cond (i==Eg||(i==BW||i==Ak2)) true (cond (i==Kl) (j==[98,108,97,110,107]||j==[115,114,99,100,111,99]) (cond (D2 i) (FF k l v4 a b c d e f g h) false))) false
def D24(n:Int):Bool:=!ltI n 1&&!ltI 22 n
def Eh3(n:Int)(a:Bool):Int:=cond (n==4) 1 (cond (n==2||(n==20||(n==9&&!a))) 2 (cond (D24 n) 3 0))
def Cd0(l:List By)(s:By):Int:=match l.findIdx? (· == s) with|some i=>(i:Int)|none=>-1
def I5(l:List By)(s:By):Bool:=l.any (· == s)
def D68(l:List By)(h:C2):Bool:=P3 h&&I5 l (Y7 h)
end
section
open Go Go.Op
def ME(c:Int):Bool:=c==32||c==9
def Ux(c:Int):Bool:=ME c||(c==10||(c==12||c==13))
def spB(b:UInt8):Bool:=Ux (b.toNat:Int)
def EH(a:By):By->List By
 | []=>if a.isEmpty then [] else [a]
 | c::r=>if spB c then (if a.isEmpty then EH [] r else a::EH [] r) else EH (a++[c]) r
def M4(s:By):List By:=EH [] s
def smL(s:By):Bool:=A2 s.length
def AK:∀(s a:By),(∀x∈EH a s,x.length<=a.length+s.length)/\(EH a s).length<=s.length+(if a.isEmpty then 0 else 1)
 | [],a=>by
  unfold EH;split
  ·exact⟨λx b=>(by cases b),ab2 _⟩
  ·exact⟨λx b=>(by simp at b;subst b;simp),by simp[*]⟩
 | c::r,a=>by
  unfold EH;split
  ·split
   ·obtain⟨d,e⟩:=AK r [];refine⟨λx b=>?_,?_⟩
    ·have:=d x b;simp at this ⊢;omega
    ·simp at e ⊢;omega
   ·obtain⟨d,e⟩:=AK r [];refine⟨λx b=>?_,?_⟩
    ·rcases aa0.1 b with rfl|b
     ·omega
     ·have:=d x b;simp at this ⊢;omega
    ·simp at e ⊢;omega
  ·obtain⟨d,e⟩:=AK r (a++[c]);refine⟨λx b=>?_,?_⟩
   ·have:=d x b;simp at this ⊢;omega
   ·simp at e ⊢;omega
def A35{s:By}(h:A2 s.length=true):A2 (A9 (M4 s)).length=true/\((A9 (M4 s)).map elS).all smL=true:=by have d:=L4 h;obtain⟨a,b⟩:=AK s [];refine⟨D5 (by rw[A8];unfold M4;simp at b;omega),?_⟩;rw[show(A9 (M4 s)).map elS=M4 s by unfold A9;rw[ac1];exact ak5 (λ_=>rfl) _];exact ab3.2 λx c=>D5 (by have:=a x c;simp at this;omega)
def Gh(d:By):List By:=match M4 d with
 | []=>[]
 | w::_=>[C6 w]
def Y6(t:By):List By:=(pcs 44 t).flatMap λp=>(pcs 59 p).flatMap Gh
def Ef(a:List By)(n:By):List By:=cond (I5 a n) a (a++[n])
def Og:List By->List By->List By × Int
 | [],a=>(a,0)
 | v::r,a=>cond (ltI 4096 (v.length:Int)) ([],3) (Og r ((Y6 v).foldl Ef a))
def F0(l:List By):List By × Int:=Og l []
def Gk:By:=[117,112,103,114,97,100,101,45,105,110,115,101,99,117,114,101,45,114,101,113,117,101,115,116,115]
def Df:By:=[98,108,111,99,107,45,97,108,108,45,109,105,120,101,100,45,99,111,110,116,101,110,116]
def Qg:List SV->Bool
 | [.str _,.sl z _ k a]=>(Nat.beq k 1||(z&&a.isEmpty))&&a.all isS
 | _=>false
def Zw(a:List SV):Bool:=p5 (elS a).length 10000000&&p5 ((a.getD 1 .nilp).gE).length 1000
abbrev FrV:=By × List By
def M0(a:List SV):FrV:=(elS a,((a.getD 1 .nilp).gE).map elS)
def Pl(l:List FrV):Bool:=p5 l.length 20&&l.all λf=>ltN f.1.length 3001&&(p5 f.2.length 6&&La 5000 f.2)
def N6:List By->List By
 | []=>[]
 | [a]=>[a]
 | l=>l.mergeSort λx y=>decide (x<=y)
def Zx(l:List By):N6 l=l.mergeSort λx y=>decide (x<=y):=by unfold N6;split<;>simp
structure UK where
 e:Int
 s:Bool
 p:Bool
 u:Bool
 b:Bool
 h:List By
abbrev cE(c:UK):Int:=c.e
abbrev cS(c:UK):Bool:=c.s
abbrev cP(c:UK):Bool:=c.p
abbrev cU(c:UK):Bool:=c.u
abbrev cB(c:UK):Bool:=c.b
abbrev cH(c:UK):List By:=c.h
def Yd(e:Int):UK:=⟨e,false,false,false,false,[]⟩
abbrev trQ(p:X1 × Nat):Bool:=Pn (uS p) (uU p) (uK p) (uN p) (uV p) (uA p 0) (uA p 1) (uA p 2) (uA p 3) (uA p 4) (uA p 5) (uA p 6) (uA p 7) (uP p) (uR p)
abbrev hsQ(p:X1 × Nat):By:=Y7 (mkH (uK p) (uN p) (uV p) (n8 (uA p 0) (uA p 1) (uA p 2) (uA p 3) (uA p 4) (uA p 5) (uA p 6) (uA p 7)))
def trF(a:Bool)(p:X1 × Nat):Bool:=cond (uS p !=Kl) (D2 (uS p)&&trQ p) a
def upF(c:List By):Bool:=I5 (F0 c).1 Gk
def Qw:List FrV->Bool->Bool->Bool->Bool->Bool->List By->UK
 | [],e,d,up,c,b,a=>⟨0,e,d,up,c,y8 (N6 a)⟩
 | f::r,e,d,up,c,b,a=>cond (uE (C1 f.1)!=0) (Yd (uE (C1 f.1))) (cond ((F0 f.2).2 !=0) (Yd (F0 f.2).2)
   (Qw r (e&&trF b (C1 f.1)) (d||trF b (C1 f.1)) (up||upF f.2) (c||I5 (F0 f.2).1 Df) (trF b (C1 f.1))
    (cond (upF f.2&&D2 (uS (C1 f.1))) (a++[hsQ (C1 f.1)]) a)))
def L3(l:List FrV):UK:=cond (l.isEmpty||ltI 16 (l.length:Int)) (Yd 3) (Qw l true false false false false [])
def kB:List By->By->Nat
 | [],_=>0
 | a::r,s=>cond (bytesLess a s) (kB r s+1) 0
def atB(l:List By)(s:By):Bool:=Nat.blt (kB l s) l.length&&l.getD (kB l s) []==s
def Kt(l:List By)(s:By):List By:=l.take (kB l s)++s::l.drop (kB l s)
def D28(s:By):∀l:List By,kB l s<=l.length
 | []=>aa3 _
 | a::r=>by
  have:=D28 s r;unfold kB;cases bytesLess a s<;>simp<;>omega
def S7(l:List By):(A9 l).map elS=l:=by unfold A9;rw[ac1];exact ak5 (λ_=>rfl) _
def Cy0(d:Array By)(m:Nat):(aa9 d m).length<=m:=by unfold aa9;rw[v7];exact al9 (List.length_filter_le _ _) (by simp)
def YE(l:List By):(y8 l).length<=l.length:=Cy0 _ _
def RN(d:Array By):∀m,0<m->(aa9 d m).getLast? = some d[m-1]!
 | 0,h=>absurd h (by omega)
 | m+1,_=>by
  rw[ad4];cases a:ae9 d m with
  | true=>rw[ac rfl];simp
  | false=>
   rw[ae (by simp),ab0];have b:0<m:=by
    apply Nat.pos_of_ne_zero;rintro rfl;rw[Lib.keeps_lt_one d 0 (by omega)] at a;cases a
   rw[RN d m b];have:d[m]! = d[m-1]!:=by
    simp only[ae9,decide_eq_false_iff_not,not_or,ah8] at a;exact a.2
   simp[this]
def D50{l:List By}(h:l≠[]):y8 l≠[]:=by intro e;have:=RN l.toArray l.length (aa2.2 h);rw[show aa9 l.toArray l.length=[] from e] at this;cases this
def LE(d:Array By)(x:By):∀m,x∈aa9 d m↔∃i,i<m/\d[i]! = x
 | 0=>by simp[aa9]
 | m+1=>by
  rw[ad4,ag2,LE d x m];cases b:ae9 d m with
  | true=>
   simp only[if_true,ac6];constructor
   ·rintro(⟨i,a,e⟩|e)
    ·exact⟨i,by omega,e⟩
    ·exact⟨m,by omega,e.symm⟩
   ·rintro⟨i,a,e⟩;by_cases q:i=m
    ·exact .inr (by rw[<-e,q])
    ·exact .inl ⟨i,by omega,e⟩
  | false=>
   simp only[p9,if_false,ai8,or_false];constructor
   ·rintro⟨i,a,e⟩;exact⟨i,by omega,e⟩
   ·rintro⟨i,a,e⟩;by_cases q:i=m
    ·subst q;simp only[ae9,decide_eq_false_iff_not,not_or,ah8] at b;exact⟨i-1,by omega,by rw[<-b.2];exact e⟩
    ·exact⟨i,by omega,e⟩
def Di1{l:List By}{x:By}:x∈y8 l↔x∈l:=by
 unfold y8;rw[LE];constructor
 ·rintro⟨i,a,rfl⟩;rw[getElem!_pos _ _ (by simpa using a)];simp
 ·intro h;obtain⟨i,a,rfl⟩:=List.getElem_of_mem h;exact⟨i,a,by rw[getElem!_pos _ _ (by simpa using a)];simp⟩
def C86{l:List By}{x:By}:x∈N6 l↔x∈l:=by rw[Zx];exact List.mem_mergeSort
def Zy(l:List By):(N6 l).length=l.length:=by rw[Zx];exact List.length_mergeSort l
def KR{l:List By}{x:By}:x∈y8 (N6 l)↔x∈l:=by rw[Di1,C86]
def RO(d:Array By)(R:By->By->Prop)(t:∀a b c,R a b->R b c->R a c)(l:∀i j,i<j->j<d.size->d[i]!≠d[j]!->R d[i]! d[j]!)(f:∀i j k,i<j->j<k->k<d.size->d[i]! = d[k]!->d[i]! = d[j]!) :
  ∀m,m<=d.size->(aa9 d m).Pairwise R
 | 0,_=>by simp[aa9]
 | m+1,hm=>by
  rw[ad4];have o:=RO d R t l f m (by omega);cases n:ae9 d m with
  | false=>simpa using o
  | true=>
   rw[ac rfl,List.pairwise_append];refine⟨o,by simp,λa p b g=>?_⟩;simp only[ac6] at g;subst g;obtain⟨i,r,rfl⟩:=(LE d _ m).1 p;refine l i m r (by omega) λe=>?_
   simp only[ae9,af] at n;rcases n with h|h
   ·omega
   ·by_cases q:i=m-1
    ·exact h (by rw[<-q];exact e.symm)
    ·exact h ((f i (m-1) m (by omega) (by omega) (by omega) e).symm.trans e).symm
def Nq:∀x y:By,bytesLess x y=decide (x<y)
 | [],[]=>by simp[bytesLess]
 | _::_,[]=>by simp[bytesLess]
 | [],_::_=>by simp[bytesLess]
 | a::x,b::y=>by
  rw[bytesLess,Nq x y];simp only[List.cons_lt_cons_iff];by_cases c:a<b<;>by_cases d:a=b<;>by_cases e:x<y<;>simp[c,d,e]
def Bp7(l:List By):(N6 l).Pairwise (·<=·):=by
 have:=List.pairwise_mergeSort (le:=λ(x y:By)=>decide (x<=y)) (λa b c d e=>by
  simp only[af] at *;exact List.le_trans d e) (λa b=>by
  simp only[ad8,af];exact List.le_total a b) l
 rw[Zx];exact this.imp (λh=>by simpa using h)
def Sk(l:List By):(y8 (N6 l)).Pairwise (· < ·):=by
 have w:=List.pairwise_iff_getElem.1 (Bp7 l);have g:∀i,i<(N6 l).toArray.size->∃h,(N6 l).toArray[i]! = (N6 l)[i]'h:=λi x=>⟨by simpa using x,by rw[getElem!_pos _ i x];rfl⟩
 unfold y8;refine RO (N6 l).toArray (λ(a b:By)=>a<b) (λa b c t p=>ah5 t p) (λi j m z n=>?_) (λi j k m u A e=>?_) _ (aa3 _)
 ·obtain⟨f,o⟩:=g i (by omega);obtain⟨d,r⟩:=g j z;rw[o,r] at n ⊢;have:=w i j f d m;exact ae4 λq=>n (af4 this (aj4.1 q))
 ·obtain⟨f,o⟩:=g i (by omega);obtain⟨d,r⟩:=g j (by omega);obtain⟨v,y⟩:=g k A;rw[o,y] at e;rw[o,r];have t:=w i j f d m;have p:=w j k d v u;rw[<-e] at p;exact af4 t p
def Xe:∀{a b:List By},a.Pairwise (· < ·)->b.Pairwise (· < ·)->(∀x,x∈a↔x∈b)->a=b
 | [],[],_,_,_=>rfl
 | [],y::b,_,_,h=>absurd ((h y).2 (by simp)) (by simp)
 | x::a,[],_,_,h=>absurd ((h x).1 (by simp)) (by simp)
 | x::a,y::b,d,f,h=>by
  rw[ab9] at d f;have i:x=y:=by
   rcases aa0.1 ((h x).1 (by simp)) with e|e
   ·exact e
   ·rcases aa0.1 ((h y).2 (by simp)) with g|g
    ·exact g.symm
    ·exact absurd (ah5 (f.1 x e) (d.1 y g)) (ag8 _)
  subst i;refine congrArg _ (Xe d.2 f.2 λz=>⟨λc=>?_,λc=>?_⟩)
  ·rcases aa0.1 ((h z).1 (ac0 _ c)) with rfl|e
   ·exact absurd (d.1 z c) (ag8 _)
   ·exact e
  ·rcases aa0.1 ((h z).2 (ac0 _ c)) with rfl|e
   ·exact absurd (f.1 z c) (ag8 _)
   ·exact e
def B30(s:By):∀{l:List By},l.Pairwise (· < ·)->(atB l s=true->s∈l)/\(atB l s=false->(Kt l s).Pairwise (· < ·)/\∀x,x∈Kt l s↔x=s\/x∈l)
 | [],_=>⟨λh=>(by cases h),λ_=>⟨(by simp[Kt,kB]),λx=>(by simp[Kt,kB])⟩⟩
 | a::r,h=>by
  rw[ab9] at h;obtain⟨m,n⟩:=B30 s h.2;cases d:bytesLess a s with
  | true=>
   have e:kB (a::r) s=kB r s+1:=by rw[kB,d];rfl
   have f:atB (a::r) s=atB r s:=by
    unfold atB;rw[e,j4,ah2];rfl
   have i:Kt (a::r) s=a::Kt r s:=by
    unfold Kt;rw[e,List.take_succ_cons,List.drop_succ_cons];rfl
   have b:a<s:=by rw[Nq] at d;exact of_decide_eq_true d
   rw[f,i];refine⟨λq=>ac0 _ (m q),λq=>?_⟩;obtain⟨o,k⟩:=n q;refine⟨ab9.2 ⟨λx c=>?_,o⟩,λx=>?_⟩
   ·rcases(k x).1 c with rfl|c
    ·exact b
    ·exact h.1 x c
   ·rw[aa0,k,aa0];constructor
    ·rintro(q|q|q)
     ·exact .inr (.inl q)
     ·exact .inl q
     ·exact .inr (.inr q)
    ·rintro(q|q|q)
     ·exact .inr (.inl q)
     ·exact .inl q
     ·exact .inr (.inr q)
  | false=>
   have e:kB (a::r) s=0:=by rw[kB,d];rfl
   have j:¬a<s:=by rw[Nq] at d;exact of_decide_eq_false d
   have f:atB (a::r) s=(a==s):=by unfold atB;rw[e];rfl
   have i:Kt (a::r) s=s::a::r:=by unfold Kt;rw[e];rfl
   rw[f,i];refine⟨λq=>by rw[beq_iff_eq] at q;rw[q];simp,λq=>?_⟩;rw[beq_eq_false_iff_ne] at q;have b:s<a:=ae4 λg=>q (af4 (aj4.1 g) (aj4.1 j))
   refine⟨ab9.2 ⟨λx c=>?_,ab9.2 h⟩,λx=>aa0⟩;rcases aa0.1 c with rfl|c
   ·exact b
   ·exact ah5 b (h.1 x c)
def D51(a:List By)(s:By):y8 (N6 (a++[s]))=cond (atB (y8 (N6 a)) s) (y8 (N6 a)) (Kt (y8 (N6 a)) s):=by
 obtain⟨b,c⟩:=B30 s (Sk a);cases h:atB (y8 (N6 a)) s with
 | true=>
  refine Xe (Sk _) (Sk _) λx=>?_
  have:=b h;rw[KR] at this;rw[KR,aa,KR,ag2,ac6];constructor
  ·rintro(q|rfl)
   ·exact q
   ·exact this
  ·exact .inl
 | false=>
  obtain⟨d,e⟩:=c h;refine Xe (Sk _) d λx=>?_
  rw[KR,ab,e,KR,ag2,ac6];exact Or.comm
def C01(a:List By)(d n:By):I5 (Ef a d) n=(I5 a n||d==n):=by
 unfold Ef;cases h:I5 a d with
 | true=>
  rw[aa];cases b:(d==n) with
  | false=>rw[ah3]
  | true=>
   obtain rfl:=eq_of_beq b;rw[h];rfl
 | false=>
  rw[ab];unfold I5;rw[List.any_append,ab7,List.any_nil,ah3]
def LZ(n:By):∀(ds a:List By),I5 (ds.foldl Ef a) n=(I5 a n||I5 ds n)
 | [],a=>by
  show I5 a n=(I5 a n||false)
  rw[ah3]
 | d::ds,a=>by
  rw[ad9,LZ n ds,C01,Bool.or_assoc];rfl
end
section
open Go Go.Proofs
section
def Eh1:List PV->Tr
 | [.agg [.s (.str l),.s (.str m),.s (.int .i64 n),.s (.str i),.s (.int .u32 v4),.s (.int .u16 a),.s (.int .u16 b),.s (.int .u16 c),.s (.int .u16 d),.s (.int .u16 e),.s (.int .u16 f),.s (.int .u16 g),.s (.int .u16 h),.s (.int .i64 j),.s (.str k)]]=>.need (smU l m i k) (.need (ltN v4 4294967296) (.need (ok8 a b c d e f g h) (.need (Eb j) (.ret (.tup [.agg [.s (.str (oS (ofC l m n i v4 a b c d e f g h j k))),.s (.int .i64 (oK (ofC l m n i v4 a b c d e f g h j k))),.s (.str (oN (ofC l m n i v4 a b c d e f g h j k))),.s (.int .u32 (oV (ofC l m n i v4 a b c d e f g h j k))),.s (.int .u16 (oA (ofC l m n i v4 a b c d e f g h j k) 0)),.s (.int .u16 (oA (ofC l m n i v4 a b c d e f g h j k) 1)),.s (.int .u16 (oA (ofC l m n i v4 a b c d e f g h j k) 2)),.s (.int .u16 (oA (ofC l m n i v4 a b c d e f g h j k) 3)),.s (.int .u16 (oA (ofC l m n i v4 a b c d e f g h j k) 4)),.s (.int .u16 (oA (ofC l m n i v4 a b c d e f g h j k) 5)),.s (.int .u16 (oA (ofC l m n i v4 a b c d e f g h j k) 6)),.s (.int .u16 (oA (ofC l m n i v4 a b c d e f g h j k) 7)),.s (.int .i64 (oP (ofC l m n i v4 a b c d e f g h j k)))],.s (.bool (oB (ofC l m n i v4 a b c d e f g h j k)))]) []))))
 | _=>.fail
def IN:List PV->Tr
 | [.agg [.s (.int .i64 j),.s (.str i),.s (.int .u32 v4),.s (.int .u16 a),.s (.int .u16 b),.s (.int .u16 c),.s (.int .u16 d),.s (.int .u16 e),.s (.int .u16 f),.s (.int .u16 g),.s (.int .u16 h)]]=>.need (A2 (c9 i)) (.need (ltN v4 4294967296) (.need (ok8 a b c d e f g h) (.ret (.s (.bool (FF j i v4 a b c d e f g h))) [])))
 | _=>.fail
def Bv2(args:List PV):Tr:=IN (D1 [[0,0,0,0,0,0,0,0,0,0,0]] args)
def AW:List PV->Tr
 | [.agg [.s (.str l),.s (.str m),.s (.int .i64 n),.s (.str i),.s (.int .u32 v4),.s (.int .u16 a),.s (.int .u16 b),.s (.int .u16 c),.s (.int .u16 d),.s (.int .u16 e),.s (.int .u16 f),.s (.int .u16 g),.s (.int .u16 h),.s (.int .i64 j),.s (.str k)]]=>.need (smU l m i k) (.need (ltN v4 4294967296) (.need (ok8 a b c d e f g h) (.need (Eb j) (.ret (.s (.bool (Pn l m n i v4 a b c d e f g h j k))) []))))
 | _=>.fail
def IO(args:List PV):Tr:=AW (D1 [[0,0,0,0,0,0,0,0,0,0,0,0,0,0,0]] args)
def BD:List PV->Tr
 | [.agg [.s (.int .i64 j),.s (.str i),.s (.int .u32 v4),.s (.int .u16 a),.s (.int .u16 b),.s (.int .u16 c),.s (.int .u16 d),.s (.int .u16 e),.s (.int .u16 f),.s (.int .u16 g),.s (.int .u16 h)]]=>.need (A2 (c9 i)) (.need (ltN v4 4294967296) (.need (ok8 a b c d e f g h) (.ret (.s (.bool (FF j i v4 a b c d e f g h))) [])))
 | _=>.fail
def Aj0(args:List PV):Tr:=BD (D1 [[0,0,0,0,0,0,0,0,0,0,0]] args)
def Vo:List PV->Tr
 | [.agg [.s (.str l),.s (.str m),.s (.int .i64 n),.s (.str i),.s (.int .u32 v4),.s (.int .u16 a),.s (.int .u16 b),.s (.int .u16 c),.s (.int .u16 d),.s (.int .u16 e),.s (.int .u16 f),.s (.int .u16 g),.s (.int .u16 h),.s (.int .i64 j),.s (.str k)]]=>.need (smU l m i k) (.need (ltN v4 4294967296) (.need (ok8 a b c d e f g h) (.need (Eb j) (.ret (.s (.bool (Pn l m n i v4 a b c d e f g h j k))) []))))
 | _=>.fail
def QH(args:List PV):Tr:=Vo (D1 [[0,0,0,0,0,0,0,0,0,0,0,0,0,0,0]] args)
def Ed2:List PV->Tr
 | [.s (.int .i64 n)]=>.ret (.s (.bool (D24 n))) []
 | _=>.fail
def Eg9:List PV->Tr
 | [.s (.int .i64 n),.s (.bool a)]=>.ret (.s (.int .i64 (Eh3 n a))) []
 | _=>.fail
def JV:List PV->Tr
 | [.s (.sl b a 1 l),.s (.str s)]=>.need (w8 l isS) (.need (A2 (c9 l)) (.ret (.s (.int .i64 (Cd0 (j9 elS l) s))) []))
 | _=>.fail
def Bw7(args:List PV):Tr:=JV (D1 [[1],[0]] args)
def JT:List PV->Tr
 | [.s (.sl b a 1 l),.s (.str s)]=>.need (w8 l isS) (.need (A2 (c9 l)) (.ret (.s (.bool (I5 (j9 elS l) s))) []))
 | _=>.fail
def GQ(args:List PV):Tr:=JT (D1 [[1],[0]] args)
def UN:List PV->Tr
 | [.agg [.s (.bool p),.s (.bool o),.s (.bool up),.s (.bool n),.s (.sl m k 1 l)],.agg [.s (.int .i64 j),.s (.str i),.s (.int .u32 v4),.s (.int .u16 a),.s (.int .u16 b),.s (.int .u16 c),.s (.int .u16 d),.s (.int .u16 e),.s (.int .u16 f),.s (.int .u16 g),.s (.int .u16 h)]]=>.need (w8 l isS) (.need (A2 (c9 l)) (.need (A2 (c9 i)) (.need (ltN v4 4294967296) (.need (ok8 a b c d e f g h) (.ret (.s (.bool (D68 (j9 elS l) (mkH j i v4 (n8 a b c d e f g h))))) [])))))
 | _=>.fail
def A49(args:List PV):Tr:=UN (D1 [[0,0,0,0,1],[0,0,0,0,0,0,0,0,0,0,0]] args)
def VF:List PV->Tr
 | [.s (.int .u8 c)]=>.ret (.s (.bool (ME c))) []
 | _=>.fail
def Cr4(args:List PV):Tr:=VF (D1 [[0]] args)
def IE:List PV->Tr
 | [.s (.int .u8 c)]=>.ret (.s (.bool (Ux c))) []
 | _=>.fail
def Bu6(args:List PV):Tr:=IE (D1 [[0]] args)
def KC:List PV->Tr
 | [.s (.str s)]=>.need (A2 (c9 s)) (.ret (.s (.sl (x4 (M4 s)) (x4 (M4 s)) 1 (A9 (M4 s)))) [])
 | _=>.fail
def XL(args:List PV):Tr:=KC (D1 [[0]] args)
def UM:List PV->Tr
 | [.s (.str t)]=>.ret (.fnr (v8 52) [] [.ptr 0 0 0]) [.box [.s (.str t)]]
 | _=>.fail
def A48(args:List PV):Tr:=UM (D1 [[0]] args)
def GN:List PV->List Blk->Option (Bool × List (List PV))
 | [.yd,.ptr 0 0 0],[.box [.s (.str t)]]=>some ((A2 (c9 t)),j9 (λ(x:By)=>([.s (.str x)]:List PV)) (Y6 t))
 | _,_=>none
def AO:List PV->Tr
 | [.s (.sl b a 1 l)]=>.need (w8 l isS) (.need (p5 (c9 l) 1000) (.ret (.tup [.agg [.s (.bool (I5 ((F0 (j9 elS l))).1 Gk)),.s (.bool (I5 ((F0 (j9 elS l))).1 Df)),.s (.sl (x4 ((F0 (j9 elS l))).1) (x4 ((F0 (j9 elS l))).1) 1 (A9 ((F0 (j9 elS l))).1))],.s (.int .i64 ((F0 (j9 elS l))).2)]) []))
 | _=>.fail
def HU(args:List PV):Tr:=AO (D1 [[1]] args)
def Xn:SV->List (List SV)->Bool × List (List SV)
 | .nilp,l=>(((w8 l isS)&&(A2 (c9 l))),(A9 (N6 (j9 elS l))))
 | _,_=>(false,[])
def Nk:List PV->List Blk->Tr
 | [.fl 0],[.arr z 9 1 l]=>.need (w8 l isS) (.need (A2 (c9 l)) (.ret (.fl 0) [.arr z 9 1 (A9 (y8 (j9 elS l)))]))
 | _,_=>.fail
def AN:List PV->Tr
 | [.s (.sl b a 2 l)]=>.need (w8 l Qg) (.need (w8 l Zw) (.need (A2 (c9 l)) (.ret (.tup [.agg [.s (.bool (cS (L3 (j9 M0 l)))),.s (.bool (cP (L3 (j9 M0 l)))),.s (.bool (cU (L3 (j9 M0 l)))),.s (.bool (cB (L3 (j9 M0 l)))),.fl 0],.s (.int .i64 (cE (L3 (j9 M0 l))))]) [.arr true 9 1 (A9 (cH (L3 (j9 M0 l))))])))
 | _=>.fail
def Ql(args:List PV):Tr:=AN (D1 [[2]] args)
def VJ:List PV->Tr
 | [.s (.sl b a 2 l)]=>.need (w8 l Qg) (.ret (.s (.bool (Pl (j9 M0 l)))) [])
 | _=>.fail
def A56(args:List PV):Tr:=VJ (D1 [[2]] args)
def VI:List PV->Tr
 | [.agg [.s (.bool k),.s (.bool j),.s (.bool up),.s (.bool e),.s (.sl g f 1 l)],.agg [.s (.bool c),.s (.bool b),.s (.bool d),.s (.bool a),.s (.sl i h 1 m)]]=>.need (w8 l isS) (.need (A2 (c9 l)) (.need (w8 m isS) (.need (A2 (c9 m)) (.ret (.s (.bool (((((k==c)&&(j==b))&&(up==d))&&(e==a))&&((j9 elS l)==(j9 elS m))))) []))))
 | _=>.fail
def A55(args:List PV):Tr:=VI (D1 [[0,0,0,0,1],[0,0,0,0,1]] args)
def Vh:List PV->Tr
 | []=>.ret (.s (.bool true)) []
 | _=>.fail
def AM(args:List PV):Tr:=Vh (D1 [] args)
end
end
section
open Go
abbrev hK(p:C2 × Nat):Int:=(p.1.kind:Int)
abbrev hN(p:C2 × Nat):By:=p.1.name
abbrev hV(p:C2 × Nat):Int:=(p.1.v4:Int)
abbrev hA(p:C2 × Nat)(i:Nat):Int:=(p.1.v6.getD i 0:Int)
abbrev e0:By:=[]
end
section
open Go Go.Proofs
section
variable {W R : Type} (Y : Nat) (J : G1) (Q : Yh W) (s : W) (k : Out -> St W -> Option R)
noncomputable def Cw4(Y:Nat):=mkC Y 137 [] [(1,[2]),(0,[0])] [] [2]
def Dm5(Y:Nat)(a:Int)(b:Bool->Option R):Option R:=
 cond (a==32)
 (b true)
 (b (a==9))
def Dm6(d:Nat)(b0):evC (Cw4 Y) (d+1) W Q 137 [p8 b0] [] s=Dm5 Y b0 (λa=>some (pB a,[],s)):=evT Tryz.f137 λJ=>by
 unfold Dm5;kernel_rfl
noncomputable def By7(Y:Nat):=mkC Y 98 [] [(1,[2]),(0,[0])] [] [2] [(137,Cr4)] [137]
def B31(Y:Nat)(a:Int)(b:Bool->Option R):Option R:=
 cond (ME a)
 (b true)
 (cond (a==10)
  (b true)
  (cond (a==12)
  (b true)
  (b (a==13))))
def C11(d:Nat)(b0):evC (By7 Y) (d+1) W Q 98 [p8 b0] [] s=B31 Y b0 (λa=>some (pB a,[],s)):=evT Tryz.f98 λJ=>by
 unfold B31;kernel_rfl
noncomputable abbrev By2:Code:=D7 am9
noncomputable def Sw(Y:Nat):=mkC Y 54 [(4,[0,1,0,0,0])] [(10,[2]),(5,[0,2,0,0]),(9,[0,2,0,0]),(8,[0,2,1]),(7,[0,2,0,0,19]),(6,[0,2,0,0,16]),(4,[0,2,0,0,3]),(3,[0,2,0,0]),(2,[0,2,0]),(1,[0,2]),(0,[0])] [(0,[3]),(1,[0,2,0,0])] [2] [(98,Bu6)] [98]
abbrev Kbh(R:Type):=By->Int->Int->LL->Option R
def AI(c:By)(a b:Int)(d:LL)(e:Kbh R):Option R:=
 cond (ltI a b)
 (cond (J5 a b c.length)
  (cond (G0 (d.length+1))
  (e c (A1 (b+1)) b (d++[[(SV.str (cut c a b))]]))
  none)
  none)
 (e c (A1 (b+1)) b d)
def Av(Y n:Nat)(e:By)(a d:Int)(g:LL)(f:LL->Option R):Option R:=match n with
 | 0=>none
 | n+1=>
  cond (not (ltI (e.length:Int) d))
   (cond (ltI d (e.length:Int))
   (cond (inR d e.length)
    (cond (not (Ux (bAt e d)))
    (Av Y n e a (A1 (d+1)) g f)
    (AI e a d g (λm b h j=>Av Y n m b (A1 (h+1)) j f)))
    none)
   (AI e a d g (λo c i l=>Av Y n o c (A1 (i+1)) l f)))
   (f g)
def A34(n s0 from1 i2 l3):D4 1 ((Sw Y).keep 4) (bd (Sw Y) J Q (cd [1,1,1,0,1,0,0] By2)) n ⟨gp [(0,pS s0),(2,.fl 0),(0,pI from1),(0,pI i2)] 30,[.arr true 9 1 l3],s⟩ k =
 Av Y n s0 from1 i2 l3 (λb=>k (.exit 0) ⟨gp [(3,.fl 0)] 32,[.arr true 9 1 b],s⟩):=by
 induction n generalizing s0 from1 i2 l3 with
 | zero=>rfl
 | succ n a=>rw[Av];simp only[<-a];kernel_rfl
def A33(Y:Nat)(c:By)(b:LL->(List Blk)->Option R):Option R:=
 Av Y Y c 0 0 [] (λa=>b a [])
def Dc3(d:Nat)(s0):evC (Sw Y) (d+1) W Q 54 [pS s0] [] s=A33 Y s0 (λb a=>some (.fl 0,(.arr true 9 1 b::a),s)):=evT am9 λJ=>by
 unfold A33;exact(j8 (by kernel_rfl) (ag (A34 Y J Q s (F2 0 (F6 (Sw Y) J Q (cd [1,1,1,1] By2) (I8 (Sw Y) am9))) Y s0 0 0 [])))
noncomputable abbrev B74(c:By):Option (PV × List Blk × Unit):=A33 LF c (λb a=>some (.fl 0,(.arr true 9 1 b::a),()))
noncomputable def Cv3(Y:Nat):=mkC Y 28 [] [(1,[2]),(0,[1])] [] [2]
def D49(Y:Nat)(a:By)(b:By->(List Blk)->Option R):Option R:=
 b a []
def Di0(d:Nat)(value0):evC (Cv3 Y) (d+1) W Q 28 [pS value0] [] s=D49 Y value0 (λb a=>some (.fnr (v8 52) [] [.ptr 0 0 0],(.box [pS b]::a),s)):=evT Tryz.f28 λJ=>by
 unfold D49;kernel_rfl
noncomputable abbrev Dd:Code:=D7 ak1
noncomputable def R1(Y:Nat):=mkC Y 12 [(4,[2,0,0,0,4,0,0])] [(16,[2,0]),(15,[2,1]),(14,[2,1]),(13,[2,1,0,4,0,0]),(12,[2,1,0,4,0,0]),(11,[2,1,0,2,1,0,0]),(10,[2,1,0,2,1,0,0,13]),(9,[2,1,0,2,1,0,0]),(8,[2,1,0,4,0,0,8]),(7,[2,0]),(6,[2,1,0,1,2,0,0,5]),(5,[2,1,0,1,2,0,0]),(4,[2,1,0,4,0,0,0]),(3,[2,1,0,4,0,0]),(2,[0,1,1,0]),(1,[0,1,1]),(0,[0,1])] [(0,[2,1]),(1,[2,1,0,4,0,0]),(2,[2,1,0,4,0,0]),(3,[2,1,0,4,0,0])] [2,0] [(28,A48),(26,GQ)] [26] [] [(52,GN)] (nt:=[(46,2,9,1),(1000046,2,9,1),(1000025,0,9,1)])
abbrev Kbc(R:Type):=Bool->Bool->LL->Int->Int->LL->MS->Option R
def Nt(Y:Nat)(a:By)(xs:List By)(self:Kbc R)(h g:Bool)(d:LL)(e f:Int)(c:LL)(b:MS)(i:Kbc R):Option R:=
 cond ((!(Ao b a))||(Dp4 ⟨true,false,[.bool]⟩ (Ac [] b a)))
 (cond (not ((Ao b a)&&(SV.gB (w6 (Ac [] b a) 0 SV.nilp))))
  (cond (G0 (c.length+1))
  (self h g d e f (c++[[(SV.str a)]]) (Dm b a [(SV.bool true)]))
  none)
  (self h g d e f c b))
 none
def Lx(Y:Nat)(L:List By)(h f:Bool)(a:LL)(c d:Int)(b:LL)(e:MS)(i:Kbc R):Option R:=
 C44 (α:=Kbc R) i (λg xs self h f a c d b e=>Nt Y g xs self h f a c d b e i) L h f a c d b e
def ES(Y:Nat)(a:By)(xs:List By)(h g:Bool)(b:LL)(d e:Int)(c:LL)(f:MS)(i:Kbc R):Lx Y (a::xs) h g b d e c f i=Nt Y a xs (λh g b d e c f=>Lx Y xs h g b d e c f i) h g b d e c f i:=rfl
def YB(L:List By)(f e:Bool)(b:LL)(c d:Int)(g:LL)(h:MS):V9 #[22] (gp [(2,.ptr 1 0 0),(1,.ptr 3 0 0),(0,.ptr 5 0 0),(4,.s (.sl f e 1 b)),(0,pI c),(0,pI d),(8,.fnr (v8 52) [] [.bad])] 23) (bd (R1 Y) J Q (cd [1,1,1,0,1,0,0,1,1,0,0,1,1,1,0,0] Dd)) (bd (R1 Y) J Q (cd [1,1,1,0,1,0,0,1,1,0,0,1,1,1,0,1] Dd)) (L.map (λ(a:By)=>([pS a]:List PV))) [.arr true 9 1 [],.box [pB false,pB false,.fl 0],.arr true 9 1 g,.box [pB false,pB false,.fl 2],.ms false h,.box [.it 4],.dead] s (rgK (gp [(2,.ptr 1 0 0),(1,.ptr 3 0 0),(0,.ptr 5 0 0),(4,.s (.sl f e 1 b)),(0,pI c),(0,pI d),(8,.fnr (v8 52) [] [.bad])] 23) (λH=>Y4 H [6] [.box [.bad]]) k) =
 Lx Y L f e b c d g h (λf e b c d g h=>k .normal ⟨gp [(2,.ptr 1 0 0),(1,.ptr 3 0 0),(0,.ptr 5 0 0),(4,.s (.sl f e 1 b)),(0,pI c),(0,pI d),(8,.fnr (v8 52) [] [.bad])] 23,[.arr true 9 1 [],.box [pB false,pB false,.fl 0],.arr true 9 1 g,.box [pB false,pB false,.fl 2],.ms false h,.box [.it 4],.box [.bad]],s⟩):=by
 induction L generalizing f e b c d g h with
 | nil=>rfl
 | cons a xs i=>rw[ES];unfold Nt;exact(j8 (by kernel_rfl) (A0 (A0 (A0 (i f e b c d (g++[[(SV.str a)]]) (Dm h a [(SV.bool true)])) rfl) (i f e b c d g h)) rfl))
def Lw(Y:Nat)(i h:Bool)(c:LL)(e f:Int)(d:LL)(g:MS)(a:By)(b:Kbc R):Option R:=
 cond (A2 a.length) (Lx Y (Y6 a) i h c e f d g b) none
abbrev Rc(b:Code):Prop:=∀(k:Out->St W->Option R) h g a d e c f s7,C3 (R1 Y) J Q b ⟨gp [(2,.ptr 1 0 0),(1,.ptr 3 0 0),(0,.ptr 5 0 0),(4,.s (.sl h g 1 a)),(0,pI d),(0,pI e),(8,.fnr (v8 52) [] [.ptr 6 0 0])] 23,[.arr true 9 1 [],.box [pB false,pB false,.fl 0],.arr true 9 1 c,.box [pB false,pB false,.fl 2],.ms false f,.box [.it 4],.box [pS s7]],s⟩ k =
 Lw Y h g a d e c f s7 (λh g a d e c f=>k .normal ⟨gp [(2,.ptr 1 0 0),(1,.ptr 3 0 0),(0,.ptr 5 0 0),(4,.s (.sl h g 1 a)),(0,pI d),(0,pI e),(8,.fnr (v8 52) [] [.bad])] 23,[.arr true 9 1 [],.box [pB false,pB false,.fl 0],.arr true 9 1 c,.box [pB false,pB false,.fl 2],.ms false f,.box [.it 4],.box [.bad]],s⟩)
def YA:Rc (R:=R) Y J Q s (cd [1,1,1,0,1,0,0,1,1,0,0,1,1,1,0] Dd):=by intro k h g a c d b e f;unfold Lw;exact(ag (B18 [1,1,1,0,1,0,0,1,1,0,0,1,1,1,0] (by kernel_rfl))).trans (Oj (YB Y J Q s k (Y6 f) h g a c d b e))
abbrev Kbi(R:Type):=Blk->Blk->Blk->Blk->Blk->(List Blk)->Option R
def Q4(Y n:Nat)(r q:Bool)(b:LL)(p a:Int)(e:LL)(i:MS)(m:Kbi R)(o:LL->MS->Option R):Option R:=match n with
 | 0=>none
 | n+1=>
  cond (ltI a p)
   (cond (inR a b.length)
   (cond (okE Aa b (k9 a) 0)
    (cond (ltI 4096 (↑(c9 (gX b (k9 a) 0)):Int))
    (m (Blk.arr true 9 1 []) (Blk.arr true 9 1 e) (Blk.box [(PV.s (SV.bool false)),(PV.s (SV.bool false)),(PV.fl 2)]) (Blk.ms false i) (Blk.box [(PV.it 4)]) [])
    (Lw Y r q b p a e i (gX b (k9 a) 0) (λl j c f g d h=>Q4 Y n l j c f (A1 (g+1)) d h m o)))
    none)
   none)
   (o e i)
def YC(a:Code)(b:Rc (R:=R) Y J Q s a)(n:Nat)(i h:Bool)(c:LL)(f d:Int)(e:LL)(g:MS):D4 6 ((R1 Y).keep 4) (bd (R1 Y) J Q (cd [1,1,1,0,1,0,0] (Q9 [1,1,1,0,1,0,0,1,1,0,0,1,1,1,0] a Dd))) n ⟨gp [(2,.ptr 1 0 0),(1,.ptr 3 0 0),(0,.ptr 5 0 0),(4,.s (.sl i h 1 c)),(0,pI f),(0,pI d)] 32,[.arr true 9 1 [],.box [pB false,pB false,.fl 0],.arr true 9 1 e,.box [pB false,pB false,.fl 2],.ms false g,.box [.it 4]],s⟩ k =
 Q4 Y n i h c f d e g (λt u v w x y=>k .ret ⟨gp [(2,.ptr 1 0 0),(0,pI 3)] 41,(t::.box [pB false,pB false,.fl 6]::u::v::w::x::.arr true 9 1 []::y),s⟩) (λA B=>k (.exit 0) ⟨gp [(2,.ptr 1 0 0),(1,.ptr 3 0 0)] 40,[.arr true 9 1 [],.box [pB false,pB false,.fl 0],.arr true 9 1 A,.box [pB false,pB false,.fl 2],.ms false B,.box [.it 4]],s⟩):=by
 induction n generalizing i h c f d e g with
 | zero=>rfl
 | succ n z=>rw[Q4];exact(j8 (by kernel_rfl) (A0 (A0 (A0 (A0 rfl ((b (F2 2 (F2 1 (F6 (R1 Y) J Q (cd [1,1,1,0,1,0,0,1,1,1] Dd) (lpK 6 ((R1 Y).keep 4) (bd (R1 Y) J Q (cd [1,1,1,0,1,0,0] (Q9 [1,1,1,0,1,0,0,1,1,0,0,1,1,1,0] a Dd))) n k)))) i h c f d e g (gX c (k9 d) 0)).trans (congr rfl (fx7 λr q j m o l p=>(j8 (by kernel_rfl) (z r q j m (A1 (o+1)) l p)))))) rfl) rfl) rfl))
abbrev Kdf(R:Type):=Bool->Bool->Blk->Blk->LL->(List Blk)->Option R
def LD(Y:Nat)(d c:Bool)(b:LL)(m:Blk->Blk->Blk->Blk->Blk->Blk->(List Blk)->Option R)(n:Kdf R):Option R:=
 Q4 Y Y d c b (b.length:Int) 0 [] [] (λj l e f g h=>m j (Blk.box [(PV.s (SV.bool false)),(PV.s (SV.bool false)),(PV.fl 6)]) l e f g h) (λa i=>cond (w8 a isS)
 (cond (A2 a.length)
  (cond (w8 a isS)
  (cond (A2 a.length)
   (n (I5 (j9 elS a) ([117,112,103,114,97,100,101,45,105,110,115,101,99,117,114,101,45,114,101,113,117,101,115,116,115]:By)) (I5 (j9 elS a) ([98,108,111,99,107,45,97,108,108,45,109,105,120,101,100,45,99,111,110,116,101,110,116]:By)) (Blk.arr true 9 1 []) (Blk.box [(PV.s (SV.bool (I5 (j9 elS a) ([117,112,103,114,97,100,101,45,105,110,115,101,99,117,114,101,45,114,101,113,117,101,115,116,115]:By)))),(PV.s (SV.bool (I5 (j9 elS a) ([98,108,111,99,107,45,97,108,108,45,109,105,120,101,100,45,99,111,110,116,101,110,116]:By)))),(PV.fl 2)]) a [(Blk.box [(PV.s (SV.bool (I5 (j9 elS a) ([117,112,103,114,97,100,101,45,105,110,115,101,99,117,114,101,45,114,101,113,117,101,115,116,115]:By)))),(PV.s (SV.bool (I5 (j9 elS a) ([98,108,111,99,107,45,97,108,108,45,109,105,120,101,100,45,99,111,110,116,101,110,116]:By)))),(PV.fl 2)]),(Blk.ms false i),(Blk.box [(PV.it 4)])])
   none)
  none)
  none)
 none)
def Ca2(a:Code)(e:Rc (R:=PV × List Blk × W) Y J Q s a)(c b:Bool)(d:LL):C3 (R1 Y) J Q (cd [] (Q9 [1,1,1,0,1,0,0,1,1,0,0,1,1,1,0] a Dd)) ⟨[.s (.sl c b 1 d)]++tps 44,[],s⟩ (I8 (R1 Y) ak1)=LD Y c b d (λh i f g j l n=>some (.tup [.agg [pB false,pB false,.fl 6],pI 3],(h::i::f::g::j::l::.arr true 9 1 []::n),s)) (λp q f g o m=>some (.tup [.agg [pB p,pB q,.fl 2],pI 0],(f::g::.arr true 9 1 o::m),s)):=by unfold LD;exact(j8 (by kernel_rfl) (ag (YC Y J Q s (F2 0 (F6 (R1 Y) J Q (cd [1,1,1,1] Dd) (I8 (R1 Y) ak1))) a e Y c b d (d.length:Int) 0 [] [])))
def Ca3(d:Nat)(values_z0 values_t1 values2):evC (R1 Y) (d+1) W Q 12 [.s (.sl values_z0 values_t1 1 values2)] [] s=LD Y values_z0 values_t1 values2 (λc e a b f g i=>some (.tup [.agg [pB false,pB false,.fl 6],pI 3],(c::e::a::b::f::g::.arr true 9 1 []::i),s)) (λl m a b j h=>some (.tup [.agg [pB l,pB m,.fl 2],pI 0],(a::b::.arr true 9 1 j::h),s)):=
 (evE (fn:=ak1) (by kernel_rfl)).trans (j8 (by kernel_rfl) (Ca2 Y (evC (R1 Y) d) Q s (cd [1,1,1,0,1,0,0,1,1,0,0,1,1,1,0] Dd) (YA Y (evC (R1 Y) d) Q s) values_z0 values_t1 values2))
noncomputable abbrev Ao0(b a:Bool)(c:LL):Option (PV × List Blk × Unit):=LD LF b a c (λf g d e h i l=>some (.tup [.agg [pB false,pB false,.fl 6],pI 3],(f::g::d::e::h::i::.arr true 9 1 []::l),())) (λn o d e m j=>some (.tup [.agg [pB n,pB o,.fl 2],pI 0],(d::e::.arr true 9 1 m::j),()))
noncomputable abbrev Ct8:Code:=D7 ao6
noncomputable def CE(Y:Nat):=mkC Y 4 [(4,[0,1,0])] [(8,[2]),(5,[0,2]),(7,[2]),(6,[0,2,33]),(4,[0,2,6]),(3,[0,2]),(2,[2]),(1,[0,5]),(0,[0])] [(0,[]),(1,[0,2])] [2] [(9,Ai6)] [9]
def Od(Y n:Nat)(e d:Bool)(b:LL)(a:Int)(f:Unit->Option R)(h:Unit->Option R):Option R:=match n with
 | 0=>none
 | n+1=>
  cond (ltI a (b.length:Int))
   (cond (inR a b.length)
   (cond (okE Aa b (k9 a) 0)
    (cond (ltI 3000 (↑(c9 (gX b (k9 a) 0)):Int))
    (f ())
    (cond (inR a b.length)
     (cond (okE ⟨true,false,[.sl 1]⟩ b (k9 a) 1)
     (vl (SV.gE (gC b (k9 a) 1)) λg=>
      cond (ltI 6 (g.length:Int))
      (f ())
      (cond (inR a b.length)
       (cond (okE ⟨true,false,[.sl 1]⟩ b (k9 a) 1)
       (vl (SV.gE (gC b (k9 a) 1)) λc=>
        cond (w8 c isS)
        (cond (A2 c.length)
         (cond (not (La (5000:Int) (j9 elS c)))
         (f ())
         (Od Y n e d b (A1 (a+1)) f h))
         none)
        none)
       none)
       none))
     none)
     none))
    none)
   none)
   (h ())
def Bb5(n l_z0 l_t1 l2 i3):D4 0 ((CE Y).keep 4) (bd (CE Y) J Q (cd [1,1,0,1,0,0] Ct8)) n ⟨gp [(0,.s (.sl l_z0 l_t1 2 l2)),(2,pI i3)] 34,[],s⟩ k =
 Od Y n l_z0 l_t1 l2 i3 (λ_=>k .ret ⟨gp [(2,pB false)] 35,[],s⟩) (λ_=>k (.exit 0) ⟨gp [] 38,[],s⟩):=by
 induction n generalizing l_z0 l_t1 l2 i3 with
 | zero=>rfl
 | succ n a=>rw[Od];simp only[<-a];kernel_rfl
def Dn2(Y:Nat)(b a:Bool)(d:LL)(c:Bool->Option R):Option R:=
 cond (ltI 20 (d.length:Int))
 (c false)
 (Od Y Y b a d 0 (λ_=>c false) (λ_=>c true))
def Dn3(d:Nat)(l_z0 l_t1 l2):evC (CE Y) (d+1) W Q 4 [.s (.sl l_z0 l_t1 2 l2)] [] s=Dn2 Y l_z0 l_t1 l2 (λa=>some (pB a,[],s)):=evT ao6 λJ=>by
 unfold Dn2;exact(j8 (by kernel_rfl) (A0 rfl (ag (Bb5 Y J Q s (F2 0 (F6 (CE Y) J Q (cd [1,1,1] Ct8) (I8 (CE Y) ao6))) Y l_z0 l_t1 l2 0))))
noncomputable abbrev Ak8:Code:=D7 am7
noncomputable def Lp(Y:Nat):=mkC Y 24 [(4,[0,0,2,0])] [(8,[4]),(5,[0,0,3]),(7,[4]),(6,[0,0,3,19]),(4,[0,0,3,8]),(3,[0,0,3]),(2,[4]),(1,[0,0,8]),(0,[0,0])] [(0,[]),(1,[0,0,3])] [4]
def Es(Y n:Nat)(d c:Bool)(b:LL)(f e:Bool)(g:LL)(a:Int)(h:Unit->Option R)(i:Unit->Option R):Option R:=match n with
 | 0=>none
 | n+1=>
  cond (ltI a (b.length:Int))
   (cond (inR a b.length)
   (cond (okE Aa b (k9 a) 0)
    (cond (inR a g.length)
    (cond (okE Aa g (k9 a) 0)
     (cond (not ((gX b (k9 a) 0)==(gX g (k9 a) 0)))
     (h ())
     (Es Y n d c b f e g (A1 (a+1)) h i))
     none)
    none)
    none)
   none)
   (i ())
def ZH(n:Nat)(b a:Bool)(e:LL)(d c:Bool)(f:LL)(g:Int):D4 0 ((Lp Y).keep 4) (bd (Lp Y) J Q (cd [1,1,0,1,0,0] Ak8)) n ⟨gp [(0,.s (.sl b a 1 e)),(0,.s (.sl d c 1 f)),(3,pI g)] 20,[],s⟩ k =
 Es Y n b a e d c f g (λ_=>k .ret ⟨gp [(4,pB false)] 21,[],s⟩) (λ_=>k (.exit 0) ⟨gp [] 26,[],s⟩):=by
 induction n generalizing b a e d c f g with
 | zero=>rfl
 | succ n h=>rw[Es];simp only[<-h];kernel_rfl
def ZG(Y:Nat)(b a:Bool)(f:LL)(d c:Bool)(g:LL)(e:Bool->Option R):Option R:=
 cond ((f.length:Int)!=(g.length:Int))
 (e false)
 (Es Y Y b a f d c g 0 (λ_=>e false) (λ_=>e true))
def Cd9(d:Nat)(a_z0 a_t1 a2 b_z3 b_t4 b5):evC (Lp Y) (d+1) W Q 24 [.s (.sl a_z0 a_t1 1 a2),.s (.sl b_z3 b_t4 1 b5)] [] s=ZG Y a_z0 a_t1 a2 b_z3 b_t4 b5 (λa=>some (pB a,[],s)):=evT am7 λJ=>by
 unfold ZG;exact(j8 (by kernel_rfl) (A0 rfl (ag (ZH Y J Q s (F2 0 (F6 (Lp Y) J Q (cd [1,1,1] Ak8) (I8 (Lp Y) am7))) Y a_z0 a_t1 a2 b_z3 b_t4 b5 0))))
noncomputable def Cw5(Y:Nat):=mkC Y 8 [] [(1,[4]),(0,[2,0])] [] [4] [(24,Ai7)] [24] (nt:=[(27,4,9,1)])
def Dm8(Y:Nat)(h i j l d c:Bool)(g:LL)(m n o f b a:Bool)(e:LL)(p:Bool->(List Blk)->Option R):Option R:=
 cond (h==m)
 (cond (i==n)
  (cond (j==o)
  (cond (l==f)
   (cond (w8 g isS)
   (cond (w8 e isS)
    (cond (A2 g.length)
    (cond (A2 e.length)
     (p ((j9 elS g)==(j9 elS e)) [(bCx h i j l d c g),(bCx m n o f b a e)])
     none)
    none)
    none)
   none)
   (p false [(bCx h i j l d c g),(bCx m n o f b a e)]))
  (p false [(bCx h i j l d c g),(bCx m n o f b a e)]))
  (p false [(bCx h i j l d c g),(bCx m n o f b a e)]))
 (p false [(bCx h i j l d c g),(bCx m n o f b a e)])
def Dm9(d:Nat)(a0 a1 a2 a3 a_z4 a_t5 a6 b7 b8 b9 b10 b_z11 b_t12 b13):evC (Cw5 Y) (d+1) W Q 8 [(gCx a0 a1 a2 a3 a_z4 a_t5 a6),(gCx b7 b8 b9 b10 b_z11 b_t12 b13)] [] s=Dm8 Y a0 a1 a2 a3 a_z4 a_t5 a6 b7 b8 b9 b10 b_z11 b_t12 b13 (λb a=>some (pB b,a,s)):=evT Tryz.f8 λJ=>by
 unfold Dm8;kernel_rfl
noncomputable abbrev C13(h i j l d c:Bool)(m:LL)(n o p e b a:Bool)(f:LL):Option (PV × List Blk × Unit):=Dm8 LF h i j l d c m n o p e b a f (λq g=>some (pB q,g,()))
noncomputable abbrev Bu:Code:=D7 ak3
noncomputable def X4(Y:Nat):=mkC Y 52 [] [(6,[2,22]),(5,[2,2]),(4,[2,1]),(3,[2,7]),(2,[2,0]),(1,[2,4]),(0,[1,0])] [(0,[]),(1,[2]),(2,[2]),(3,[2])] [] [(53,JU),(54,XL),(47,II)] [47] [] [(134,Se)]
def Ho{W R:Type}(Q:Yh W)(Y:Nat)(a:By)(xs:List By)(self:By->W->Option R)(e:By)(s:W)(g:By->W->Option R)(f:By->W->Option R):Option R:=
 cond (A2 a.length)
 (cond (ltI 0 (↑(c9 (A9 (M4 a))):Int))
  (cond (inR 0 (c9 (A9 (M4 a))))
  (cond (okE Aa (A9 (M4 a)) 0 0)
   (vl (gX (A9 (M4 a)) 0 0) λd=>
   cond (A2 d.length)
    (ydK (Q [pS (C6 d)] s) λc b=>
    (cond (not c)
     (f e b)
     (self e b)))
    none)
   none)
  none)
  (self e s))
 none
def T5{W R:Type}(Q:Yh W)(Y:Nat)(L:List By)(a:By)(s:W)(c:By->W->Option R)(d:By->W->Option R):Option R:=
 C44 (α:=By->W->Option R) c (λb xs self a s=>Ho Q Y b xs self a s c d) L a s
def A87{W R:Type}(Q:Yh W)(Y:Nat)(a:By)(xs:List By)(b:By)(s:W)(c:By->W->Option R)(d:By->W->Option R):T5 Q Y (a::xs) b s c d=Ho Q Y a xs (λb s=>T5 Q Y xs b s c d) b s c d:=rfl
def An8(L:List By)(a:By)(s:W):V9 #[11] (gp [(2,.ptr 1 0 0),(7,.fnr (v8 134) [] [.bad,.bad,.bad])] 15) (bd (X4 Y) J Q (cd [1,1,0,1,0,1,0,0] Bu)) (bd (X4 Y) J Q (cd [1,1,0,1,0,1,0,1] Bu)) (L.map (λ(c:By)=>([pS c]:List PV))) [.box [pS a],.box [.yd],.dead,.dead,.dead,.dead,.dead,.dead] s (rgK (gp [(2,.ptr 1 0 0),(7,.fnr (v8 134) [] [.bad,.bad,.bad])] 15) (λH=>Y4 H [6,5,7] [.box [.bad],.box [.bad],.box [.bad]]) k) =
 T5 Q Y L a s (λa s=>k .normal ⟨gp [(2,.ptr 1 0 0),(7,.fnr (v8 134) [] [.bad,.bad,.bad])] 15,[.box [pS a],.box [.yd],.dead,.dead,.dead,.box [.bad],.box [.bad],.box [.bad]],s⟩) (λa s=>k .ret ⟨gp [(2,.ptr 1 0 0),(7,.fnr (v8 134) [] [.bad,.bad,.bad])] 15,[.box [pS a],.box [.yd],.dead,.dead,.dead,.box [.bad],.box [.bad],.box [.bad]],s⟩):=by
 induction L generalizing a s with
 | nil=>rfl
 | cons c xs e=>rw[A87];unfold Ho;exact(j8 (by kernel_rfl) (A0 (A0 (A0 (A0 (A6 λf=>(A0 (Dg2 λd b=>(A0 rfl (e a b))) rfl)) rfl) rfl) (e a s)) rfl))
def Xt{W R:Type}(Q:Yh W)(Y:Nat)(d a:By)(s:W)(b:By->W->Option R)(c:By->W->Option R):Option R:=
 cond ((A2 a.length)&&((1==1)&&((0:Int)==0))) (T5 Q Y (pcs (w6 ([59]:By) 0 0) a) d s b c) none
abbrev Wa(b:Code):Prop:=∀(k:Out->St W->Option R) a s1 s,C3 (X4 Y) J Q b ⟨gp [(2,.ptr 1 0 0),(7,.fnr (v8 134) [] [.ptr 6 0 0,.ptr 5 0 0,.ptr 7 0 0])] 15,[.box [pS a],.box [.yd],.dead,.dead,.dead,.box [pS s1],.box [pS ([59]:By)],.box [pI 0]],s⟩ k =
 Xt Q Y a s1 s (λa s=>k .normal ⟨gp [(2,.ptr 1 0 0),(7,.fnr (v8 134) [] [.bad,.bad,.bad])] 15,[.box [pS a],.box [.yd],.dead,.dead,.dead,.box [.bad],.box [.bad],.box [.bad]],s⟩) (λa s=>k .ret ⟨gp [(2,.ptr 1 0 0),(7,.fnr (v8 134) [] [.bad,.bad,.bad])] 15,[.box [pS a],.box [.yd],.dead,.dead,.dead,.box [.bad],.box [.bad],.box [.bad]],s⟩)
def An5:Wa (R:=R) Y J Q (cd [1,1,0,1,0,1,0] Bu):=by intro k a b s;unfold Xt;exact(ag (B18 [1,1,0,1,0,1,0] (by kernel_rfl))).trans (Oj (An8 Y J Q k (pcs (w6 ([59]:By) 0 0) b) a s))
def Lv{W R:Type}(Q:Yh W)(Y:Nat)(a:By)(xs:List By)(self:By->W->Option R)(c:By)(s:W)(d:By->W->Option R)(b:By->W->Option R):Option R:=
 Xt Q Y c a s self b
def Aj{W R:Type}(Q:Yh W)(Y:Nat)(L:List By)(a:By)(s:W)(c:By->W->Option R)(d:By->W->Option R):Option R:=
 C44 (α:=By->W->Option R) c (λb xs self a s=>Lv Q Y b xs self a s c d) L a s
def A88{W R:Type}(Q:Yh W)(Y:Nat)(a:By)(xs:List By)(b:By)(s:W)(c:By->W->Option R)(d:By->W->Option R):Aj Q Y (a::xs) b s c d=Lv Q Y a xs (λb s=>Aj Q Y xs b s c d) b s c d:=rfl
def An9(a:Code)(b:Wa (R:=R) Y J Q a)(L:List By)(d:By)(s:W):V9 #[8] (gp [(2,.ptr 1 0 0),(4,.fnr (v8 134) [] [.bad,.bad,.bad])] 18) (bd (X4 Y) J Q (cd [1,1,0,0] Bu)) (bd (X4 Y) J Q (cd [1,1,0,1] (Q9 [1,1,0,1,0,1,0] a Bu))) (L.map (λ(c:By)=>([pS c]:List PV))) [.box [pS d],.box [.yd],.dead,.dead,.dead] s (rgK (gp [(2,.ptr 1 0 0),(4,.fnr (v8 134) [] [.bad,.bad,.bad])] 18) (λH=>Y4 H [3,2,4] [.box [.bad],.box [.bad],.box [.bad]]) k) =
 Aj Q Y L d s (λd s=>k .normal ⟨gp [(2,.ptr 1 0 0),(4,.fnr (v8 134) [] [.bad,.bad,.bad])] 18,[.box [pS d],.box [.yd],.box [.bad],.box [.bad],.box [.bad]],s⟩) (λd s=>k .ret ⟨gp [(2,.ptr 1 0 0),(4,.fnr (v8 134) [] [.bad,.bad,.bad])] 18,[.box [pS d],.box [.yd],.box [.bad],.box [.bad],.box [.bad]],s⟩):=by
 induction L generalizing d s with
 | nil=>rfl
 | cons c xs g=>rw[A88];unfold Lv;exact(j8 (by kernel_rfl) ((b (F2 2 (F2 1 (rdB #[8] (gp [(2,.ptr 1 0 0),(4,.fnr (v8 134) [] [.bad,.bad,.bad])] 18) (bd (X4 Y) J Q (cd [1,1,0,0] Bu)) (bd (X4 Y) J Q (cd [1,1,0,1] (Q9 [1,1,0,1,0,1,0] a Bu))) (j9 (λ(c:By)=>([pS c]:List PV)) xs) 5 (rgK (gp [(2,.ptr 1 0 0),(4,.fnr (v8 134) [] [.bad,.bad,.bad])] 18) (λH=>Y4 H [3,2,4] [.box [.bad],.box [.bad],.box [.bad]]) k)))) d c s).trans (congr (congr rfl (fx2 λe f=>(j8 (by kernel_rfl) (g e f)))) (by kernel_rfl))))
def Xu{W R:Type}(Q:Yh W)(Y:Nat)(a:By)(s:W)(b:By->W->Option R)(c:By->W->Option R):Option R:=
 cond ((A2 a.length)&&((1==1)&&((0:Int)==0))) (Aj Q Y (pcs (w6 ([44]:By) 0 0) a) a s b c) none
abbrev Wb(b:Code):Prop:=∀(k:Out->St W->Option R) a s,C3 (X4 Y) J Q b ⟨gp [(2,.ptr 1 0 0),(4,.fnr (v8 134) [] [.ptr 3 0 0,.ptr 2 0 0,.ptr 4 0 0])] 18,[.box [pS a],.box [.yd],.box [pS a],.box [pS ([44]:By)],.box [pI 0]],s⟩ k =
 Xu Q Y a s (λa s=>k .normal ⟨gp [(2,.ptr 1 0 0),(4,.fnr (v8 134) [] [.bad,.bad,.bad])] 18,[.box [pS a],.box [.yd],.box [.bad],.box [.bad],.box [.bad]],s⟩) (λa s=>k .ret ⟨gp [(2,.ptr 1 0 0),(4,.fnr (v8 134) [] [.bad,.bad,.bad])] 18,[.box [pS a],.box [.yd],.box [.bad],.box [.bad],.box [.bad]],s⟩)
def An6(a:Code)(b:Wa (R:=R) Y J Q a):Wb (R:=R) Y J Q (cd [1,1,0] (Q9 [1,1,0,1,0,1,0] a Bu)):=by intro k c s;unfold Xu;exact(ag (B18 [1,1,0] (by kernel_rfl))).trans (Oj (An9 Y J Q k a b (pcs (w6 ([44]:By) 0 0) c) c s))
def An7:Wb (R:=R) Y J Q (cd [1,1,0] Bu):=by intro k a s;exact j8 (by kernel_rfl) (An6 Y J Q (cd [1,1,0,1,0,1,0] Bu) (An5 Y J Q) k a s)
def RL{W R:Type}(Q:Yh W)(Y:Nat)(t:By)(s:W)(a:By->W->Option R):Option R:=
 Xu Q Y t s a a
def Cx8(b:Code)(a:Wb (R:=PV × List Blk × W) Y J Q b)(t:By)(s:W):C3 (X4 Y) J Q (cd [] (Q9 [1,1,0] b Bu)) ⟨[.yd,.ptr 0 0 0]++tps 24,[.box [pS t]],s⟩ (I8 (X4 Y) ak3)=RL Q Y t s (λc s=>some (.tup [],[.box [pS c],.box [.yd],.box [.bad],.box [.bad],.box [.bad]],s)):=by unfold RL;exact(j8 (by kernel_rfl) (ag (a (F2 0 (I8 (X4 Y) ak3)) t s)))
def Cx9(d:Nat)(t s):evC (X4 Y) (d+1) W Q 52 [.yd,.ptr 0 0 0] [.box [pS t]] s=RL Q Y t s (λa s=>some (.tup [],[.box [pS a],.box [.yd],.box [.bad],.box [.bad],.box [.bad]],s)):=
 (evE (fn:=ak3) (by kernel_rfl)).trans (j8 (by kernel_rfl) (Cx8 Y (evC (X4 Y) d) Q (cd [1,1,0] Bu) (An7 Y (evC (X4 Y) d) Q) t s))
end
end
section
open Go Go.Op
def Cd4{a:Bool->Option R}(c:Int):Dm5 LF c a=a (ME c):=by unfold Dm5 ME;cases (c==32)<;>rfl
def Bb3{a:Bool->Option R}(c:Int):B31 LF c a=a (Ux c):=by unfold B31 Ux;cases ME c<;>cases (c==10)<;>cases (c==12)<;>rfl
def Cy5{s:By}{a b:Nat}(h:a<b)(c:b<=s.length):(cut s (a:Int) (b:Int)).isEmpty=false:=by rw[Fj,List.isEmpty_eq_false_iff];intro e;have:=congrArg c9 e;simp at this;omega
def Bs6{k0:LL->Option R}(s:By)(p:s.length<=1000000000):∀(r i a n:Nat) (l:List By),i+r=s.length->r+1<n->a<=i->l.length<=i->
  Av LF n s (a:Int) (i:Int) (A9 l) k0=k0 (A9 (l++EH (cut s (a:Int) (i:Int)) (s.drop i))):=by
 intro r
 induction r with
 | zero=>
  intro i a n l j o h k;rcases n with _|n;omega
  rcases n with _|n;omega
  have d:i=s.length:=by omega
  subst d;rw[Av,D8 (by omega),List.drop_length];unfold AI;have b:A1 ((s.length:Int)+1)=((s.length+1:Nat):Int):=ah
  by_cases c:a<s.length
  ·rw[C5 (by omega),W7 (by omega) (by omega) (by omega),A8,E8 (by omega),b];simp only[j7,aa,ab];rw[Av,C5 (by omega),EH,Cy5 c (aa3 _)];simp only[j5,ab,p9,if_false,Br];rfl
  ·obtain rfl:a=s.length:=by omega
   rw[D8 (by omega),b];simp only[j7,aa,ab];rw[Av,C5 (by omega),EH,Wc];simp
 | succ r f=>
  intro i a n l j o h k;rcases n with _|n;omega
  have b:A1 ((i:Int)+1)=((i+1:Nat):Int):=ah
  rw[Av,D8 (by omega),C5 (by omega),G9 (by omega) (by omega),E1,E6 s i (by omega),b];simp only[j7,aa];unfold AI;have e:Ux ((s.getD i 0).toNat:Int)=spB (s.getD i 0):=rfl;rw[e];cases g:spB (s.getD i 0) with
  | false=>
   rw[j7,aa,f (i+1) a n l (by omega) (by omega) (by omega) (by omega),D23 s a i h (by omega)];rw[EH,g];rfl
  | true=>
   rw[j5,ab,EH,g,ac rfl];by_cases c:a<i
   ·rw[C5 (by omega),W7 (by omega) (by omega) (by omega),A8,E8 (by omega),b,Cy5 c (by omega)];simp only[aa,p9,if_false];have:=f (i+1) (i+1) n (l++[cut s (a:Int) (i:Int)]) (by omega) (by omega) (by omega) (by simp;omega);rw[Wc,aa1] at this;rw[b,show A9 l++[[SV.str (cut s (a:Int) (i:Int))]]=A9 (l++[cut s (a:Int) (i:Int)]) by rw[Br];rfl];exact this
   ·obtain rfl:a=i:=by omega
    rw[D8 (by omega),b,Wc];simp only[ab,ai7,if_true];have:=f (a+1) (a+1) n l (by omega) (by omega) (by omega) (by omega);rw[Wc] at this;rw[b];exact this
def A36(s:By)(a:A2 s.length=true):∃r H,B74 s=rv r H/\r.stab [1] H = .s (.sl (x4 (M4 s)) (x4 (M4 s)) 1 (A9 (M4 s))):=by
 have c:=L4 a;have b:=C9;have:=Bs6 (k0:=λl=>some (PV.fl 0,[Blk.arr true 9 1 l],())) s c s.length 0 0 LF [] (by omega) (by omega) (by omega) (by simp);unfold B74 A33;refine⟨_,_,this,?_⟩;rw[Wc,ab4,w9];show PV.stab [1] [Blk.arr true _ 1 (A9 (M4 s))] (.fl 0)=_;simp only[PV.stab,Md,PV.snap,List.headD_cons,af2,ab5];have:(A9 (M4 s)).isEmpty=(M4 s).isEmpty:=by cases M4 s<;>rfl
 rw[this];rfl
abbrev yS(l:List By):List (List PV):=l.map λx=>[.s (.str x)]
def Du9{d:Type}{b:Yh d}{x:By}{l:List By}{s c:d}(h:U2 b (yS (x::l)) s=some c) :
  (∃a,b [.s (.str x)] s=some (true,a)/\U2 b (yS l) a=some c)\/b [.s (.str x)] s=some (false,c):=by
 simp only[yS,aa6,U2] at h;split at h
 ·rename_i a e;exact .inl ⟨a,e,h⟩
 ·rename_i a e;simp only[o8] at h;subst h;exact .inr e
 ·cases h
def Rb{i R:Type}(e:Yh i)(d:By)(f:List By)(m:i):∀(L:List By) (s:i),(∀x∈L,A2 x.length=true)->U2 e (yS (L.flatMap Gh++f)) s=some m->
  (∃g,(∀(c a:By->i->Option R),T5 e LF L d s c a=c d g)/\U2 e (yS f) g=some m)\/(∀(c a:By->i->Option R),T5 e LF L d s c a=a d m)
 | [],s,_,h=>.inl ⟨s,λc a=>rfl,h⟩
 | x::xs,s,A,h=>by
  have p:=A x (by simp);have l:∀y∈xs,A2 y.length=true:=λy F=>A y (by simp[F])
  have e0:∀c a:By->i->Option R,T5 e LF (x::xs) d s c a=Ho e LF x xs (λd s=>T5 e LF xs d s c a) d s c a:=λ_ _=>rfl
  cases k:M4 x with
  | nil=>
   have j:∀c a:By->i->Option R,T5 e LF (x::xs) d s c a=T5 e LF xs d s c a:=λc a=>by
    rw[e0];unfold Ho;rw[p,k];rfl
   have n:Gh x=[]:=by unfold Gh;rw[k]
   rw[ac9,n,ab4] at h;rcases Rb (R:=R) e d f m xs s l h with⟨g,r,t⟩|q
   ·exact .inl ⟨g,λc a=>(j c a).trans (r c a),t⟩
   ·exact .inr λc a=>(j c a).trans (q c a)
  | cons w B=>
   have o:A2 w.length=true:=by
    have z:=(A35 p).2;rw[k,S7] at z;exact(ab3.1 z) w (by simp)
   have j:∀c a:By->i->Option R,T5 e LF (x::xs) d s c a=ydK (e [pS (C6 w)] s) λb g=>cond (not b) (a d g) (T5 e LF xs d g c a):=λc a=>by
    rw[e0];unfold Ho;rw[p,k,A8,j4,C5 (by omega),G9 (by omega) (by omega)];have C:okE Aa (A9 (w::B)) 0 0=true:=rfl;have D:gX (A9 (w::B)) 0 0=w:=rfl;rw[C,D];simp only[aa,vl];rw[o];rfl
   have n:Gh x=[C6 w]:=by unfold Gh;rw[k]
   rw[ac9,n,List.singleton_append,af0] at h;rcases Du9 h with⟨g,u,H⟩|u
   ·have v:∀c a:By->i->Option R,T5 e LF (x::xs) d s c a=T5 e LF xs d g c a:=λc a=>by rw[j,u];rfl
    rcases Rb (R:=R) e d f m xs g l H with⟨G,r,t⟩|q
    ·exact .inl ⟨G,λc a=>(v c a).trans (r c a),t⟩
    ·exact .inr λc a=>(v c a).trans (q c a)
   ·exact .inr λc a=>by rw[j,u];rfl
def ER{f R:Type}(d:Yh f)(c:By)(e:List By)(g:f):∀(L:List By) (s:f),(∀x∈L,A2 x.length=true)->U2 d (yS (L.flatMap (λp=>(pcs 59 p).flatMap Gh)++e)) s=some g->
  (∃i,(∀(b a:By->f->Option R),Aj d LF L c s b a=b c i)/\U2 d (yS e) i=some g)\/(∀(b a:By->f->Option R),Aj d LF L c s b a=a c g)
 | [],s,_,h=>.inl ⟨s,λb a=>rfl,h⟩
 | x::xs,s,m,h=>by
  have n:=m x (by simp);have k:∀y∈xs,A2 y.length=true:=λy l=>m y (by simp[l])
  have j:∀b a:By->f->Option R,Aj d LF (x::xs) c s b a=T5 d LF (pcs 59 x) c s (λc s=>Aj d LF xs c s b a) a:=λb a=>by
   have e0:Aj d LF (x::xs) c s b a=Lv d LF x xs (λc s=>Aj d LF xs c s b a) c s b a:=rfl;rw[e0];unfold Lv Xt;rw[n];rfl
  have t:∀y∈pcs 59 x,A2 y.length=true:=λy l=>D5 (by have:=(Ad l).2;have:=L4 n;omega)
  rw[ac9,aa1] at h;rcases Rb (R:=R) d c _ g (pcs 59 x) s t h with⟨i,o,u⟩|q
  ·rcases ER (R:=R) d c e g xs i k u with⟨z,v,w⟩|r
   ·exact .inl ⟨z,λb a=>by rw[j,o,v],w⟩
   ·exact .inr λb a=>by rw[j,o,r]
  ·exact .inr λb a=>by rw[j,q]
def A89{d R:Type}(b:Yh d)(t:By)(s c:d)(h:A2 t.length=true)(g:U2 b ((Y6 t).map λx=>([.s (.str x)]:List PV)) s=some c):∀(a:By->d->Option R),RL b LF t s a=a t c:=by
 intro a;have f:∀y∈pcs 44 t,A2 y.length=true:=λy i=>D5 (by have:=(Ad i).2;have:=L4 h;omega)
 have e:RL b LF t s a=Aj b LF (pcs 44 t) t s a a:=by
  unfold RL Xu;rw[h];rfl
 rw[e];rcases ER (R:=R) b t [] c (pcs 44 t) s f (by rw[ab0];exact g) with⟨l,j,k⟩|q
 ·have:l=c:=by simpa[yS,U2] using k
  rw[j,this]
 ·exact q a a
def HP(c:UInt8):∀(s a:By),((O6 c a s).map λx=>x.length+1).sum=a.length+s.length+1
 | [],a=>by simp[O6]
 | b::r,a=>by
  simp only[O6];split
  ·rw[aa6,ah6,HP c r []];simp;omega
  ·rw[HP c r (a++[b])];simp;omega
def Ao8(d:By):(Gh d).length<=1:=by unfold Gh;split<;>simp
def Yf{f:By->List By}{g:By->Nat}(h:∀x,(f x).length<=g x):∀l:List By,(l.flatMap f).length<=(l.map g).sum
 | []=>by simp
 | x::l=>by rw[ac9,o0,aa6,ah6];have:=h x;have:=Yf h l;omega
def OI:∀l:List By,(l.map λ_=>1).sum=l.length
 | []=>rfl
 | x::l=>by rw[aa6,ah6,OI l,j4];omega
def Ao9(t:By):(Y6 t).length<=t.length+1:=by
 have b:∀p:By,((pcs 59 p).flatMap Gh).length<=p.length+1:=λp=>by
  have:=Yf Ao8 (pcs 59 p);have a:((pcs 59 p).map λ_=>1).sum=(pcs 59 p).length:=OI _;have c:=Dp 59 p;have d:=Bm 59 p;rw[a] at this;omega
 have:=Yf b (pcs 44 t);have a:=HP 44 t [];unfold pcs at this;rw[a] at this;unfold Y6 pcs;simpa using this
def Yi:∀(L a:List By),(L.foldl Ef a).length<=a.length+L.length
 | [],a=>by simp
 | x::L,a=>by
  have:=Yi L (Ef a x);have b:(Ef a x).length<=a.length+1:=by unfold Ef;cases I5 a x<;>simp
  simp only[ad9,j4];omega
def Mn(l:List By):MS:=l.map λn=>(n,[SV.bool true])
def As6(x:By):∀l:List By,Ao (Mn l) x=I5 l x
 | []=>rfl
 | n::l=>by
  have h:=As6 x l;unfold Mn at h;simp only[Mn,aa6,Ao,I5,ab7,h];rw[am3 (a:=x) (b:=n)];cases n==x<;>rfl
def As5(x:By):∀l:List By,I5 l x=true->Ac [] (Mn l) x=[SV.bool true]
 | [],h=>by cases h
 | n::l,h=>by
  simp only[Mn,aa6,Ac];rw[am3 (a:=x) (b:=n)];simp only[I5,ab7] at h;cases c:(n==x) with
  | true=>rfl
  | false=>rw[c] at h;exact As5 x l h
def As7(x:By):∀l:List By,I5 l x=false->Dm (Mn l) x [SV.bool true]=Mn (l++[x])
 | [],h=>rfl
 | n::l,h=>by
  simp only[I5,ab7,Bool.or_eq_false_iff] at h;simp only[Mn,aa6,Dm,af0];rw[am3 (a:=x) (b:=n),h.1,ab];have:=As7 x l h.2;unfold Mn at this;rw[this]
def Ns(z t:Bool)(l:LL)(e f:Int)(d:Kbc R):∀(L a:List By),a.length+L.length<=10000000000->
  Lx LF L z t l e f (A9 a) (Mn a) d=d z t l e f (A9 (L.foldl Ef a)) (Mn (L.foldl Ef a))
 | [],a,_=>rfl
 | x::L,a,g=>by
  rw[j4] at g;rw[ES];unfold Nt;rw[As6];have b:Ef a x=cond (I5 a x) a (a++[x]):=rfl;cases c:I5 a x with
  | true=>
   rw[c] at b;rw[As5 x a c,ad9,b];exact Ns z t l e f d L a (by omega)
  | false=>
   rw[c] at b;simp only[j7,al4,aa,ag5];rw[A8,E8 (by omega),As7 x a c,ad9,b];have:=Ns z t l e f d L (a++[x]) (by simp;omega);rw[Br] at this;exact this
def YD(z t:Bool)(l:List By)(v:l.length<=1000):∀(r i n:Nat) (a:List By),i+r=l.length->r<n->a.length<=i*4098->
  ((Og (l.drop i) a).2=0/\(∀(b:Kbi R) (c:LL->MS->Option R),Q4 LF n z t (A9 l) (l.length:Int) (i:Int) (A9 a) (Mn a) b c=c (A9 (Og (l.drop i) a).1) (Mn (Og (l.drop i) a).1))/\(Og (l.drop i) a).1.length<=4098000)\/
  (Og (l.drop i) a=([],3)/\∃w x y A B H,∀(b:Kbi R) (c:LL->MS->Option R),Q4 LF n z t (A9 l) (l.length:Int) (i:Int) (A9 a) (Mn a) b c=b w x y A B H):=by
 intro r
 induction r with
 | zero=>
  intro i n a I K F;rcases n with _|n;omega
  rw[List.drop_eq_nil_iff.2 (by omega)];exact .inl ⟨rfl,λb c=>by rw[Q4,D8 (by omega)];rfl,by simp only[Og];omega⟩
 | succ r L=>
  intro i n a I K F;rcases n with _|n;omega
  have d:i<l.length:=by omega
  have G:l.drop i=l.getD i []::l.drop (i+1):=by
   rw[List.drop_eq_getElem_cons d,o6,x5 d];rfl
  have C:A1 ((i:Int)+1)=((i+1:Nat):Int):=ah
  have u:∀(b:Kbi R) (c:LL->MS->Option R),Q4 LF (n+1) z t (A9 l) (l.length:Int) (i:Int) (A9 a) (Mn a) b c =
    cond (ltI 4096 ((l.getD i []).length:Int)) (b (Blk.arr true 9 1 []) (Blk.arr true 9 1 (A9 a)) (Blk.box [(PV.s (SV.bool false)),(PV.s (SV.bool false)),(PV.fl 2)]) (Blk.ms false (Mn a)) (Blk.box [(PV.it 4)]) [])
     (Lw LF z t (A9 l) (l.length:Int) (i:Int) (A9 a) (Mn a) (l.getD i []) (λq p g j k h o=>Q4 LF n q p g j (A1 (k+1)) h o b c)):=λb c=>by
   rw[Q4,C5 (by omega),G9 (by omega) (by rw[A8];omega),j0,K5 d,L9];rfl
  have D:Og (l.getD i []::l.drop (i+1)) a=cond (ltI 4096 ((l.getD i []).length:Int)) ([],3) (Og (l.drop (i+1)) ((Y6 (l.getD i [])).foldl Ef a)):=rfl;rw[G,D];cases f:ltI 4096 ((l.getD i []).length:Int) with
  | true=>exact .inr ⟨rfl,_,_,_,_,_,_,λb c=>by rw[u,f];rfl⟩
  | false=>
   have J:(l.getD i []).length<=4096:=by
    rw[Y0,decide_eq_false_iff_not] at f;omega
   have M:=Ao9 (l.getD i []);have N:=Yi (Y6 (l.getD i [])) a;have e:∀(b:Kbi R) (c:LL->MS->Option R),Q4 LF (n+1) z t (A9 l) (l.length:Int) (i:Int) (A9 a) (Mn a) b c =
     Q4 LF n z t (A9 l) (l.length:Int) ((i+1:Nat):Int) (A9 ((Y6 (l.getD i [])).foldl Ef a)) (Mn ((Y6 (l.getD i [])).foldl Ef a)) b c:=λb c=>by
    rw[u,f,ab];unfold Lw;rw[D5 (by omega),aa,Ns z t (A9 l) _ _ _ _ a (by omega),C]
   simp only[ab,e];exact L (i+1) n _ (by omega) (by omega) (by omega)
def Ca4(z t:Bool)(l:LL)(m:l.all isS=true)(f:p5 l.length 1000=true):∃r H,Ao0 z t l=rv r H/\r.stab [0,0] H = .tup [.agg [.s (.bool (I5 (F0 (l.map elS)).1 Gk)),.s (.bool (I5 (F0 (l.map elS)).1 Df)),.s (.sl (x4 (F0 (l.map elS)).1) (x4 (F0 (l.map elS)).1) 1 (A9 (F0 (l.map elS)).1))],.s (.int .i64 (F0 (l.map elS)).2)]:=by
 have n:=C9;obtain⟨E,rfl⟩:∃E,l=A9 E:=⟨_,Ca m⟩
 rw[A8] at f;have p:=ad3 f;rw[S7];have e0:F0 E=Og (E.drop 0) []:=rfl;have o:(A9 (F0 E).1).isEmpty=(F0 E).1.isEmpty:=by cases (F0 E).1<;>rfl
 unfold Ao0 LD;rw[A8];rcases YD (R:=PV × List Blk × Unit) z t E p E.length 0 LF [] (by omega) (by omega) (by simp) with⟨b,e,q⟩|⟨b,g,h,i,j,k,H,e⟩
 ·rw[<-e0] at b e q;have a:∀c d,Q4 LF LF z t (A9 E) (E.length:Int) 0 [] [] c d=d (A9 (F0 E).1) (Mn (F0 E).1):=e;simp only[a,Z3,A8,S7,D5 (show(F0 E).1.length<=1000000000 by omega),aa];rw[b];exact⟨_,_,rfl,by simp only[PV.stab,Q3,PV.snap,Nv,Md,List.getElem?_cons_succ,af2,ab5,o];rfl⟩
 ·rw[<-e0] at b;have a:∀c d,Q4 LF LF z t (A9 E) (E.length:Int) 0 [] [] c d=c g h i j k H:=e;rw[a,b];exact⟨_,_,rfl,rfl⟩
end
section
open Go Go.Proofs
section
def JB:List PV->Tr
 | [.s (.int .u8 c)]=>.ret (.s (.bool (ME c))) []
 | _=>.fail
def Bv9(args:List PV):Tr:=JB (D1 [[0]] args)
def BB:List PV->Tr
 | [.s (.int .u8 c)]=>.ret (.s (.bool (Ux c))) []
 | _=>.fail
def Ai8(args:List PV):Tr:=BB (D1 [[0]] args)
def BJ:List PV->Tr
 | [.s (.str s)]=>.need (A2 (c9 s)) (.ret (.s (.sl (x4 (M4 s)) (x4 (M4 s)) 1 (A9 (M4 s)))) [])
 | _=>.fail
def JO(args:List PV):Tr:=BJ (D1 [[0]] args)
def WE:List PV->List Blk->Tr
 | [.agg [.s (.bool up),.s (.bool a),.fl 0],.s (.str v)],[.arr z 9 1 l]=>.need (w8 l isS) (.need (p5 (c9 l) 100000000) (.need (p5 (c9 v) 4096) (.ret (.agg [.s (.bool (up||(I5 (Y6 v) Gk))),.s (.bool (a||(I5 (Y6 v) Df))),.fl 0]) [.arr z 9 1 (A9 (List.foldl Ef (j9 elS l) (Y6 v)))])))
 | _,_=>.fail
def BC:List PV->Tr
 | [.s (.sl b a 1 l)]=>.need (w8 l isS) (.need (p5 (c9 l) 1000) (.ret (.tup [.agg [.s (.bool (I5 ((F0 (j9 elS l))).1 Gk)),.s (.bool (I5 ((F0 (j9 elS l))).1 Df)),.s (.sl (x4 ((F0 (j9 elS l))).1) (x4 ((F0 (j9 elS l))).1) 1 (A9 ((F0 (j9 elS l))).1))],.s (.int .i64 ((F0 (j9 elS l))).2)]) []))
 | _=>.fail
def Ai9(args:List PV):Tr:=BC (D1 [[1]] args)
def JA:List PV->Tr
 | [.s (.sl b a 1 l),.s (.str s)]=>.need (w8 l isS) (.need (p5 (c9 l) 100000000) (.split (atB (j9 elS l) s) (.ret (.s (.sl b a 1 l)) []) (.ret (.s (.sl false false 1 (A9 (Kt (j9 elS l) s)))) [])))
 | _=>.fail
def Bv8(args:List PV):Tr:=JA (D1 [[1],[0]] args)
def BA:List PV->Tr
 | [.s (.sl b a 2 l)]=>.need (w8 l Qg) (.need (w8 l Zw) (.need (A2 (c9 l)) (.ret (.tup [.agg [.s (.bool (cS (L3 (j9 M0 l)))),.s (.bool (cP (L3 (j9 M0 l)))),.s (.bool (cU (L3 (j9 M0 l)))),.s (.bool (cB (L3 (j9 M0 l)))),.s (.sl (x4 (cH (L3 (j9 M0 l)))) (x4 (cH (L3 (j9 M0 l)))) 1 (A9 (cH (L3 (j9 M0 l)))))],.s (.int .i64 (cE (L3 (j9 M0 l))))]) [])))
 | _=>.fail
def IS(args:List PV):Tr:=BA (D1 [[2]] args)
end
end
end Go.Proofs.YteickfjoihhgkaaGreatDoor.E
