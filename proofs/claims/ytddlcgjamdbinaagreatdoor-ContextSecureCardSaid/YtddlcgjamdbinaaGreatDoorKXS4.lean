/-
  Parts of the proof, merged by a program of the prover's own; no condition.
-/
import Derived.Test.YtddlcgjamdbinaaGreatDoorKXS3
import Derived.Lib.IndexAny
import Derived.Lib.JoinLaws
import Derived.Lib.LastIndexLaws
import Derived.Lib.TrimAscii
open Int renaming toNat_natCast->c9,toNat->j9,eq_ofNat_of_zero_le->o6,tdiv->ac0,tmod->ac1,natCast_mul->ag9
open Bool renaming not_true->j0,not_false->j1,false_eq_true->p4,and_eq_true->p9,and_true->ab9,or_eq_true->ac3,eq_false_iff->ag0,not_eq_true'->ag1,true_and->ah9
open List renaming getD->j2,replicate->j4,length->j5,drop_of_length_le->j7,getD_eq_getElem?_getD->k9,getElem?_eq_getElem->o9,isPrefixOf->p5,drop_zero->p6,take_of_length_le->p7,nil_append->v8,length_take->w6,mem_cons->w8,getD_cons_zero->w9,mem_of_mem_drop->x4,append_assoc->x6,getElem_cons_drop->x7,length_cons->x8,length_drop->x9,append_nil->y5,flatten->y8,mem_of_mem_take->y9,length_pos_iff->z7,cons_append->aa1,take_zero->aa2,drop_append_of_le_length->aa3,length_singleton->aa5,all_eq_true->aa7,getLastD_eq_getLast?->aa8,map_cons->ab0,length_nil->ab1,length_append->ab2,mem_singleton->ab3,length_map->ac4,map_congr_left->ac7,replicate_succ->ac8,count_eq_zero->ad0,isPrefixOf_iff_prefix->ad1,length_eq_zero_iff->ad5,map->ad6,set->ad7,mem_append->ae2,dropLast_eq_take->ae5,take_append_drop->ae6,all->ae9,getLast?_append->af0,take->af3,getD_cons_succ->af4,all_cons->af5,map_drop->af6,set_cons_zero->af7,mem_map->ag2,mem_of_head?->ag3,isEmpty_iff->ag5,map_id->ag7,isSuffixOf->ah0,map_append->ah1,map_take->ai1,isEmpty->aj0,map_map->aj1
open Go.Lib renaming decDigits->j6,index->o8,cut->s8,decDigits_one->x5,join->aa0,indexByte->aa9,join_one->ab5,indexAny->ad9,index_spec->ae8,occAt->ag4,join_cons->ai0,index_ge->ai8,join_nil->ai9
open Eq renaming trans->j8
open Option renaming isSome_some->o0,getD_some->o5,isSome->v7,isSome_none->ab4,map_some->ac6,bind_some->ag6
open Option.some renaming injEq->o7,inj->ah2
open UInt8 renaming ofNat->s9,toNat_inj->ae4
open Nat renaming pow_succ->x3,strongRecOn->y7,ble->aa4,le_trans->ab6,ble_eq_true_of_le->ab7,le_of_ble_eq_true->ab8,mul_le_mul_right->ac2,min_eq_left->ac5,zero_add->ac9,or_lt_two_pow->ad3,le_mul_of_pos_right->ad8,add_zero->ae0,ble_eq->ae1,div_le_self->ae3,le_refl->af1,one_mul->af2,add_sub_cancel->af8,pow_pos->ag8,mul_le_mul->ah3,add_assoc->ai2,add_comm->aj2,mul_comm->aj3,sub_self->aj4
open Go.IntKind renaming bits->aa6,u16->ae7
open Classical renaming byContradiction->ad2
open Ne renaming symm->ad4
open BEq renaming comm->af9
open Go.Proofs.Tryz renaming f51->ah4,f65->ah5,f70->ah6,f88->ah7,f97->ah8,f113->ai3,f123->ai4,f145->ai5,f152->ai6,f194->ai7,f29->aj5,f30->aj6,f36->aj7,f39->aj8,f50->aj9,f53->ak0,f66->ak1,f86->ak2
set_option maxRecDepth 100000
variable{R:Type}
namespace Go.Proofs.YtddlcgjamdbinaaGreatDoor.E
set_option linter.all false
section
open Go Go.Proofs
section
variable {W R : Type} (L : Nat) (Q : G4) (Y : Yh W) (s : W) (k : Out -> St W -> Option R)
noncomputable def A58(L:Nat):Cfg:=D0 L [110] (A4 []) [] (A4 [(1,[4]),(0,[0,0])]) [] (A4 []) (some [4]) [] [] []
noncomputable def Dh3(L:Nat)(c a:By)(d:Bool->Option R):Option R:=cond (not (ltI (c.length:Int) (a.length:Int))) (cond (L3 0 (a.length:Int) c.length) (vl (cut c 0 (a.length:Int)) λb=>d (b==a)) none) (d false)
def Dh4(d:Nat)(s0 prefix1):evC (A58 L) (d+1) W Y 110 [pS s0,pS prefix1] [] s=Dh3 L s0 prefix1 (λa=>some (pB a,[],s)):=by refine(evE (fn:=Tryz.f110) (by kernel_rfl)).trans ?_;generalize evC (A58 L) d=Q;unfold Dh3;kernel_rfl
noncomputable def A54(L:Nat):Cfg:=D0 L [69] (A4 []) [(110,VT)] (A4 [(1,[4]),(0,[0,0])]) [110] (A4 []) (some [4]) [] [] []
noncomputable def GK(L:Nat)(b a:By)(c:Bool->Option R):Option R:=cond (A2 b.length) (c (p5 a b)) none
def Df0(d:Nat)(s0 prefix1):evC (A54 L) (d+1) W Y 69 [pS s0,pS prefix1] [] s=GK L s0 prefix1 (λa=>some (pB a,[],s)):=by refine(evE (fn:=Tryz.f69) (by kernel_rfl)).trans ?_;generalize evC (A54 L) d=Q;unfold GK;kernel_rfl
noncomputable def A59(L:Nat):Cfg:=D0 L [149] (A4 []) [] (A4 [(1,[4]),(0,[0,0])]) [] (A4 []) (some [4]) [] [] []
noncomputable def Dh5(L:Nat)(b a:By)(e:Bool->Option R):Option R:=cond (not (ltI (b.length:Int) (a.length:Int))) (vl (A1 ((b.length:Int)-(a.length:Int))) λc=>cond (L3 c (b.length:Int) b.length) (vl (cut b c (b.length:Int)) λd=>e (d==a)) none) (e false)
def Dh6(d:Nat)(s0 suffix1):evC (A59 L) (d+1) W Y 149 [pS s0,pS suffix1] [] s=Dh5 L s0 suffix1 (λa=>some (pB a,[],s)):=by refine(evE (fn:=Tryz.f149) (by kernel_rfl)).trans ?_;generalize evC (A59 L) d=Q;unfold Dh5;kernel_rfl
noncomputable def A55(L:Nat):Cfg:=D0 L [116] (A4 []) [(149,A20)] (A4 [(1,[4]),(0,[0,0])]) [149] (A4 []) (some [4]) [] [] []
noncomputable def Df1(L:Nat)(b a:By)(c:Bool->Option R):Option R:=cond (A2 b.length) (c (ah0 a b)) none
def Df2(d:Nat)(s0 suffix1):evC (A55 L) (d+1) W Y 116 [pS s0,pS suffix1] [] s=Df1 L s0 suffix1 (λa=>some (pB a,[],s)):=by refine(evE (fn:=Tryz.f116) (by kernel_rfl)).trans ?_;generalize evC (A55 L) d=Q;unfold Df1;kernel_rfl
noncomputable def YF(L:Nat):Cfg:=D0 L [168] (A4 []) [(149,A20)] (A4 [(3,[4]),(2,[4]),(1,[0,0,5]),(0,[0,0])]) [149] (A4 []) (some [4]) [] [] []
noncomputable def Bz2(L:Nat)(b a:By)(d:By->Option R):Option R:=cond (A2 b.length) (cond (ah0 a b) (vl (A1 ((b.length:Int)-(a.length:Int))) λc=>cond (L3 0 c b.length) (d (cut b 0 c)) none) (d b)) none
def Cv4(d:Nat)(s0 suffix1):evC (YF L) (d+1) W Y 168 [pS s0,pS suffix1] [] s=Bz2 L s0 suffix1 (λa=>some (pS a,[],s)):=by refine(evE (fn:=Tryz.f168) (by kernel_rfl)).trans ?_;generalize evC (YF L) d=Q;unfold Bz2;kernel_rfl
noncomputable def YO(L:Nat):Cfg:=D0 L [144] (A4 []) [(168,Bu1)] (A4 [(1,[4]),(0,[0,0])]) [168] (A4 []) (some [4]) [] [] []
noncomputable def B22(L:Nat)(b a:By)(c:By->Option R):Option R:=cond (A2 b.length) (c (Ah2 b a)) none
def C35(d:Nat)(s0 suffix1):evC (YO L) (d+1) W Y 144 [pS s0,pS suffix1] [] s=B22 L s0 suffix1 (λa=>some (pS a,[],s)):=by refine(evE (fn:=Tryz.f144) (by kernel_rfl)).trans ?_;generalize evC (YO L) d=Q;unfold B22;kernel_rfl
noncomputable def YC(L:Nat):Cfg:=D0 L [105] (A4 []) [(110,VT)] (A4 [(3,[4,0]),(2,[4,0]),(1,[0,0,7]),(0,[0,0])]) [110] (A4 []) (some [4,0]) [] [] []
noncomputable def By7(L:Nat)(b a:By)(d:By->Bool->Option R):Option R:=cond (A2 b.length) (cond (not (p5 a b)) (d b false) (cond (L3 (a.length:Int) (b.length:Int) b.length) (vl (cut b (a.length:Int) (b.length:Int)) λc=>d c true) none)) none
def Cu8(d:Nat)(s0 prefix1):evC (YC L) (d+1) W Y 105 [pS s0,pS prefix1] [] s=By7 L s0 prefix1 (λa b=>some (.tup [pS a,pB b],[],s)):=by refine(evE (fn:=Tryz.f105) (by kernel_rfl)).trans ?_;generalize evC (YC L) d=Q;unfold By7;kernel_rfl
noncomputable def A49(L:Nat):Cfg:=D0 L [67] (A4 []) [(105,Bt8)] (A4 [(1,[4,0]),(0,[0,0])]) [105] (A4 []) (some [4,0]) [] [] []
noncomputable def Db2(L:Nat)(b a:By)(c:By->Bool->Option R):Option R:=cond (A2 b.length) (c (Iz b a) (p5 a b)) none
def Db3(d:Nat)(s0 prefix1):evC (A49 L) (d+1) W Y 67 [pS s0,pS prefix1] [] s=Db2 L s0 prefix1 (λa b=>some (.tup [pS a,pB b],[],s)):=by refine(evE (fn:=Tryz.f67) (by kernel_rfl)).trans ?_;generalize evC (A49 L) d=Q;unfold Db2;kernel_rfl
noncomputable abbrev Al3:Code:=D4 ai6
noncomputable def Fk(L:Nat):Cfg:=D0 L [152] (A4 [(11,[0,0,0,0,4,0,0])]) [(171,Lp),(172,A29),(128,JJ)] (A4 [(18,[8]),(17,[9,0]),(16,[0,0,0,0,5,0]),(15,[0,0,0,0,5,0]),(14,[0,0,0,0,5,0,0]),(13,[0,0,0,0,5,0,0,29]),(12,[0,0,0,0,5,0,0]),(11,[0,0,0,0,5,0,25]),(10,[0,0,0,0,5,0]),(9,[0,0,0,0,5]),(8,[0,0,0,0,5]),(7,[0,0,0,0]),(6,[0,0,0,0]),(5,[0,0,0,0,16]),(4,[8]),(3,[0,0,0,0,11]),(2,[8]),(1,[0,0,0,0,9]),(0,[0,0,0,0])]) [172,128] (A4 [(0,[0,8,0]),(1,[0,0,0,0,5,0])]) (some [8]) [] [] []
noncomputable def Cn(L n:Nat)(c b:By)(a l d:Int)(g:LL)(j:By->Int->LL->Option R):Option R:=match n with|0=>none|n+1=>cond (ltI d l) (cond (A2 c.length) (cond (ltI (o8 c b) (0:Int)) (j c d g) (vl (A1 ((o8 c b)+a)) λe=>cond (L3 0 e c.length) (cond (inR d g.length) (cond (decide ((j9 d)<g.length)) (vl (ad7 g (j9 d) (H7 (j2 g (j9 d) []) 0 [(SV.str (cut c 0 e))])) λh=>vl (A1 ((o8 c b)+(b.length:Int))) λf=>cond (L3 f (c.length:Int) c.length) (vl (cut c f (c.length:Int)) λi=>Cn L n i b a l (A1 (d+1)) h j) none) none) none) none)) none) (j c d g)
def Yp(n a sep1 sepSave2 n3 i4 l5):E0 1 ((Fk L).keep 11) (bd (Fk L) Q Y (cd [1,1,1,1,1,1,1,1,0,0,0] Al3)) n ⟨gp [(0,pS a),(0,pS sep1),(0,pI sepSave2),(0,pI n3),(5,.fl 0),(0,pI i4)] 55,[.arr false 9 1 l5],s⟩ k =
 Cn L n a sep1 sepSave2 n3 i4 l5 (λa b d=>k (.exit 0) ⟨gp [(0,pS a),(8,.fl 0),(0,pI b)] 55,[.arr false 9 1 d],s⟩):=by
 induction n generalizing a sep1 sepSave2 n3 i4 l5 with
 | zero=>rfl
 | succ n c=>rw[Cn];simp only[<-c];kernel_rfl
noncomputable def LW(L:Nat)(t d:By)(a u:Int)(w:Unit->Option R)(v:Nat->LL->Option R):Option R:=cond (u==0) (w ()) (cond (d==[]) none (cond (ltI u 0) (cond (d.length==1) (vl (↑(List.count (j2 d 0 0) t):Int) λn=>vl (A1 ((t.length:Int)+1)) λo=>vl (if (o<(A1 (n+1))) then o else (A1 (n+1))) λg=>cond (((decide ((0:Int)<=g))&&(decide (g<=g)))&&(G0 (j9 g))) (Cn L L t d a (A1 (g-1)) 0 (j4 (j9 g) [(SV.str ([]:By))]) (λq b e=>cond (inR b e.length) (cond (decide ((j9 b)<e.length)) (vl (ad7 e (j9 b) (H7 (j2 e (j9 b) []) 0 [(SV.str q)])) λi=>vl (A1 (b+1)) λl=>cond (L3 0 l i.length) (v ((j9 l)-0) i) none) none) none)) none) none) (vl (A1 ((t.length:Int)+1)) λp=>vl (if (p<u) then p else u) λh=>cond (((decide ((0:Int)<=h))&&(decide (h<=h)))&&(G0 (j9 h))) (Cn L L t d a (A1 (h-1)) 0 (j4 (j9 h) [(SV.str ([]:By))]) (λr c f=>cond (inR c f.length) (cond (decide ((j9 c)<f.length)) (vl (ad7 f (j9 c) (H7 (j2 f (j9 c) []) 0 [(SV.str r)])) λj=>vl (A1 (c+1)) λm=>cond (L3 0 m j.length) (v ((j9 m)-0) j) none) none) none)) none)))
def RY(d:Nat)(s0 sep1 sepSave2 n3):evC (Fk L) (d+1) W Y 152 [pS s0,pS sep1,pI sepSave2,pI n3] [] s=LW L s0 sep1 sepSave2 n3 (λ_=>some (.fl 0,[.arr true 9 1 []],s)) (λc f=>some (.vw 0 0 c,[.arr false 9 1 f],s)):=by refine(evE (fn:=ai6) (by kernel_rfl)).trans ?_;generalize evC (Fk L) d=Q;unfold LW;exact let e:=(F0 0 (F5 (Fk L) Q Y (cd [1,1,1,1,1,1,1,1,1] Al3) (G1 (Fk L) ai6)));(j8 (by kernel_rfl) (A0 rfl (A0 rfl (A0 (A0 (A5 λg=>(A5 λh=>(A5 λa=>(A0 ((Yp L Q Y s e L s0 sep1 sepSave2 (A1 (a-1)) 0 (j4 (j9 a) [(SV.str ([]:By))])).trans (by kernel_rfl)) rfl)))) rfl) (A5 λi=>(A5 λb=>(A0 ((Yp L Q Y s e L s0 sep1 sepSave2 (A1 (b-1)) 0 (j4 (j9 b) [(SV.str ([]:By))])).trans (by kernel_rfl)) rfl)))))))
noncomputable def KP(L:Nat):Cfg:=D0 L [125] (A4 []) [(152,Aj6)] (A4 [(1,[4]),(0,[0,0])]) [] (A4 []) (some [4]) [] [] []
noncomputable def Ag4(L:Nat)(c a:By)(d:LL->Option R):Option R:=cond (A2 c.length) (cond (a.length==1) (cond ((0:Int)==0) (cond (((-1):Int)==((-1):Int)) (vl (C2 (pcs (j2 a 0 0) c)) λb=>d b) none) none) none) none
def Ch9(d:Nat)(s0 sep1):evC (KP L) (d+1) W Y 125 [pS s0,pS sep1] [] s=Ag4 L s0 sep1 (λa=>some (.s (.sl false false 1 a),[],s)):=by refine(evE (fn:=Tryz.f125) (by kernel_rfl)).trans ?_;generalize evC (KP L) d=Q;unfold Ag4;kernel_rfl
noncomputable abbrev Cp0:Code:=D4 ak1
noncomputable def Vn(L:Nat):Cfg:=D0 L [66] (A4 [(3,[0,1,0,6,0])]) [] (A4 [(10,[2]),(9,[0,2,6,0]),(8,[0,2,6,0]),(7,[0,2,1,4,0]),(6,[0,2,1,4,0,10]),(5,[0,2,1,4,0]),(4,[0,2,0,5,0]),(3,[0,2,6,0,0]),(2,[0,2,6,0]),(1,[0,2]),(0,[0])]) [] (A4 [(0,[3]),(1,[0,2,6,0])]) (some [2]) [] [] []
noncomputable def Gv(L n:Nat)(b:By)(e a:Int)(c:LL)(d:LL->Option R):Option R:=match n with|0=>none|n+1=>cond (ltI a e) (cond (inR a b.length) (cond (not (ltI (bAt b a) (65:Int))) (cond (not (ltI 90 (bAt b a))) (vl (wu8 ((bAt b a)+32)) λf=>cond (G0 (c.length+1)) (Gv L n b e (A1 (a+1)) (c++[[(SV.int .u8 f)]]) d) none) (cond (G0 (c.length+1)) (Gv L n b e (A1 (a+1)) (c++[[(SV.int .u8 (bAt b a))]]) d) none)) (cond (G0 (c.length+1)) (Gv L n b e (A1 (a+1)) (c++[[(SV.int .u8 (bAt b a))]]) d) none)) none) (d c)
def Bc0(n s0 n1 n2 l3):E0 1 ((Vn L).keep 3) (bd (Vn L) Q Y (cd [1,1,0,1,0,0] Cp0)) n ⟨gp [(0,pS s0),(2,.fl 0),(6,pI n1),(0,pI n2)] 20,[.arr false 5 1 l3],s⟩ k =
 Gv L n s0 n1 n2 l3 (λb=>k (.exit 0) ⟨gp [(3,.fl 0)] 28,[.arr false 5 1 b],s⟩):=by
 induction n generalizing s0 n1 n2 l3 with
 | zero=>rfl
 | succ n a=>rw[Gv];simp only[<-a];kernel_rfl
noncomputable def Dh1(L:Nat)(b:By)(c:By->LL->Option R):Option R:=cond ((decide ((0:Int)<=(b.length:Int)))&&(G0 (j9 (b.length:Int)))) (Gv L L b (b.length:Int) 0 [] (λa=>cond (ae9 a Qg) (c (ad6 Nx a) a) none)) none
def Dh2(d:Nat)(s0):evC (Vn L) (d+1) W Y 66 [pS s0] [] s=Dh1 L s0 (λb a=>some (pS b,[.arr false 5 1 a],s)):=by refine(evE (fn:=ak1) (by kernel_rfl)).trans ?_;generalize evC (Vn L) d=Q;unfold Dh1;exact(j8 (by kernel_rfl) (A0 ((Bc0 L Q Y s (F0 0 (F5 (Vn L) Q Y (cd [1,1,1] Cp0) (G1 (Vn L) ak1))) L s0 (s0.length:Int) 0 []).trans (by kernel_rfl)) rfl))
noncomputable def A52(L:Nat):Cfg:=D0 L [95] (A4 []) [(69,IG)] (A4 [(1,[2]),(0,[0])]) [69] (A4 []) (some [2]) [] [] []
noncomputable def De6(L:Nat)(a:By)(b:Bool->Option R):Option R:=cond (A2 a.length) (cond (p5 ([48,120]:By) a) (b true) (cond (A2 a.length) (b (p5 ([48,88]:By) a)) none)) none
def De7(d:Nat)(s0):evC (A52 L) (d+1) W Y 95 [pS s0] [] s=De6 L s0 (λa=>some (pB a,[],s)):=by refine(evE (fn:=Tryz.f95) (by kernel_rfl)).trans ?_;generalize evC (A52 L) d=Q;unfold De6;kernel_rfl
noncomputable abbrev Gc:Code:=D4 ah8
noncomputable def Y2(L:Nat):Cfg:=D0 L [97] (A4 [(3,[0,0,2,0,0,4,0])]) [] (A4 [(18,[4,0]),(17,[0,0,4,4,0]),(16,[0,0,4,4,0]),(15,[4,0]),(14,[0,0,4,1,2,0,39]),(9,[0,0,4,1,2,0]),(11,[0,0,4,1,2,0]),(13,[0,0,4,1,2,0]),(7,[4,0]),(12,[0,0,4,2,1,0,26]),(10,[0,0,4,2,1,0,15]),(8,[0,0,4,2,1,0,5]),(6,[0,0,4,2,1,0]),(5,[0,0,4,0,3,0]),(4,[0,0,4,0,3,0]),(3,[0,0,4,4,0,0]),(2,[0,0,4,4,0]),(1,[0,0,4]),(0,[0,0])]) [] (A4 [(0,[6]),(1,[0,0,4,4,0]),(2,[0,0,4,1,2,0])]) (some [4,0]) [] [] []
noncomputable def Xx(m:By)(a i b j l:Int)(n:Bool)(g:By->Int->Int->Int->Int->Int->Option R)(h:Unit->Option R):Option R:=cond n (vl (A1 (wu8 (b-97))) λc=>vl (A1 (c+10)) λd=>g m a i d j l) (cond (not (ltI b 65)) (cond (not (ltI 70 b)) (vl (A1 (wu8 (b-65))) λe=>vl (A1 (e+10)) λf=>g m a i f j l) (h ())) (h ()))
abbrev RN(b:Code):Prop:=∀(k:Out->St W->Option R) f a c b3 d e b6,A9 (Y2 L) Q Y b ⟨gp [(0,pS f),(0,pI a),(4,pI c),(2,p8 b3),(1,pI d),(0,pI e),(15,pB b6)] 32,[],s⟩ k=Xx f a c b3 d e b6 (λf a c g d e=>k .normal ⟨gp [(0,pS f),(0,pI a),(4,pI c),(1,pI g),(2,pI d),(0,pI e)] 48,[],s⟩) (λ_=>k .ret ⟨gp [(4,pI (0:Int)),(0,pB false)] 55,[],s⟩)
def A75:RN (R:=R) L Q Y s (cd [1,1,0,1,0,0,1,1,0,0,1,1,0,1,0,1,1,1] Gc):=by intro k g a d b e f c;unfold Xx;kernel_rfl
noncomputable def Xy(v:By)(a q d r t:Int)(x:Bool)(m:By->Int->Int->Int->Int->Int->Option R)(w:Unit->Option R):Option R:=cond x (vl (A1 (wu8 (d-48))) λn=>m v a q n r t) (cond (not (ltI d 97)) (Xx v a q d r t (not (ltI 102 d)) (λu c o l p f=>m u c o l p f) (λ_=>w ())) (Xx v a q d r t false (λj b g e h i=>m j b g e h i) (λ_=>w ())))
abbrev Sx(b:Code):Prop:=∀(k:Out->St W->Option R) f a c b3 d e b6,A9 (Y2 L) Q Y b ⟨gp [(0,pS f),(0,pI a),(4,pI c),(2,p8 b3),(1,pI d),(0,pI e),(5,pB b6)] 42,[],s⟩ k=Xy f a c b3 d e b6 (λf a c g d e=>k .normal ⟨gp [(0,pS f),(0,pI a),(4,pI c),(1,pI g),(2,pI d),(0,pI e)] 48,[],s⟩) (λ_=>k .ret ⟨gp [(4,pI (0:Int)),(0,pB false)] 55,[],s⟩)
def A76(a:Code)(b:RN (R:=R) L Q Y s a):Sx (R:=R) L Q Y s (cd [1,1,0,1,0,0,1,1,0,0,1,1,0,1,0,1] (I2 [1,1,0,1,0,0,1,1,0,0,1,1,0,1,0,1,1,1] a Gc)):=by intro k i c f d g h e;unfold Xy;simp only[<-b k];kernel_rfl
def A77:Sx (R:=R) L Q Y s (cd [1,1,0,1,0,0,1,1,0,0,1,1,0,1,0,1] Gc):=by intro k g a d b e f c;exact j8 (by kernel_rfl) (A76 L Q Y s (cd [1,1,0,1,0,0,1,1,0,0,1,1,0,1,0,1,1,1] Gc) (A75 L Q Y s) k g a d b e f c)
noncomputable def Xz(j:By)(a g d h i:Int)(e:Unit->Option R)(f:By->Int->Int->Int->Int->Option R):Option R:=cond (not (ltI d a)) (e ()) (vl (A1 ((A1 (g*a))+d)) λb=>vl (if ((1099511627776:Int)<b) then (1099511627776:Int) else b) λc=>f j a c h i)
abbrev CW(b:Code):Prop:=∀(k:Out->St W->Option R) e a c d3 d n5,A9 (Y2 L) Q Y b ⟨gp [(0,pS e),(0,pI a),(4,pI c),(1,pI d3),(2,pI d),(0,pI n5)] 48,[],s⟩ k=Xz e a c d3 d n5 (λ_=>k .ret ⟨gp [(4,pI (0:Int)),(0,pB false)] 55,[],s⟩) (λe a c f d=>k .normal ⟨gp [(0,pS e),(0,pI a),(4,pI c),(4,pI f),(0,pI d)] 48,[],s⟩)
def A78:CW (R:=R) L Q Y s (cd [1,1,0,1,0,0,1,1,0,0,1,1,1] Gc):=by intro k f a c b d e;unfold Xz;kernel_rfl
noncomputable def Kf(L n:Nat)(g:By)(e H I f:Int)(h:Unit->Option R)(G:Int->Option R):Option R:=match n with|0=>none|n+1=>cond (ltI f I) (cond (inR f g.length) (cond (not (ltI (bAt g f) (48:Int))) (Xy g e H (bAt g f) I f (not (ltI 57 (bAt g f))) (λB a l i m o=>Xz B a l i m o (λ_=>h ()) (λC b p q r=>vl (A1 (r+1)) λt=>Kf L n C b p q t h G)) (λ_=>h ())) (Xy g e H (bAt g f) I f false (λD c u j v w=>Xz D c u j v w (λ_=>h ()) (λF d x y z=>vl (A1 (z+1)) λA=>Kf L n F d x y A h G)) (λ_=>h ()))) none) (G H)
def A79(b:Code)(d:Sx (R:=R) L Q Y s b)(a:Code)(e:CW (R:=R) L Q Y s a)(n:Nat)(l:By)(c C D j:Int):E0 0 ((Y2 L).keep 3) (bd (Y2 L) Q Y (cd [1,1,0,1,0,0] (I2 [1,1,0,1,0,0,1,1,0,0,1,1,1] a (I2 [1,1,0,1,0,0,1,1,0,0,1,1,0,1,0,1] b Gc)))) n ⟨gp [(0,pS l),(0,pI c),(4,pI C),(4,pI D),(0,pI j)] 48,[],s⟩ k =
 Kf L n l c C D j (λ_=>k .ret ⟨gp [(4,pI (0:Int)),(0,pB false)] 55,[],s⟩) (λn0=>k (.exit 0) ⟨gp [(6,pI n0)] 54,[],s⟩):=by
 induction n generalizing l c C D j with
 | zero=>rfl
 | succ n M=>rw[Kf];exact let J:=(F0 1 (F5 (Y2 L) Q Y (cd [1,1,0,1,0,0,1,1,1] Gc) (lpK 0 ((Y2 L).keep 3) (bd (Y2 L) Q Y (cd [1,1,0,1,0,0] (I2 [1,1,0,1,0,0,1,1,0,0,1,1,1] a (I2 [1,1,0,1,0,0,1,1,0,0,1,1,0,1,0,1] b Gc)))) n k)));let K:=(F0 2 (F5 (Y2 L) Q Y a J));(j8 (by kernel_rfl) (A0 (A0 (A0 ((d K l c C (bAt l j) D j (not (ltI 57 (bAt l j)))).trans (congr (congr rfl (fx6 λF f p m q r=>(j8 (by kernel_rfl) ((e J F f p m q r).trans (congr (congr rfl (by kernel_rfl)) (fx5 λG g t u N=>(j8 (by kernel_rfl) (A5 λv=>(M G g t u v))))))))) (by kernel_rfl))) ((d K l c C (bAt l j) D j false).trans (congr (congr rfl (fx6 λH h w o x y=>(j8 (by kernel_rfl) ((e J H h w o x y).trans (congr (congr rfl (by kernel_rfl)) (fx5 λI i z A O=>(j8 (by kernel_rfl) (A5 λB=>(M I i z A B))))))))) (by kernel_rfl)))) rfl) rfl))
noncomputable def Cr4(L:Nat)(d:By)(a:Int)(c:Int->Bool->Option R):Option R:=Kf L L d a 0 (d.length:Int) 0 (λ_=>c 0 false) (λb=>c b true)
def Dc3(a:Code)(d:Sx (R:=PV × List Blk × W) L Q Y s a)(b:Code)(e:CW (R:=PV × List Blk × W) L Q Y s b)(f:By)(c:Int):A9 (Y2 L) Q Y (cd [] (I2 [1,1,0,1,0,0,1,1,0,0,1,1,1] b (I2 [1,1,0,1,0,0,1,1,0,0,1,1,0,1,0,1] a Gc))) ⟨[pS f,pI c]++tps 59,[],s⟩ (G1 (Y2 L) ah8)=Cr4 L f c (λg h=>some (.tup [pI g,pB h],[],s)):=by unfold Cr4;exact(j8 (by kernel_rfl) ((A79 L Q Y s (F0 0 (F5 (Y2 L) Q Y (cd [1,1,1] Gc) (G1 (Y2 L) ah8))) a d b e L f c 0 (f.length:Int) 0).trans (by kernel_rfl)))
def Dc4(d:Nat)(s0 base1):evC (Y2 L) (d+1) W Y 97 [pS s0,pI base1] [] s=Cr4 L s0 base1 (λa b=>some (.tup [pI a,pB b],[],s)):=
 (evE (fn:=ah8) (by kernel_rfl)).trans (j8 (by kernel_rfl) (Dc3 L (evC (Y2 L) d) Y s (cd [1,1,0,1,0,0,1,1,0,0,1,1,0,1,0,1] Gc) (A77 L (evC (Y2 L) d) Y s) (cd [1,1,0,1,0,0,1,1,0,0,1,1,1] Gc) (A78 L (evC (Y2 L) d) Y s) s0 base1))
noncomputable def Cq2(L:Nat):Cfg:=D0 L [96] (A4 []) [(95,A16),(97,UT)] (A4 [(7,[2,0]),(2,[2,0]),(4,[2,0]),(6,[2,0]),(5,[0,14]),(3,[0,6]),(1,[0,3]),(0,[0])]) [95,97] (A4 [(0,[0])]) (some [2,0]) [] [] []
noncomputable def num(L:Nat)(a:By)(d:Int->Bool->Option R):Option R:=cond (a==[]) (d 0 false) (cond (A2 a.length) (cond (Ab a) (cond (L3 2 (a.length:Int) a.length) (vl (cut a 2 (a.length:Int)) λb=>cond (A2 b.length) (cond (ltN 16 17) (vl (↑(O6 (F9 16 0 b)):Int) λe=>d e (v7 (F9 16 0 b))) none) none) none) (cond (ltI 1 (a.length:Int)) (cond (inR 0 a.length) (cond ((bAt a (0:Int))==48) (cond (L3 1 (a.length:Int) a.length) (vl (cut a 1 (a.length:Int)) λc=>cond (A2 c.length) (cond (ltN 8 17) (vl (↑(O6 (F9 8 0 c)):Int) λf=>d f (v7 (F9 8 0 c))) none) none) none) (cond (A2 a.length) (cond (ltN 10 17) (vl (↑(O6 (F9 10 0 a)):Int) λg=>d g (v7 (F9 10 0 a))) none) none)) none) (cond (A2 a.length) (cond (ltN 10 17) (vl (↑(O6 (F9 10 0 a)):Int) λh=>d h (v7 (F9 10 0 a))) none) none))) none)
def Dz0(d:Nat)(s0):evC (Cq2 L) (d+1) W Y 96 [pS s0] [] s=num L s0 (λa b=>some (.tup [pI a,pB b],[],s)):=by refine(evE (fn:=Tryz.f96) (by kernel_rfl)).trans ?_;generalize evC (Cq2 L) d=Q;unfold num;kernel_rfl
noncomputable def YH(L:Nat):Cfg:=D0 L [94] (A4 []) [(125,Xg)] (A4 [(5,[2]),(4,[3]),(3,[3,0,13]),(2,[3,0]),(1,[3]),(0,[0])]) [] (A4 []) (some [2]) [] [] []
noncomputable def parts(L:Nat)(e:By)(c:LL->Option R):Option R:=cond (A2 e.length) (cond (1==1) (vl (C2 (pcs (j2 ([46]:By) 0 0) e)) λa=>vl (A1 ((a.length:Int)-1)) λb=>cond (ltI 0 b) (cond (inR b a.length) (cond (okE Dr a (j9 b) 0) (vl (gX a (j9 b) 0) λd=>cond (d==[]) (cond (L3 0 b a.length) (c (cut a 0 b)) none) (c a)) none) none) (c a)) none) none
def Cx2(d:Nat)(s0):evC (YH L) (d+1) W Y 94 [pS s0] [] s=parts L s0 (λa=>some (.s (.sl false false 1 a),[],s)):=by refine(evE (fn:=Tryz.f94) (by kernel_rfl)).trans ?_;generalize evC (YH L) d=Q;unfold parts;kernel_rfl
noncomputable def CL(L:Nat):Cfg:=D0 L [58] (A4 []) [(94,WA),(95,A16),(96,Cm7),(97,UT)] (A4 [(7,[2]),(6,[4,3]),(5,[2]),(4,[6]),(3,[4,13]),(2,[4]),(1,[3]),(0,[0])]) [95,96,97] (A4 []) (some [2]) [] [] []
noncomputable def HD(L:Nat)(c:By)(d:Bool->Option R):Option R:=cond (A2 c.length) (vl (A1 ((↑(j5 (C2 (D8 c))):Int)-1)) λb=>cond (inR b (j5 (C2 (D8 c)))) (cond (okE Dr (C2 (D8 c)) (j9 b) 0) (vl (gX (C2 (D8 c)) (j9 b) 0) λa=>cond (A2 a.length) (cond (Ab a) (cond (A2 a.length) (vl (↑(O6 (Ar a)):Int) λe=>d (v7 (Ar a))) none) (cond (A2 a.length) (cond (ltN 10 17) (vl (↑(O6 (F9 10 0 a)):Int) λf=>cond (v7 (F9 10 0 a)) (d (not (a==[]))) (d false)) none) none)) none) none) none) none
def Bd5(d:Nat)(s0):evC (CL L) (d+1) W Y 58 [pS s0] [] s=HD L s0 (λa=>some (pB a,[],s)):=by refine(evE (fn:=Tryz.f58) (by kernel_rfl)).trans ?_;generalize evC (CL L) d=Q;unfold HD;kernel_rfl
noncomputable abbrev Cp2:Code:=D4 ai5
noncomputable def Vp(L:Nat):Cfg:=D0 L [145] (A4 [(6,[2,0,0,0,10,0,0])]) [(94,WA),(96,Cm7)] (A4 [(20,[2,0]),(19,[4,0,10,0,0]),(18,[4,0,10,0,0]),(17,[2,0]),(16,[4,0,2,1,5,0,0,29]),(15,[4,0,2,1,5,0,0]),(14,[4,0,10,0,0]),(13,[2,0]),(12,[4,0,2,7,0,0,17]),(11,[4,0,2,7,0,0,15]),(10,[2,0]),(9,[4,0,0,1,7,0,0,10]),(8,[4,0,0,1,0,6,0,0]),(7,[4,0,0,0,8,0,0]),(6,[4,0,10,0,0,0]),(5,[4,0,10,0,0]),(4,[4,0]),(3,[2,0]),(2,[4,10]),(1,[4]),(0,[0])]) [96] (A4 [(0,[5]),(1,[4,0,10,0,0])]) (some [2,0]) [] [] []
noncomputable def Kl(L n:Nat)(a:LL)(v1 l d:Int)(e:Unit->Option R)(h:Int->Option R):Option R:=match n with|0=>none|n+1=>cond (ltI d l) (cond (inR d a.length) (cond (okE Dr a (j9 d) 0) (cond (A2 (j5 (gX a (j9 d) 0))) (vl (↑(O6 (Ar (gX a (j9 d) 0))):Int) λb=>cond (not (v7 (Ar (gX a (j9 d) 0)))) (e ()) (vl (A1 ((a.length:Int)-1)) λi=>cond (ltI d i) (cond (ltI 255 b) (e ()) (vl (bOr .i64 (Ub .i64 v1 (8:Int)) b) λj=>Kl L n a j l (A1 (d+1)) e h)) (vl (A1 ((5:Int)-(a.length:Int))) λc=>cond (decide ((0:Int)<=(A1 ((8:Int)*c)))) (vl (Ub .i64 (1:Int) (A1 ((8:Int)*c))) λf=>cond (not (ltI b f)) (e ()) (cond (decide ((0:Int)<=(A1 ((8:Int)*c)))) (vl (Ub .i64 v1 (A1 ((8:Int)*c))) λg=>Kl L n a (bOr .i64 g b) l (A1 (d+1)) e h) none)) none))) none) none) none) (h v1)
def Bf7(n l0 v1 n2 n3):E0 0 ((Vp L).keep 6) (bd (Vp L) Q Y (cd [1,0,1,1,1,1,0,1,0,0] Cp2)) n ⟨gp [(4,.s (.sl false false 1 l0)),(0,pI v1),(10,.s (.sl false false 1 l0)),(0,pI n2),(0,pI n3)] 38,[],s⟩ k =
 Kl L n l0 v1 n2 n3 (λ_=>k .ret ⟨gp [(2,p32 (0:Int)),(0,pB false)] 53,[],s⟩) (λv0=>k (.exit 0) ⟨gp [(5,pI v0)] 51,[],s⟩):=by
 induction n generalizing l0 v1 n2 n3 with
 | zero=>rfl
 | succ n a=>rw[Kl];simp only[<-a];kernel_rfl
noncomputable def Dj5(L:Nat)(b:By)(c:Int->Bool->Option R):Option R:=cond (A2 b.length) (cond (ltI 4 (↑(j5 (C2 (D8 b))):Int)) (c 0 false) (Kl L L (C2 (D8 b)) 0 (↑(j5 (C2 (D8 b))):Int) 0 (λ_=>c 0 false) (λa=>c (EM a) true))) none
def Dj6(d:Nat)(s0):evC (Vp L) (d+1) W Y 145 [pS s0] [] s=Dj5 L s0 (λa b=>some (.tup [p32 a,pB b],[],s)):=by refine(evE (fn:=ai5) (by kernel_rfl)).trans ?_;generalize evC (Vp L) d=Q;unfold Dj5;exact(j8 (by kernel_rfl) (A0 (A0 rfl ((Bf7 L Q Y s (F0 0 (F5 (Vp L) Q Y (cd [1,0,1,1,1,1,1] Cp2) (G1 (Vp L) ai5))) L (C2 (D8 s0)) 0 (↑(j5 (C2 (D8 s0))):Int) 0).trans (by kernel_rfl))) rfl))
noncomputable abbrev Du2:Code:=D4 ai7
noncomputable def KT(L:Nat):Cfg:=D0 L [194] (A4 [(6,[2,0,1,9,0,0])]) [(125,Xg),(97,UT),(61,A18)] (A4 [(13,[2,0]),(12,[5,9,0,0]),(11,[5,9,0,0]),(10,[2,0]),(9,[5,2,6,0,0,19]),(8,[5,1,0,0,5,0,0]),(7,[5,1,7,0,0]),(6,[5,9,0,0,0]),(5,[5,9,0,0]),(4,[4,0]),(3,[2,0]),(2,[4,9]),(1,[4]),(0,[0])]) [97,61] (A4 [(0,[5]),(1,[5,9,0,0])]) (some [2,0]) [] [] []
noncomputable def Ww(L n:Nat)(v0:Int)(c:LL)(h b:Int)(d:Unit->Option R)(g:Int->Option R):Option R:=match n with|0=>none|n+1=>cond (ltI b h) (cond (inR b c.length) (cond (okE Dr c (j9 b) 0) (cond (A2 (j5 (gX c (j9 b) 0))) (cond (ltN 10 17) (vl (↑(O6 (F9 10 0 (gX c (j9 b) 0))):Int) λa=>cond (not (v7 (F9 10 0 (gX c (j9 b) 0)))) (d ()) (cond (ltI 255 a) (d ()) (cond (ltN a 4294967296) (vl (j6 (j9 a)) λf=>cond (not (f==(gX c (j9 b) 0))) (d ()) (vl (bOr .u32 (Ub .u32 v0 (8:Int)) (EM a)) λe=>Ww L n e c h (A1 (b+1)) d g)) none))) none) none) none) none) (g v0)
def Ck1(n v0 l1 n2 n3):E0 0 ((KT L).keep 6) (bd (KT L) Q Y (cd [1,1,1,1,0,1,0,0] Du2)) n ⟨gp [(5,p32 v0),(9,.s (.sl false false 1 l1)),(0,pI n2),(0,pI n3)] 27,[],s⟩ k =
 Ww L n v0 l1 n2 n3 (λ_=>k .ret ⟨gp [(2,p32 (0:Int)),(0,pB false)] 41,[],s⟩) (λv0=>k (.exit 0) ⟨gp [(5,p32 v0)] 39,[],s⟩):=by
 induction n generalizing v0 l1 n2 n3 with
 | zero=>rfl
 | succ n a=>rw[Ww];simp only[<-a];kernel_rfl
noncomputable def v4p(L:Nat)(d:By)(b:Int->Bool->Option R):Option R:=cond (A2 d.length) (cond (1==1) (vl (C2 (pcs (j2 ([46]:By) 0 0) d)) λa=>cond ((a.length:Int)!=4) (b 0 false) (Ww L L 0 a (a.length:Int) 0 (λ_=>b 0 false) (λc=>b c true))) none) none
def D10(d:Nat)(s0):evC (KT L) (d+1) W Y 194 [pS s0] [] s=v4p L s0 (λb c=>some (.tup [p32 b,pB c],[],s)):=by refine(evE (fn:=ai7) (by kernel_rfl)).trans ?_;generalize evC (KT L) d=Q;unfold v4p;exact(j8 (by kernel_rfl) (A0 (A0 (A5 λa=>(A0 rfl ((Ck1 L Q Y s (F0 0 (F5 (KT L) Q Y (cd [1,1,1,1,1] Du2) (G1 (KT L) ai7))) L 0 a (a.length:Int) 0).trans (by kernel_rfl)))) rfl) rfl))
noncomputable abbrev Du1:Code:=D4 aj7
noncomputable def KR(L:Nat):Cfg:=D0 L [36] (A4 [(3,[0,1,0,0])]) [(61,A18)] (A4 [(6,[2]),(4,[0,2,0]),(5,[0,2,0]),(3,[0,2,0,1]),(2,[0,2,0]),(1,[0,2]),(0,[0])]) [61] (A4 [(0,[3]),(1,[0,2,0])]) (some [2]) [] [] []
noncomputable def Jt(L n:Nat)(v0:Int)(a:By)(e:Int)(f:By->Option R):Option R:=match n with|0=>none|n+1=>cond (not (ltI e 0)) (cond (decide ((0:Int)<=e)) (vl (A42 .u32 (Sa .u32 v0 e) (255:Int)) λb=>cond (ltN (A1 b) 4294967296) (vl (j6 (j9 (A1 b))) λc=>cond (J1 c.length 1) (vl (c++[46]) λd=>cond (J1 a.length d.length) (Jt L n v0 (a++d) (A1 (e-8)) f) none) none) none) none) (f a)
def Ck0(n v0 out1 i2):E0 0 ((KR L).keep 3) (bd (KR L) Q Y (cd [1,1,0,1,0,0] Du1)) n ⟨gp [(0,p32 v0),(2,pS out1),(0,pI i2)] 18,[],s⟩ k =
 Jt L n v0 out1 i2 (λa=>k (.exit 0) ⟨gp [(3,pS a)] 19,[],s⟩):=by
 induction n generalizing v0 out1 i2 with
 | zero=>rfl
 | succ n b=>rw[Jt];simp only[<-b];kernel_rfl
noncomputable def v4f(L:Nat)(v0:Int)(d:By->Option R):Option R:=Jt L L v0 ([]:By) 24 (λa=>vl (A1 ((a.length:Int)-1)) λb=>cond (L3 0 b a.length) (vl (cut a 0 b) λc=>d c) none)
def D09(d:Nat)(v0):evC (KR L) (d+1) W Y 36 [p32 v0] [] s=v4f L v0 (λa=>some (pS a,[],s)):=by refine(evE (fn:=aj7) (by kernel_rfl)).trans ?_;generalize evC (KR L) d=Q;unfold v4f;exact(j8 (by kernel_rfl) ((Ck0 L Q Y s (F0 0 (F5 (KR L) Q Y (cd [1,1,1] Du1) (G1 (KR L) aj7))) L v0 ([]:By) 24).trans (by kernel_rfl)))
noncomputable abbrev QT:Code:=D4 aj9
noncomputable def Eb(L:Nat):Cfg:=D0 L [50] (A4 [(2,[0,1,0])]) [] (A4 [(6,[2]),(3,[0,2]),(5,[2]),(4,[0,2,15]),(2,[0,2,3]),(1,[0,2]),(0,[0])]) [] (A4 [(0,[0]),(1,[0,2])]) (some [2]) [] [] []
noncomputable def Cg(L n:Nat)(a:By)(b:Int)(c:Unit->Option R)(d:By->Option R):Option R:=match n with|0=>none|n+1=>cond (ltI b (a.length:Int)) (cond (inR b a.length) (cond (ltI (bAt a b) (48:Int)) (c ()) (cond (inR b a.length) (cond (ltI 57 (bAt a b)) (c ()) (Cg L n a (A1 (b+1)) c d)) none)) none) (d a)
def PN(n a i1):E0 0 ((Eb L).keep 2) (bd (Eb L) Q Y (cd [1,0,1,0,0] QT)) n ⟨gp [(0,pS a),(2,pI i1)] 18,[],s⟩ k =
 Cg L n a i1 (λ_=>k .ret ⟨gp [(2,pB false)] 19,[],s⟩) (λa=>k (.exit 0) ⟨gp [(0,pS a)] 21,[],s⟩):=by
 induction n generalizing a i1 with
 | zero=>rfl
 | succ n b=>rw[Cg];simp only[<-b];kernel_rfl
noncomputable def HK(L:Nat)(c:By)(b:Bool->Option R):Option R:=Cg L L c 0 (λ_=>b false) (λa=>b (not (a==[])))
def Bg9(d:Nat)(s0):evC (Eb L) (d+1) W Y 50 [pS s0] [] s=HK L s0 (λa=>some (pB a,[],s)):=by refine(evE (fn:=aj9) (by kernel_rfl)).trans ?_;generalize evC (Eb L) d=Q;unfold HK;exact(j8 (by kernel_rfl) ((PN L Q Y s (F0 0 (F5 (Eb L) Q Y (cd [1,1] QT) (G1 (Eb L) aj9))) L s0 0).trans (by kernel_rfl)))
noncomputable abbrev Cp5:Code:=D4 ak0
noncomputable def Vt(L:Nat):Cfg:=D0 L [53] (A4 [(3,[0,1,0,0])]) [] (A4 [(9,[2]),(4,[0,2,0]),(8,[0,2,0]),(7,[0,2,0,0]),(6,[0,2,0,0,14]),(5,[0,2,0,0]),(3,[0,2,0,4]),(2,[0,2,0]),(1,[0,2]),(0,[0])]) [] (A4 [(0,[3]),(1,[0,2,0])]) (some [2]) [] [] []
noncomputable def Hg(L n:Nat)(b:By)(a:Int)(c:LL)(d:LL->Option R):Option R:=match n with|0=>none|n+1=>cond (ltI a (b.length:Int)) (cond (inR a b.length) (cond (not (ltI (bAt b a) (65:Int))) (cond (not (ltI 90 (bAt b a))) (vl (wu8 ((bAt b a)+32)) λe=>cond (G0 (c.length+1)) (Hg L n b (A1 (a+1)) (c++[[(SV.int .u8 e)]]) d) none) (cond (G0 (c.length+1)) (Hg L n b (A1 (a+1)) (c++[[(SV.int .u8 (bAt b a))]]) d) none)) (cond (G0 (c.length+1)) (Hg L n b (A1 (a+1)) (c++[[(SV.int .u8 (bAt b a))]]) d) none)) none) (d c)
def Bj8(n s0 i1 l2):E0 1 ((Vt L).keep 3) (bd (Vt L) Q Y (cd [1,1,0,1,0,0] Cp5)) n ⟨gp [(0,pS s0),(2,.fl 0),(0,pI i1)] 24,[.arr true 5 1 l2],s⟩ k =
 Hg L n s0 i1 l2 (λb=>k (.exit 0) ⟨gp [(3,.fl 0)] 25,[.arr true 5 1 b],s⟩):=by
 induction n generalizing s0 i1 l2 with
 | zero=>rfl
 | succ n a=>rw[Hg];simp only[<-a];kernel_rfl
noncomputable def Dl4(L:Nat)(c:By)(b:By->LL->Option R):Option R:=Hg L L c 0 [] (λa=>cond (ae9 a Qg) (b (ad6 Nx a) a) none)
def Dl5(d:Nat)(s0):evC (Vt L) (d+1) W Y 53 [pS s0] [] s=Dl4 L s0 (λb a=>some (pS b,[.arr true 5 1 a],s)):=by refine(evE (fn:=ak0) (by kernel_rfl)).trans ?_;generalize evC (Vt L) d=Q;unfold Dl4;exact(j8 (by kernel_rfl) ((Bj8 L Q Y s (F0 0 (F5 (Vt L) Q Y (cd [1,1,1] Cp5) (G1 (Vt L) ak0))) L s0 0 []).trans (by kernel_rfl)))
noncomputable abbrev Al7:Code:=D4 aj6
noncomputable def Iv(L:Nat):Cfg:=D0 L [30] (A4 [(4,[0,0,2,0,0,0])]) [] (A4 [(9,[4]),(5,[0,0,3,0,0]),(8,[0,0,3,0,0]),(7,[0,0,3,1]),(6,[0,0,3,0,0,16]),(4,[0,0,3,0,0,3]),(3,[0,0,3,0,0]),(2,[0,0,3,0]),(1,[0,0,3]),(0,[0,0])]) [] (A4 [(0,[5]),(1,[0,0,3,0,0])]) (some [4]) [] [] []
noncomputable def X6(L n:Nat)(c:By)(d a b:Int)(e:LL)(f:LL->Option R):Option R:=match n with|0=>none|n+1=>cond (not (ltI (c.length:Int) b)) (cond (b==(c.length:Int)) (cond (L3 a b c.length) (cond (G0 (e.length+1)) (X6 L n c d (A1 (b+1)) (A1 (b+1)) (e++[[(SV.str (cut c a b))]]) f) none) none) (cond (inR b c.length) (cond ((bAt c b)==d) (cond (L3 a b c.length) (cond (G0 (e.length+1)) (X6 L n c d (A1 (b+1)) (A1 (b+1)) (e++[[(SV.str (cut c a b))]]) f) none) none) (X6 L n c d a (A1 (b+1)) e f)) none)) (f e)
def Af1(n s0 at1 from2 i3 l4):E0 1 ((Iv L).keep 4) (bd (Iv L) Q Y (cd [1,1,1,0,1,0,0] Al7)) n ⟨gp [(0,pS s0),(0,p8 at1),(3,.fl 0),(0,pI from2),(0,pI i3)] 27,[.arr true 9 1 l4],s⟩ k =
 X6 L n s0 at1 from2 i3 l4 (λb=>k (.exit 0) ⟨gp [(5,.fl 0)] 29,[.arr true 9 1 b],s⟩):=by
 induction n generalizing s0 at1 from2 i3 l4 with
 | zero=>rfl
 | succ n a=>rw[X6];simp only[<-a];kernel_rfl
noncomputable def NW(L:Nat)(d:By)(a:Int)(c:LL->Option R):Option R:=X6 L L d a 0 0 [] (λb=>c b)
def Cf9(d:Nat)(s0 at1):evC (Iv L) (d+1) W Y 30 [pS s0,p8 at1] [] s=NW L s0 at1 (λa=>some (.fl 0,[.arr true 9 1 a],s)):=by refine(evE (fn:=aj6) (by kernel_rfl)).trans ?_;generalize evC (Iv L) d=Q;unfold NW;exact(j8 (by kernel_rfl) ((Af1 L Q Y s (F0 0 (F5 (Iv L) Q Y (cd [1,1,1,1] Al7) (G1 (Iv L) aj6))) L s0 at1 0 0 []).trans (by kernel_rfl)))
noncomputable def CJ(L:Nat):Cfg:=D0 L [56] (A4 []) [(56,(Nf L))] (A4 [(3,[2]),(2,[2]),(1,[0,3]),(0,[0])]) [56] (A4 []) (some [2]) [] [] []
noncomputable def GV(L:Nat)(n0:Int)(g:By->Option R):Option R:=cond (ltI n0 10) (vl (wu8 (A1 ((48:Int)+n0))) λa=>cond (ae9 [[(SV.int .u8 a)]] Qg) (vl (ad6 Nx [[(SV.int .u8 a)]]) λf=>g f) none) (vl (A1 (ac0 n0 (10:Int))) λb=>cond (ltN b L) (vl (j6 (j9 b)) λd=>vl (A1 ((48:Int)+(ac1 n0 (10:Int)))) λc=>cond (ae9 [[(SV.int .u8 (wu8 c))]] Qg) (vl (ad6 Nx [[(SV.int .u8 (wu8 c))]]) λe=>cond (J1 d.length e.length) (g (d++e)) none) none) none)
def A88(d:Nat)(n0):evC (CJ L) (d+1) W Y 56 [pI n0] [] s=GV L n0 (λa=>some (pS a,[],s)):=by refine(evE (fn:=Tryz.f56) (by kernel_rfl)).trans ?_;generalize evC (CJ L) d=Q;unfold GV;kernel_rfl
noncomputable abbrev Vg:Code:=D4 ah7
noncomputable def Kz(L:Nat):Cfg:=D0 L [88] (A4 []) [] (A4 [(7,[2]),(2,[2]),(4,[2]),(6,[2]),(5,[0,23]),(3,[0,12]),(1,[0,2]),(0,[0])]) [] (A4 [(0,[])]) (some [2]) [] [] []
noncomputable def Zq(a:Int)(h:Bool)(f:Int->Option R)(g:Int->Bool->Option R):Option R:=cond h (vl (A1 (wu8 (a-97))) λb=>vl (A1 (b+10)) λc=>f c) (cond (not (ltI a 65)) (cond (not (ltI 70 a)) (vl (A1 (wu8 (a-65))) λd=>vl (A1 (d+10)) λe=>f e) (g a (not (ltI 70 a)))) (g a false))
abbrev TN(b:Code):Prop:=∀(k:Out->St W->Option R) a c,A9 (Kz L) Q Y b ⟨gp [(0,p8 a),(12,pB c)] 21,[],s⟩ k=Zq a c (λn0=>k .ret ⟨gp [(2,pI n0)] 32,[],s⟩) (λa c=>k .normal ⟨gp [(0,p8 a),(23,pB c)] 10,[],s⟩)
def Bg6:TN (R:=R) L Q Y s (cd [1,0,0,1,1,1] Vg):=by intro k a b;unfold Zq;kernel_rfl
noncomputable def Zr(b:Int)(l:Bool)(f:Int->Option R)(j:Int->Bool->Option R):Option R:=cond l (vl (A1 (wu8 (b-48))) λg=>f g) (cond (not (ltI b 97)) (Zq b (not (ltI 102 b)) (λh=>f h) (λc d=>j c d)) (Zq b false (λi=>f i) (λe a=>j e a)))
abbrev DW(b:Code):Prop:=∀(k:Out->St W->Option R) a c,A9 (Kz L) Q Y b ⟨gp [(0,p8 a),(2,pB c)] 31,[],s⟩ k=Zr a c (λn0=>k .ret ⟨gp [(2,pI n0)] 32,[],s⟩) (λa c=>k .normal ⟨gp [(0,p8 a),(23,pB c)] 10,[],s⟩)
def Bg7(a:Code)(b:TN (R:=R) L Q Y s a):DW (R:=R) L Q Y s (cd [1,0,0,1] (I2 [1,0,0,1,1,1] a Vg)):=by intro k c d;unfold Zr;simp only[<-b k];kernel_rfl
def Bg8:DW (R:=R) L Q Y s (cd [1,0,0,1] Vg):=by intro k a b;exact j8 (by kernel_rfl) (Bg7 L Q Y s (cd [1,0,0,1,1,1] Vg) (Bg6 L Q Y s) k a b)
noncomputable def Cy1(L:Nat)(c:Int)(d:Int->Option R):Option R:=cond (not (ltI c 48)) (Zr c (not (ltI 57 c)) (λa=>d a) (λe f=>d 99)) (Zr c false (λb=>d b) (λg h=>d 99))
def Dk4(b:Code)(a:DW (R:=PV × List Blk × W) L Q Y s b)(c:Int):A9 (Kz L) Q Y (cd [] (I2 [1,0,0,1] b Vg)) ⟨[p8 c]++tps 34,[],s⟩ (G1 (Kz L) ah7)=Cy1 L c (λe=>some (pI e,[],s)):=by unfold Cy1;exact let d:=(F0 0 (F5 (Kz L) Q Y (cd [1,1] Vg) (G1 (Kz L) ah7)));(j8 (by kernel_rfl) (A0 ((a d c (not (ltI 57 c))).trans (by kernel_rfl)) ((a d c false).trans (by kernel_rfl))))
def Dk5(d:Nat)(b0):evC (Kz L) (d+1) W Y 88 [p8 b0] [] s=Cy1 L b0 (λa=>some (pI a,[],s)):=
 (evE (fn:=ah7) (by kernel_rfl)).trans (j8 (by kernel_rfl) (Dk4 L (evC (Kz L) d) Y s (cd [1,0,0,1] Vg) (Bg8 L (evC (Kz L) d) Y s) b0))
noncomputable abbrev Dz:Code:=D4 ah4
noncomputable def Q7(L:Nat):Cfg:=D0 L [51] (A4 [(10,[0,1,0,0,0,0])]) [(88,Cn1)] (A4 [(16,[2,0]),(11,[0,3,0,0]),(15,[0,3,0,0]),(14,[2,0]),(13,[0,3,0,0,0,44]),(12,[0,3,0,0,0]),(10,[0,3,0,0,36]),(9,[0,3,0,0]),(8,[0,3,0]),(5,[0,3]),(7,[0,3]),(6,[0,3,32]),(4,[0,3,22]),(3,[0,3]),(2,[2,0]),(1,[0,8]),(0,[0])]) [88] (A4 [(0,[5]),(1,[0,3,0,0])]) (some [2,0]) [] [] []
noncomputable def HO(a:By)(c:By->Option R):Option R:=cond (L3 2 (a.length:Int) a.length) (vl (cut a 2 (a.length:Int)) λb=>c b) none
abbrev TS(b:Code):Prop:=∀(k:Out->St W->Option R) a,A9 (Q7 L) Q Y b ⟨gp [(0,pS a),(3,pI (10:Int)),(22,pB true)] 32,[],s⟩ k=HO a (λa=>k .normal ⟨gp [(0,pS a),(3,pI (16:Int))] 55,[],s⟩)
def Bk1:TS (R:=R) L Q Y s (cd [1,1,1,0,1] Dz):=by intro k a;unfold HO;kernel_rfl
noncomputable def Kn(L n:Nat)(d:By)(h a:Int)(f:Unit->Option R)(g:Int->Option R):Option R:=match n with|0=>none|n+1=>cond (ltI a (d.length:Int)) (cond (inR a d.length) (cond (inR (bAt d a) 256) (vl (↑(dig (u8n (bAt d a))):Int) λb=>cond (not (ltI b 16)) (f ()) (vl (A1 ((A1 (h*16))+b)) λc=>vl (if ((1099511627776:Int)<c) then (1099511627776:Int) else c) λe=>Kn L n d e (A1 (a+1)) f g)) none) none) (g h)
def Bk6(n s0 n1 i2):E0 0 ((Q7 L).keep 10) (bd (Q7 L) Q Y (cd [1,1,1,1,1,0,1,0,0] Dz)) n ⟨gp [(0,pS s0),(3,pI (16:Int)),(0,pI n1),(0,pI i2)] 53,[],s⟩ k =
 Kn L n s0 n1 i2 (λ_=>k .ret ⟨gp [(2,pI (0:Int)),(0,pB false)] 56,[],s⟩) (λn0=>k (.exit 0) ⟨gp [(5,pI n0)] 54,[],s⟩):=by
 induction n generalizing s0 n1 i2 with
 | zero=>rfl
 | succ n a=>rw[Kn];simp only[<-a];kernel_rfl
noncomputable def HP(L:Nat)(c:By)(b:Int->Bool->Option R):Option R:=Kn L L c 0 0 (λ_=>b 0 false) (λa=>b a true)
abbrev TT(b:Code):Prop:=∀(k:Out->St W->Option R) s0,A9 (Q7 L) Q Y b ⟨gp [(0,pS s0),(3,pI (16:Int))] 55,[],s⟩ k=HP L s0 (λn0 a=>k .ret ⟨gp [(2,pI n0),(0,pB a)] 56,[],s⟩)
def Bk2:TT (R:=R) L Q Y s (cd [1,1,1,1] Dz):=by intro k a;unfold HP;exact(j8 (by kernel_rfl) ((Bk6 L Q Y s (F0 0 (F5 (Q7 L) Q Y (cd [1,1,1,1,1,1] Dz) k)) L a 0 0).trans (by kernel_rfl)))
noncomputable def To(a:By)(f:Bool)(d:By->Int->Option R)(e:By->Bool->Option R):Option R:=cond f (cond (L3 2 (a.length:Int) a.length) (vl (cut a 2 (a.length:Int)) λc=>d c 16) none) (cond (not (ltI (a.length:Int) (2:Int))) (cond (inR 0 a.length) (cond ((bAt a (0:Int))==48) (cond (L3 1 (a.length:Int) a.length) (vl (cut a 1 (a.length:Int)) λb=>d b 8) none) (e a ((bAt a (0:Int))==48))) none) (e a false))
abbrev TU(b:Code):Prop:=∀(k:Out->St W->Option R) c d,A9 (Q7 L) Q Y b ⟨gp [(0,pS c),(3,pI (10:Int)),(22,pB d)] 32,[],s⟩ k=To c d (λc a=>k .normal ⟨gp [(0,pS c),(3,pI a)] 55,[],s⟩) (λc d=>k .normal ⟨gp [(0,pS c),(3,pI (10:Int)),(32,pB d)] 22,[],s⟩)
def Bk3:TU (R:=R) L Q Y s (cd [1,1,1,0,1] Dz):=by intro k b a;unfold To;kernel_rfl
noncomputable def Hh(L n:Nat)(f:By)(a i d:Int)(g:Unit->Option R)(h:Int->Option R):Option R:=match n with|0=>none|n+1=>cond (ltI d (f.length:Int)) (cond (inR d f.length) (cond (inR (bAt f d) 256) (vl (↑(dig (u8n (bAt f d))):Int) λb=>cond (not (ltI b a)) (g ()) (vl (A1 ((A1 (i*a))+b)) λc=>vl (if ((1099511627776:Int)<c) then (1099511627776:Int) else c) λe=>Hh L n f a e (A1 (d+1)) g h)) none) none) (h i)
def NV(n s0 base1 n2 i3):E0 0 ((Q7 L).keep 10) (bd (Q7 L) Q Y (cd [1,1,1,1,1,0,1,0,0] Dz)) n ⟨gp [(0,pS s0),(3,pI base1),(0,pI n2),(0,pI i3)] 53,[],s⟩ k =
 Hh L n s0 base1 n2 i3 (λ_=>k .ret ⟨gp [(2,pI (0:Int)),(0,pB false)] 56,[],s⟩) (λn0=>k (.exit 0) ⟨gp [(5,pI n0)] 54,[],s⟩):=by
 induction n generalizing s0 base1 n2 i3 with
 | zero=>rfl
 | succ n a=>rw[Hh];simp only[<-a];kernel_rfl
noncomputable def Tp(L:Nat)(d:By)(a:Int)(c:Int->Bool->Option R):Option R:=Hh L L d a 0 0 (λ_=>c 0 false) (λb=>c b true)
abbrev TV(b:Code):Prop:=∀(k:Out->St W->Option R) s0 base1,A9 (Q7 L) Q Y b ⟨gp [(0,pS s0),(3,pI base1)] 55,[],s⟩ k=Tp L s0 base1 (λn0 a=>k .ret ⟨gp [(2,pI n0),(0,pB a)] 56,[],s⟩)
def Bk4:TV (R:=R) L Q Y s (cd [1,1,1,1] Dz):=by intro k b a;unfold Tp;exact(j8 (by kernel_rfl) ((NV L Q Y s (F0 0 (F5 (Q7 L) Q Y (cd [1,1,1,1,1,1] Dz) k)) L b a 0 0).trans (by kernel_rfl)))
noncomputable def Tq(L:Nat)(c:By)(b:Int->Bool->Option R):Option R:=Hh L L c 10 0 0 (λ_=>b 0 false) (λa=>b a true)
abbrev TW(b:Code):Prop:=∀(k:Out->St W->Option R) s0 a,A9 (Q7 L) Q Y b ⟨gp [(0,pS s0),(3,pI (10:Int)),(32,pB a)] 22,[],s⟩ k=Tq L s0 (λn0 a=>k .ret ⟨gp [(2,pI n0),(0,pB a)] 56,[],s⟩)
def Bk5:TW (R:=R) L Q Y s (cd [1,1,1,1] Dz):=by intro k a b;unfold Tq;exact(j8 (by kernel_rfl) ((NV L Q Y s (F0 0 (F5 (Q7 L) Q Y (cd [1,1,1,1,1,1] Dz) k)) L a 10 0 0).trans (by kernel_rfl)))
noncomputable def C03(L:Nat)(a:By)(e:Int->Bool->Option R):Option R:=cond (a==[]) (e 0 false) (cond (not (ltI (a.length:Int) (2:Int))) (cond (inR 0 a.length) (cond ((bAt a (0:Int))==48) (cond (inR 1 a.length) (cond ((bAt a (1:Int))==120) (HO a (λB=>HP L B (λA z=>e A z))) (cond (inR 1 a.length) (To a ((bAt a (1:Int))==88) (λt b=>Tp L t b (λm f=>e m f)) (λu C=>Tq L u (λn g=>e n g))) none)) none) (To a false (λv c=>Tp L v c (λo h=>e o h)) (λw D=>Tq L w (λp i=>e p i)))) none) (To a false (λx d=>Tp L x d (λq j=>e q j)) (λy F=>Tq L y (λr l=>e r l))))
def Dl6(e:Code)(f:TS (R:=PV × List Blk × W) L Q Y s e)(a:TU (R:=PV × List Blk × W) L Q Y s e)(d:Code)(g:TT (R:=PV × List Blk × W) L Q Y s d)(b:TV (R:=PV × List Blk × W) L Q Y s d)(c:TW (R:=PV × List Blk × W) L Q Y s d)(m:By):A9 (Q7 L) Q Y (cd [] (I2 [1,1,1,1] d (I2 [1,1,1,0,1] e Dz))) ⟨[pS m]++tps 59,[],s⟩ (G1 (Q7 L) ah4)=C03 L m (λz A=>some (.tup [pI z,pB A],[],s)):=by unfold C03;exact let l:=(G1 (Q7 L) ah4);let x:=(F5 (Q7 L) Q Y d l);(j8 (by kernel_rfl) (A0 rfl (A0 (A0 (A0 (A0 (A0 ((f x m).trans (congr rfl (fx1 λy=>(j8 (by kernel_rfl) ((g l y).trans (by kernel_rfl)))))) (A0 ((a x m ((bAt m (1:Int))==88)).trans (congr (congr rfl (fx2 λq h=>(j8 (by kernel_rfl) ((b l q h).trans (by kernel_rfl))))) (fx2 λr n=>(j8 (by kernel_rfl) ((c l r n).trans (by kernel_rfl)))))) rfl)) rfl) ((a x m false).trans (congr (congr rfl (fx2 λt i=>(j8 (by kernel_rfl) ((b l t i).trans (by kernel_rfl))))) (fx2 λu o=>(j8 (by kernel_rfl) ((c l u o).trans (by kernel_rfl))))))) rfl) ((a x m false).trans (congr (congr rfl (fx2 λv j=>(j8 (by kernel_rfl) ((b l v j).trans (by kernel_rfl))))) (fx2 λw p=>(j8 (by kernel_rfl) ((c l w p).trans (by kernel_rfl)))))))))
def Dl7(d:Nat)(s0):evC (Q7 L) (d+1) W Y 51 [pS s0] [] s=C03 L s0 (λa b=>some (.tup [pI a,pB b],[],s)):=
 (evE (fn:=ah4) (by kernel_rfl)).trans (j8 (by kernel_rfl) (Dl6 L (evC (Q7 L) d) Y s (cd [1,1,1,0,1] Dz) (Bk1 L (evC (Q7 L) d) Y s) (Bk3 L (evC (Q7 L) d) Y s) (cd [1,1,1,1] Dz) (Bk2 L (evC (Q7 L) d) Y s) (Bk4 L (evC (Q7 L) d) Y s) (Bk5 L (evC (Q7 L) d) Y s) s0))
noncomputable def KN(L:Nat):Cfg:=D0 L [49] (A4 []) [(30,Lq)] (A4 [(4,[2]),(3,[3]),(2,[3,13]),(1,[3]),(0,[0])]) [] (A4 []) (some [2]) [] [] []
noncomputable def Ae9(L:Nat)(f:By)(d:LL->Option R):Option R:=cond (A2 f.length) (vl (C2 (pcs (u8n (46:Int)) f)) λa=>cond (ltI 1 (a.length:Int)) (vl (A1 ((a.length:Int)-1)) λb=>cond (inR b a.length) (cond (okE Dr a (j9 b) 0) (vl (gX a (j9 b) 0) λe=>cond (e==[]) (vl (A1 ((a.length:Int)-1)) λc=>cond (L3 0 c a.length) (d (cut a 0 c)) none) (d a)) none) none) (d a)) none
def Cf3(d:Nat)(s0):evC (KN L) (d+1) W Y 49 [pS s0] [] s=Ae9 L s0 (λa=>some (.s (.sl false false 1 a),[],s)):=by refine(evE (fn:=Tryz.f49) (by kernel_rfl)).trans ?_;generalize evC (KN L) d=Q;unfold Ae9;kernel_rfl
noncomputable def Vu(L:Nat):Cfg:=D0 L [28] (A4 []) [(49,JF),(50,QH),(51,A27)] (A4 [(6,[2]),(5,[4,1]),(4,[2]),(3,[4,11]),(2,[4]),(1,[3]),(0,[0])]) [50,51] (A4 []) (some [2]) [] [] []
noncomputable def Zz(L:Nat)(d:By)(c:Bool->Option R):Option R:=cond (A2 d.length) (vl (A1 ((↑(j5 (C2 (D8 d))):Int)-1)) λb=>cond (inR b (j5 (C2 (D8 d)))) (cond (okE Dr (C2 (D8 d)) (j9 b) 0) (vl (gX (C2 (D8 d)) (j9 b) 0) λa=>cond (A2 a.length) (cond ((not (aj0 a))&&(v7 (F9 10 0 a))) (c true) (cond (A2 a.length) (vl (↑(O6 (Ar a)):Int) λe=>cond (v7 (Ar a)) (cond (not (ltI (a.length:Int) (2:Int))) (cond (inR 1 a.length) (cond ((bAt a (1:Int))==120) (c true) (cond (inR 1 a.length) (c ((bAt a (1:Int))==88)) none)) none) (c false)) (c false)) none)) none) none) none) none
def Av6(d:Nat)(s0):evC (Vu L) (d+1) W Y 28 [pS s0] [] s=Zz L s0 (λa=>some (pB a,[],s)):=by refine(evE (fn:=Tryz.f28) (by kernel_rfl)).trans ?_;generalize evC (Vu L) d=Q;unfold Zz;kernel_rfl
noncomputable abbrev Bw3:Code:=D4 aj5
noncomputable def Nr(L:Nat):Cfg:=D0 L [29] (A4 [(6,[2,0,0,0,0])]) [(49,JF),(51,A27)] (A4 [(18,[2,0]),(7,[4,0,0]),(17,[4,0,0]),(16,[2,0]),(15,[4,0,0,0,38]),(14,[4,0,0]),(13,[2,0]),(12,[4,0,0,0,33]),(11,[4,0,0,0,26]),(10,[2,0]),(9,[4,0,0,0,21]),(8,[4,0,0,0,0]),(6,[4,0,0,10]),(5,[4,0,0]),(4,[4,0]),(3,[2,0]),(2,[4,8]),(1,[4]),(0,[0])]) [51] (A4 [(0,[5]),(1,[4,0,0])]) (some [2,0]) [] [] []
noncomputable def Fv(L n:Nat)(b:LL)(v1 a:Int)(e:Unit->Option R)(h:Int->Option R):Option R:=match n with|0=>none|n+1=>cond (ltI a (b.length:Int)) (cond (inR a b.length) (cond (okE Dr b (j9 a) 0) (cond (A2 (j5 (gX b (j9 a) 0))) (vl (↑(O6 (Ar (gX b (j9 a) 0))):Int) λc=>cond (not (v7 (Ar (gX b (j9 a) 0)))) (e ()) (vl (A1 ((b.length:Int)-1)) λi=>cond (a==i) (vl (A1 ((5:Int)-(b.length:Int))) λg=>cond (decide ((0:Int)<=(A1 ((8:Int)*g)))) (vl (Ub .i64 (1:Int) (A1 ((8:Int)*g))) λj=>cond (not (ltI c j)) (e ()) (Fv L n b (A1 (v1+c)) (A1 (a+1)) e h)) none) (cond (ltI 255 c) (e ()) (vl (A1 ((24:Int)-(A1 ((8:Int)*a)))) λd=>cond (decide ((0:Int)<=d)) (vl (A1 (v1+(Ub .i64 c d))) λf=>Fv L n b f (A1 (a+1)) e h) none)))) none) none) none) (h v1)
def Aw3(n p0 v1 i2):E0 0 ((Nr L).keep 6) (bd (Nr L) Q Y (cd [1,1,1,1,0,1,0,0] Bw3)) n ⟨gp [(4,.s (.sl false false 1 p0)),(0,pI v1),(0,pI i2)] 49,[],s⟩ k =
 Fv L n p0 v1 i2 (λ_=>k .ret ⟨gp [(2,p32 (0:Int)),(0,pB false)] 52,[],s⟩) (λv0=>k (.exit 0) ⟨gp [(5,pI v0)] 50,[],s⟩):=by
 induction n generalizing p0 v1 i2 with
 | zero=>rfl
 | succ n a=>rw[Fv];simp only[<-a];kernel_rfl
noncomputable def B16(L:Nat)(c:By)(b:Int->Bool->Option R):Option R:=cond (A2 c.length) (cond (ltI 4 (↑(j5 (C2 (D8 c))):Int)) (b 0 false) (Fv L L (C2 (D8 c)) 0 0 (λ_=>b 0 false) (λa=>b (EM a) true))) none
def C08(d:Nat)(s0):evC (Nr L) (d+1) W Y 29 [pS s0] [] s=B16 L s0 (λa b=>some (.tup [p32 a,pB b],[],s)):=by refine(evE (fn:=aj5) (by kernel_rfl)).trans ?_;generalize evC (Nr L) d=Q;unfold B16;exact(j8 (by kernel_rfl) (A0 (A0 rfl ((Aw3 L Q Y s (F0 0 (F5 (Nr L) Q Y (cd [1,1,1,1,1] Bw3) (G1 (Nr L) aj5))) L (C2 (D8 s0)) 0 0).trans (by kernel_rfl))) rfl))
noncomputable abbrev Cp3:Code:=D4 ai4
noncomputable def Vq(L:Nat):Cfg:=D0 L [123] (A4 [(2,[0,1,0,0])]) [(56,BC)] (A4 [(6,[2,0]),(3,[0,3]),(5,[2,0]),(4,[0,3,7]),(2,[0,3,1]),(1,[0,3]),(0,[0])]) [56] (A4 [(0,[]),(1,[0,3])]) (some [2,0]) [] [] []
noncomputable def On(L n:Nat)(e:By)(a:Int)(c:Int->Option R)(d:Unit->Option R):Option R:=match n with|0=>none|n+1=>cond (ltI a 256) (cond (ltN a 4294967296) (vl (j6 (j9 a)) λb=>cond (b==e) (c a) (On L n e (A1 (a+1)) c d)) none) (d ())
def Bg4(n s0 n1):E0 0 ((Vq L).keep 2) (bd (Vq L) Q Y (cd [1,0,1,0,0] Cp3)) n ⟨gp [(0,pS s0),(3,pI n1)] 9,[],s⟩ k =
 On L n s0 n1 (λn0=>k .ret ⟨gp [(2,pI n0),(0,pB true)] 10,[],s⟩) (λ_=>k (.exit 0) ⟨gp [] 14,[],s⟩):=by
 induction n generalizing s0 n1 with
 | zero=>rfl
 | succ n a=>rw[On];simp only[<-a];kernel_rfl
noncomputable def Dk2(L:Nat)(c:By)(b:Int->Bool->Option R):Option R:=On L L c 0 (λa=>b a true) (λ_=>b 0 false)
def Dk3(d:Nat)(s0):evC (Vq L) (d+1) W Y 123 [pS s0] [] s=Dk2 L s0 (λa b=>some (.tup [pI a,pB b],[],s)):=by refine(evE (fn:=ai4) (by kernel_rfl)).trans ?_;generalize evC (Vq L) d=Q;unfold Dk2;exact(j8 (by kernel_rfl) ((Bg4 L Q Y s (F0 0 (F5 (Vq L) Q Y (cd [1,1] Cp3) (G1 (Vq L) ai4))) L s0 0).trans (by kernel_rfl)))
noncomputable abbrev Cp6:Code:=D4 ak2
noncomputable def Vv(L:Nat):Cfg:=D0 L [86] (A4 [(6,[2,0,0,0,0])]) [(30,Lq),(123,Cn0)] (A4 [(12,[2,0]),(7,[4,0,0]),(11,[4,0,0]),(10,[2,0]),(9,[4,0,0,0,19]),(8,[4,0,0,0,0]),(6,[4,0,0,8]),(5,[4,0,0]),(4,[4,0]),(3,[2,0]),(2,[4,8]),(1,[4]),(0,[0])]) [123] (A4 [(0,[5]),(1,[4,0,0])]) (some [2,0]) [] [] []
noncomputable def Oy(L n:Nat)(b:LL)(v1 a:Int)(f:Unit->Option R)(g:Int->Option R):Option R:=match n with|0=>none|n+1=>cond (ltI a 4) (cond (inR a b.length) (cond (okE Dr b (j9 a) 0) (cond (A2 (j5 (gX b (j9 a) 0))) (vl (↑(O6 (oct (gX b (j9 a) 0))):Int) λc=>cond (not (v7 (oct (gX b (j9 a) 0)))) (f ()) (vl (EM (v1*256)) λd=>vl (EM (d+(EM c))) λe=>Oy L n b e (A1 (a+1)) f g)) none) none) none) (g v1)
def Bn3(n p0 v1 i2):E0 0 ((Vv L).keep 6) (bd (Vv L) Q Y (cd [1,1,1,1,0,1,0,0] Cp6)) n ⟨gp [(4,.s (.sl false false 1 p0)),(0,p32 v1),(0,pI i2)] 27,[],s⟩ k =
 Oy L n p0 v1 i2 (λ_=>k .ret ⟨gp [(2,p32 (0:Int)),(0,pB false)] 30,[],s⟩) (λv0=>k (.exit 0) ⟨gp [(5,p32 v0)] 28,[],s⟩):=by
 induction n generalizing p0 v1 i2 with
 | zero=>rfl
 | succ n a=>rw[Oy];simp only[<-a];kernel_rfl
noncomputable def Dm7(L:Nat)(d:By)(b:Int->Bool->Option R):Option R:=cond (A2 d.length) (vl (C2 (pcs (u8n (46:Int)) d)) λa=>cond ((a.length:Int)!=4) (b 0 false) (Oy L L a 0 0 (λ_=>b 0 false) (λc=>b c true))) none
def Dm8(d:Nat)(s0):evC (Vv L) (d+1) W Y 86 [pS s0] [] s=Dm7 L s0 (λb c=>some (.tup [p32 b,pB c],[],s)):=by refine(evE (fn:=ak2) (by kernel_rfl)).trans ?_;generalize evC (Vv L) d=Q;unfold Dm7;exact(j8 (by kernel_rfl) (A0 (A5 λa=>(A0 rfl ((Bn3 L Q Y s (F0 0 (F5 (Vv L) Q Y (cd [1,1,1,1,1] Cp6) (G1 (Vv L) ak2))) L a 0 0).trans (by kernel_rfl)))) rfl))
noncomputable def A63(L:Nat):Cfg:=D0 L [32] (A4 []) [(56,BC)] (A4 [(1,[2]),(0,[0])]) [56] (A4 []) (some [2]) [] [] []
noncomputable def Dm5(L:Nat)(v0:Int)(n:By->Option R):Option R:=vl (Sa .u32 v0 (24:Int)) λg=>cond (ltN (A1 g) 4294967296) (vl (j6 (j9 (A1 g))) λj=>cond (J1 j.length 1) (vl (j++[46]) λc=>vl (Sa .u32 v0 (16:Int)) λm=>vl (ac1 m (256:Int)) λh=>cond (ltN (A1 h) 4294967296) (vl (j6 (j9 (A1 h))) λd=>cond (J1 c.length d.length) (cond (J1 (j5 (c++d)) 1) (vl ((c++d)++[46]) λe=>vl (ac1 (Sa .u32 v0 (8:Int)) (256:Int)) λi=>cond (ltN (A1 i) 4294967296) (vl (j6 (j9 (A1 i))) λf=>cond (J1 e.length f.length) (cond (J1 (j5 (e++f)) 1) (vl ((e++f)++[46]) λl=>vl (ac1 v0 (256:Int)) λa=>cond (ltN (A1 a) 4294967296) (vl (j6 (j9 (A1 a))) λb=>cond (J1 l.length b.length) (n (l++b)) none) none) none) none) none) none) none) none) none) none
def Dm6(d:Nat)(v0):evC (A63 L) (d+1) W Y 32 [p32 v0] [] s=Dm5 L v0 (λa=>some (pS a,[],s)):=by refine(evE (fn:=Tryz.f32) (by kernel_rfl)).trans ?_;generalize evC (A63 L) d=Q;unfold Dm5;kernel_rfl
noncomputable def CO(L:Nat):Cfg:=D0 L [125] (A4 []) [(152,BE)] (A4 [(1,[4]),(0,[0,0])]) [] (A4 []) (some [4]) [] [] []
noncomputable def HT(L:Nat)(c a:By)(d:Nat->LL->Option R):Option R:=cond (A2 c.length) (cond (a.length==1) (cond ((0:Int)==0) (cond (((-1):Int)==((-1):Int)) (vl (C2 (pcs (j2 a 0 0) c)) λb=>d (j5 (pcs (j2 a 0 0) c)) b) none) none) none) none
def Bp5(d:Nat)(s0 sep1):evC (CO L) (d+1) W Y 125 [pS s0,pS sep1] [] s=HT L s0 sep1 (λa b=>some (.vw 0 0 a,[.arr false 9 1 b],s)):=by refine(evE (fn:=Tryz.f125) (by kernel_rfl)).trans ?_;generalize evC (CO L) d=Q;unfold HT;kernel_rfl
end
end
section
open Go
def Ef(b:UInt8):(48<=b.toNat/\b.toNat<=57/\dig b=b.toNat-48)\/(97<=b.toNat/\b.toNat<=102/\dig b=b.toNat-87)\/(65<=b.toNat/\b.toNat<=70/\dig b=b.toNat-55)\/(¬(48<=b.toNat/\b.toNat<=57)/\¬(97<=b.toNat/\b.toNat<=102)/\¬(65<=b.toNat/\b.toNat<=70)/\dig b=99):=by
 unfold dig;split
 ·rename_i h;exact .inl ⟨h.1,h.2,rfl⟩
 ·split
  ·rename_i h;exact .inr (.inl ⟨h.1,h.2,rfl⟩)
  ·split
   ·rename_i h;exact .inr (.inr (.inl ⟨h.1,h.2,rfl⟩))
   ·exact .inr (.inr (.inr ⟨by assumption,by assumption,by assumption,rfl⟩))
def C13(m:Nat):(if (1099511627776:Int)<(m:Int) then (1099511627776:Int) else (m:Int))=((min m X3:Nat):Int):=by unfold X3;split<;>omega
def LG{base:Nat}:∀{s:By} {n v:Nat},n<=X3->F9 base n s=some v->v<=X3
 | [],n,v,h,e=>by simp only[F9,o7] at e;omega
 | b::r,n,v,h,e=>by
  simp only[F9] at e;split at e
  ·exact LG (by omega) e
  ·cases e
def Bz6{s:By}{v:Nat}(h:Ar s=some v):v<=X3:=by
 unfold Ar at h
 repeat' split at h
 all_goals first|(cases h;done)|exact LG (by unfold X3;omega) h
def RM(base:Nat):∀(x y:By) (n:Nat),F9 base n (x++y)=(F9 base n x).bind λm=>F9 base m y
 | [],y,n=>rfl
 | b::r,y,n=>by
  simp only[aa1,F9];split
  ·exact RM base r y _
  ·rfl
def Bm(u:Nat)(h:¬u<10):j6 u=j6 (u / 10)++[s9 (48+u % 10)]:=by rw[j6,dif_neg h]
def Du8(d:Nat)(h:d<10):dig (s9 (48+d))=d:=by
 unfold dig;have:(s9 (48+d)).toNat=48+d:=by simp;omega
 rw[this,U9];omega
def CT:∀u:Nat,u<=X3->F9 10 0 (j6 u)=some u:=by
 intro u
 induction u using y7 with
 | _ u a=>
  intro b;by_cases h:u<10
  ·rw[x5 h];simp only[F9,Du8 u h];rw[ac h];unfold X3;simp;omega
  ·rw[Bm u h,RM,a (u / 10) (by omega) (by omega)];simp only[ag6,F9,Du8 (u % 10) (by omega)];rw[U9];unfold X3 at *;simp;omega
def Db(u:Nat):j6 u≠[]:=by intro h;have:=Lib.decDigits_length u;have a:=Lib.nDigits_pos u;rw[h] at this;simp at this;omega
def Ly:∀(k u:Nat),0<k->u<10 ^ k->(j6 u).length<=k
 | 0,u,h,_=>by omega
 | k+1,u,_,h=>by
  by_cases b:u<10
  ·rw[x5 b];simp
  ·rw[Bm u b,ab2,aa5];have a:0<k:=by
    rcases Nat.eq_zero_or_pos k with rfl|a
    ·rw[ac9,Nat.pow_one] at h;omega
    ·exact a
   have:=Ly k (u / 10) a (by rw[x3] at h;omega);omega
def G8(u:Nat)(h:u<4294967296):(j6 u).length<=10:=Ly 10 u (by omega) (by omega)
def Zi{s:By}{n:Nat}:oct s=some n↔n<256/\j6 n=s:=by
 unfold oct;constructor
 ·intro h;split at h
  ·rename_i m c;split at h
   ·rename_i a;cases h;exact⟨by omega,a.2⟩
   ·cases h
  ·cases h
 ·rintro⟨b,rfl⟩;rw[CT n (by unfold X3;omega)];exact ac ⟨by omega,rfl⟩
def Dt9(a b:Nat)(c:a<9223372036854775808)(d:b<9223372036854775808):bOr .i64 (a:Int) (b:Int)=((a ||| b:Nat):Int):=by
 unfold bOr;rw[show aa6 .i64=64 from rfl,Dw8 64 a b (by omega) (by omega)];have:a ||| b<2 ^ 63:=ad3 (by omega) (by omega)
 exact A6
def D61(a b:Nat)(c:a<4294967296)(d:b<4294967296):bOr .u32 (a:Int) (b:Int)=((a ||| b:Nat):Int):=by
 unfold bOr;rw[show aa6 .u32=32 from rfl,Dw8 32 a b (by omega) (by omega)];have:a ||| b<2 ^ 32:=ad3 (by omega) (by omega)
 exact Po
def Dw2(a b:Nat)(c:a<4294967296)(d:b<4294967296):A42 .u32 (a:Int) (b:Int)=((a &&& b:Nat):Int):=by unfold A42;rw[show aa6 .u32=32 from rfl,Du4 32 a b (by omega) (by omega)];have:a &&& b<2 ^ 32:=Nat.and_lt_two_pow _ (by omega);exact Po
def Dw1(x:Nat):x &&& 255=x % 256:=Nat.and_two_pow_sub_one_eq_mod x 8
def Ax3(a m:Nat)(h:a*2 ^ m<9223372036854775808)(b:m<=64):Ub .i64 (a:Int) (m:Int)=((a*2 ^ m:Nat):Int):=by
 unfold Ub;rw[c9,show aa6 .i64=64 from rfl,ac5 b];have:(a:Int)*2 ^ m=((a*2 ^ m:Nat):Int):=by simp
 rw[this];exact A6
def D79(a m:Nat)(h:a*2 ^ m<4294967296)(b:m<=32):Ub .u32 (a:Int) (m:Int)=((a*2 ^ m:Nat):Int):=by
 unfold Ub;rw[c9,show aa6 .u32=32 from rfl,ac5 b];have:(a:Int)*2 ^ m=((a*2 ^ m:Nat):Int):=by simp
 rw[this];exact Po
def HG(v n m:Nat)(h:n<2 ^ m):v*2 ^ m ||| n=v*2 ^ m+n:=by rw[Nat.or_comm,Dz2 n v m h,aj2]
def Mn{c:UInt8}{s:By}(h:c∉s):pcs c s=[s]:=by unfold pcs;rw[AM c s [] h];rfl
def HH{c:UInt8}{p r:By}(h:c∉p):pcs c (p++c::r)=p::pcs c r:=by unfold pcs;rw[GC c p [] r h];rfl
def Gz(c:UInt8)(s:By):(pcs c s).length=s.count c+1:=Kq c s []
def Ad3(c:UInt8)(s:By):pcs c s≠[]:=Bo8 c s []
def Av{c:UInt8}{s x:By}(h:x∈pcs c s):c∉x/\x.length<=s.length:=by have:=Sb c s [] (by simp) x h;simpa using this
def Fm(c:UInt8)(s:By):s.count c<=s.length:=List.count_le_length
def Aj(c:UInt8):∀s:By,c∉s\/∃p r,s=p++c::r/\c∉p
 | []=>.inl (by simp)
 | b::s=>by
  by_cases h:b=c
  ·subst h;exact .inr ⟨[],s,rfl,by simp⟩
  ·rcases Aj c s with a|⟨p,r,rfl,d⟩
   ·exact .inl (by simp[a,ad4 h])
   ·exact .inr ⟨b::p,r,rfl,by simp[d,ad4 h]⟩
def Wf{c:UInt8}{s:By}(h:c∉s):o8 s [c]=-1:=by
 rcases ae8 s [c] with a|⟨i,a,e,b,f⟩
 ·exact a.1
 ·exfalso;simp only[ag4,ad1] at b;obtain⟨t,d⟩:=b;have:c∈s.drop i:=by rw[<-d];simp
  exact h (x4 this)
def DI{c:UInt8}{p r:By}(h:c∉p):o8 (p++c::r) [c]=(p.length:Int):=by
 rcases ae8 (p++c::r) [c] with d|⟨i,d,m,f,g⟩
 ·exfalso;have:=d.2 p.length (by simp);simp[ag4] at this
 ·rw[d];have n:¬p.length<i:=by
   intro a;have:=g p.length a;simp[ag4] at this
  have k:¬i<p.length:=by
   intro a;simp only[ag4,ad1] at f;obtain⟨t,b⟩:=f;have j:(p++c::r).drop i=p.drop i++c::r:=by rw[aa3 (by omega)]
   rw[j] at b;cases e:p.drop i with
   | nil=>have:=x9 (i:=i) (l:=p);rw[e] at this;simp at this;omega
   | cons x y=>
    rw[e] at b;simp at b;have:x∈p:=x4 (i:=i) (by rw[e];simp);rw[<-b.1] at this;exact h this
  omega
def Cc2(s:By):D8 s≠[]:=by
 unfold D8;split
 ·rename_i h;intro e;have:=congrArg j5 e;simp at this;omega
 ·exact Ad3 _ _
def Ok{s x:By}(h:x∈D8 s):x.length<=s.length:=by
 unfold D8 at h;split at h
 ·exact(Av ((List.dropLast_sublist _).subset h)).2
 ·exact(Av h).2
def Ce(s:By):1<=(D8 s).length/\(D8 s).length<=s.length+1:=by
 have a:=z7.2 (Cc2 s);have b:=Gz 46 s;have c:=Fm 46 s;refine⟨a,?_⟩;unfold D8;split
 ·rw[List.length_dropLast];omega
 ·omega
def DN(s:By):(D8 s).getD ((D8 s).length-1) []=Du s:=by unfold Du;rw[aa8,List.getLast?_eq_getElem?,k9]
def SL(s:By):Du s∈D8 s:=by have h:=(Ce s).1;rw[<-DN,k9,o9 (by omega)];exact List.getElem_mem _
def Ld{base:Nat}:∀{s:By} {n i:Nat},i<s.length->base<=dig (s.getD i 0)->F9 base n s=none
 | [],n,i,h,_=>by simp at h
 | b::r,n,0,h,a=>by
  simp only[w9] at a;simp only[F9];rw[I9]
 | b::r,n,i+1,h,a=>by
  simp only[af4] at a;simp only[F9];split
  ·exact Ld (i:=i) (by simpa using h) a
  ·rfl
def Ib(s:By):Ab s=true↔s.getD 0 0=48/\(s.getD 1 0=120\/s.getD 1 0=88):=by simp[Ab]
def Me{s:By}(h:Ab s=true):2<=s.length:=by
 rw[Ib] at h
 match s with
 | []=>simp at h
 | [a]=>simp at h
 | a::b::r=>simp
def Cw5(l:By):(if Ab l then (F9 16 0 (l.drop 2)).isSome else !l.isEmpty&&(F9 10 0 l).isSome) =
  (if (!l.isEmpty&&(F9 10 0 l).isSome)=true then true else (if (Ar l).isSome=true then decide (2<=l.length)&&(l.getD 1 0==120||l.getD 1 0==88) else false)):=by
 by_cases b:Ab l=true
 ·have g:=Me b;have j:=(Ib l).1 b;have f:F9 10 0 l=none:=Ld (i:=1) (by omega) (by rcases j.2 with h|h<;>rw[h]<;>decide);have d:Ar l=F9 16 0 (l.drop 2):=by
   unfold Ar;rw[ae (by intro e;rw[e] at g;simp at g),ac b]
  rw[ac b,f,d];have c:(l.getD 1 0==120||l.getD 1 0==88)=true:=by simpa using j.2
  rw[c];simp[g]
 ·rw[ae b];cases n:(!l.isEmpty&&(F9 10 0 l).isSome) with
  | true=>rfl
  | false=>
   rw[ae (by simp)];cases d:Ar l with
   | none=>rfl
   | some v=>
    rw[show(some v).isSome=true from rfl,ac rfl]
    symm
    rw[Bool.and_eq_false_iff];by_cases c:2<=l.length
    ·right
     apply ad2;intro a;have a:l.getD 1 0=120\/l.getD 1 0=88:=by
      cases k:(l.getD 1 0==120||l.getD 1 0==88) with
      | false=>exact absurd k a
      | true=>simpa using k
     have m:¬l.getD 0 0=48:=λh=>b ((Ib l).2 ⟨h,a⟩)
     have f:F9 10 0 l=none:=Ld (i:=1) (by omega) (by rcases a with h|h<;>rw[h]<;>decide);unfold Ar at d;rw[ae (by intro e;rw[e] at c;simp at c),ae b,ae (by intro h;exact m h.2),f] at d;cases d
    ·left;simpa using c
end
section
open Go Go.Proofs
def Ca7{a:Bool->Option R}(s p:By)(b:A2 s.length=true):Dh3 LF s p a=a (p.isPrefixOf s):=by
 have:=M5 b;unfold Dh3;rw[Gf];by_cases h:p.length<=s.length
 ·simp_all
 ·simp (disch:=omega) [h]
def B80{a:Bool->Option R}(s p:By)(b:A2 s.length=true):GK LF s p a=a (p.isPrefixOf s):=by unfold GK;rw[b];rfl
def Ca8{a:Bool->Option R}(s p:By)(b:A2 s.length=true):Dh5 LF s p a=a (p.isSuffixOf s):=by
 have:=M5 b;unfold Dh5;rw[Pu];by_cases h:p.length<=s.length
 ·have e:((s.length:Int)-(p.length:Int)).toNat=s.length-p.length:=by omega
  simp (disch:=omega) [h,e]
 ·simp (disch:=omega) [h]
def B81{a:Bool->Option R}(s p:By)(b:A2 s.length=true):Df1 LF s p a=a (p.isSuffixOf s):=by unfold Df1;rw[b];rfl
def Bc6{b:By->Option R}(s p:By)(a:A2 s.length=true):Bz2 LF s p b=b (Ah2 s p):=by
 have:=M5 a;unfold Bz2 Ah2;rw[a];cases h:p.isSuffixOf s with
 | false=>simp
 | true=>
  have:p.length<=s.length:=by rw[Pu] at h;simp at h;exact h.1
  have e:((s.length:Int)-(p.length:Int)).toNat=s.length-p.length:=by omega
  simp (disch:=omega) [e]
def Bp8{a:By->Option R}(s p:By)(b:A2 s.length=true):B22 LF s p a=a (Ah2 s p):=by unfold B22;rw[b];rfl
def Bb6{b:By->Bool->Option R}(s p:By)(a:A2 s.length=true):By7 LF s p b=b (Iz s p) (p.isPrefixOf s):=by
 have:=M5 a;unfold By7 Iz;rw[a];cases h:p.isPrefixOf s with
 | false=>simp
 | true=>
  have:p.length<=s.length:=by rw[Gf] at h;simp at h;exact h.1
  simp_all
def B56{a:By->Bool->Option R}(s p:By)(b:A2 s.length=true):Db2 LF s p a=a (Iz s p) (p.isPrefixOf s):=by unfold Db2;rw[b];rfl
def Ay6{a:LL->Option R}(s p:By)(b:A2 s.length=true)(c:(p.length==1)=true):Ag4 LF s p a=a (C2 (pcs (p.getD 0 0) s)):=by unfold Ag4;rw[b,c];rfl
def Ca4{k0:LL->Option R}(s:By)(o:s.length<=1000000000):∀(r i n:Nat),i+r=s.length->r<n->Gv LF n s (s.length:Int) (i:Int) ((C5 (s.take i)).map F1) k0=k0 ((C5 s).map F1):=by
 intro r
 induction r with
 | zero=>
  intro i n g j;rcases n with _|n;omega
  rw[Gv];rw[A7,p7 (by omega)];rfl
 | succ r a=>
  intro i n g j;rcases n with _|n;omega
  rw[Gv];have h:(C5 (s.take i)).length=i:=by simp[C5];omega
  have a:=a (i+1) n (by omega) (by omega);rw[MQ s i (by omega)] at a;rw[F6];have l:=(s.getD i 0).toNat_lt;generalize s.getD i 0=b at *;have c:((i:Int)+1)=((i+1:Nat):Int):=by omega
  simp (disch:=omega) only[C6,K6,aa,vl,ac4,h,F4,E6];rw[c];rcases M0 b with⟨d,e⟩|⟨d,e⟩|⟨d,k,e⟩
  ·simp (disch:=omega) only[C6,j0,ab];rw[e] at a;exact a
  ·simp (disch:=omega) only[E4,C6,j0,j1,ab,aa];rw[e] at a;exact a
  ·have f:wu8 ((b.toNat:Int)+32)=((Y6 b).toNat:Int):=by
    rw[O2];omega
   simp (disch:=omega) only[E4,j1,aa,f];exact a
def Ca5{k0:By->LL->Option R}(s:By)(b:A2 s.length=true):Dh1 LF s k0=k0 (C5 s) ((C5 s).map F1):=by have c:=M5 b;have:=D6;unfold Dh1;simp (disch:=omega) only[c9,F4,ab9];rw[show(decide ((0:Int)<=(s.length:Int)))=true by simp];have:=Ca4 (k0:=λa=>cond (ae9 a Qg) (k0 (ad6 Nx a) a) none) s c s.length 0 LF (by omega) (by omega);simp only[aa2,C5,List.map_nil] at this;rw[aa];refine j8 this ?_;rw[show(ad6 Y6 s).map F1=(C5 s).map F1 from rfl,Z3,Ad];rfl
def Ce8{k0:LL->Option R}(s:By)(o:s.length<=1000000000):∀(r i n:Nat),i+r=s.length->r<n->Hg LF n s (i:Int) ((C5 (s.take i)).map F1) k0=k0 ((C5 s).map F1):=by
 intro r
 induction r with
 | zero=>
  intro i n g j;rcases n with _|n;omega
  rw[Hg];rw[A7,p7 (by omega)];rfl
 | succ r a=>
  intro i n g j;rcases n with _|n;omega
  rw[Hg];have h:(C5 (s.take i)).length=i:=by simp[C5];omega
  have a:=a (i+1) n (by omega) (by omega);rw[MQ s i (by omega)] at a;rw[F6];have l:=(s.getD i 0).toNat_lt;generalize s.getD i 0=b at *;have c:((i:Int)+1)=((i+1:Nat):Int):=by omega
  simp (disch:=omega) only[C6,K6,aa,vl,ac4,h,F4,E6];rw[c];rcases M0 b with⟨d,e⟩|⟨d,e⟩|⟨d,k,e⟩
  ·simp (disch:=omega) only[C6,j0,ab];rw[e] at a;exact a
  ·simp (disch:=omega) only[E4,C6,j0,j1,ab,aa];rw[e] at a;exact a
  ·have f:wu8 ((b.toNat:Int)+32)=((Y6 b).toNat:Int):=by
    rw[O2];omega
   simp (disch:=omega) only[E4,j1,aa,f];exact a
def Ce9{k0:By->LL->Option R}(s:By)(b:A2 s.length=true):Dl4 LF s k0=k0 (C5 s) ((C5 s).map F1):=by have c:=M5 b;have:=D6;unfold Dl4;have:=Ce8 (k0:=λa=>cond (ae9 a Qg) (k0 (ad6 Nx a) a) none) s c s.length 0 LF (by omega) (by omega);refine j8 this ?_;rw[Z3,Ad];rfl
def B77{c:Bool->Option R}(s:By)(d:A2 s.length=true):De6 LF s c=c (Ab s):=by
 unfold De6;have key:Ab s=(([48,120]:By).isPrefixOf s||([48,88]:By).isPrefixOf s):=by
  match s with
  | []=>rfl
  | [a]=>simp[Ab,p5]
  | a::b::r=>
   simp only[Ab,p5,w9,af4,ab9];rw[af9 (a:=(48:UInt8)),af9 (a:=(120:UInt8)),af9 (a:=(88:UInt8))];cases (a==48)<;>simp
 grind
def B60{k0:Unit->Option R}{k1:Int->Option R}(s:By)(C:s.length<=1000000000)(base:Nat)(B:base<=16):∀(r i a n:Nat),i+r=s.length->r<n->a<=X3->
  Kf LF n s (base:Int) (a:Int) (s.length:Int) (i:Int) k0 k1=match F9 base a (s.drop i) with|some v=>k1 (v:Int)|none=>k0 ():=by
 intro r
 induction r with
 | zero=>
  intro i a n u w q;rcases n with _|n;omega
  rw[Kf];rw[A7,j7 (by omega)];rfl
 | succ r l=>
  intro i a n u w q;rcases n with _|n;omega
  rw[Kf,G2 s i (by omega)];rw[F6];have t:=(s.getD i 0).toNat_lt;generalize s.getD i 0=b at *;have k:((i:Int)+1)=((i+1:Nat):Int):=by omega
  have o:X3=1099511627776:=rfl;have step:∀d:Nat,d<base->(a*base+d<100000000000000/\A1 (A1 ((a:Int)*(base:Int))+(d:Int))=((a*base+d:Nat):Int)):=by
   intro d c;have h:a*base<=1099511627776*16:=ah3 (by omega) (by omega);refine⟨by omega,?_⟩;have p:A1 ((a*base:Nat):Int)=((a*base:Nat):Int):=A6;rw[<-ag9,p,A6];rfl
  simp (disch:=omega) only[C6,K6,aa,vl,E6,Xz,Xy,Xx];rw[k];simp only[F9];rcases Ef b with⟨h,j,e⟩|⟨h,j,e⟩|⟨h,j,e⟩|⟨h,j,A,e⟩
  ·have f:wu8 ((b.toNat:Int)-48)=((dig b:Nat):Int):=by rw[O2];omega
   simp (disch:=omega) only[C6,E4,j0,j1,ab,aa,f,E6];by_cases c:dig b<base
   ·rw[ac c,A8,(step _ c).2,C13];exact l (i+1) _ n (by omega) (by omega) (by omega)
   ·rw[ae c,A7];rfl
  ·have f:wu8 ((b.toNat:Int)-97)+10=((dig b:Nat):Int):=by rw[O2];omega
   have g:wu8 ((b.toNat:Int)-97)=((b.toNat:Int)-97):=O2;rw[g] at f;simp (disch:=omega) only[C6,E4,j0,j1,ab,aa,g,E6,f];by_cases c:dig b<base
   ·rw[ac c,A8,(step _ c).2,C13];exact l (i+1) _ n (by omega) (by omega) (by omega)
   ·rw[ae c,A7];rfl
  ·have f:wu8 ((b.toNat:Int)-65)+10=((dig b:Nat):Int):=by rw[O2];omega
   have g:wu8 ((b.toNat:Int)-65)=((b.toNat:Int)-65):=O2;rw[g] at f;simp (disch:=omega) only[C6,E4,j0,j1,ab,aa,g,E6,f];by_cases c:dig b<base
   ·rw[ac c,A8,(step _ c).2,C13];exact l (i+1) _ n (by omega) (by omega) (by omega)
   ·rw[ae c,A7];rfl
  ·rw[ae (show ¬dig b<base by omega)];by_cases x:b.toNat<48
   ·simp (disch:=omega) only[C6,E4,j0,j1,ab,aa]
   ·by_cases y:b.toNat<65
    ·simp (disch:=omega) only[C6,E4,j0,j1,ab,aa]
    ·by_cases z:b.toNat<97
     ·simp (disch:=omega) only[C6,E4,j0,j1,ab,aa]
     ·simp (disch:=omega) only[C6,E4,j0,j1,ab,aa]
def B61{k0:Int->Bool->Option R}(s:By)(base:Int)(c:A2 s.length=true)(d:ltN base 17=true):Cr4 LF s base k0=k0 (O6 (F9 base.toNat 0 s):Int) (F9 base.toNat 0 s).isSome:=by have f:=M5 c;have:=D6;obtain⟨a,e⟩:=E7.1 d;obtain⟨b,rfl⟩:=o6 a;unfold Cr4;have:=B60 (k0:=λ_=>k0 0 false) (k1:=λn=>k0 n true) s f b (by omega) s.length 0 0 LF (by omega) (by omega) (by unfold X3;omega);refine j8 this ?_;rw[p6,c9];cases F9 b 0 s<;>rfl
def Cw4{f:Int->Bool->Option R}(s:By)(d:A2 s.length=true):num LF s f=f (O6 (Ar s):Int) (Ar s).isSome:=by
 have k:=M5 d;unfold num Ar;rw[d];by_cases a:s=[]
 ·subst a;rfl
 have c:(s==([]:By))=false:=by simpa using a
 have j:0<s.length:=z7.2 a;rw[ae a,c];simp only[aa,ab,vl];cases h:Ab s with
 | true=>
  have:=Me h;simp (disch:=first|omega|(simp;omega)) only[aa,if_true,Y7,Y9,D9,Uh];rfl
 | false=>
  simp only[ab,p4,if_false];have i:(F9 10 0 s)=F9 10 0 s:=rfl;by_cases g:1<s.length
  ·simp (disch:=omega) only[C6,K6,aa,Iq,g,true_and];have e:=S7 (s.getD 0 0) 48 (by omega);rw[show((48:Nat):Int)=48 from rfl] at e;rw[e];by_cases b:s.getD 0 0=48
   ·rw[ac b,b,show((48:UInt8)==s9 48)=true from rfl];simp (disch:=first|omega|(simp;omega)) only[Y7,Y9,D9,Uh,aa];rfl
   ·rw[ae b,show(s.getD 0 0==s9 48)=false from beq_eq_false_iff_ne.2 b];rfl
  ·rw[A7,I9];rfl
def Ac2{b:Bool->Option R}(s:By)(a:A2 s.length=true):HD LF s b=b (F8 s):=by
 have i:=M5 a;have h:=Ce s;have g:=Ok (SL s);have d:=DN s;have c:((D8 s).length:Int)-1=(((D8 s).length-1:Nat):Int):=by omega
 unfold HD F8;rw[a];simp (disch:=omega) only[aa,vl,C3,c,E6,K6,c9,O0,S8,d,D9];cases f:Ab (Du s) with
 | true=>
  have:=Me f;have e:Ar (Du s)=F9 16 0 ((Du s).drop 2):=by
   unfold Ar;grind
  simp[e]
 | false=>
  simp only[ab,p4,if_false];cases F9 10 0 (Du s) with
  | none=>simp
  | some v=>cases Du s<;>rfl
def PX{c:Bool->Option R}(s:By)(a:A2 s.length=true):Zz LF s c=c (F8 s):=by
 have j:=M5 a;have i:=Ce s;have h:=Ok (SL s);have e:=DN s;have d:((D8 s).length:Int)-1=(((D8 s).length-1:Nat):Int):=by omega
 unfold Zz F8;rw[a,Cw5];simp (disch:=omega) only[aa,vl,C3,d,E6,K6,c9,O0,S8,e,D9];generalize Du s=l at *;cases (!l.isEmpty&&(F9 10 0 l).isSome) with
 | true=>rfl
 | false=>
  simp only[ab,p4,if_false];cases Ar l with
  | none=>rfl
  | some v=>
   simp only[o0,aa,if_true,Bv7];by_cases b:2<=l.length
   ·simp (disch:=omega) only[E4,K6,j1,aa,b,decide_true,ah9];have f:=S7 (l.getD 1 0) 120 (by omega);have g:=S7 (l.getD 1 0) 88 (by omega);grind
   ·rw[A8];simp[b]
def ZS{e:By->Option R}(b:Nat)(j:b<=9223372036854775808)(n:Int)(f:ltN n (b+1)=true):GV b n e=e (j6 n.toNat):=by
 obtain⟨a,g⟩:=E7.1 f;obtain⟨m,rfl⟩:=o6 a;have key:∀d:Nat,d<10->wu8 (A1 (48+(d:Int)))=((48+d:Nat):Int):=by
  intro d i;rw[A6,O2];rfl
 have c:∀d:Nat,d<10->[[SV.int .u8 ((48+d:Nat):Int)]]=[s9 (48+d)].map F1:=by
  intro d i;rw[C38 (by omega)];rfl
 unfold GV;rw[c9];by_cases h:m<10
 ·rw[A8,key m h,x5 h];simp only[aa,vl];rw[c m h,Z3,Ad];rfl
 ·have l:=Ly 19 (m / 10) (by omega) (by omega);rw[A7,show(10:Int)=((10:Nat):Int) from rfl,N6,Dm];simp (disch:=omega) only[ab,vl,E6,aa,c9];rw[N4];simp only[aa];have k:=key (m % 10) (by omega);rw[A6] at k;rw[k,c (m % 10) (by omega),Z3,Ad,J4 (by simp;omega),Bm m h];rfl
def Cd6{f:Int->Option R}{c:Unit->Option R}(s:By):∀(r m n:Nat),m+r=256->r<n->On LF n s (m:Int) f c=match oct s with|some v=>(if m<=v then f (v:Int) else c ())|none=>c ():=by
 intro r
 induction r with
 | zero=>
  intro m n g i;rcases n with _|n;omega
  rw[On];rw[A7];cases h:oct s with
  | none=>rfl
  | some v=>have:=(Zi.1 h).1;simp only[ab];rw[I9]
 | succ r j=>
  intro m n g i;rcases n with _|n;omega
  rw[On];have b:((m:Int)+1)=((m+1:Nat):Int):=by omega
  simp (disch:=omega) only[C6,Uh,aa,vl,E6,c9];by_cases a:j6 m=s
  ·rw[show(j6 m==s)=true by simpa using a,Zi.2 ⟨by omega,a⟩];simp
  ·rw[show(j6 m==s)=false by simpa using a,ab,b,j (m+1) n (by omega) (by omega)];cases h:oct s with
   | none=>rfl
   | some v=>
    have:=(Zi.1 h).2;have:v≠m:=by intro e;subst e;exact a this
    simp only[];by_cases d:m<=v
    ·rw[ac d,U9]
    ·rw[ae d,I9]
def Cd7{a:Int->Bool->Option R}(s:By)(b:A2 s.length=true):Dk2 LF s a=a (O6 (oct s):Int) (oct s).isSome:=by have:=D6;unfold Dk2;refine j8 (Cd6 s 256 0 LF (by omega) (by omega)) ?_;cases oct s<;>rfl
def Du6(s:By)(a b:Nat)(h:a<=b)(c:b<s.length):cut s (a:Int) ((b+1:Nat):Int)=cut s (a:Int) (b:Int)++[s.getD b 0]:=by rw[Fc,Fc,UH s b c,aa3 (by rw[w6];omega)]
def Wa(s:By)(a:Nat):cut s (a:Int) (a:Int)=[]:=by rw[Fc];grind
def Aw6{k0:LL->Option R}(s:By)(p:s.length<=1000000000)(c:UInt8):∀(r i a n:Nat) (l:List By),i+r=s.length->r+1<n->a<=i->l.length<=i->
  X6 LF n s (c.toNat:Int) (a:Int) (i:Int) (C2 l) k0=k0 (C2 (l++L7 c (cut s (a:Int) (i:Int)) (s.drop i))):=by
 intro r
 induction r with
 | zero=>
  intro i a n l j o f k;rcases n with _|n;omega
  rcases n with _|n;omega
  have b:i=s.length:=by omega
  subst b;rw[X6];simp (disch:=omega) only[E4,j1,aa,beq_self_eq_true,Y7,C3,F4,E6];rw[X6];rw[A8,List.drop_length];simp only[j0,ab,L7,Fx];rfl
 | succ r g=>
  intro i a n l j o f k;rcases n with _|n;omega
  rw[X6];have d:((i:Int)+1)=((i+1:Nat):Int):=by omega
  have e:((i:Int)==(s.length:Int))=false:=by rw[beq_eq_false_iff_ne];omega
  simp (disch:=omega) only[E4,j1,aa,ab,e,K6,F6,Dv3,Y7,C3,F4,E6];rw[d,G2 s i (by omega)];simp only[L7];by_cases h:s.getD i 0=c
  ·rw[show(s.getD i 0==c)=true by simpa using h,ac h,aa];have:=g (i+1) (i+1) n (l++[cut s (a:Int) (i:Int)]) (by omega) (by omega) (by omega) (by simp<;>omega);rw[Fx] at this;refine j8 this ?_;rw[Wa];simp
  ·rw[show(s.getD i 0==c)=false from beq_eq_false_iff_ne.2 h,ae h,ab];rw[g (i+1) a n l (by omega) (by omega) (by omega) (by omega),Du6 s a i f (by omega)]
def Bn1{k0:LL->Option R}(s:By)(c:Int)(a:A2 s.length=true)(d:inR c 256=true):NW LF s c k0=k0 (C2 (pcs (u8n c) s)):=by
 have f:=M5 a;have:=D6;simp only[inR,p9,af] at d;have e:c=((u8n c).toNat:Int):=by
  unfold u8n;simp;omega
 unfold NW;generalize u8n c=b at *;subst e;have:=Aw6 (k0:=k0) s f b s.length 0 0 LF [] (by omega) (by omega) (by omega) (by simp);refine j8 this ?_;rw[Wa];rfl
def Ay8(c:UInt8)(s:By):(C2 (pcs c s)).isEmpty=false:=by
 cases h:pcs c s with
 | nil=>exact absurd h (Ad3 c s)
 | cons a r=>rfl
def Aw7(s:By)(c:Int)(a:A2 s.length=true)(b:inR c 256=true):∃r H,NW LF s c (λl=>rv (.fl 0) [.arr true 9 1 l])=rv r H/\r.stab [1] H = .s (.sl false false 1 (C2 (pcs (u8n c) s))):=by refine⟨_,_,Bn1 s c a b,?_⟩;simp[PV.stab,Qb,PV.snap,Ay8]
def C14(d:List By)(x:By)(m:Nat):ad7 (C2 (d++j4 (m+1) [])) d.length (H7 (j2 (C2 (d++j4 (m+1) [])) d.length []) 0 [SV.str x])=C2 ((d++[x])++j4 m []):=by
 have a:j2 (C2 (d++j4 (m+1) [])) d.length []=[SV.str []]:=by
  unfold C2;grind
 rw[a];simp only[H7,af7,Fx];rw[show d.length=(C2 d).length by simp,List.set_append_right _ _ (by omega),aj4,ac8];simp[C2]
def Aq1{k0:By->Int->LL->Option R}(c:UInt8):∀(m n:Nat) (s:By) (d:List By),s.length<=1000000000->m=s.count c->d.length+m<=1000000000->m<n->
  ∃(f:List By) (e:By),pcs c s=f++[e]/\e.length<=s.length/\Cn LF n s [c] 0 ((d.length+m:Nat):Int) (d.length:Int) (C2 (d++j4 (m+1) [])) k0=k0 e ((d.length+m:Nat):Int) (C2 ((d++f)++[[]])):=by
 intro m
 induction m with
 | zero=>
  intro n s d k b x y;rcases n with _|n;omega
  have a:c∉s:=ad0.1 b.symm;refine⟨[],s,Mn a,af1 _,?_⟩;rw[Cn];rw[A7];simp
 | succ m z=>
  intro n s d k b x y;rcases n with _|n;omega
  rcases Aj c s with a|⟨p,r,rfl,a⟩
  ·rw[ad0.2 a] at b;omega
  ·have i:m=r.count c:=by
    rw[List.count_append,List.count_cons,ad0.2 a] at b;simp at b;omega
   simp only[ab2,x8] at k;obtain⟨f,e,w,B,j⟩:=z n r (d++[p]) (by omega) i (by simp<;>omega) (by omega);refine⟨p::f,e,by rw[HH a,w];rfl,by simp<;>omega,?_⟩;rw[Cn];have l:((p.length:Int)+1)=((p.length+1:Nat):Int):=by omega
   have o:(d.length:Int)+1=((d.length+1:Nat):Int):=by omega
   have q:((p.length+1:Nat):Int).toNat=p.length+1:=by omega
   have A:(((p++c::r).length:Nat):Int)=((p.length+(r.length+1):Nat):Int):=by simp
   have t:(p++c::r).take p.length=p:=List.take_left' rfl;have u:(p++c::r).drop (p.length+1)=r:=by
    rw[show p++c::r=(p++[c])++r by simp,List.drop_left' (by simp)]
   rw[DI a];have v:(C2 (d++j4 (m+1+1) [])).length=d.length+(m+2):=by simp<;>omega
   simp (disch:=first|omega|(simp;omega)) only[C6,E4,D9,aa,ab,vl,Int.add_zero,E6,Y7,K6,v,c9,aa5,Y9,U6,t,C14];rw[decide_eq_true (show d.length<d.length+(m+2) by omega),aa,show((1:Nat):Int)=1 from rfl,l];simp (disch:=first|omega|(simp;omega)) only[E6,Y7,aa,Y9,q,u,o];have g:((((d++[p]).length+m:Nat):Int))=((d.length+(m+1):Nat):Int):=by simp<;>omega
   have h:(((d++[p]).length:Nat):Int)=((d.length+1:Nat):Int):=by simp
   rw[g,h] at j;rw[j];simp
def LX{k0:Unit->Option R}{g:Nat->LL->Option R}(s p:By)(v n:Int)(w:A2 s.length=true)(x:(p.length==1)=true)(y:(v==0)=true)(z:(n==(-1))=true) :
  LW LF s p v n k0 g=g (pcs (p.getD 0 0) s).length (C2 (pcs (p.getD 0 0) s)):=by
 have C:=M5 w;have:=D6;obtain⟨c,rfl⟩:∃c,p=[c]:=by
  match p,x with
  | [c],_=>exact⟨c,rfl⟩
 have:v=0:=by simpa using y
 subst this;have:n=-1:=by simpa using z
 subst this;have G:=Fm c s;have B:=Gz c s;obtain⟨d,D,u,F,h⟩:=Aq1 (R:=R) (k0:=λf a b=>cond (inR a (j5 b))
     (cond (decide ((j9 a)<(j5 b)))
      (vl (A1 (a+(1))) λe=>
      cond (L3 (0) e (j5 (ad7 b (j9 a) (H7 (j2 b (j9 a) []) 0 [(SV.str f)]))))
       (g ((j9 e)-0) (ad7 b (j9 a) (H7 (j2 b (j9 a) []) 0 [(SV.str f)])))
       (none))
      (none))
     (none)) c (s.count c) LF s [] C rfl (by simp<;>omega) (by omega)
 unfold LW;have i:A1 ((s.count c:Int)+1)=((s.count c+1:Nat):Int):=A6;have j:A1 ((s.length:Int)+1)=((s.length+1:Nat):Int):=A6;have k:(if ((s.length+1:Nat):Int)<((s.count c+1:Nat):Int) then ((s.length+1:Nat):Int) else ((s.count c+1:Nat):Int))=((s.count c+1:Nat):Int):=I9;have l:((s.count c+1:Nat):Int)-1=(s.count c:Int):=by omega
 have m:(j4 (s.count c+1) [SV.str ([]:By)])=C2 ([]++j4 (s.count c+1) []):=by simp[C2]
 simp only[w9,vl,aa5,i,j,k,c9,m];rw[show((-1:Int)==0)=false from rfl,show([c]==([]:By))=false from rfl,show ltI (-1) 0=true from rfl,decide_eq_true (show(0:Int)<=((s.count c+1:Nat):Int) by omega),decide_eq_true (show((s.count c+1:Nat):Int)<=((s.count c+1:Nat):Int) by omega),F4 (by omega),l,A6];simp only[aa,ab,beq_self_eq_true,Bool.and_self];simp only[ab1,ac9] at h;refine j8 h ?_;have o:(C2 ((([]:List By)++d)++[[]]))=C2 (d++j4 (0+1) []):=by simp
 have A:d.length=s.count c:=by grind
 have q:=C14 d D 0;rw[<-A,o];have t:(C2 (d++j4 (0+1) ([]:By))).length=d.length+1:=by simp
 have r:A1 ((d.length:Int)+1)=((d.length+1:Nat):Int):=A6;simp only[c9,q,t,vl,r];rw[H4,decide_eq_true (show d.length<d.length+1 by omega),Y7 (by omega) (by omega) (by simp),u];simp
def Aq2(s p:By)(v n:Int)(a:A2 s.length=true)(b:(p.length==1)=true)(c:(v==0)=true)(d:(n==(-1))=true) :
  ∃r H,LW LF s p v n (λ_=>rv (.fl 0) [.arr true 9 1 []]) (λi l=>rv (.vw 0 0 i) [.arr false 9 1 l])=rv r H/\r.stab [1] H = .s (.sl false false 1 (C2 (pcs (p.getD 0 0) s))):=by
 refine⟨_,_,LX s p v n a b c d,?_⟩;simp[PV.stab,Qb,PV.snap,p7]
def Ag5{a:Nat->LL->Option R}(s p:By)(b:A2 s.length=true)(c:(p.length==1)=true):HT LF s p a=a (pcs (p.getD 0 0) s).length (C2 (pcs (p.getD 0 0) s)):=by unfold HT;rw[b,c];rfl
def TE{l:List By}{i:Nat}(h:i<l.length):l.getD i []∈l:=by grind
def Be3{d:LL->Option R}(s:By)(b:A2 s.length=true):parts LF s d=d (C2 (D8 s)):=by
 have j:=M5 b;have g:=Gz 46 s;have i:=Fm 46 s;unfold parts;rw[b];have e:A1 (((pcs 46 s).length:Int)-1)=(((pcs 46 s).length-1:Nat):Int):=by rw[A6];omega
 simp only[aa,vl,w9,show((1:Nat)==1)=true from rfl,C3,e,c9];by_cases c:1<(pcs 46 s).length
 ·rw[A8,H4,O0 (by omega),S8];have f:(pcs 46 s).getD ((pcs 46 s).length-1) []=(pcs 46 s).getLastD []:=by grind
  rw[f];by_cases a:(pcs 46 s).getLastD []=[]
  ·rw[a,show(([]:By)==[])=true from rfl,O8];have:D8 s=(pcs 46 s).dropLast:=by unfold D8;rw[ac ⟨c,a⟩]
   rw[this,ae5,U6,c9];simp[C2]
  ·rw[show((pcs 46 s).getLastD []==[])=false from beq_eq_false_iff_ne.2 a];have:D8 s=pcs 46 s:=by unfold D8;rw[ae (λh=>a h.2)]
   grind
 ·rw[A7];have:D8 s=pcs 46 s:=by unfold D8;rw[ae (λh=>c h.1)]
  grind
def Av7{d:LL->Option R}(s:By)(b:A2 s.length=true):Ae9 LF s d=d (C2 (D8 s)):=by
 have j:=M5 b;have g:=Gz 46 s;have i:=Fm 46 s;unfold Ae9;rw[b];have e:A1 (((pcs 46 s).length:Int)-1)=(((pcs 46 s).length-1:Nat):Int):=by rw[A6];omega
 simp only[aa,vl,show u8n 46=46 from rfl,C3,e,c9];by_cases c:1<(pcs 46 s).length
 ·rw[A8,H4,O0 (by omega),S8];have f:(pcs 46 s).getD ((pcs 46 s).length-1) []=(pcs 46 s).getLastD []:=by grind
  rw[f];by_cases a:(pcs 46 s).getLastD []=[]
  ·rw[a,show(([]:By)==[])=true from rfl,O8];have:D8 s=(pcs 46 s).dropLast:=by unfold D8;rw[ac ⟨c,a⟩]
   rw[this,ae5,U6,c9];simp[C2]
  ·rw[show((pcs 46 s).getLastD []==[])=false from beq_eq_false_iff_ne.2 a];have:D8 s=pcs 46 s:=by unfold D8;rw[ae (λh=>a h.2)]
   grind
 ·rw[A7];have:D8 s=pcs 46 s:=by unfold D8;rw[ae (λh=>c h.1)]
  grind
def Lg(l:List By)(i:Nat)(h:i<l.length):l.drop i=l.getD i []::l.drop (i+1):=by simp_all
def Cc7{g:Unit->Option R}{j:Int->Option R}(l:List By)(B:1<=l.length)(L:l.length<=4)(A:∀x∈l,x.length<=1000000000):∀(r i v n:Nat),i+r=l.length->0<r->r<n->v<256 ^ i->
  Kl LF n (C2 l) (v:Int) (l.length:Int) (i:Int) g j=match Wl (8*(5-l.length)) v (l.drop i) with|some w=>j (w:Int)|none=>g ():=by
 intro r
 induction r with
 | zero=>intro i v n _ h;omega
 | succ r J=>
  intro i v n K _ M H;rcases n with _|n;omega
  rw[Kl,Lg l i (by omega)];have N:=A _ (TE (show i<l.length by omega));have f:X3=1099511627776:=rfl;have C:256 ^ i<=16777216:=by
   have:i=0\/i=1\/i=2\/i=3:=by omega
   rcases this with rfl|rfl|rfl|rfl<;>decide
  simp (disch:=omega) only[C6,C3,K6,aa,c9,O0,S8,D9,vl];simp only[Wl];have c:((i:Int)+1)=((i+1:Nat):Int):=by omega
  cases D:Ar (l.getD i []) with
  | none=>rfl
  | some q=>
   have F:=Bz6 D;have p:A1 ((l.length:Int)-1)=((l.length-1:Nat):Int):=by rw[A6];omega
   simp only[o0,j0,ab,O6,o5,p];by_cases G:r=0
   ·subst G;have t:l.drop (i+1)=[]:=j7 (by omega);have o:A1 (8*A1 (5-(l.length:Int)))=((8*(5-l.length):Nat):Int):=by
     rw[E6 (n:=5-(l.length:Int)) (by omega) (by omega),A6];omega
    have b:2 ^ (8*(5-l.length))*256 ^ i=4294967296:=by
     have:l.length=1\/l.length=2\/l.length=3\/l.length=4:=by omega
     grind
    have u:1*2 ^ (8*(5-l.length))<=4294967296:=by
     rw[<-b,af2];exact ad8 _ (ag8 (by omega))
    rw[t,A7,o,decide_eq_true (show(0:Int)<=((8*(5-l.length):Nat):Int) by omega)];simp only[ab,aa];have k:=Ax3 1 (8*(5-l.length)) (by omega) (by omega);have I:v*2 ^ (8*(5-l.length))<4294967296:=by
     rw[<-b,aj3];exact Nat.mul_lt_mul_of_pos_left H (ag8 (by omega))
    have e:=Ax3 v (8*(5-l.length)) (by omega) (by omega);rw[show((1:Nat):Int)=1 from rfl] at k;rw[k,e,af2];by_cases a:q<2 ^ (8*(5-l.length))
    ·rw[A8,ac a,Dt9 _ _ (by omega) (by omega),HG v q _ a];simp only[j0,ab];rcases n with _|n;omega
     rw[Kl];rw[c,A6,A7];rfl
    ·rw[A7,ae a];rfl
   ·obtain⟨y,z,d⟩:∃y z,l.drop (i+1)=y::z:=⟨_,_,Lg l (i+1) (by omega)⟩
    rw[d,A8];simp only[aa];by_cases a:q<=255
    ·have e:=Ax3 v 8 (by omega) (by omega);rw[show((8:Nat):Int)=8 from rfl] at e;rw[A7,ac a,e,Dt9 _ _ (by omega) (by omega),HG v q 8 (by omega),c,A6];rw[<-d];exact J (i+1) _ n (by omega) (by omega) (by omega) (by rw[x3];omega)
    ·rw[A8,ae a];rfl
def B01(free m:Nat):∀(l:List By) (v w:Nat),v<256 ^ m->Wl free v l=some w->w<256 ^ (m+(l.length-1))*2 ^ free
 | [],v,w,b,h=>by cases h
 | p::r,v,w,b,h=>by
  simp only[Wl] at h;cases a:Ar p with
  | none=>simp[a] at h
  | some q=>
   simp only[a] at h;cases r with
   | nil=>
    simp only at h;split at h
    ·rename_i c;cases h;simp only[x8,ab1,af8,ae0];have:(v+1)*2 ^ free<=256 ^ m*2 ^ free:=ac2 _ b;grind
    grind
   | cons y z=>
    simp only at h;split at h
    ·rename_i c;have:=B01 free (m+1) (y::z) (v*256+q) w (by rw[x3];omega) h;grind
    grind
def Cx6{s:By}{w:Nat}(h:pnB s=some w):w<4294967296:=by
 unfold pnB at h;split at h
 ·cases h
 ·rename_i a;have b:=Ce s;have:=B01 _ 0 (D8 s) 0 w (by decide) h;have e:(D8 s).length=1\/(D8 s).length=2\/(D8 s).length=3\/(D8 s).length=4:=by omega
  grind
def Cc8{b:Int->Bool->Option R}(s:By)(a:A2 s.length=true):Dj5 LF s b=b (O6 (pnB s):Int) (pnB s).isSome:=by
 have f:=M5 a;have:=D6;have c:=Ce s;unfold Dj5;rw[a,C3];by_cases h:4<(D8 s).length
 ·rw[A8];unfold pnB;rw[ac h];rfl
 ·rw[A7];simp only[aa,ab];refine j8 (Cc7 (D8 s) c.1 (by omega) (λx g=>ab6 (Ok g) f) (D8 s).length 0 0 LF (by omega) (by omega) (by omega) (by decide)) ?_;have e:pnB s=Wl (8*(5-(D8 s).length)) 0 (D8 s):=by unfold pnB;rw[ae h]
  rw[p6,<-e];cases d:pnB s with
  | none=>rfl
  | some w=>
   have:=Cx6 d;simp only[O6,o5,o0];rw[Po]
def Bl6{k0:Unit->Option R}{k1:Int->Option R}(l:List By)(F:1<=l.length)(L:l.length<=4)(D:∀x∈l,x.length<=1000000000):∀(r i v n:Nat),i+r=l.length->0<r->r<n->v<256 ^ i->
  Fv LF n (C2 l) ((v*2 ^ (32-8*i):Nat):Int) (i:Int) k0 k1=match Wl (8*(5-l.length)) v (l.drop i) with|some w=>k1 (w:Int)|none=>k0 ():=by
 intro r
 induction r with
 | zero=>intro i v n _ h;omega
 | succ r J=>
  intro i v n K _ M N;rcases n with _|n;omega
  rw[Fv,Lg l i (by omega)];have O:=D _ (TE (show i<l.length by omega));have k:X3=1099511627776:=rfl;have a:v*2 ^ (32-8*i)<4294967296:=by
   have:i=0\/i=1\/i=2\/i=3:=by omega
   rcases this with rfl|rfl|rfl|rfl
   all_goals omega
  simp (disch:=omega) only[C6,C3,K6,aa,c9,O0,S8,D9,vl];simp only[Wl];have c:((i:Int)+1)=((i+1:Nat):Int):=by omega
  cases G:Ar (l.getD i []) with
  | none=>rfl
  | some q=>
   have H:=Bz6 G;have A:A1 ((l.length:Int)-1)=((l.length-1:Nat):Int):=by rw[A6];omega
   simp only[o0,j0,ab,O6,o5,A];by_cases I:r=0
   ·subst I;have B:l.drop (i+1)=[]:=j7 (by omega);have u:A1 (8*A1 (5-(l.length:Int)))=((8*(5-l.length):Nat):Int):=by
     rw[E6 (n:=5-(l.length:Int)) (by omega) (by omega),A6];omega
    have f:2 ^ (8*(5-l.length))*256 ^ i=4294967296:=by
     have:l.length=1\/l.length=2\/l.length=3\/l.length=4:=by omega
     grind
    have C:1*2 ^ (8*(5-l.length))<=4294967296:=by
     rw[<-f,af2];exact ad8 _ (ag8 (by omega))
    have e:((i:Int)==((l.length-1:Nat):Int))=true:=by rw[beq_iff_eq];omega
    rw[B,e,u,decide_eq_true (show(0:Int)<=((8*(5-l.length):Nat):Int) by omega)];simp only[aa];have o:=Ax3 1 (8*(5-l.length)) (by omega) (by omega);rw[show((1:Nat):Int)=1 from rfl] at o;rw[o,af2];by_cases b:q<2 ^ (8*(5-l.length))
    ·rw[A8,ac b];simp only[j0,ab];rcases n with _|n;omega
     rw[Fv];rw[c,E6 (n:=((i+1:Nat):Int)) (by omega) (by omega),C3,A7];have:32-8*i=8*(5-l.length):=by omega
     rw[this] at a ⊢;rw[ab,A6];rfl
    ·rw[A7,ae b];rfl
   ·obtain⟨y,z,d⟩:∃y z,l.drop (i+1)=y::z:=⟨_,_,Lg l (i+1) (by omega)⟩
    have e:((i:Int)==((l.length-1:Nat):Int))=false:=by rw[beq_eq_false_iff_ne];omega
    rw[d,e];simp only[ab];by_cases b:q<=255
    ·have j:A1 (24-A1 (8*(i:Int)))=((24-8*i:Nat):Int):=by
      rw[E6 (n:=8*(i:Int)) (by omega) (by omega),A6];omega
     have g:q*2 ^ (24-8*i)<4294967296:=by
      have:i=0\/i=1\/i=2:=by omega
      clear a;rcases this with rfl|rfl|rfl
      ·show q*16777216<_;omega
      ·show q*65536<_;omega
      ·show q*256<_;omega
     have p:=Ax3 q (24-8*i) (by omega) (by omega);rw[A7,ac b,j,decide_eq_true (show(0:Int)<=((24-8*i:Nat):Int) by omega),p,c,E6 (n:=((i+1:Nat):Int)) (by omega) (by omega)];have t:A1 (((v*2 ^ (32-8*i):Nat):Int)+((q*2 ^ (24-8*i):Nat):Int))=(((v*256+q)*2 ^ (32-8*(i+1)):Nat):Int):=by
      rw[A6];have:i=0\/i=1\/i=2:=by omega
      clear a g p j;rcases this with rfl|rfl|rfl
      ·show((v*4294967296:Nat):Int)+((q*16777216:Nat):Int)=(((v*256+q)*16777216:Nat):Int);omega
      ·show((v*16777216:Nat):Int)+((q*65536:Nat):Int)=(((v*256+q)*65536:Nat):Int);omega
      ·show((v*65536:Nat):Int)+((q*256:Nat):Int)=(((v*256+q)*256:Nat):Int);omega
     rw[t,<-d];exact J (i+1) _ n (by omega) (by omega) (by omega) (by rw[x3];omega)
    ·rw[A8,ae b];rfl
def Bl7{k0:Int->Bool->Option R}(s:By)(a:A2 s.length=true):B16 LF s k0=k0 (O6 (pnB s):Int) (pnB s).isSome:=by
 have f:=M5 a;have:=D6;have c:=Ce s;unfold B16;rw[a,C3];by_cases h:4<(D8 s).length
 ·rw[A8];unfold pnB;rw[ac h];rfl
 ·rw[A7];simp only[aa,ab];have b:=Bl6 (k0:=λ_=>k0 0 false) (k1:=λv=>k0 (EM v) true) (D8 s) c.1 (by omega) (λx g=>ab6 (Ok g) f) (D8 s).length 0 0 LF (by omega) (by omega) (by omega) (by decide);rw[Nat.zero_mul] at b;refine j8 b ?_;have e:pnB s=Wl (8*(5-(D8 s).length)) 0 (D8 s):=by unfold pnB;rw[ae h]
  rw[p6,<-e];cases d:pnB s with
  | none=>rfl
  | some w=>
   have:=Cx6 d;simp only[O6,o5,o0];rw[Po]
def Bz7:∀(l:List By) (v w m:Nat),v<256 ^ m->NB v l=some w->w<256 ^ (m+l.length)
 | [],v,w,m,b,h=>by simp only[NB,o7] at h;subst h;simpa using b
 | p::r,v,w,m,b,h=>by
  simp only[NB] at h;cases a:oct p with
  | none=>simp[a] at h
  | some q=>
   simp only[a] at h;have c:=(Zi.1 a).1;have:=Bz7 r (v*256+q) w (m+1) (by rw[x3];omega) h;grind
def Di4(s:By):oct s=match F9 10 0 s with|some n=>(if n<=255 then (if j6 n=s then some n else none) else none)|none=>none:=by unfold oct;grind
def C49{e:Unit->Option R}{f:Int->Option R}(l:List By)(z:l.length=4)(j:∀x∈l,x.length<=1000000000):∀(r i v n:Nat),i+r=4->r<n->v<256 ^ i->
  Ww LF n (v:Int) (C2 l) 4 (i:Int) e f=match NB v (l.drop i) with|some w=>f (w:Int)|none=>e ():=by
 intro r
 induction r with
 | zero=>
  intro i v n h k u;rcases n with _|n;omega
  rw[Ww];rw[A7,j7 (by omega)];rfl
 | succ r y=>
  intro i v n h k u;rcases n with _|n;omega
  rw[Ww,Lg l i (by omega)];have A:=j _ (TE (show i<l.length by omega));have o:256 ^ i<=16777216:=by
   have:i=0\/i=1\/i=2\/i=3:=by omega
   grind
  simp (disch:=omega) only[C6,C3,K6,aa,c9,O0,S8,D9,Uh,vl];simp only[NB];have b:((i:Int)+1)=((i+1:Nat):Int):=by omega
  rw[Di4];cases p:F9 10 0 (l.getD i []) with
  | none=>rfl
  | some q=>
   have t:=LG (by unfold X3;omega) p;have d:X3=1099511627776:=rfl;simp only[o0,j0,ab,O6,o5,c9];by_cases c:q<=255
   ·rw[A7,ac c,N4];simp only[ab,aa];by_cases a:j6 q=l.getD i []
    ·have g:=D79 v 8 (by omega) (by omega);rw[show((8:Nat):Int)=8 from rfl] at g;rw[show(j6 q==l.getD i [])=true by simpa using a,ac a,g,Po,D61 _ _ (by omega) (by omega),HG v q 8 (by omega),b,A6];exact y (i+1) _ n (by omega) (by omega) (by rw[x3];omega)
    ·rw[show(j6 q==l.getD i [])=false from beq_eq_false_iff_ne.2 a,ae a];rfl
   ·rw[A8,ae c];rfl
def C50{b:Int->Bool->Option R}(s:By)(a:A2 s.length=true):v4p LF s b=b (O6 (v4B s):Int) (v4B s).isSome:=by
 have c:=M5 a;have:=D6;unfold v4p v4B;rw[a];simp only[aa,vl,w9,C3,show((1:Nat)==1)=true from rfl];by_cases h:(pcs 46 s).length=4
 ·rw[ac h,h,show(((4:Nat):Int)!=4)=false from rfl,ab];refine j8 (C49 (pcs 46 s) h (λx d=>ab6 (Av d).2 c) 4 0 0 LF (by omega) (by omega) (by decide)) ?_;rw[p6];cases NB 0 (pcs 46 s)<;>rfl
 ·rw[ae h,show(((pcs 46 s).length:Int)!=4)=true by simp<;>omega];rfl
def Cg2{b:Unit->Option R}{c:Int->Option R}(l:List By)(y:l.length=4)(h:∀x∈l,x.length<=1000000000):∀(r i v n:Nat),i+r=4->r<n->v<256 ^ i->
  Oy LF n (C2 l) (v:Int) (i:Int) b c=match NB v (l.drop i) with|some w=>c (w:Int)|none=>b ():=by
 intro r
 induction r with
 | zero=>
  intro i v n g j t;rcases n with _|n;omega
  rw[Oy];rw[A7,j7 (by omega)];rfl
 | succ r u=>
  intro i v n g j t;rcases n with _|n;omega
  rw[Oy,Lg l i (by omega)];have z:=h _ (TE (show i<l.length by omega));have k:256 ^ i<=16777216:=by
   have:i=0\/i=1\/i=2\/i=3:=by omega
   grind
  simp (disch:=omega) only[C6,C3,K6,aa,c9,O0,S8,D9,Uh,vl];simp only[NB];have a:((i:Int)+1)=((i+1:Nat):Int):=by omega
  cases o:oct (l.getD i []) with
  | none=>rfl
  | some q=>
   have p:=(Zi.1 o).1;simp only[o0,j0,ab,O6,o5];have d:EM ((v:Int)*256)=((v*256:Nat):Int):=by rw[Po];simp
   have e:EM (q:Int)=(q:Int):=Po;have f:EM (((v*256:Nat):Int)+(q:Int))=((v*256+q:Nat):Int):=by rw[Po];simp
   rw[d,e,f,a,A6];exact u (i+1) _ n (by omega) (by omega) (by rw[x3];omega)
def Cg3{b:Int->Bool->Option R}(s:By)(a:A2 s.length=true):Dm7 LF s b=b (O6 (v4B s):Int) (v4B s).isSome:=by
 have c:=M5 a;have:=D6;unfold Dm7 v4B;rw[a];simp only[aa,vl,show u8n 46=46 from rfl,C3];by_cases h:(pcs 46 s).length=4
 ·rw[ac h,h,show(((4:Nat):Int)!=4)=false from rfl,ab];refine j8 (Cg2 (pcs 46 s) h (λx d=>ab6 (Av d).2 c) 4 0 0 LF (by omega) (by omega) (by decide)) ?_;rw[p6];cases NB 0 (pcs 46 s)<;>rfl
 ·rw[ae h,show(((pcs 46 s).length:Int)!=4)=true by simp<;>omega];rfl
def C48{j:By->Option R}(v:Int)(o:ltN v 4294967296=true):v4f LF v j=j (V3 v.toNat):=by
 obtain⟨c,p⟩:=E7.1 o;obtain⟨m,rfl⟩:=o6 c;have:=D6;obtain⟨f,q⟩:∃f,LF=f+1+1+1+1+1:=⟨LF-5,by omega⟩
 have step:∀(n:Nat) (i:Nat) (out:By) (K:By->Option R),i<=24->out.length<=1000->Jt LF (n+1) (m:Int) out (i:Int) K=Jt LF n (m:Int) (out++(j6 (m / 2 ^ i % 256)++[46])) ((i:Int)-8) K:=by
  intro n i out K y A;rw[Jt];have g:m / 2 ^ i<4294967296:=Nat.lt_of_le_of_lt (ae3 _ _) (by omega);have k:A42 .u32 (Sa .u32 (m:Int) (i:Int)) 255=((m / 2 ^ i % 256:Nat):Int):=by
   rw[Tu .u32 m i (by show i<=32;omega),show(255:Int)=((255:Nat):Int) from rfl,Dw2 _ _ g (by omega),Dw1]
  have z:=G8 (m / 2 ^ i % 256) (by omega);have l:A1 ((m / 2 ^ i % 256:Nat):Int)=((m / 2 ^ i % 256:Nat):Int):=A6;rw[A7,decide_eq_true (show(0:Int)<=(i:Int) by omega),k];simp only[vl,l,c9,j1,aa];rw[N4,J4 (by omega),J4 (by simp<;>omega),A6];rfl
 have b:∀(n:Nat) (out:By) (K:By->Option R),Jt LF (n+1) (m:Int) out (-8) K=K out:=by
  intro n out K;rw[Jt];simp_all
 have x:=G8 (m / 2 ^ 24 % 256) (by omega);have w:=G8 (m / 2 ^ 16 % 256) (by omega);have D:=G8 (m / 2 ^ 8 % 256) (by omega);have C:=G8 (m / 2 ^ 0 % 256) (by omega);have u:=G8 (m / 16777216 % 256) (by omega);have t:=G8 (m / 65536 % 256) (by omega);have B:=G8 (m / 256 % 256) (by omega);have r:=G8 (m % 256) (by omega);unfold v4f;rw[show Jt LF LF=Jt LF (f+1+1+1+1+1) by rw[<-q]];rw[show(24:Int)=((24:Nat):Int) from rfl,step _ 24 _ _ (by omega) (by simp)];rw[show((24:Nat):Int)-8=((16:Nat):Int) from rfl,step _ 16 _ _ (by omega) (by simp<;>omega)];rw[show((16:Nat):Int)-8=((8:Nat):Int) from rfl,step _ 8 _ _ (by omega) (by simp<;>omega)];rw[show((8:Nat):Int)-8=((0:Nat):Int) from rfl,step _ 0 _ _ (by omega) (by simp<;>omega)];rw[show((0:Nat):Int)-8=-8 from rfl,b];have h:m / 2 ^ 24 % 256=m / 16777216:=by omega
 have e:(([]:By)++(j6 (m / 2 ^ 24 % 256)++[46])++(j6 (m / 2 ^ 16 % 256)++[46])++(j6 (m / 2 ^ 8 % 256)++[46])++(j6 (m / 2 ^ 0 % 256)++[46]))=V3 m++[46]:=by
  unfold V3;grind
 have a:(V3 m++[46]).length<=1000:=by rw[<-e];simp;omega
 rw[e];have d:((V3 m++[46]).length:Int)-1=((V3 m).length:Int):=by simp<;>omega
 simp only[vl,d];simp only[ab2,aa5] at a;rw[A6,Y7 (by omega) (by omega) (by simp<;>omega),U6,c9,c9];grind
def Cg1{b:By->Option R}(v:Int)(f:ltN v 4294967296=true):Dm5 LF v b=b (V3 v.toNat):=by
 obtain⟨a,g⟩:=E7.1 f;obtain⟨m,rfl⟩:=o6 a;have i:=G8 (m / 16777216) (by omega);have h:=G8 (m / 65536 % 256) (by omega);have l:=G8 (m / 256 % 256) (by omega);have k:=G8 (m % 256) (by omega);have c:Sa .u32 (m:Int) 24=((m / 16777216:Nat):Int):=Tu .u32 m 24 (by decide);have d:Sa .u32 (m:Int) 16=((m / 65536:Nat):Int):=Tu .u32 m 16 (by decide);have e:Sa .u32 (m:Int) 8=((m / 256:Nat):Int):=Tu .u32 m 8 (by decide);have t:∀x:Nat,ac1 (x:Int) 256=((x % 256:Nat):Int):=λx=>Dm x 256
 have w:∀x:Nat,x<4294967296->A1 (x:Int)=(x:Int):=λx j=>A6
 unfold Dm5;simp only[vl,c,d,e,t];rw[w _ (by omega),w _ (by omega),w _ (by omega),w _ (by omega)];simp only[c9];rw[N4,N4,N4,N4];simp only[aa];rw[J4 (by omega),J4 (by simp<;>omega),J4 (by simp<;>omega),J4 (by simp<;>omega),J4 (by simp<;>omega),J4 (by simp<;>omega)];simp only[aa,V3,c9];grind
def Ae1{g:Unit->Option R}{h:By->Option R}(s:By)(q:s.length<=1000000000):∀(r i n v:Nat),i+r=s.length->r<n->Cg LF n s (i:Int) g h=if (F9 10 v (s.drop i)).isSome then h s else g ():=by
 intro r
 induction r with
 | zero=>
  intro i n v k l;rcases n with _|n;omega
  rw[Cg];rw[A7,j7 (by omega)];rfl
 | succ r o=>
  intro i n v k l;rcases n with _|n;omega
  rw[Cg,G2 s i (by omega)];rw[F6];have j:=(s.getD i 0).toNat_lt;generalize s.getD i 0=b at *;have f:((i:Int)+1)=((i+1:Nat):Int):=by omega
  simp (disch:=omega) only[C6,K6,aa,E6];simp only[F9];rw[f,o (i+1) n (min (v*10+dig b) X3) (by omega) (by omega)];rcases Ef b with⟨a,d,e⟩|⟨a,d,e⟩|⟨a,d,e⟩|⟨a,d,p,e⟩
  ·simp only[ac (show dig b<10 by omega)];rw[A7,A7];rfl
  ·simp only[ae (show ¬dig b<10 by omega)];rw[A7,A8];rfl
  ·simp only[ae (show ¬dig b<10 by omega)];rw[A7,A8];rfl
  ·simp only[ae (show ¬dig b<10 by omega)];by_cases c:b.toNat<48
   ·rw[A8];rfl
   ·rw[A7,A8];rfl
def Ae2{a:Bool->Option R}(s:By)(b:A2 s.length=true):HK LF s a=a (!s.isEmpty&&(F9 10 0 s).isSome):=by
 have c:=M5 b;have:=D6;unfold HK;refine j8 (Ae1 s c s.length 0 LF 0 (by omega) (by omega)) ?_;rw[p6];cases d:F9 10 0 s with
 | none=>simp
 | some v=>cases s<;>rfl
def Cd8{g:Int->Option R}(b:Int)(h:inR b 256=true):Cy1 LF b g=g (dig (u8n b):Int):=by
 simp only[inR,p9,af] at h;have j:b=((u8n b).toNat:Int):=by
  unfold u8n;simp;omega
 generalize u8n b=c at *;subst j;have i:=c.toNat_lt;unfold Cy1;simp only[Zr,Zq,vl];rcases Ef c with⟨d,f,e⟩|⟨d,f,e⟩|⟨d,f,e⟩|⟨d,f,o,e⟩
 ·have a:A1 (wu8 ((c.toNat:Int)-48))=((dig c:Nat):Int):=by
   rw[O2,A6];omega
  simp (disch:=omega) only[C6,E4,j0,j1,ab,aa,a]
 ·have a:A1 (A1 (wu8 ((c.toNat:Int)-97))+10)=((dig c:Nat):Int):=by
   rw[O2,E6 (n:=(c.toNat:Int)-97) (by omega) (by omega),A6];omega
  simp (disch:=omega) only[C6,E4,j0,j1,ab,aa,a]
 ·have a:A1 (A1 (wu8 ((c.toNat:Int)-65))+10)=((dig c:Nat):Int):=by
   rw[O2,E6 (n:=(c.toNat:Int)-65) (by omega) (by omega),A6];omega
  simp (disch:=omega) only[C6,E4,j0,j1,ab,aa,a]
 ·rw[e];by_cases k:c.toNat<48
  ·simp (disch:=omega) only[C6,E4,j0,j1,ab,aa];rfl
  ·by_cases l:c.toNat<65
   ·simp (disch:=omega) only[C6,E4,j0,j1,ab,aa];rfl
   ·by_cases m:c.toNat<97
    ·simp (disch:=omega) only[C6,E4,j0,j1,ab,aa];rfl
    ·simp (disch:=omega) only[C6,E4,j0,j1,ab,aa];rfl
def Av5{g:Unit->Option R}{h:Int->Option R}(s:By)(p:s.length<=1000000000):∀(r i a n:Nat),i+r=s.length->r<n->a<=X3->
  Kn LF n s (a:Int) (i:Int) g h=match F9 16 a (s.drop i) with|some v=>h (v:Int)|none=>g ():=by
 intro r
 induction r with
 | zero=>
  intro i a n k l j;rcases n with _|n;omega
  rw[Kn];rw[A7,j7 (by omega)];rfl
 | succ r o=>
  intro i a n k l j;rcases n with _|n;omega
  rw[Kn,G2 s i (by omega)];rw[F6,Kr,Ah4];generalize s.getD i 0=b at *;have c:((i:Int)+1)=((i+1:Nat):Int):=by omega
  have f:X3=1099511627776:=rfl;simp (disch:=omega) only[C6,K6,aa,vl,E6];simp only[F9];rw[c];by_cases e:dig b<16
  ·have d:A1 (A1 ((a:Int)*16)+(dig b:Int))=((a*16+dig b:Nat):Int):=by
    rw[E6 (n:=(a:Int)*16) (by omega) (by omega),A6];simp
   rw[ac e,A8];simp (disch:=omega) only[E6,j0,ab] at d ⊢;rw[d,C13];exact o (i+1) _ n (by omega) (by omega) (by omega)
  ·rw[ae e,A7];rfl
def Bk7{f:Unit->Option R}{g:Int->Option R}(s:By)(t:s.length<=1000000000)(base:Nat)(q:base<=16):∀(r i a n:Nat),i+r=s.length->r<n->a<=X3->
  Hh LF n s (base:Int) (a:Int) (i:Int) f g=match F9 base a (s.drop i) with|some v=>g (v:Int)|none=>f ():=by
 intro r
 induction r with
 | zero=>
  intro i a n k l j;rcases n with _|n;omega
  rw[Hh];rw[A7,j7 (by omega)];rfl
 | succ r o=>
  intro i a n k l j;rcases n with _|n;omega
  rw[Hh,G2 s i (by omega)];rw[F6,Kr,Ah4];generalize s.getD i 0=b at *;have c:((i:Int)+1)=((i+1:Nat):Int):=by omega
  have e:X3=1099511627776:=rfl;simp only[F9,vl];rw[A8,H4,c,E6 (n:=((i+1:Nat):Int)) (by omega) (by omega)];simp only[aa];by_cases d:dig b<base
  ·have p:a*base<=1099511627776*16:=ah3 (by omega) (by omega);have e0:A1 ((a:Int)*(base:Int))=((a*base:Nat):Int):=by
    rw[<-ag9];exact A6
   have h:A1 (((a*base:Nat):Int)+(dig b:Int))=((a*base+dig b:Nat):Int):=by
    rw[A6];rfl
   rw[ac d,A8,e0,h,C13];exact o (i+1) _ n (by omega) (by omega) (by omega)
  ·rw[ae d,A7];rfl
def Cf0{a:Int->Bool->Option R}(s:By)(p:A2 s.length=true):C03 LF s a=a (O6 (Ar s):Int) (Ar s).isSome:=by
 have u:=M5 p;have:=D6;have o:∀x:By,x.length<=1000000000->Kn LF LF x 0 0 (λ_=>a 0 false) (λn=>a n true)=a (O6 (F9 16 0 x):Int) (F9 16 0 x).isSome:=by
  intro x f;refine j8 (Av5 x f x.length 0 0 LF (by omega) (by omega) (by unfold X3;omega)) ?_;rw[p6];cases F9 16 0 x<;>rfl
 have c:∀(x:By) (b:Nat),b<=16->x.length<=1000000000->Hh LF LF x (b:Int) 0 0 (λ_=>a 0 false) (λn=>a n true)=a (O6 (F9 b 0 x):Int) (F9 b 0 x).isSome:=by
  intro x b q f;refine j8 (Bk7 x f b q x.length 0 0 LF (by omega) (by omega) (by unfold X3;omega)) ?_;rw[p6];cases F9 b 0 x<;>rfl
 have d:=λx=>c x 10 (by omega)
 have g:=λx=>c x 8 (by omega)
 have i:=λx=>c x 16 (by omega)
 rw[show((10:Nat):Int)=10 from rfl] at d;rw[show((8:Nat):Int)=8 from rfl] at g;rw[show((16:Nat):Int)=16 from rfl] at i;unfold C03 Ar;by_cases e:s=[]
 ·subst e;rfl
 have j:(s==([]:By))=false:=by simpa using e
 have t:0<s.length:=z7.2 e;rw[ae e,j];simp only[ab,HO,HP,To,Tp,Tq,vl];have k:=S7 (s.getD 0 0) 48 (by omega);have l:=S7 (s.getD 1 0) 120 (by omega);have m:=S7 (s.getD 1 0) 88 (by omega);rw[show((48:Nat):Int)=48 from rfl] at k;rw[show((120:Nat):Int)=120 from rfl] at l;rw[show((88:Nat):Int)=88 from rfl] at m;simp only[Iq,Bv7,k,l,m,show s9 48=(48:UInt8) from rfl,show s9 120=(120:UInt8) from rfl,show s9 88=(88:UInt8) from rfl];by_cases r:2<=s.length
 ·simp (disch:=omega) only[E4,K6,Y7,j1,aa,Y9,show 1<s.length by omega,true_and];unfold Ab;grind
 ·rw[A8];have f:Ab s=false:=by
   cases h:Ab s with
   | false=>rfl
   | true=>have:=Me h;omega
  grind
def D60(a b:Nat)(c:a<65536)(d:b<65536):bOr .u16 (a:Int) (b:Int)=((a ||| b:Nat):Int):=by
 unfold bOr;rw[show aa6 .u16=16 from rfl,Dw8 16 a b (by omega) (by omega)];have:a ||| b<2 ^ 16:=ad3 (by omega) (by omega)
 exact Ln
def D78(a m:Nat)(h:a*2 ^ m<65536)(b:m<=16):Ub .u16 (a:Int) (m:Int)=((a*2 ^ m:Nat):Int):=by
 unfold Ub;rw[c9,show aa6 .u16=16 from rfl,ac5 b];have:(a:Int)*2 ^ m=((a*2 ^ m:Nat):Int):=by simp
 rw[this];exact Ln
def Bp6(v d:Nat)(b:v<4096)(a:d<16):bOr .u16 (Ub .u16 (v:Int) 4) (d:Int)=((v*16+d:Nat):Int):=by have:=D78 v 4 (by omega) (by omega);rw[show((4:Nat):Int)=4 from rfl] at this;rw[this,D60 _ _ (by omega) (by omega),HG v d 4 (by omega)]
def Cs7{c:Unit->Option R}{f:Int->Option R}(s:By)(B:s.length<=4):∀(r i v n:Nat),i+r=s.length->r<n->v<16 ^ i->
  Gt LF n s (v:Int) (s.length:Int) (i:Int) c f=match Bb v (s.drop i) with|some w=>f (w:Int)|none=>c ():=by
 intro r
 induction r with
 | zero=>
  intro i v n l o p;rcases n with _|n;omega
  rw[Gt];rw[A7,j7 (by omega)];rfl
 | succ r q=>
  intro i v n l o p;rcases n with _|n;omega
  rw[Gt,G2 s i (by omega)];rw[F6];have k:=(s.getD i 0).toNat_lt;generalize s.getD i 0=b at *;have j:((i:Int)+1)=((i+1:Nat):Int):=by omega
  have A:16 ^ i<=4096:=by
   have:i=0\/i=1\/i=2\/i=3:=by omega
   rcases this with rfl|rfl|rfl|rfl<;>decide
  simp (disch:=omega) only[C6,K6,aa,vl,E6,Yo,Yn,Ym];rw[j];simp only[Bb];have go:∀d:Nat,d<16->Gt LF n s ((v*16+d:Nat):Int) (s.length:Int) ((i+1:Nat):Int) c f=match Bb (v*16+d) (s.drop (i+1)) with|some w=>f (w:Int)|none=>c ():=
   λd z=>q (i+1) _ n (by omega) (by omega) (by rw[x3];omega)
  rcases Ef b with⟨g,h,e⟩|⟨g,h,e⟩|⟨g,h,e⟩|⟨g,h,y,e⟩
  ·have a:Ez (wu8 ((b.toNat:Int)-48))=((dig b:Nat):Int):=by rw[O2,Ln];omega
   simp (disch:=omega) only[C6,E4,j0,j1,ab,aa,a,Bp6,ac (show dig b<16 by omega)];exact go _ (by omega)
  ·have a:Ez (wu8 (wu8 ((b.toNat:Int)-97)+10))=((dig b:Nat):Int):=by rw[Ai3 (n:=(b.toNat:Int)-97) (by omega) (by omega),O2,Ln];omega
   simp (disch:=omega) only[C6,E4,j0,j1,ab,aa,a,Bp6,ac (show dig b<16 by omega)];exact go _ (by omega)
  ·have a:Ez (wu8 (wu8 ((b.toNat:Int)-65)+10))=((dig b:Nat):Int):=by rw[Ai3 (n:=(b.toNat:Int)-65) (by omega) (by omega),O2,Ln];omega
   simp (disch:=omega) only[C6,E4,j0,j1,ab,aa,a,Bp6,ac (show dig b<16 by omega)];exact go _ (by omega)
  ·rw[ae (show ¬dig b<16 by omega)];by_cases t:b.toNat<48
   ·simp (disch:=omega) only[C6,E4,j0,j1,ab,aa]
   ·by_cases u:b.toNat<65
    ·simp (disch:=omega) only[C6,E4,j0,j1,ab,aa]
    ·by_cases x:b.toNat<97
     ·simp (disch:=omega) only[C6,E4,j0,j1,ab,aa]
     ·simp (disch:=omega) only[C6,E4,j0,j1,ab,aa]
def B72{c:Int->Bool->Option R}(s:By)(d:A2 s.length=true):Cs9 LF s c=c (O6 (grp s):Int) (grp s).isSome:=by
 have:=D6;unfold Cs9 grp;by_cases a:s=[]
 ·subst a;rfl
 ·rw[show(s==([]:By))=false from beq_eq_false_iff_ne.2 a];by_cases b:4<s.length
  ·rw[A8,ac (.inr b)];rfl
  ·rw[A7,ae (by intro h;rcases h with h|h;exact a h;exact b h)];refine j8 (Cs7 s (by omega) s.length 0 0 LF (by omega) (by omega) (by decide)) ?_;rw[p6];cases Bb 0 s<;>rfl
def Ap7:∀(s:By) (v w m:Nat),v<16 ^ m->Bb v s=some w->w<16 ^ (m+s.length)
 | [],v,w,m,a,h=>by simp only[Bb,o7] at h;subst h;simpa using a
 | b::r,v,w,m,a,h=>by
  simp only[Bb] at h;split at h
  ·have:=Ap7 r (v*16+dig b) w (m+1) (by rw[x3];omega) h;grind
  ·cases h
def Cs8{s:By}{v:Nat}(h:grp s=some v):v<65536:=by
 unfold grp at h;split at h
 ·cases h
 ·rename_i a;have:=Ap7 s 0 v 0 (by decide) h;have b:s.length<=4:=by omega
  have:16 ^ (0+s.length)<=16 ^ 4:=Nat.pow_le_pow_right (by omega) (by omega);omega
def Ce1{c:Unit->Option R}{f:Int->Option R}(s:By)(B:s.length<=4):∀(r i v n:Nat),i+r=s.length->r<n->v<16 ^ i->
  Hf LF n s (v:Int) (i:Int) c f=match Bb v (s.drop i) with|some w=>f (w:Int)|none=>c ():=by
 intro r
 induction r with
 | zero=>
  intro i v n l o p;rcases n with _|n;omega
  rw[Hf];rw[A7,j7 (by omega)];rfl
 | succ r q=>
  intro i v n l o p;rcases n with _|n;omega
  rw[Hf,G2 s i (by omega)];rw[F6];have k:=(s.getD i 0).toNat_lt;generalize s.getD i 0=b at *;have j:((i:Int)+1)=((i+1:Nat):Int):=by omega
  have A:16 ^ i<=4096:=by
   have:i=0\/i=1\/i=2\/i=3:=by omega
   rcases this with rfl|rfl|rfl|rfl<;>decide
  simp (disch:=omega) only[C6,K6,aa,vl,E6,Zu,Zt,Zs];rw[j];simp only[Bb];have go:∀d:Nat,d<16->Hf LF n s ((v*16+d:Nat):Int) ((i+1:Nat):Int) c f=match Bb (v*16+d) (s.drop (i+1)) with|some w=>f (w:Int)|none=>c ():=
   λd z=>q (i+1) _ n (by omega) (by omega) (by rw[x3];omega)
  rcases Ef b with⟨g,h,e⟩|⟨g,h,e⟩|⟨g,h,e⟩|⟨g,h,y,e⟩
  ·have a:wu8 ((b.toNat:Int)-48)=(b.toNat:Int)-48:=O2;simp (disch:=omega) only[C6,E4,j0,j1,ab,aa,a,E6,ac (show dig b<16 by omega)];rw[show(v:Int)*16+((b.toNat:Int)-48)=((v*16+dig b:Nat):Int) by omega];exact go _ (by omega)
  ·have a:wu8 ((b.toNat:Int)-97)=(b.toNat:Int)-97:=O2;simp (disch:=omega) only[C6,E4,j0,j1,ab,aa,a,E6,ac (show dig b<16 by omega)];rw[show(v:Int)*16+((b.toNat:Int)-97)+10=((v*16+dig b:Nat):Int) by omega];exact go _ (by omega)
  ·have a:wu8 ((b.toNat:Int)-65)=(b.toNat:Int)-65:=O2;simp (disch:=omega) only[C6,E4,j0,j1,ab,aa,a,E6,ac (show dig b<16 by omega)];rw[show(v:Int)*16+((b.toNat:Int)-65)+10=((v*16+dig b:Nat):Int) by omega];exact go _ (by omega)
  ·rw[ae (show ¬dig b<16 by omega)];by_cases t:b.toNat<48
   ·simp (disch:=omega) only[C6,E4,j0,j1,ab,aa]
   ·by_cases u:b.toNat<65
    ·simp (disch:=omega) only[C6,E4,j0,j1,ab,aa]
    ·by_cases x:b.toNat<97
     ·simp (disch:=omega) only[C6,E4,j0,j1,ab,aa]
     ·simp (disch:=omega) only[C6,E4,j0,j1,ab,aa]
def Ce2{b:Int->Bool->Option R}(s:By)(f:A2 s.length=true):Cy8 LF s b=b (O6 (grp s):Int) (grp s).isSome:=by
 have:=D6;unfold Cy8;by_cases a:s=[]
 ·subst a;rfl
 ·have g:0<s.length:=z7.2 a;rw[A7];by_cases c:4<s.length
  ·rw[A8];unfold grp;rw[ac (.inr c)];rfl
  ·rw[A7];refine j8 (Ce1 s (by omega) s.length 0 0 LF (by omega) (by omega) (by decide)) ?_;have e:grp s=Bb 0 s:=by
    unfold grp;grind
   rw[p6,<-e];cases d:grp s with
   | none=>rfl
   | some w=>
    have:=Cs8 d;simp only[O6,o5,o0];rw[Ln]
def J3(l:List Nat):(E1 l).length=l.length:=by simp[E1]
def Mz(a b:List Nat):E1 (a++b)=E1 a++E1 b:=by simp[E1]
def AR(l:List Nat):(E1 l).isEmpty=l.isEmpty:=by cases l<;>rfl
def Oi{l:List Nat}{i:Nat}(h:i<l.length):okE ⟨true,false,[.int .u16]⟩ (E1 l) i 0=true:=by unfold okE E1;simp[k9,h,okS,SV.has]
def Wd(l:List Nat)(i:Nat):gE (E1 l) i 0=(l.getD i 0:Int):=by
 unfold gE gC E1;by_cases h:i<l.length
 ·simp[k9,o9 h,SV.gI]
 ·simp[k9,List.getElem?_eq_none (show l.length<=i by omega),SV.gI]
def Mc:∀(last:Bool) (l:List By) (r:List Nat),Dp last l=some r->r.length<=2*l.length
 | last,[],r,h=>by simp only[Dp,o7] at h;subst h;simp
 | last,x::l,r,h=>by
  simp only[Dp] at h;split at h
  ·cases a:Dp last l with
   | none=>simp[a] at h
   | some q=>
    simp only[a,ac6,o7] at h;subst h;have:=Mc last l q a;grind
  grind
def Br3{s:By}{v:Nat}(h:v4B s=some v):v<4294967296:=by
 unfold v4B at h;split at h
 ·rename_i a;have:=Bz7 (pcs 46 s) 0 v 0 (by decide) h;grind
 ·cases h
def Bx3:∀(last:Bool) (l:List By) (r:List Nat),Dp last l=some r->∀x∈r,x<65536
 | last,[],r,h,x,a=>by simp only[Dp,o7] at h;subst h;simp at a
 | last,y::l,r,h,x,a=>by
  simp only[Dp] at h;split at h
  ·rename_i v c;cases b:Dp last l with
   | none=>simp[b] at h
   | some q=>
    simp only[b,ac6,o7] at h;subst h;rcases w8.1 a with rfl|a
    ·exact Cs8 c
    ·exact Bx3 last l q b x a
  ·split at h
   ·rename_i v c;split at h
    ·simp only[o7] at h;subst h;have:=Br3 c;grind
    grind
   ·cases h
def A96{k0:LL->Option R}{k1:LL->Option R}(last:Bool)(l:List By)(C:l.length<=1000000001)(w:∀x∈l,x.length<=1000000000):∀(r i n:Nat) (d:List Nat),i+r=l.length->r<n->d.length<=2*i->
  (∀q,Dp last (l.drop i)=some q->Fs LF n last (C2 l) (l.length:Int) (i:Int) (E1 d) k0 k1=k1 (E1 (d++q)))/\
  (Dp last (l.drop i)=none->∃k,Fs LF n last (C2 l) (l.length:Int) (i:Int) (E1 d) k0 k1=k0 k):=by
 intro r
 induction r with
 | zero=>
  intro i n d u y t;rcases n with _|n;omega
  rw[Fs,j7 (by omega)];rw[A7];refine⟨λq a=>?_,λh=>(by cases h)⟩;simp only[Dp,o7] at a;subst a;simp
 | succ r B=>
  intro i n d u y t;rcases n with _|n;omega
  rw[Fs,Lg l i (by omega)];have G:=w _ (TE (show i<l.length by omega));have f:((i:Int)+1)=((i+1:Nat):Int):=by omega
  simp (disch:=omega) only[C6,C3,K6,aa,c9,O0,S8,D9,vl,J3,F4,E6];rw[f];simp only[Dp];cases D:grp (l.getD i []) with
  | some v=>
   simp only[o0,aa,O6,o5];have c:E1 d++[[SV.int .u16 (v:Int)]]=E1 (d++[v]):=by rw[Mz];rfl
   rw[c];have:=B (i+1) n (d++[v]) (by omega) (by omega) (by simp<;>omega);refine⟨λq a=>?_,λh=>?_⟩
   ·cases b:Dp last (l.drop (i+1)) with
    | none=>simp[b] at a
    | some j=>
     simp only[b,ac6,o7] at a;subst a;rw[this.1 j b];simp
   ·cases b:Dp last (l.drop (i+1)) with
    | none=>exact this.2 b
    | some j=>simp[b] at h
  | none=>
   simp only[ab4,ab];cases z:v4B (l.getD i []) with
   | none=>
    simp only[ab4,j1,aa];exact⟨λq a=>(by cases a),λ_=>⟨_,rfl⟩⟩
   | some v=>
    have A:=Br3 z;simp only[o0,j0,ab,O6,o5];cases last with
    | false=>
     simp only[j1,aa,p4,false_and,if_false];exact⟨λq a=>(by cases a),λ_=>⟨_,rfl⟩⟩
    | true=>
     simp only[j0,ab,true_and];by_cases F:r=0
     ·have e:l.drop (i+1)=[]:=j7 (by omega);rw[A7,e,ac rfl,show(16:Int)=((16:Nat):Int) from rfl,Tu .u32 v 16 (by decide)];refine⟨λq a=>?_,λh=>(by cases h)⟩;simp only[o7] at a;subst a;have o:Ez ((v / 2 ^ 16:Nat):Int)=((v / 65536:Nat):Int):=Ln;have p:Ez (v:Int)=((v % 65536:Nat):Int):=A05 v;rw[o,p,Mz];rfl
     ·have g:l.drop (i+1)≠[]:=by
       rw[Lg l (i+1) (by omega)];simp
      rw[A8,ae g];exact⟨λq a=>(by cases a),λ_=>⟨_,rfl⟩⟩
def Au(c:UInt8){s:By}(a:s.length<=1000000000):(pcs c s).length<=1000000001:=by have:=Gz c s;grind
def A97(s:By)(last:Bool)(f:A2 s.length=true):∃r H,Bx4 LF s last (λl=>rv (.tup [.fl 0,.s (.bool true)]) [.arr true 26 1 l]) (λl=>rv (.tup [.fl 1,.s (.bool false)]) [.arr true 26 1 l,.arr true 26 1 []])=rv r H/\
  r.stab [1,0] H = .tup [.s (.sl (gvs s last).isEmpty (gvs s last).isEmpty 1 (E1 (gvs s last))),.s (.bool (P8 s last).isSome)]:=by
 have d:=M5 f;have:=D6;unfold Bx4 gvs P8;by_cases c:s=[]
 ·subst c;exact⟨_,_,rfl,rfl⟩
 ·rw[show(s==([]:By))=false from beq_eq_false_iff_ne.2 c,f,ae c];simp only[ab,aa,vl,w9,C3,show((1:Nat)==1)=true from rfl];obtain⟨a,b⟩:=A96 (k0:=λl=>rv (.tup [.fl 1,.s (.bool false)]) [.arr true 26 1 l,.arr true 26 1 []]) (k1:=λl=>rv (.tup [.fl 0,.s (.bool true)]) [.arr true 26 1 l]) last (pcs 58 s) (Au 58 d) (λx h=>ab6 (Av h).2 d) (pcs 58 s).length 0 LF [] (by omega) (by have:=Au 58 d;omega) (by simp);rw[p6] at a b;cases g:Dp last (pcs 58 s) with
  | some q=>
   refine⟨_,_,a q g,?_⟩;simp[PV.stab,Qc,Qb,PV.snap,N5,AR]
  | none=>
   obtain⟨i,e⟩:=b g;refine⟨_,_,e,?_⟩;simp[PV.stab,Qc,Qb,PV.snap,N5,E1]
def LV:∀(s:By) (v:Nat) (b:UInt8),b∈s->16<=dig b->Bb v s=none
 | c::r,v,b,h,a=>by
  simp only[Bb];rcases w8.1 h with rfl|h
  ·grind
  ·split
   ·exact LV r _ b h a
   ·rfl
def Br4{s:By}{v:Nat}(h:v4B s=some v):grp s=none:=by
 unfold v4B at h;split at h
 ·rename_i a;have b:(46:UInt8)∈s:=by
   apply ad2;intro c;rw[Mn c] at a;simp at a
  unfold grp;split
  ·rfl
  ·exact LV s 0 46 b (by decide)
 ·cases h
def Bi8{k0:LL->Option R}{k1:LL->Option R}(last:Bool)(l:List By)(I:l.length<=1000000001)(D:∀x∈l,x.length<=1000000000):∀(r i n:Nat) (d:List Nat),i+r=l.length->r<n->d.length<=2*i->
  (∀q,Dp last (l.drop i)=some q->S6 LF n last (C2 l) (i:Int) (E1 d) k0 k1=k1 (E1 (d++q)))/\
  (Dp last (l.drop i)=none->∃k,S6 LF n last (C2 l) (i:Int) (E1 d) k0 k1=k0 k):=by
 intro r
 induction r with
 | zero=>
  intro i n d C F B;rcases n with _|n;omega
  rw[S6,j7 (by omega)];rw[C3,A7];refine⟨λq a=>?_,λh=>(by cases h)⟩;simp only[Dp,o7] at a;subst a;simp
 | succ r y=>
  intro i n d C F B;rcases n with _|n;omega
  rw[S6,Lg l i (by omega)];have L:=D _ (TE (show i<l.length by omega));have t:((i:Int)+1)=((i+1:Nat):Int):=by omega
  have w:A1 ((l.length:Int)-1)=((l.length-1:Nat):Int):=by rw[A6];omega
  simp (disch:=omega) only[C6,C3,K6,aa,c9,O0,S8,D9,vl,Mp,Mq,J3,F4,E6,ab];rw[t];simp only[Dp];have e:∀(f:v4B (l.getD i [])=none\/(last=false\/l.drop (i+1)≠[])),
    (∀q,(match grp (l.getD i []) with|some v=>(Dp last (l.drop (i+1))).map (v::·)|none=>match v4B (l.getD i []) with|some v=>if last=true/\l.drop (i+1)=[] then some [v / 65536,v % 65536] else none|none=>none)=some q->
     (cond (!(grp (l.getD i [])).isSome) (k0 (E1 d)) (S6 LF n last (C2 l) ((i+1:Nat):Int) (E1 d++[[SV.int .u16 (O6 (grp (l.getD i [])):Int)]]) k0 k1))=k1 (E1 (d++q)))/\
    ((match grp (l.getD i []) with|some v=>(Dp last (l.drop (i+1))).map (v::·)|none=>match v4B (l.getD i []) with|some v=>if last=true/\l.drop (i+1)=[] then some [v / 65536,v % 65536] else none|none=>none)=none->
     ∃k,(cond (!(grp (l.getD i [])).isSome) (k0 (E1 d)) (S6 LF n last (C2 l) ((i+1:Nat):Int) (E1 d++[[SV.int .u16 (O6 (grp (l.getD i [])):Int)]]) k0 k1))=k0 k):=by
   intro f;cases J:grp (l.getD i []) with
   | some v=>
    simp only[o0,j0,ab,O6,o5];have c:E1 d++[[SV.int .u16 (v:Int)]]=E1 (d++[v]):=by rw[Mz];rfl
    rw[c];have:=y (i+1) n (d++[v]) (by omega) (by omega) (by simp<;>omega);refine⟨λq a=>?_,λh=>?_⟩
    ·cases b:Dp last (l.drop (i+1)) with
     | none=>simp[b] at a
     | some z=>
      simp only[b,ac6,o7] at a;subst a;rw[this.1 z b];simp
    ·cases b:Dp last (l.drop (i+1)) with
     | none=>exact this.2 b
     | some z=>simp[b] at h
   | none=>
    simp only[ab4,j1,aa];refine⟨λq a=>?_,λ_=>⟨_,rfl⟩⟩;exfalso;cases g:v4B (l.getD i []) with
    | none=>rw[g] at a;cases a
    | some v=>
     rw[g] at a;rcases f with h|h|h
     ·rw[g] at h;cases h
     ·simp only[h,p4,false_and,if_false] at a;cases a
     ·simp only[ae (λhc:last=true/\l.drop (i+1)=[]=>h hc.2)] at a;cases a
  cases f:v4B (l.getD i []) with
  | none=>
   simp only[ab4,ab];have:=e (.inl f);simp only[f] at this;exact this
  | some v=>
   have H:=Br3 f;have p:=Br4 f;simp only[o0,aa,O6,o5];cases last with
   | false=>
    simp only[ab];have:=e (.inr (.inl rfl));simp only[f,O6] at this;exact this
   | true=>
    simp only[aa];by_cases K:r=0
    ·have j:l.drop (i+1)=[]:=j7 (by omega);have o:((i:Int)==(l.length:Int)-1)=true:=by rw[beq_iff_eq];omega
     rw[o,p,j];simp only[aa,and_self,if_true,o7];refine⟨λq a=>?_,λh=>(by cases h)⟩;subst a;rw[show(16:Int)=((16:Nat):Int) from rfl,Tu .u32 v 16 (by decide)];have w:Ez ((v / 2 ^ 16:Nat):Int)=((v / 65536:Nat):Int):=Ln;have A:Ez (v:Int)=((v % 65536:Nat):Int):=A05 v;rw[w,A];have c:E1 d++[[SV.int .u16 ((v / 65536:Nat):Int)],[SV.int .u16 ((v % 65536:Nat):Int)]]=E1 (d++[v / 65536,v % 65536]):=by rw[Mz];rfl
     rw[c];have G:0<n:=by omega
     exact(y (i+1) n (d++[v / 65536,v % 65536]) (by omega) (by omega) (by simp<;>omega)).1 [] (by rw[j];rfl) |>.trans (by simp)
    ·have u:l.drop (i+1)≠[]:=by
      rw[Lg l (i+1) (by omega)];simp
     have o:((i:Int)==(l.length:Int)-1)=false:=by rw[beq_eq_false_iff_ne];omega
     rw[o];simp only[ab];have:=e (.inr (.inr u));simp only[f,O6] at this;exact this
def Bi9(s:By)(last:Bool)(f:A2 s.length=true):∃r H,Au7 LF s last (λl=>rv (.tup [.fl 0,.s (.bool true)]) [.arr true 26 1 l]) (λl=>rv (.tup [.fl 1,.s (.bool false)]) [.arr true 26 1 l,.arr true 26 1 []])=rv r H/\
  r.stab [1,0] H = .tup [.s (.sl (gvs s last).isEmpty (gvs s last).isEmpty 1 (E1 (gvs s last))),.s (.bool (P8 s last).isSome)]:=by
 have d:=M5 f;have:=D6;unfold Au7 gvs P8;by_cases c:s=[]
 ·subst c;exact⟨_,_,rfl,rfl⟩
 ·rw[show(s==([]:By))=false from beq_eq_false_iff_ne.2 c,f,ae c];simp only[ab,aa,vl,show u8n 58=58 from rfl];obtain⟨a,b⟩:=Bi8 (k0:=λl=>rv (.tup [.fl 1,.s (.bool false)]) [.arr true 26 1 l,.arr true 26 1 []]) (k1:=λl=>rv (.tup [.fl 0,.s (.bool true)]) [.arr true 26 1 l]) last (pcs 58 s) (Au 58 d) (λx h=>ab6 (Av h).2 d) (pcs 58 s).length 0 LF [] (by omega) (by have:=Au 58 d;omega) (by simp);rw[p6] at a b;cases g:Dp last (pcs 58 s) with
  | some q=>
   refine⟨_,_,a q g,?_⟩;simp[PV.stab,Qc,Qb,PV.snap,N5,AR]
  | none=>
   obtain⟨i,e⟩:=b g;refine⟨_,_,e,?_⟩;simp[PV.stab,Qc,Qb,PV.snap,N5,E1]
def Dg8{j:Type}{W:List j}(h:W.length=8):∃a b c d e f g i,W=[a,b,c,d,e,f,g,i]:=by
 match W,h with
 | [a,b,c,d,e,f,g,i],_=>exact⟨a,b,c,d,e,f,g,i,rfl⟩
def r8(n:Nat):LL:=j4 n [SV.int .u16 0]
def Bg2(n:Nat):r8 n=E1 (j4 n 0):=by simp[r8,E1]
def LY{s:By}{last:Bool}{q:List Nat}(h:P8 s last=some q):gvs s last=q:=by unfold gvs;rw[h];rfl
def Db6(s:By):(s8 s [58,58]).1.length<=s.length/\(s8 s [58,58]).2.1.length<=s.length:=by unfold s8;grind
def B25{K:LL->LL->Option R}(X Y:List Nat)(h:X.length+Y.length<=8) :
  Sf (E1 X) (E1 Y) (r8 8) K=K (E1 (X++j4 (8-X.length-Y.length) 0++Y)) (E1 (X++j4 (8-X.length-Y.length) 0++Y)):=by
 unfold Sf;have n:(af3 0 (r8 8)++(af3 8 (E1 X)++List.drop (0+min (E1 X).length 8) (r8 8)))=E1 (X++j4 (8-X.length) 0):=by
  rw[J3,ac5 (show X.length<=8 by omega),p7 (l:=E1 X) (i:=8) (by rw[J3];omega),Mz,ac9,Bg2,aa2,v8];unfold E1;rw[<-af6,List.drop_replicate]
 have m:A1 (8-(Y.length:Int))=((8-Y.length:Nat):Int):=by rw[A6];omega
 have o:(E1 (X++j4 (8-X.length) 0)).length=8:=by simp[J3]<;>omega
 have j:(af3 (8-Y.length) (E1 (X++j4 (8-X.length) 0))++(af3 (8-(8-Y.length)) (E1 Y)++List.drop (8-Y.length+min Y.length (8-(8-Y.length))) (E1 (X++j4 (8-X.length) 0))))=E1 (X++j4 (8-X.length-Y.length) 0++Y):=by
  rw[j7 (by rw[o];omega),p7 (l:=E1 Y) (by rw[J3];omega),Mz (X++_) Y,y5]
  congr 1
  unfold E1;rw[<-ai1,List.take_append,p7 (by omega),List.take_replicate];grind
 have k:(X++j4 (8-X.length-Y.length) 0++Y).length=8:=by simp<;>omega
 simp only[vl];rw[n];simp only[J3,m,c9];rw[j];simp only[J3];rw[show(r8 8).length=8 from rfl,show j5 (X++j4 (8-X.length) (0:Nat))=8 by simp<;>omega,O8,decide_eq_true (show 8-Y.length+(8-(8-Y.length))<=8 by omega)];simp only[decide_true,aa,af1,k];generalize (X++j4 (8-X.length-Y.length) 0++Y)=W at *;obtain⟨a,b,c,d,e,f,g,i,rfl⟩:=Dg8 k;rfl
def C54{k0:Kbb R}(s:By)(r:A2 s.length=true) :
  ∃l q,v6p LF s k0=k0 (v6c 0 s) (v6c 1 s) (v6c 2 s) (v6c 3 s) (v6c 4 s) (v6c 5 s) (v6c 6 s) (v6c 7 s) (v6B s).isSome l q:=by
 have C:=M5 r;have w:=Db6 s;unfold v6p v6c;rw[r];have bad:∀(h:v6B s=none),k0 0 0 0 0 0 0 0 0 false (r8 8) (r8 8)=k0 ((((v6B s).getD z8).getD 0 0:Nat):Int) ((((v6B s).getD z8).getD 1 0:Nat):Int) ((((v6B s).getD z8).getD 2 0:Nat):Int) ((((v6B s).getD z8).getD 3 0:Nat):Int) ((((v6B s).getD z8).getD 4 0:Nat):Int) ((((v6B s).getD z8).getD 5 0:Nat):Int) ((((v6B s).getD z8).getD 6 0:Nat):Int) ((((v6B s).getD z8).getD 7 0:Nat):Int) (v6B s).isSome (r8 8) (r8 8):=by
  intro h;rw[h];rfl
 simp (disch:=omega) only[aa,vl,D9];have j:v6B s=match P8 (s8 s [58,58]).1 (!(s8 s [58,58]).2.2),P8 (s8 s [58,58]).2.1 true with
  | some x,some y=>if (s8 s [58,58]).2.2 then (if x.length+y.length<=7 then some (x++j4 (8-x.length-y.length) 0++y) else none)
   else if x.length+y.length=8 then some (x++y) else none
  | _,_=>none:=rfl
 generalize (s8 s [58,58]).1=A at *;generalize (s8 s [58,58]).2.1=B at *;generalize (s8 s [58,58]).2.2=o at *;cases k:P8 A (!o) with
 | none=>exact⟨_,_,bad (by rw[j,k])⟩
 | some X=>
  cases m:P8 B true with
  | none=>exact⟨_,_,bad (by rw[j,k,m])⟩
  | some Y=>
   have u:X.length<=2000000002:=by
    unfold P8 at k;split at k
    ·grind
    ·have:=Mc _ _ _ k;have:=Au 58 (s:=A) (by omega);omega
   have v:Y.length<=2000000002:=by
    unfold P8 at m;split at m
    ·grind
    ·have:=Mc _ _ _ m;have:=Au 58 (s:=B) (by omega);omega
   rw[k,m] at j;simp only[LY k,LY m,J3,o0,j0,ab];rw[A6];have n:∀(W:List Nat),W.length=8->v6B s=some W->∃l q,(cond ((decide (8=(E1 W).length*1))&&(okS ⟨true,true,[.int .u16,.int .u16,.int .u16,.int .u16,.int .u16,.int .u16,.int .u16,.int .u16]⟩ (y8 (E1 W)) 0))
     (k0 (SV.gI (j2 (y8 (E1 W)) 0 SV.nilp)) (SV.gI (j2 (y8 (E1 W)) 1 SV.nilp)) (SV.gI (j2 (y8 (E1 W)) 2 SV.nilp)) (SV.gI (j2 (y8 (E1 W)) 3 SV.nilp)) (SV.gI (j2 (y8 (E1 W)) 4 SV.nilp)) (SV.gI (j2 (y8 (E1 W)) 5 SV.nilp)) (SV.gI (j2 (y8 (E1 W)) 6 SV.nilp)) (SV.gI (j2 (y8 (E1 W)) 7 SV.nilp)) true (E1 W) (E1 W)) none) =
     k0 ((((v6B s).getD z8).getD 0 0:Nat):Int) ((((v6B s).getD z8).getD 1 0:Nat):Int) ((((v6B s).getD z8).getD 2 0:Nat):Int) ((((v6B s).getD z8).getD 3 0:Nat):Int) ((((v6B s).getD z8).getD 4 0:Nat):Int) ((((v6B s).getD z8).getD 5 0:Nat):Int) ((((v6B s).getD z8).getD 6 0:Nat):Int) ((((v6B s).getD z8).getD 7 0:Nat):Int) (v6B s).isSome l q:=by
    intro W t h;rw[h];obtain⟨a,b,c,d,e,f,g,i,rfl⟩:=Dg8 t;exact⟨_,_,rfl⟩
   cases o with
   | false=>
    simp only[j1,aa,p4,if_false] at j ⊢;by_cases p:X.length+Y.length=8
    ·rw[ac p] at j;rw[show((X.length:Int)+(Y.length:Int)!=8)=false by simp;omega];simp only[ab];rw[show(j4 8 [SV.int ae7 0])=r8 8 from rfl,B25 X Y (by omega)];have z:8-X.length-Y.length=0:=by omega
     rw[z];simp only[List.replicate_zero,y5];exact n (X++Y) (by simp<;>omega) j
    ·rw[ae p] at j;rw[show((X.length:Int)+(Y.length:Int)!=8)=true by simp;omega];exact⟨_,_,bad j⟩
   | true=>
    simp only[j0,ab,aa,if_true] at j ⊢;by_cases p:X.length+Y.length<=7
    ·rw[ac p] at j;rw[A7];simp only[ab];rw[show(j4 8 [SV.int ae7 0])=r8 8 from rfl,B25 X Y (by omega)];exact n _ (by simp<;>omega) j
    ·rw[ae p] at j;rw[A8];exact⟨_,_,bad j⟩
def Af4(P T:List Nat)(t v:Nat):ad7 (E1 (P++t::T)) P.length (H7 (j2 (E1 (P++t::T)) P.length []) 0 [SV.int .u16 (v:Int)])=E1 (P++v::T):=by
 have a:j2 (E1 (P++t::T)) P.length []=[SV.int .u16 (t:Int)]:=by
  simp[E1,k9]
 rw[a];simp only[H7,af7];simp[E1]
def C28(X T:List Nat)(i:Nat)(h:i<X.length):X.take (i+1)++T=X.take i++X.getD i 0::T:=by rw[List.take_add_one,o9 h,k9,o9 h,x6];rfl
def D00{k0:LL->LL->Option R}(z:Bool)(X:List Nat)(h:X.length=8)(c:LL):∀(r i n:Nat),i+r=8->r<n->Pa LF n z (E1 X) (i:Int) c (E1 (X.take i++j4 r 0)) k0=k0 c (E1 X):=by
 intro r
 induction r with
 | zero=>
  intro i n d f;rcases n with _|n;omega
  rw[Pa];rw[A7,p7 (by omega)];simp
 | succ r g=>
  intro i n d f;rcases n with _|n;omega
  rw[Pa];have a:((i:Int)+1)=((i+1:Nat):Int):=by omega
  have e:(X.take i).length=i:=by rw[w6];omega
  have b:=Af4 (X.take i) (j4 r 0) 0 (X.getD i 0);rw[e] at b;simp (disch:=first|omega|(simp[J3];omega)) only[C6,J3,K6,aa,c9,Oi,Wd,vl,E6,ac8,b];rw[decide_eq_true (show i<j5 (X.take i++(0:Nat)::j4 r (0:Nat)) by simp<;>omega),a];simp only[aa];have:=g (i+1) n (by omega) (by omega);rw[C28 X _ i (by omega)] at this;exact this
def D01{k0:Bool->LL->LL->LL->Option R}(z:Bool)(X:List Nat)(k:X.length<=8)(e:Bool)(d c:LL):∀(r i n:Nat),i+r=X.length->r<n->Pb LF n z (E1 X) e d (i:Int) c (E1 (X.take i++j4 (8-i) 0)) k0=k0 e d c (E1 (X++j4 (8-X.length) 0)):=by
 intro r
 induction r with
 | zero=>
  intro i n f h;rcases n with _|n;omega
  rw[Pb];rw[J3,A7,p7 (by omega),show i=X.length by omega];rfl
 | succ r j=>
  intro i n f h;rcases n with _|n;omega
  rw[Pb];have a:((i:Int)+1)=((i+1:Nat):Int):=by omega
  have g:(X.take i).length=i:=by rw[w6];omega
  have b:=Af4 (X.take i) (j4 (7-i) 0) 0 (X.getD i 0);rw[g] at b;rw[show 8-i=7-i+1 by omega,ac8];simp (disch:=first|omega|(simp[J3];omega)) only[C6,J3,K6,aa,c9,Oi,Wd,vl,E6,b];rw[decide_eq_true (show i<j5 (X.take i++(0:Nat)::j4 (7-i) (0:Nat)) by simp<;>omega),a];simp only[aa];have:=j (i+1) n (by omega) (by omega);rw[C28 X _ i (by omega),show 8-(i+1)=7-i by omega] at this;exact this
def D02{k0:LL->LL->Option R}(z:Bool)(Y P:List Nat)(o:P.length+Y.length=8)(e:LL):∀(r i n:Nat) (T:List Nat),i+r=Y.length->r<n->T.length=r->Pc LF n z (E1 Y) (i:Int) e (E1 (P++Y.take i++T)) k0=k0 e (E1 (P++Y)):=by
 intro r
 induction r with
 | zero=>
  intro i n T h k a;rcases n with _|n;omega
  rw[Pc];rw[J3,A7,p7 (by omega),ad5.1 a];simp
 | succ r l=>
  intro i n T h k a;rcases n with _|n;omega
  obtain⟨t,T,rfl⟩:∃t b,T=t::b:=by
   match T,a with
   | t::b,_=>exact⟨t,b,rfl⟩
  rw[Pc];have c:((i:Int)+1)=((i+1:Nat):Int):=by omega
  have j:(P++Y.take i).length=P.length+i:=by simp<;>omega
  have d:=Af4 (P++Y.take i) T t (Y.getD i 0);rw[j] at d;have f:A1 (8-(Y.length:Int))=(P.length:Int):=by rw[A6];omega
  have g:A1 ((P.length:Int)+(i:Int))=((P.length+i:Nat):Int):=by rw[A6];rfl
  simp (disch:=first|omega|(simp[J3];omega)) only[C6,J3,K6,aa,c9,Oi,Wd,vl,f,g,E6,d];rw[decide_eq_true (show P.length+i<j5 (P++Y.take i++t::T) by simp<;>omega),c];simp only[aa];have:=l (i+1) n T (by omega) (by omega) (by simpa using a);rw[x6,C28 Y _ i (by omega),<-x6] at this;exact this
def Cg6{k0:Kbb R}(s:By)(B:A2 s.length=true) :
  ∃l L,C11 LF s k0=k0 (v6c 0 s) (v6c 1 s) (v6c 2 s) (v6c 3 s) (v6c 4 s) (v6c 5 s) (v6c 6 s) (v6c 7 s) (v6B s).isSome l L:=by
 have M:=M5 B;have F:=D6;unfold C11 v6c;rw[B];have bad:∀(h:v6B s=none),k0 0 0 0 0 0 0 0 0 false (r8 8) (r8 8)=k0 ((((v6B s).getD z8).getD 0 0:Nat):Int) ((((v6B s).getD z8).getD 1 0:Nat):Int) ((((v6B s).getD z8).getD 2 0:Nat):Int) ((((v6B s).getD z8).getD 3 0:Nat):Int) ((((v6B s).getD z8).getD 4 0:Nat):Int) ((((v6B s).getD z8).getD 5 0:Nat):Int) ((((v6B s).getD z8).getD 6 0:Nat):Int) ((((v6B s).getD z8).getD 7 0:Nat):Int) (v6B s).isSome (r8 8) (r8 8):=by
  intro h;rw[h];rfl
 have j:v6B s=match P8 (s8 s [58,58]).1 (!(s8 s [58,58]).2.2),P8 (s8 s [58,58]).2.1 true with
  | some x,some y=>if (s8 s [58,58]).2.2 then (if x.length+y.length<=7 then some (x++j4 (8-x.length-y.length) 0++y) else none)
   else if x.length+y.length=8 then some (x++y) else none
  | _,_=>none:=rfl
 have J:=Lib.index_room s [58,58];have I:=ai8 s [58,58];simp only[aa];by_cases C:LE s<0
 ·have n:s8 s [58,58]=(s,[],false):=by
   unfold s8;rw[ae (by unfold LE at C;omega)]
  rw[n] at j;simp only[j1,p4,if_false] at j;rw[C6 C];simp only[aa];cases m:P8 s true with
  | none=>
   rw[m] at j;exact⟨_,_,bad j⟩
  | some X=>
   have o:P8 [] true=some []:=rfl;have A:X.length<=2000000002:=by
    unfold P8 at m;split at m
    ·cases m;simp
    ·have:=Mc _ _ _ m;have:=Au 58 (s:=s) (by omega);omega
   rw[m,o] at j;simp only[ab1,ae0,y5] at j;simp only[o0,j0,ab,LY m,J3];by_cases p:X.length=8
   ·rw[ac p] at j;rw[show((X.length:Int)!=8)=false by simp;omega];simp only[ab];rw[show(j4 8 [SV.int ae7 0])=r8 8 from rfl];have h:=λK=>D00 (R:=R) (k0:=K) X.isEmpty X p (r8 8) 8 0 LF (by omega) (by omega)
    simp only[aa2,v8] at h;rw[<-Bg2] at h;rw[show((0:Nat):Int)=0 from rfl] at h;rw[h];rw[j];clear h j m bad;obtain⟨a,b,c,d,e,f,g,i,rfl⟩:=Dg8 p;exact⟨_,_,rfl⟩
   ·rw[ae p] at j;rw[show((X.length:Int)!=8)=true by simp;omega];exact⟨_,_,bad j⟩
 ·have r:0<=LE s:=by omega
  have q:=J r;obtain⟨k,t⟩:=o6 r;have w:k+2<=s.length:=by
   have:LE s+2<=(s.length:Int):=q;omega
  have n:s8 s [58,58]=(s.take k,s.drop (k+2),true):=by
   unfold s8;have:o8 s [58,58]=(k:Int):=t;rw[U9,this];rfl
  rw[n] at j;simp only[j0,if_true] at j;have D:A1 ((k:Int)+2)=((k+2:Nat):Int):=by rw[A6];rfl
  rw[t,A7,O8];simp only[ab,aa,vl,D,U6,Y9,c9];rw[D9 (by simp<;>omega),O8,D9 (by simp<;>omega)];simp only[aa];cases m:P8 (s.take k) false with
  | none=>
   rw[m] at j;exact⟨_,_,bad j⟩
  | some X=>
   cases o:P8 (s.drop (k+2)) true with
   | none=>
    rw[m,o] at j;exact⟨_,_,bad j⟩
   | some Y=>
    have A:X.length<=2000000002:=by
     unfold P8 at m;split at m
     ·cases m;simp
     ·have:=Mc _ _ _ m;have:=Au 58 (s:=s.take k) (by simp<;>omega);omega
    have H:Y.length<=2000000002:=by
     unfold P8 at o;split at o
     ·cases o;simp
     ·have:=Mc _ _ _ o;have:=Au 58 (s:=s.drop (k+2)) (by simp<;>omega);omega
    rw[m,o] at j;simp only[o0,j0,ab,LY m,LY o,J3];rw[A6];by_cases p:X.length+Y.length<=7
    ·simp only[ac p] at j;rw[A7];simp only[ab];rw[show(j4 8 [SV.int ae7 0])=r8 8 from rfl];have v:=λK=>D01 (R:=R) (k0:=K) X.isEmpty X (by omega) Y.isEmpty (E1 Y) (r8 8) X.length 0 LF (by omega) (by omega)
     simp only[aa2,v8] at v;rw[show(8-0:Nat)=8 from rfl,<-Bg2,show((0:Nat):Int)=0 from rfl] at v;rw[v];have u:X++j4 (8-X.length) 0=(X++j4 (8-X.length-Y.length) 0)++af3 0 Y++j4 Y.length 0:=by
      simp only[aa2,y5,x6];rw[List.replicate_append_replicate]
      congr 2
      omega
     have z:=λK=>D02 (R:=R) (k0:=K) Y.isEmpty Y (X++j4 (8-X.length-Y.length) 0) (by simp<;>omega) (r8 8) Y.length 0 LF (j4 Y.length 0) (by omega) (by omega) (by simp)
     rw[<-u,show((0:Nat):Int)=0 from rfl] at z;rw[z];rw[j];have G:j5 (X++j4 (8-X.length-Y.length) 0++Y)=8:=by simp<;>omega
     clear v z u j m o bad;generalize (X++j4 (8-X.length-Y.length) 0++Y)=W at *;obtain⟨a,b,c,d,e,f,g,i,rfl⟩:=Dg8 G;exact⟨_,_,rfl⟩
    ·simp only[ae p] at j;rw[A8];exact⟨_,_,bad j⟩
def NX{x:Nat}{r:List Nat}:Ox (x::r)=if x=0 then Ox r+1 else 0:=by unfold Ox;by_cases h:x=0<;>simp[h]
def HQ(l:List Nat):Ox l<=l.length:=by unfold Ox;exact(List.takeWhile_sublist _).length_le
def C96{k0:Kcb R}(W:List Nat)(l:W.length=8)(b a:Int)(i:Nat):∀(r j n:Nat),i+j+r=8->r<n->
  Ju LF n b a (i:Int) (j:Int) (E1 W) k0=k0 b a (i:Int) ((j+Ox (W.drop (i+j)):Nat):Int) (E1 W):=by
 intro r
 induction r with
 | zero=>
  intro j n f g;rcases n with _|n;omega
  rw[Ju];rw[A6,A7,j7 (by omega)];rfl
 | succ r k=>
  intro j n f g;rcases n with _|n;omega
  rw[Ju];have c:A1 ((i:Int)+(j:Int))=((i+j:Nat):Int):=by rw[A6];rfl
  have d:A1 ((j:Int)+1)=((j+1:Nat):Int):=by rw[A6];rfl
  have e:W.drop (i+j)=W.getD (i+j) 0::W.drop (i+(j+1)):=by
   rw[k9,o9 (by omega),o5,<-ai2,x7]
  simp (disch:=first|omega|(simp[J3];omega)) only[c,d,C6,K6,aa,c9,Oi,Wd,vl];rw[e,NX];by_cases h:W.getD (i+j) 0=0
  ·rw[h,ac rfl,show(((0:Nat):Int)==0)=true from rfl,aa,k (j+1) n (by omega) (by omega)]
   congr 2
   omega
  ·rw[ae h,show(((W.getD (i+j) 0:Nat):Int)==0)=false by rw[beq_eq_false_iff_ne];omega];rfl
def Cl4{k0:Int->Int->LL->Option R}(W:List Nat)(f:W.length=8):∀(r i n z m:Nat),i+r=8->r<n->z<=8->m<=8->
  Fz LF n (z:Int) (m:Int) (i:Int) (E1 W) k0=k0 ((zGo (W.drop i) i z m).1:Nat) ((zGo (W.drop i) i z m).2:Nat) (E1 W):=by
 intro r
 induction r with
 | zero=>
  intro i n z m j o c l;rcases n with _|n;omega
  rw[Fz];rw[A7,j7 (by omega)];rfl
 | succ r d=>
  intro i n z m j o c l;rcases n with _|n;omega
  have e:=D6;rw[Fz];have a:=λK=>C96 (R:=R) (k0:=K) W f (z:Int) (m:Int) i r.succ 0 LF (by omega) (by omega)
  rw[show((0:Nat):Int)=0 from rfl] at a;simp only[ac9,ae0] at a;rw[A8,aa,a];have g:W.drop i=W.getD i 0::W.drop (i+1):=by
   rw[k9,o9 (by omega),o5,x7]
  have k:=HQ (W.drop i);rw[x9] at k;have b:A1 ((i:Int)+1)=((i+1:Nat):Int):=by rw[A6];rfl
  rw[b];have c:zGo (W.drop i) i z m=if m<Ox (W.drop i) then zGo (W.drop (i+1)) (i+1) i (Ox (W.drop i)) else zGo (W.drop (i+1)) (i+1) z m:=by
   rw[g];rfl
  rw[c];by_cases h:m<Ox (W.drop i)
  ·rw[ac h,A8,aa];exact d (i+1) n i (Ox (W.drop i)) (by omega) (by omega) (by omega) (by omega)
  ·rw[ae h,A7,ab];exact d (i+1) n z m (by omega) (by omega) (by omega) (by omega)
def Th{a b c d e f g i:Int}(h:ok8 a b c d e f g i=true):∃j k l m n o p q:Nat,a=j/\b=k/\c=l/\d=m/\e=n/\f=o/\g=p/\i=q/\j<65536/\k<65536/\l<65536/\m<65536/\n<65536/\o<65536/\p<65536/\q<65536:=by simp only[ok8,af5,List.all_nil,ab9,p9,E7] at h;exact⟨a.toNat,b.toNat,c.toNat,d.toNat,e.toNat,f.toNat,g.toNat,i.toNat,by omega,by omega,by omega,by omega,by omega,by omega,by omega,by omega,by omega,by omega,by omega,by omega,by omega,by omega,by omega,by omega⟩
def Bt3{j:Int->Int->LL->Option R}(a b c d e f g i:Int)(t:ok8 a b c d e f g i=true):B39 LF a b c d e f g i j=j ((zGo (n8 a b c d e f g i) 0 0 0).1:Nat) ((zGo (n8 a b c d e f g i) 0 0 0).2:Nat) (E1 (n8 a b c d e f g i)):=by obtain⟨k,l,m,n,o,p,q,r,rfl,rfl,rfl,rfl,rfl,rfl,rfl,rfl,h⟩:=Th t;have:=D6;unfold B39;exact Cl4 [k,l,m,n,o,p,q,r] rfl 8 0 LF 0 0 rfl (by omega) (by omega) (by omega)
def Bo{n:Nat}(h:n<16):Q3 n=[Qd n]:=by rw[Q3,dif_pos h]
def Ap{n:Nat}(h:¬n<16):Q3 n=Q3 (n / 16)++[Qd (n % 16)]:=by rw[Q3,dif_neg h]
def Ys:∀n:Nat,n<65536->1<=(Q3 n).length/\(Q3 n).length<=4:=by
 intro n d;by_cases a:n<16
 ·rw[Bo a];simp
 rw[Ap a];by_cases b:n / 16<16
 ·rw[Bo b];simp
 rw[Ap b];by_cases c:n / 16 / 16<16
 ·rw[Bo c];simp
 rw[Ap c,Bo (show n / 16 / 16 / 16<16 by omega)];simp
def GY(d:Nat)(h:d<16):Qd d≠58:=by
 have:∀d:Fin 16,Qd d.val≠58:=by decide
 exact this ⟨d,h⟩
def B76(n:Nat):∃p d,Q3 n=p++[d]/\d≠58:=by
 by_cases a:n<16
 ·exact⟨[],_,by rw[Bo a];rfl,GY n a⟩
 ·exact⟨_,_,Ap a,GY _ (by omega)⟩
def Ct5(d:Nat)(h:d<16):cut ([48,49,50,51,52,53,54,55,56,57,97,98,99,100,101,102]:By) (d:Int) ((d+1:Nat):Int)=[Qd d]:=by
 have:∀d:Fin 16,(([48,49,50,51,52,53,54,55,56,57,97,98,99,100,101,102]:By).take (d.val+1)).drop d.val=[Qd d.val]:=by decide
 rw[Fc];exact this ⟨d,h⟩
def Bj1{c:By->Option R}:∀(v n:Nat) (s:By),v<65536->v+1<n->s.length+v<=70000->(0<v\/s=[])->
  Bp LF n s (v:Int) c=c (Q3 v++s):=by
 intro v
 induction v using y7 with
 | _ v q=>
  intro n s w r u h;rcases n with _|n;omega
  have l:ac1 (v:Int) 16=((v % 16:Nat):Int):=Dm v 16;have k:ac0 (v:Int) 16=((v / 16:Nat):Int):=N6 v 16;have i:Ez (((v % 16:Nat):Int)+1)=((v % 16+1:Nat):Int):=by rw[Ln];rfl
  have j:Ez ((v / 16:Nat):Int)=((v / 16:Nat):Int):=Ln;have last:∀(m:Nat) (t:By),t≠[]->Bp LF (m+1) t 0 c=c t:=by
   intro m t o;rw[Bp];rw[A7,show(t==([]:By))=false from beq_eq_false_iff_ne.2 o];rfl
  have a:(vl (Ez ((ac1 (v:Int) 16)+1)) λd=>
    cond (L3 (ac1 (v:Int) 16) d 16)
    (vl (cut (([48,49,50,51,52,53,54,55,56,57,97,98,99,100,101,102]:By)) (ac1 (v:Int) 16) d) λe=>
     cond (J1 (j5 e) (j5 s))
     (vl (Ez (ac0 (v:Int) 16)) λg=>Bp LF n (e++s) g c) none) none)=c (Q3 v++s):=by
   simp only[vl,l,k,i,j];rw[O8,Ct5 _ (by omega),J4 (by simp;omega)];simp only[aa];by_cases b:v<16
   ·rw[Bo b,Nat.mod_eq_of_lt b,show v / 16=0 by omega];rcases n with _|n;omega
    exact last n _ (by simp)
   ·rw[q (v / 16) (by omega) n _ (by omega) (by omega) (by simp;omega) (.inl (by omega)),Ap b];simp
  rw[Bp];by_cases p:0<v
  ·rw[A8,aa];exact a
  ·have f:s=[]:=by rcases h with h|h;omega;exact h
   rw[A7,ab,show(s==([]:By))=true by simpa using f,aa];exact a
def Bj2{b:By->Option R}(v:Int)(c:ltN v 65536=true):B06 LF v b=b (Q3 v.toNat):=by obtain⟨a,d⟩:=E7.1 c;obtain⟨m,rfl⟩:=o6 a;have:=D6;unfold B06;refine j8 (Bj1 m LF [] (by omega) (by omega) (by simp<;>omega) (.inr rfl)) ?_;grind
def Ae3{c:Int->Option R}{d:Unit->Option R}(s:By)(x:s.length<=1000000000):∀(r i n:Nat),i+r=s.length->r<n->
  W0 LF n s (i:Int) c d=if o8 (s.drop i) [58,58]=-1 then d () else c ((i:Int)+o8 (s.drop i) [58,58]):=by
 intro r
 induction r with
 | zero=>
  intro i n q u;rcases n with _|n;omega
  rw[W0];rw[A6,A7,j7 (by omega)];rfl
 | succ r h=>
  intro i n q u;rcases n with _|n;omega
  rw[W0];have f:A1 ((i:Int)+1)=((i+1:Nat):Int):=by rw[A6];rfl
  rw[f];by_cases t:i+1<s.length
  ·have h:=h (i+1) n (by omega) (by omega);rw[G2 s i (by omega)];have e:=G2 s (i+1) t;have p:=ai8 (s.drop (i+1)) [58,58];have l:o8 (s.getD i 0::s.drop (i+1)) [58,58]=if ([58,58]:By).isPrefixOf (s.getD i 0::s.drop (i+1)) then 0 else if o8 (s.drop (i+1)) [58,58]==-1 then -1 else o8 (s.drop (i+1)) [58,58]+1:=by
    rw[o8]
   have o:([58,58]:By).isPrefixOf (s.getD i 0::s.drop (i+1))=(s.getD i 0==58&&s.getD (i+1) 0==58):=by
    rw[e];simp only[p5,ab9];rw[af9 (a:=(58:UInt8)),af9 (a:=(58:UInt8)) (b:=s.getD (i+1) 0)]
   have j:=S7 (s.getD i 0) 58 (by omega);have k:=S7 (s.getD (i+1) 0) 58 (by omega);rw[show((58:Nat):Int)=58 from rfl,show s9 58=(58:UInt8) from rfl] at j k;have next:W0 LF n s ((i+1:Nat):Int) c d=if (if o8 (s.drop (i+1)) [58,58]==-1 then (-1:Int) else o8 (s.drop (i+1)) [58,58]+1)=-1 then d () else c ((i:Int)+(if o8 (s.drop (i+1)) [58,58]==-1 then -1 else o8 (s.drop (i+1)) [58,58]+1)):=by
    rw[h];by_cases g:o8 (s.drop (i+1)) [58,58]=-1
    ·rw[g];rfl
    ·rw[ae g,show(o8 (s.drop (i+1)) [58,58]==-1)=false from beq_eq_false_iff_ne.2 g];simp only[p4,if_false];rw[I9]
     congr 1
     omega
   rw[l,o,A8,H4,H4];simp only[aa,F6,vl,j,k];cases v:(s.getD i 0==58) with
   | false=>
    simp only[ab,Bool.false_and,p4,if_false];exact next
   | true=>
    cases w:(s.getD (i+1) 0==58) with
    | false=>
     simp only[aa,ab,Bool.and_false,p4,if_false];exact next
    | true=>
     simp
  ·rw[A7,G2 s i (by omega),j7 (show s.length<=i+1 by omega)];have:o8 [s.getD i 0] [58,58]=-1:=by
    rw[o8];simp[p5,o8]
   rw[this];rfl
def Ae4{a:Int->Option R}(s:By)(b:A2 s.length=true):HL LF s a=a (LE s):=by have c:=M5 b;have:=D6;unfold HL LE;refine j8 (Ae3 s c s.length 0 LF (by omega) (by omega)) ?_;grind
def Om(n:Nat):ptI (n:Int)=W8 n:=rfl
def At8{a:Bool->Option R}(n:Int):Ad8 LF n a=a (ptI n):=by
 unfold Ad8;by_cases h:n<0
 ·rw[C6 h];have:ptI n=false:=by
   cases n with
   | ofNat m=>exact absurd h (by simp)
   | negSucc m=>rfl
  grind
 ·obtain⟨m,rfl⟩:=o6 (show 0<=n by omega);rw[A7,Om];unfold W8;by_cases b:1114111<m
  ·rw[A8];have:aa4 m 1114111=false:=by rw[ag0,ne_eq,ae1];omega
   grind
  ·rw[A7];have:aa4 m 1114111=true:=by rw[ae1];omega
   rw[this];by_cases c:m<55296
   ·rw[A8];have:Nat.blt m 55296=true:=by rw[Nat.blt_eq];omega
    grind
   ·rw[A7];have e:Nat.blt m 55296=false:=by rw[ag0,ne_eq,Nat.blt_eq];omega
    rw[e];simp only[j1,aa,ab,Bool.false_or,ah9]
    congr 1
def JZ{d k:Nat}(h:455<d):CB d k=CB (d / 35) (k+36):=by rw[CB,dif_pos h]
def Va{d k:Nat}(h:¬ 455<d):CB d k=k+36*d / (d+38):=by rw[CB,dif_neg h]
def As9{k0:Int->Int->Option R}:∀(d n k:Nat),d<2305843009213693952->d<n->k+d<=4611686018427387904->
  ∃a b,a<=455/\b<=k+d/\CB d k=b+36*a / (a+38)/\Ii LF n (d:Int) (k:Int) k0=k0 (a:Int) (b:Int):=by
 intro d
 induction d using y7 with
 | _ d l=>
  intro n k p r q;rcases n with _|n;omega
  rw[Ii];by_cases h:455<d
  ·obtain⟨a,b,g,o,i,j⟩:=l (d / 35) (by omega) n (k+36) (by omega) (by omega) (by omega);refine⟨a,b,g,by omega,by rw[JZ h];exact i,?_⟩;have e:ac0 (d:Int) 35=((d / 35:Nat):Int):=N6 d 35;have c:A1 ((d / 35:Nat):Int)=((d / 35:Nat):Int):=A6;have f:A1 ((k:Int)+36)=((k+36:Nat):Int):=by rw[A6];rfl
   rw[A8];simp only[aa,vl,e,c,f];exact j
  ·refine⟨d,k,by omega,by omega,Va h,?_⟩;rw[A7];rfl
def At0{k0:Int->Option R}(d c:Int)(f:Bool)(z:ltN d 1152921504606846976=true)(A:ltN c 1000000=true)(B:ltI 0 c=true):NH LF d c f k0=k0 (R4 d.toNat c.toNat f:Nat):=by
 obtain⟨k,F⟩:=E7.1 z;obtain⟨j,D⟩:=E7.1 A;obtain⟨d,rfl⟩:=o6 k;obtain⟨c,rfl⟩:=o6 j;have J:=Tc.1 B;have C:=D6;have key:∀x:Nat,x<1152921504606846976->Ih LF (x:Int) (c:Int) k0=k0 ((CB (x+x / c) 0:Nat):Int):=by
  intro x L;have G:x / c<=x:=ae3 _ _;unfold Ih;have g:ac0 (x:Int) (c:Int)=((x / c:Nat):Int):=N6 x c;generalize x / c=q at *;have h:A1 (q:Int)=(q:Int):=A6;have o:A1 ((x:Int)+(q:Int))=((x+q:Nat):Int):=by rw[A6];rfl
  rw[show((c:Int)!=0)=true by simp;omega];simp only[aa,vl,g,h,o];obtain⟨a,n,H,I,w,y⟩:=As9 (R:=R) (k0:=λb l=>vl (A1 ((36)*b)) λm=>vl (A1 (b+(38))) λe=>cond (e !=(0)) (vl (A1 (ac0 m e)) λi=>k0 (A1 (l+i))) none) (x+q) LF 0 (by omega) (by omega) (by omega);refine j8 y ?_;have K:36*a / (a+38)<=36*a:=ae3 _ _;have p:A1 (36*(a:Int))=((36*a:Nat):Int):=by rw[A6];rfl
  have r:A1 ((a:Int)+38)=((a+38:Nat):Int):=by rw[A6];rfl
  have t:ac0 ((36*a:Nat):Int) ((a+38:Nat):Int)=((36*a / (a+38):Nat):Int):=N6 _ _;have u:A1 ((36*a / (a+38):Nat):Int)=((36*a / (a+38):Nat):Int):=A6;have v:A1 ((n:Int)+((36*a / (a+38):Nat):Int))=((n+36*a / (a+38):Nat):Int):=by rw[A6];rfl
  simp only[vl,p,r,t,u,v];rw[show(((a+38:Nat):Int)!=0)=true by simp;omega,w];rfl
 unfold NH R4;rw[c9,c9];cases f with
 | true=>
  have g:ac0 (d:Int) 700=((d / 700:Nat):Int):=N6 d 700;have h:A1 ((d / 700:Nat):Int)=((d / 700:Nat):Int):=A6;simp only[aa,vl,g,h,if_true];exact key _ (by omega)
 | false=>
  have g:ac0 (d:Int) 2=((d / 2:Nat):Int):=N6 d 2;have h:A1 ((d / 2:Nat):Int)=((d / 2:Nat):Int):=A6;simp only[ab,vl,g,h,p4,if_false];exact key _ (by omega)
def RL{d:Nat}(h:d<36):(Bn d).toNat=if d<26 then 97+d else 22+d:=by unfold Bn;split<;>simp<;>omega
def Cc5{b:Int->Option R}(d:Int)(c:ltN d 36=true):Dj0 LF d b=b ((Bn d.toNat).toNat:Nat):=by
 obtain⟨a,e⟩:=E7.1 c;obtain⟨d,rfl⟩:=o6 a;unfold Dj0;rw[c9,RL (by omega)];by_cases h:d<26
 ·rw[A8,ac h];simp only[aa,vl]
  congr 1
  rw[A6,O2];rfl
 ·rw[A7,ae h];simp only[ab,vl]
  congr 1
  rw[E6 (n:=48+(d:Int)) (by omega) (by omega),A6,O2];omega
def GF(b:UInt8):(97<=b.toNat/\b.toNat<=122/\Qa b=some (b.toNat-97))\/(65<=b.toNat/\b.toNat<=90/\Qa b=some (b.toNat-65))\/(48<=b.toNat/\b.toNat<=57/\Qa b=some (b.toNat-22))\/(¬(97<=b.toNat/\b.toNat<=122)/\¬(65<=b.toNat/\b.toNat<=90)/\¬(48<=b.toNat/\b.toNat<=57)/\Qa b=none):=by unfold Qa;grind
def Cd2{g:Int->Option R}(b:Int)(h:inR b 256=true):Cx8 LF b g=g (F2 (u8n b)):=by
 simp only[inR,p9,af] at h;have j:b=((u8n b).toNat:Int):=by
  unfold u8n;simp;omega
 generalize u8n b=c at *;subst j;have i:=c.toNat_lt;unfold Cx8 F2;simp only[Zn,Zm,vl];rcases GF c with⟨d,f,e⟩|⟨d,f,e⟩|⟨d,f,e⟩|⟨d,f,o,e⟩
 ·have a:A1 (wu8 ((c.toNat:Int)-97))=((c.toNat-97:Nat):Int):=by
   rw[O2,A6];omega
  simp (disch:=omega) only[C6,E4,j0,j1,ab,aa,a,e]
 ·have a:A1 (wu8 ((c.toNat:Int)-65))=((c.toNat-65:Nat):Int):=by
   rw[O2,A6];omega
  simp (disch:=omega) only[C6,E4,j0,j1,ab,aa,a,e]
 ·have a:A1 (A1 (wu8 ((c.toNat:Int)-48))+26)=((c.toNat-22:Nat):Int):=by
   rw[O2,E6 (n:=(c.toNat:Int)-48) (by omega) (by omega),A6];omega
  simp (disch:=omega) only[C6,E4,j0,j1,ab,aa,a,e]
 ·rw[e];by_cases k:c.toNat<48
  ·simp (disch:=omega) only[C6,E4,j0,j1,ab,aa]
  ·by_cases l:c.toNat<65
   ·simp (disch:=omega) only[C6,E4,j0,j1,ab,aa]
   ·by_cases m:c.toNat<97
    ·simp (disch:=omega) only[C6,E4,j0,j1,ab,aa]
    ·simp (disch:=omega) only[C6,E4,j0,j1,ab,aa]
def Do6{l:LL}(h:l.all Yw=true):∃W:List Nat,l=E1 W/\(∀x∈W,x<65536):=by
 induction l with
 | nil=>exact⟨[],rfl,by simp⟩
 | cons x r c=>
  simp only[af5,p9] at h;obtain⟨W,rfl,e⟩:=c h.2;have a:=h.1;unfold Yw at a;split at a
  ·rename_i n;obtain⟨b,d⟩:=E7.1 a;obtain⟨m,rfl⟩:=o6 b;refine⟨m::W,rfl,?_⟩;grind
  ·cases a
def Ah3{W:List Nat}(h:∀x∈W,x<65536):(E1 W).all Yw=true:=by rw[aa7];intro x a;simp only[E1,ag2] at a;obtain⟨n,b,rfl⟩:=a;have:=h n b;exact Uh (v:=(n:Int)) (n:=65536) (by omega) (by omega)
def Ye(W:List Nat):(E1 W).map elN=W:=by
 unfold E1;rw[aj1]
 conv=>rhs;rw[<-ag7 W]
 apply ac7;intro x _;simp[elN,SV.gI]
def Ao6(l:List By):(C2 l).map elS=l:=by
 unfold C2;rw[aj1]
 conv=>rhs;rw[<-ag7 l]
 apply ac7;intro x _;simp[elS,SV.gS]
def Jr(l:List By):(C2 l).all isS=true:=by rw[aa7];intro x a;simp only[C2,ag2] at a;obtain⟨n,b,rfl⟩:=a;rfl
def Ay0{P:List Nat->Prop}(a:P [])(b:∀l x,P l->P (l++[x]))(l:List Nat):P l:=by
 have:∀r:List Nat,P r.reverse:=by
  intro r
  induction r with
  | nil=>exact a
  | cons x r c=>rw[List.reverse_cons];exact b _ _ c
 have:=this l.reverse;grind
def B92(l:List By)(x p:By)(h:l≠[]):aa0 (l++[x]) p=aa0 l p++p++x:=by
 cases l with
 | nil=>exact absurd rfl h
 | cons y r=>
  rw[aa1,ai0,ai0];unfold Lib.joinTail;simp
def Ic:L5 []=[]:=rfl
def Mg(n:Nat):L5 [n]=Q3 n:=by unfold L5;exact ab5 _ _
def Wg(l:List Nat)(n:Nat)(h:l≠[]):L5 (l++[n])=L5 l++[58]++Q3 n:=by unfold L5;rw[ah1,List.map_singleton,B92 _ _ _ (by simpa using h)]
def Cp:∀l:List Nat,(∀x∈l,x<65536)->(L5 l).length<=5*l.length:=by
 refine Ay0 ?_ ?_
 ·intro _;simp[Ic]
 ·intro l n c h;have d:=c (λx b=>h x (by simp[b]));have e:=Ys n (h n (by simp));by_cases a:l=[]
  ·subst a;rw[v8,Mg];simp;omega
  ·rw[Wg l n a];simp;omega
def Ba8:∀(l:List Nat) (h:l≠[]),∃q d,L5 l=q++[d]/\d≠58:=by
 refine Ay0 ?_ ?_
 ·grind
 ·intro l n _ _;obtain⟨q,d,c,a⟩:=B76 n;by_cases b:l=[]
  ·subst b;exact⟨q,d,by rw[v8,Mg,c],a⟩
  ·exact⟨L5 l++[58]++q,d,by rw[Wg l n b,c];simp,a⟩
def C52{c:LL->Option R}(z t:Bool)(W:List Nat)(l:∀x∈W,x<65536)(p:W.length<=8):∀(r i n:Nat) (d:List By),i+r=W.length->r<n->d.length=i->
  Wx LF n z t (E1 W) (W.length:Int) (i:Int) (C2 d) c=c (C2 (d++(W.drop i).map Q3)):=by
 intro r
 induction r with
 | zero=>
  intro i n d h j f;rcases n with _|n;omega
  rw[Wx];rw[A7,j7 (by omega)];simp
 | succ r k=>
  intro i n d h j f;rcases n with _|n;omega
  rw[Wx];have b:W.drop i=W.getD i 0::W.drop (i+1):=by
   rw[k9,o9 (by omega),o5,x7]
  have o:W.getD i 0<65536:=by
   rw[k9,o9 (by omega),o5];simp_all
  have e:A1 ((i:Int)+1)=((i+1:Nat):Int):=by rw[A6];rfl
  rw[b];generalize g:W.getD i 0=x at *;simp (disch:=omega) only[C6,K6,aa,J3,c9,Oi,Wd,vl,e,g,Ai2,Uh,C3,F4,show((16:Int)==16)=true from rfl];have a:C2 d++[[SV.str (Q3 x)]]=C2 (d++[Q3 x]):=by rw[Fx];rfl
  rw[a,k (i+1) n _ (by omega) (by omega) (by simp;omega)];simp
def C53{k0:By->LL->Option R}(z t:Bool)(l:LL)(c:l.all Yw=true)(a:aa4 l.length 8=true):∃g,v6j LF z t l k0=k0 (L5 (l.map elN)) g:=by
 obtain⟨W,rfl,b⟩:=Do6 c;have f:W.length<=8:=by rw[J3] at a;exact ab8 a
 have d:=D6;refine⟨C2 (W.map Q3),?_⟩;unfold v6j;rw[J3];refine j8 (C52 z t W b f W.length 0 LF [] (by omega) (by omega) rfl) ?_;have e:=Cp W b;unfold L5 at e;rw[v8,p6,Jr,Ao6,Ye,C3,R0,D9 (by simp;omega)];rfl
def Ai7:∀(l:List Nat) (i z m:Nat),z+m<=i+l.length->(zGo l i z m).1+(zGo l i z m).2<=i+l.length
 | [],i,z,m,h=>by simpa[zGo] using h
 | x::r,i,z,m,h=>by
  have a:=HQ (x::r);simp only[zGo];simp only[x8] at h a ⊢;split
  ·have:=Ai7 r (i+1) i (Ox (x::r)) (by omega);omega
  ·have:=Ai7 r (i+1) z m (by omega);omega
def C51{k0:By->LL->Option R}(p r t u v w y A:Int)(G:ok8 p r t u v w y A=true):∃l,v6f LF p r t u v w y A k0=k0 (Cv (n8 p r t u v w y A)) l:=by
 obtain⟨a,b,c,d,e,f,g,j,rfl,rfl,rfl,rfl,rfl,rfl,rfl,rfl,h⟩:=Th G;have C:n8 a b c d e f g j=[a,b,c,d,e,f,g,j]:=rfl;refine⟨E1 [a,b,c,d,e,f,g,j],?_⟩;unfold v6f;rw[G,C,aa];have o:([[SV.int .u16 (a:Int)],[SV.int .u16 (b:Int)],[SV.int .u16 (c:Int)],[SV.int .u16 (d:Int)],[SV.int .u16 (e:Int)],[SV.int .u16 (f:Int)],[SV.int .u16 (g:Int)],[SV.int .u16 (j:Int)]]:LL)=E1 [a,b,c,d,e,f,g,j]:=rfl;rw[o];have B:∀x∈[a,b,c,d,e,f,g,j],x<65536:=by simp_all
 have n:[a,b,c,d,e,f,g,j].length=8:=rfl;have k:=Ai7 [a,b,c,d,e,f,g,j] 0 0 0 (by simp);unfold Cv;generalize [a,b,c,d,e,f,g,j]=W at *;generalize zGo W 0 0 0=q at *;obtain⟨z,m⟩:=q;rw[n] at k;simp only[vl] at k ⊢;have N:∀i,(E1 W).take i=E1 (W.take i):=λi=>by unfold E1;rw[ai1]
 have J:∀i,(E1 W).drop i=E1 (W.drop i):=λi=>by unfold E1;rw[af6]
 by_cases I:m<2
 ·rw[ac I,A8,aa,Ah3 B,Ye];rfl
 ·have K:A1 ((z:Int)+(m:Int))=((z+m:Nat):Int):=by rw[A6];rfl
  have hA:∀x∈W.take z,x<65536:=λx D=>B x (y9 D)
  have H:∀x∈W.drop (z+m),x<65536:=λx D=>B x (x4 D)
  have O:=Cp _ hA;have P:=Cp _ H;have L:(W.take z).length<=8:=by rw[w6];omega
  have M:(W.drop (z+m)).length<=8:=by rw[x9];omega
  rw[ae I,A7,ab,O8,K];simp only[c9,Nat.sub_zero];rw[N,J,Ah3 hA,Ye,J3,ab7 L,J4 (by omega),O8];have F:(E1 (W.drop (z+m))).take (8-(z+m))=E1 (W.drop (z+m)):=p7 (by rw[J3,x9];omega);rw[F,Ah3 H,Ye,J3,ab7 M,J4 (by simp;omega)];simp
def Dn1{k0:Kcb R}(W:List Nat)(l:W.length=8)(b a:Int)(i:Nat):∀(r j n:Nat),i+j+r=8->r<n->
  Oz LF n b a (i:Int) (j:Int) (E1 W) k0=k0 b a (i:Int) ((j+Ox (W.drop (i+j)):Nat):Int) (E1 W):=by
 intro r
 induction r with
 | zero=>
  intro j n f g;rcases n with _|n;omega
  rw[Oz];rw[A6,A7,j7 (by omega)];rfl
 | succ r k=>
  intro j n f g;rcases n with _|n;omega
  rw[Oz];have c:A1 ((i:Int)+(j:Int))=((i+j:Nat):Int):=by rw[A6];rfl
  have d:A1 ((j:Int)+1)=((j+1:Nat):Int):=by rw[A6];rfl
  have e:W.drop (i+j)=W.getD (i+j) 0::W.drop (i+(j+1)):=by
   rw[k9,o9 (by omega),o5,<-ai2,x7]
  simp (disch:=first|omega|(simp[J3];omega)) only[c,d,C6,K6,aa,c9,Oi,Wd,vl];rw[e,NX];by_cases h:W.getD (i+j) 0=0
  ·rw[h,ac rfl,show(((0:Nat):Int)==0)=true from rfl,aa,k (j+1) n (by omega) (by omega)]
   congr 2
   omega
  ·rw[ae h,show(((W.getD (i+j) 0:Nat):Int)==0)=false by rw[beq_eq_false_iff_ne];omega];rfl
def RR(z m:Nat)(a b:Int):Prop:=(2<=m/\a=z/\b=m)\/(m<2/\a=-1/\b=1)
def C10{k0:Int->Int->LL->Option R}(W:List Nat)(o:W.length=8):∀(r i n z m:Nat) (a b:Int),i+r=8->r<n->z<=8->m<=8->RR z m a b->
  ∃g j,RR (zGo (W.drop i) i z m).1 (zGo (W.drop i) i z m).2 g j/\Ko LF n a b (i:Int) (E1 W) k0=k0 g j (E1 W):=by
 intro r
 induction r with
 | zero=>
  intro i n z m a b t w e v h;rcases n with _|n;omega
  rw[Ko];rw[A7,j7 (by omega)];exact⟨a,b,h,rfl⟩
 | succ r f=>
  intro i n z m a b t w e v h;rcases n with _|n;omega
  have l:=D6;rw[Ko];have c:=λK=>Dn1 (R:=R) (k0:=K) W o a b i r.succ 0 LF (by omega) (by omega)
  rw[show((0:Nat):Int)=0 from rfl] at c;simp only[ac9,ae0] at c;rw[A8,aa,c];have p:W.drop i=W.getD i 0::W.drop (i+1):=by
   rw[k9,o9 (by omega),o5,x7]
  have u:=HQ (W.drop i);rw[x9] at u;have d:A1 ((i:Int)+1)=((i+1:Nat):Int):=by rw[A6];rfl
  rw[d];have e:zGo (W.drop i) i z m=if m<Ox (W.drop i) then zGo (W.drop (i+1)) (i+1) i (Ox (W.drop i)) else zGo (W.drop (i+1)) (i+1) z m:=by
   rw[p];rfl
  rw[e];generalize Ox (W.drop i)=q at *;unfold RR at h;by_cases k:m<q
  ·rw[ac k];by_cases x:q<2
   ·rw[A7,ab];exact f (i+1) n i q a b (by omega) (by omega) (by omega) (by omega) (by unfold RR;omega)
   ·rw[A8,aa];exact f (i+1) n i q i q (by omega) (by omega) (by omega) (by omega) (by unfold RR;omega)
  ·rw[ae k,A7,ab];exact f (i+1) n z m a b (by omega) (by omega) (by omega) (by omega) h
def RU(q:By)(d:UInt8):(q++[d]).getD q.length 0=d:=by simp
def Cg5{k:By->LL->Option R}(W:List Nat)(u:W.length=8)(v:∀x∈W,x<65536)(a b:Int)(s c:By)(i n:Nat)(w:i<8)(o:(i:Int)≠a)(j:s.length<=1000)
  (h:(s=[]/\c=Q3 (W.getD i 0))\/(∃q d,s=q++[d]/\d≠58/\c=s++[58]++Q3 (W.getD i 0))\/(∃q,s=q++[58]/\c=s++Q3 (W.getD i 0))) :
  U5 LF (n+1) a b s (i:Int) (E1 W) k=U5 LF n a b c ((i+1:Nat):Int) (E1 W) k:=by
 rw[U5];have t:W.getD i 0<65536:=by simp_all
 have m:A1 ((i:Int)+1)=((i+1:Nat):Int):=by rw[A6];rfl
 have y:=Ys _ t;rw[A8,show((i:Int)==a)=false from beq_eq_false_iff_ne.2 o];generalize r:W.getD i 0=x at *;have ok:=Oi (l:=W) (i:=i) (by omega);simp (disch:=omega) only[aa,ab,K6,c9,ok,Wd,r,Uh,vl,m];rcases h with⟨rfl,rfl⟩|⟨q,d,rfl,p,rfl⟩|⟨q,rfl,rfl⟩
 ·have e:J1 ([]:By).length (Q3 x).length=true:=J4 (by simp;omega);rw[e];rfl
 ·have f:A1 (((q++[d]).length:Int)-1)=((q.length:Nat):Int):=by rw[A6];simp
  rw[show((q++[d])==([]:By))=false by simp,f,K6 (by omega) (by simp<;>omega),F6,RU];have g:(d.toNat:Int)≠58:=by
   intro h;apply p;apply UInt8.toNat.inj;grind
  rw[show((d.toNat:Int)!=58)=true from bne_iff_ne.2 g,J4 (by simp at j ⊢;omega),J4 (by simp at j ⊢;omega)];rfl
 ·have f:A1 (((q++[58]).length:Int)-1)=((q.length:Nat):Int):=by rw[A6];simp
  rw[show((q++[(58:UInt8)])==([]:By))=false by simp,f,K6 (by omega) (by simp<;>omega),F6,RU];have e:J1 (q++[(58:UInt8)]).length (Q3 x).length=true:=J4 (by simp at j ⊢;omega);rw[e];rfl
def Ci2(W:List Nat)(i:Nat)(h:i<W.length):W.take (i+1)=W.take i++[W.getD i 0]:=by simp_all
def NZ{k0:By->LL->Option R}(W:List Nat)(m:W.length=8)(f:∀x∈W,x<65536)(a b:Int)(e:Nat)(I:e<=8)(p:By)(z:p=[]\/∃q,p=q++[58])(A:p.length<=100)(o:Nat)(w:o<=8) :
  ∀(r i n:Nat),i+r=e->o<=i->(∀j:Nat,i<=j->j<e->(j:Int)≠a)->
   U5 LF (n+r) a b (p++L5 ((W.take i).drop o)) (i:Int) (E1 W) k0=U5 LF n a b (p++L5 ((W.take e).drop o)) (e:Int) (E1 W) k0:=by
 intro r
 induction r with
 | zero=>
  intro i n u w _;rw[show i=e by omega];rfl
 | succ r G=>
  intro i n u y g;rw[show n+(r+1)=(n+r)+1 by omega];have h:((W.take i).drop o).length=i-o:=by rw[x9,w6];omega
  have v:=Cp ((W.take i).drop o) (λx F=>f x (y9 (x4 F)));have D:(W.take (i+1)).drop o=(W.take i).drop o++[W.getD i 0]:=by
   rw[Ci2 W i (by omega),aa3 (by rw[w6];omega)]
  have C:(p++L5 ((W.take i).drop o)).length<=1000:=by rw[ab2];omega
  rw[Cg5 W m f a b (p++L5 ((W.take i).drop o)) (p++L5 ((W.take (i+1)).drop o)) i (n+r) (by omega) (g i (by omega) (by omega)) C]
  ·exact G (i+1) n (by omega) (by omega) (λj H k=>g j (by omega) k)
  ·rw[D];generalize (W.take i).drop o=l at *;by_cases c:l=[]
   ·subst c;rw[v8,Mg,Ic,y5];rcases z with rfl|⟨q,rfl⟩
    ·exact .inl ⟨rfl,rfl⟩
    ·exact .inr (.inr ⟨q,rfl,rfl⟩)
   ·obtain⟨q,d,B,t⟩:=Ba8 l c;refine .inr (.inl ⟨p++q,d,by rw[B,x6],t,?_⟩);rw[Wg l _ c];simp
def Cg4{k0:By->LL->Option R}(A B C D F G H I:Int)(V:ok8 A B C D F G H I=true):Dm9 LF A B C D F G H I k0=k0 (Cv (n8 A B C D F G H I)) (E1 (n8 A B C D F G H I)):=by
 obtain⟨g,i,k,l,o,p,r,t,rfl,rfl,rfl,rfl,rfl,rfl,rfl,rfl,h⟩:=Th V;have K:n8 g i k l o p r t=[g,i,k,l,o,p,r,t]:=rfl;unfold Dm9;rw[K];have y:([[SV.int .u16 (g:Int)],[SV.int .u16 (i:Int)],[SV.int .u16 (k:Int)],[SV.int .u16 (l:Int)],[SV.int .u16 (o:Int)],[SV.int .u16 (p:Int)],[SV.int .u16 (r:Int)],[SV.int .u16 (t:Int)]]:LL)=E1 [g,i,k,l,o,p,r,t]:=rfl;rw[y];have J:∀x∈[g,i,k,l,o,p,r,t],x<65536:=by simp_all
 have e:[g,i,k,l,o,p,r,t].length=8:=rfl;have w:=Ai7 [g,i,k,l,o,p,r,t] 0 0 0 (by simp);have X:=D6;generalize [g,i,k,l,o,p,r,t]=W at *;obtain⟨a,b,L,Y⟩:=C10 (R:=R) (k0:=λv f M=>U5 LF LF v f [] 0 M (λd c=>k0 d c)) W e 8 0 LF 0 0 (-1) 1 (by omega) (by omega) (by omega) (by omega) (.inr ⟨by omega,rfl,rfl⟩);refine j8 Y ?_;rw[p6] at L;unfold Cv;generalize zGo W 0 0 0=q at *;obtain⟨z,m⟩:=q;rw[e] at w;simp only at w L ⊢;have stop:∀(n:Nat) (s:By),0<n->U5 LF n a b s ((8:Nat):Int) (E1 W) (λd c=>k0 d c)=k0 s (E1 W):=by
  intro n s O;rcases n with _|n;omega
  rw[U5];simp_all
 rcases L with⟨N,rfl,rfl⟩|⟨N,rfl,rfl⟩
 ·rw[I9];have u:=NZ (R:=R) (k0:=λd c=>k0 d c) W e J (z:Int) (m:Int) z (by omega) [] (.inl rfl) (by simp) 0 (by omega) z 0 (LF-z) (by omega) (by omega) (λj _ h2=>by omega);rw[show LF-z+z=LF by omega] at u;simp only[aa2,p6,Ic,v8] at u;refine j8 u ?_;obtain⟨n,O⟩:∃n,LF-z=n+8+1:=⟨LF-z-9,by omega⟩
  rw[O,U5];have hA:∀x∈W.take z,x<65536:=λx Z=>J x (y9 Z)
  have la:=Cp _ hA;have l1:(W.take z).length<=8:=by rw[w6];omega
  have S:A1 ((m:Int)-1)=((m-1:Nat):Int):=by rw[A6];omega
  have T:A1 ((z:Int)+((m-1:Nat):Int))=((z+(m-1):Nat):Int):=by rw[A6];omega
  have U:A1 (((z+(m-1):Nat):Int)+1)=((z+m:Nat):Int):=by rw[A6];omega
  rw[A8,J4 (by omega)];simp only[beq_self_eq_true,aa,vl,S,T,U];have P:=NZ (R:=R) (k0:=λd c=>k0 d c) W e J (z:Int) (m:Int) 8 (by omega) (L5 (W.take z)++[58,58]) (.inr ⟨L5 (W.take z)++[58],by simp⟩) (by simp;omega) (z+m) (by omega) (8-(z+m)) (z+m) (n+(z+m)) (by omega) (by omega) (λj h1 _=>by omega);rw[show n+(z+m)+(8-(z+m))=n+8 by omega] at P;have Q:(W.take (z+m)).drop (z+m)=[]:=j7 (by rw[w6];omega);rw[Q,Ic,y5] at P;grind
 ·rw[ac N];have u:=NZ (R:=R) (k0:=λd c=>k0 d c) W e J (-1) 1 8 (by omega) [] (.inl rfl) (by simp) 0 (by omega) 8 0 (LF-8) (by omega) (by omega) (λj _ _=>by omega);rw[show LF-8+8=LF by omega] at u;simp only[aa2,p6,Ic,v8] at u;grind
end
section
open Go
def V8(x y:By)(r:List By)(p:By):aa0 (x::y::r) p=x++(p++aa0 (y::r) p):=by simp[aa0,List.intercalate]
def Rw(c:UInt8):∀l:List By,l≠[]->(∀x∈l,c∉x)->pcs c (aa0 l [c])=l
 | [],h,_=>absurd rfl h
 | [x],_,h=>by rw[ab5,Mn (h x (by simp))]
 | x::y::r,_,h=>by
  rw[V8,List.singleton_append,HH (h x (by simp)),Rw c (y::r) (by simp) (λz a=>h z (by simp[a]))]
def Ar1(c:UInt8):∀(n:Nat) (s:By),s.length<=n->aa0 (pcs c s) [c]=s
 | n,s,a=>by
  rcases Aj c s with h|⟨p,r,rfl,h⟩
  ·rw[Mn h,ab5]
  ·rw[HH h];cases n with
   | zero=>simp at a
   | succ n=>
    have d:=Ar1 c n r (by simp at a;omega);cases b:pcs c r with
    | nil=>exact absurd b (Ad3 c r)
    | cons y q=>
     rw[V8,<-b,d];rfl
def DL(c:UInt8)(s:By):aa0 (pcs c s) [c]=s:=Ar1 c _ s (af1 _)
def MT{c b:UInt8}:∀l:List By,b∈aa0 l [c]->b=c\/∃x∈l,b∈x
 | [],h=>by simp[ai9] at h
 | [x],h=>by rw[ab5] at h;exact .inr ⟨x,by simp,h⟩
 | x::y::r,h=>by
  rw[V8] at h;simp only[ae2,ab3] at h;rcases h with h|h|h
  ·grind
  ·grind
  ·rcases MT (y::r) h with h|⟨z,a,h⟩
   all_goals grind
def Dh9{c b:UInt8}{s:By}(h:b∈s):b=c\/∃x∈pcs c s,b∈x:=by rw[<-DL c s] at h;exact MT _ h
def By9(b:UInt8):Y6 b=46↔b=46:=by
 rcases M0 b with⟨h,e⟩|⟨h,e⟩|⟨h,c,e⟩
 ·rw[e]
 ·rw[e]
 ·constructor
  ·intro a;rw[a] at e;simp at e;omega
  ·intro a;subst a;simp at h
def Ca6(a b:By):C5 (a++b)=C5 a++C5 b:=ah1
def Aq(s:By):(C5 s).length=s.length:=ac4 _
def Ll:∀(s a:By),L7 46 (C5 a) (C5 s)=(L7 46 a s).map C5
 | [],a=>rfl
 | b::r,a=>by
  show(if Y6 b=46 then _ else _)=_;simp only[L7];by_cases h:b=46
  ·rw[ac ((By9 b).2 h),ac h,ab0];have:=Ll r [];rw[<-this];rfl
  ·rw[ae (λe=>h ((By9 b).1 e)),ae h,<-Ll r (a++[b]),Ca6];rfl
def DR(s:By):pcs 46 (C5 s)=(pcs 46 s).map C5:=Ll s []
def Dc2(b:UInt8):dig (Y6 b)=dig b:=by
 rcases M0 b with⟨h,e⟩|⟨h,e⟩|⟨h,a,e⟩
 ·rw[e]
 ·rw[e]
 ·unfold dig;grind
def CV(base:Nat):∀(s:By) (n:Nat),F9 base n (C5 s)=F9 base n s
 | [],n=>rfl
 | b::r,n=>by
  show(if dig (Y6 b)<base then _ else _)=_;simp only[F9,Dc2];split
  ·exact CV base r _
  ·rfl
def Dh0(b:UInt8):Y6 b=48↔b=48:=by
 rcases M0 b with⟨h,e⟩|⟨h,e⟩|⟨h,c,e⟩
 ·rw[e]
 ·rw[e]
 ·constructor
  ·intro a;rw[a] at e;simp at e;omega
  ·intro a;subst a;simp at h
def Dy7(b:UInt8):(Y6 b=120\/Y6 b=88)↔(b=120\/b=88):=by
 rcases M0 b with⟨h,e⟩|⟨h,e⟩|⟨h,c,e⟩
 ·rw[e]
 ·rw[e]
 ·constructor
  ·rintro(a|a)
   ·rw[a] at e
    right
    apply ae4.1;grind
   simp_all
  ·rintro(a|a)
   ·simp_all
   ·subst a;left;apply ae4.1;rw[e];rfl
def En(s:By)(i:Nat):(C5 s).getD i 0=Y6 (s.getD i 0):=by unfold C5;simp only[k9,List.getElem?_map];cases s[i]?<;>rfl
def B89(s:By):Ab (C5 s)=Ab s:=by rw[Bool.eq_iff_iff,Ib,Ib,En,En,Dh0,Dy7]
def SQ{s:By}:C5 s=[]↔s=[]:=by unfold C5;simp
def Yl(l:List By):(l.map C5).getLastD []=C5 (l.getLastD []):=by rw[aa8,aa8,List.getLast?_map];cases l.getLast?<;>rfl
def Be2(s:By):D8 (C5 s)=(D8 s).map C5:=by unfold D8;rw[DR,Yl];simp only[ac4,SQ];grind
def B97(s:By):Du (C5 s)=C5 (Du s):=by unfold Du;rw[Be2,Yl]
def MP(s:By)(i:Nat):(C5 s).drop i=C5 (s.drop i):=by unfold C5;rw[af6]
def PE(s:By):(C5 s).isEmpty=s.isEmpty:=by cases s<;>rfl
def Ac1(s:By):F8 (C5 s)=F8 s:=by unfold F8;rw[B97,B89,MP,CV,CV,PE]
def FQ:∀(n:Nat) (s:By),s.length<=n->(∀b∈s,b.toNat<128)->W9 n s=some (s.map (·.toNat))
 | 0,s,h,_=>by
  have:s=[]:=ad5.1 (by omega);subst this;rfl
 | n+1,[],_,_=>by simp[W9]
 | n+1,b::r,h,hs=>by
  simp only[W9];rw[ae (by simp),Lib.decodeL_ascii b r (hs b (by simp))];have d:=hs b (by simp);rw[ae (by simp;omega)];simp only[List.drop_succ_cons,p6];rw[FQ n r (by simp at h;omega) (λc a=>hs c (by simp[a]))];rfl
def Bf8(s:By)(h:∀b∈s,b.toNat<128):Dq s=some (s.map (·.toNat)):=FQ _ s (af1 _) h
def Rm(b:UInt8):U2 b=true↔(97<=b.toNat/\b.toNat<=122)\/(48<=b.toNat/\b.toNat<=57)\/b=45\/b=95:=by simp[U2,or_assoc]
def Wi{b:UInt8}(h:U2 b=true):b.toNat<128/\(b.toNat<65\/90<b.toNat)/\b≠46/\b≠37/\b≠91:=by
 rw[Rm] at h;have key:∀c:UInt8,b=c->b.toNat=c.toNat:=λc e=>by rw[e]
 rcases h with h|h|h|h
 ·refine⟨by omega,by omega,?_,?_,?_⟩<;>intro e<;>have:=key _ e<;>simp at this<;>omega
 ·refine⟨by omega,by omega,?_,?_,?_⟩<;>intro e<;>have:=key _ e<;>simp at this<;>omega
 all_goals simp_all
structure VL (s:By):Prop where
 ne:s≠[]
 le:s.length<=63
 byt:∀b∈s,U2 b=true
def Ex{s:By}(h:L4 s=true):VL s:=by unfold L4 at h;simp only[p9,ag1,aa7] at h;obtain⟨⟨⟨⟨⟨a,c⟩,g⟩,i⟩,d⟩,j⟩:=h;refine⟨by intro e;subst e;simp at a,ab8 c,λb f=>d b f⟩
def Dy8{s:By}(h:∀b∈s,b.toNat<65\/90<b.toNat):C5 s=s:=by
 unfold C5
 conv=>rhs;rw[<-ag7 s]
 apply ac7;intro b d;rcases M0 b with⟨_,e⟩|⟨_,e⟩|⟨a,c,e⟩
 all_goals grind
def Ca3{s:By}(h:∀b∈C5 s,b.toNat<128):∀b∈s,b.toNat<128:=by
 intro b a;have:=h (Y6 b) (List.mem_map_of_mem a);rcases M0 b with⟨_,e⟩|⟨_,e⟩|⟨c,d,e⟩
 all_goals grind
def Ci4{s:By}(h:L4 (C5 s)=true):J9 s=(C5 s,0):=by have v:=Ex h;have c:=Ca3 (λb d=>(Wi (v.byt b d)).1);have e:=Aq s;have a:=v.le;unfold J9;rw[Bf8 s c];grind
def KE:∀l:List By,(l.map C5).all L4=true->G5 l=(l.map C5,0)
 | [],_=>rfl
 | x::r,h=>by
  simp only[ab0,af5,p9] at h;unfold G5;rw[Ci4 h.1,KE r h.2];rfl
structure VN (s:By):Prop where
 le:s.length<=253
 num:F8 s=false
 all:∀x∈pcs 46 s,L4 x=true
def Pm{s:By}:Bk s=true↔VN s:=by unfold Bk;simp only[p9,ag1,aa7];exact⟨λh=>⟨ab8 h.1.1,h.1.2,h.2⟩,λh=>⟨⟨ab7 h.le,h.num⟩,h.all⟩⟩
def VN.byt{s:By}(h:VN s):∀b∈s,b=46\/U2 b=true:=by
 intro b hb;rcases Dh9 (c:=46) hb with h1|⟨x,hx,h1⟩
 ·grind
 ·exact .inr ((Ex (h.all x hx)).byt b h1)
def VN.byt'{s:By}(h:VN s){b:UInt8}(hb:b∈s):b.toNat<128/\(b.toNat<65\/90<b.toNat)/\b≠37/\b≠91:=by
 rcases h.byt b hb with h1|h1
 ·simp_all
 ·have:=Wi h1;grind
def DK(c:UInt8):∀(l:List By),(∀x∈l,x≠[]/\c∉x)->(aa0 l [c]).getLast?≠some c
 | [],_=>by simp[ai9]
 | [x],h=>by
  rw[ab5];intro e;have:=List.mem_of_getLast? e;grind
 | x::y::r,h=>by
  have g:=DK c (y::r) (λz b=>h z (by simp[b]));have a:aa0 (y::r) [c]≠[]:=by
   intro e;have:pcs c (aa0 (y::r) [c])=y::r:=Rw c _ (by simp) (λz b=>(h z (by simp[b])).2);rw[e] at this;have f:pcs c []=[[]]:=rfl;grind
  rw[V8,af0,af0];cases d:(aa0 (y::r) [c]).getLast? with
  | none=>rw[List.getLast?_eq_none_iff] at d;exact absurd d a
  | some z=>
   grind
def VN.last{s:By}(h:VN s):s.getLast?≠some 46:=by have:=DK 46 (pcs 46 s) (λx hx=>⟨(Ex (h.all x hx)).ne,(Av hx).1⟩);rwa [DL] at this
def VN.head{s:By}(h:VN s):s.head?≠some 91:=by intro e;exact(h.byt' (ag3 e)).2.2.2 rfl
def VN.low{s:By}(h:VN s):C5 s=s:=Dy8 λb hb=>(h.byt' hb).2.1
def Ad4:∀s:By,(∀b∈s,b≠37)->R9 s=some s
 | [],_=>by unfold R9;rfl
 | b::r,h=>by
  unfold R9;rw[ae (h b (by simp)),Ad4 r (λc a=>h c (by simp[a]))];rfl
def PL{a e t name:By}(j:a.length<=1024)(f:a.head?≠some 91)(g:R9 a=some e)(h:I3 e=t)(i:C5 t=name)(c:VN name):D7 a=(⟨1,name,0,z8⟩,0):=by
 subst i;have b:F8 t=false:=by rw[<-Ac1];exact c.num
 have d:((pcs 46 t).map C5).all L4=true:=by
  rw[<-DR,aa7];exact c.all
 unfold D7;rw[I9,ae f,g];simp only[h,b];rw[KE _ d];simp only[p4,if_false,if_true];rw[<-DR,DL,ae (by have:=c.le;omega),c.num];simp
def Be1{s:By}(h:VN s):D7 s=(⟨1,s,0,z8⟩,0):=
 PL (by have:=h.le;omega) h.head (Ad4 s λb a=>(h.byt' a).2.2.1) (by unfold I3;rw[ae h.last]) h.low h
def Du5{a b:By}:Nw a b=true↔VN a/\VN b/\(a=b\/∃p,b=p++46::a):=by
 unfold Nw;simp only[p9,ac3,Pm,and_assoc,beq_iff_eq,List.isSuffixOf_iff_suffix];constructor
 ·rintro⟨d,e,c|⟨p,c⟩⟩;all_goals grind
 grind
def At4{s:By}(h:∀x∈pcs 46 s,x≠[]):D8 s=pcs 46 s:=by unfold D8;grind
def D68(n:Nat):UInt8:=if n<10 then s9 (48+n) else s9 (55+n)
def D64(n:Nat)(h:n<16):dig (D68 n)=n:=by
 unfold D68 dig;split
 ·have:(s9 (48+n)).toNat=48+n:=by simp;omega
  grind
 ·have:(s9 (55+n)).toNat=55+n:=by simp;omega
  grind
def Ao3(n:Nat)(h:n<16):dig (Qd n)=n:=by
 unfold Qd dig;split
 ·have:(s9 (48+n)).toNat=48+n:=by simp;omega
  grind
 ·have:(s9 (87+n)).toNat=87+n:=by simp;omega
  grind
def RH:∀u:Nat,∀b∈j6 u,48<=b.toNat/\b.toNat<=57:=by
 intro u
 induction u using y7 with
 | _ u c=>
  intro b a;by_cases h:u<10
  ·rw[x5 h] at a;simp only[ab3] at a;subst a;have:(s9 (48+u)).toNat=48+u:=by simp;omega
   omega
  ·rw[Bm u h] at a;rcases ae2.1 a with a|a
   ·grind
   ·simp only[ab3] at a;subst a;have:(s9 (48+u % 10)).toNat=48+u % 10:=by simp;omega
    omega
def Cr3{u:Nat}{c:UInt8}(h:c.toNat<48\/57<c.toNat):c∉j6 u:=λa=>by
 have:=RH u c a;omega
def An9:∀u:Nat,(j6 u).getD 0 0=48->u=0:=by
 intro u
 induction u using y7 with
 | _ u d=>
  intro a;by_cases h:u<10
  ·rw[x5 h] at a;simp only[w9] at a;have b:(s9 (48+u)).toNat=48+u:=by simp;omega
   simp_all
  ·rw[Bm u h] at a;have c:=z7.2 (Db (u / 10));grind
def RJ(u:Nat):Ab (j6 u)=false:=by
 cases h:Ab (j6 u) with
 | false=>rfl
 | true=>
  have b:=(Ib _).1 h;have a:=Me h;rw[An9 u b.1,x5 (by omega)] at a;simp at a
def Zf(u:Nat)(h:u<=X3):Ar (j6 u)=some u:=by unfold Ar;rw[ae (Db u),RJ];simp only[p4,if_false];rw[ae,CT u h];rintro⟨a,b⟩;rw[An9 u b,x5 (by omega)] at a;simp at a
def v4P(v:Nat):List By:=[j6 (v / 16777216),j6 (v / 65536 % 256),j6 (v / 256 % 256),j6 (v % 256)]
def Wv(v:Nat):V3 v=aa0 (v4P v) [46]:=by unfold v4P;rw[V8,V8,V8,ab5];rfl
def HX{v:Nat}{x:By}(h:x∈v4P v):∃u,x=j6 u:=by simp only[v4P,w8,List.not_mem_nil,or_false] at h;grind
def Cx3(v:Nat):pcs 46 (V3 v)=v4P v:=by rw[Wv];refine Rw 46 _ (by simp[v4P]) (λx a=>?_);obtain⟨u,rfl⟩:=HX a;exact Cr3 (by decide)
def At5(v:Nat):D8 (V3 v)=v4P v:=by rw[At4,Cx3];intro x a;rw[Cx3] at a;obtain⟨u,rfl⟩:=HX a;exact Db u
def As4(v:Nat):F8 (V3 v)=true:=by
 have e:Du (V3 v)=j6 (v % 256):=by
  unfold Du;rw[At5];rfl
 unfold F8;rw[e,RJ,CT _ (by unfold X3;omega)];have:=Db (v % 256);grind
def Dz4(v:Nat)(h:v<4294967296):pnB (V3 v)=some v:=by unfold pnB;rw[At5];simp only[v4P,x8,ab1,Wl];simp only[Zf _ (show v / 16777216<=X3 by unfold X3;omega),Zf _ (show v / 65536 % 256<=X3 by unfold X3;omega),Zf _ (show v / 256 % 256<=X3 by unfold X3;omega),Zf _ (show v % 256<=X3 by unfold X3;omega)];grind
def C46{v:Nat}{b:UInt8}(h:b∈V3 v):b=46\/(48<=b.toNat/\b.toNat<=57):=by
 rw[Wv] at h;rcases MT _ h with h|⟨x,a,h⟩
 ·grind
 ·obtain⟨u,rfl⟩:=HX a;exact .inr (RH u b h)
def C47(v:Nat)(h:v<4294967296):(V3 v).length<=43:=by unfold V3;have a:=G8 (v / 16777216) (by omega);have b:=G8 (v / 65536 % 256) (by omega);have c:=G8 (v / 256 % 256) (by omega);have d:=G8 (v % 256) (by omega);grind
def Cx0(v:Nat)(h:v<4294967296):D7 (V3 v)=(⟨2,[],v,z8⟩,0):=by
 have a:∀b∈V3 v,b≠37/\b≠91:=by
  intro b a;rcases C46 a with rfl|⟨c,d⟩
  ·decide
  ·constructor<;>intro e<;>subst e<;>simp at c d
 have i:=C47 v h;unfold D7;rw[I9,ae (λe=>(a _ (ag3 e)).2 rfl),Ad4 _ (λb h=>(a b h).1)];have f:I3 (V3 v)=V3 v:=by
  unfold I3;rw[ae];rw[Wv];refine DK 46 _ (λx g=>?_);obtain⟨u,rfl⟩:=HX g;exact⟨Db u,Cr3 (by decide)⟩
 simp only[f,As4,Dz4 v h,if_true]
def At7(free:Nat):∀(l:List By) (v x:Nat),Wl free v l=some x->x<(v+1)*256 ^ (l.length-1)*2 ^ free
 | [],v,x,h=>by simp[Wl] at h
 | [p],v,x,h=>by
  simp only[Wl] at h;split at h
  ·cases h
  ·split at h
   ·rename_i n c b;simp only[o7] at h;subst h;simp only[x8,ab1,aj4,Nat.pow_zero,Nat.mul_one,Nat.add_mul];omega
   ·cases h
 | p::q::r,v,x,h=>by
  rw[Wl] at h;split at h
  ·cases h
  ·simp only at h;split at h
   ·rename_i n c a;have d:=At7 free (q::r) _ x h;refine Nat.lt_of_lt_of_le d (ac2 _ ?_);simp only[x8,af8];rw[x3,aj3 (256 ^ r.length) 256,<-Nat.mul_assoc];exact ac2 _ (by omega)
   ·cases h
def Dj4{s:By}{v:Nat}(h:pnB s=some v):v<4294967296:=by
 unfold pnB at h;split at h
 ·cases h
 ·rename_i b;have a:=(Ce s).1;have:=At7 _ _ _ _ h;generalize (D8 s).length=n at *;have:n=1\/n=2\/n=3\/n=4:=by omega
  grind
def RW:∀(a b:By) (v:Nat),Bb v (a++b)=(Bb v a).bind λw=>Bb w b
 | [],b,v=>rfl
 | c::r,b,v=>by
  simp only[aa1,Bb];split
  ·exact RW r b _
  ·rfl
def B71:∀x:Nat,Bb 0 (Q3 x)=some x:=by
 intro x
 induction x using y7 with
 | _ x a=>
  by_cases h:x<16
  ·rw[Bo h];simp only[Bb,Ao3 x h];grind
  ·rw[Ap h,RW,a (x / 16) (by omega)];simp only[ag6,Bb,Ao3 (x % 16) (by omega)];grind
def Dd7(x:Nat)(h:x<65536):grp (Q3 x)=some x:=by have:=Ys x h;unfold grp;rw[ae,B71];grind
def GZ:∀x:Nat,(58:UInt8)∉Q3 x:=by
 intro x
 induction x using y7 with
 | _ x a=>
  by_cases h:x<16
  ·rw[Bo h];simpa using ad4 (GY x h)
  ·rw[Ap h];simp only[ae2,ab3,not_or];exact⟨a _ (by omega),ad4 (GY _ (by omega))⟩
def Bx6(x:Nat):Q3 x≠[]:=by
 by_cases h:x<16
 ·rw[Bo h];simp
 ·rw[Ap h];simp
def Ap9(last:Bool):∀l:List Nat,(∀x∈l,x<65536)->Dp last (l.map Q3)=some l
 | [],_=>rfl
 | x::r,h=>by
  simp only[ab0,Dp];rw[Dd7 x (h x (by simp)),Ap9 last r (λy a=>h y (by simp[a]))];rfl
def TJ(l:List Nat)(h:l≠[]):pcs 58 (L5 l)=l.map Q3:=by unfold L5;refine Rw 58 _ (by simpa using h) (λx a=>?_);obtain⟨y,_,rfl⟩:=ag2.1 a;exact GZ y
def Cu5(l:List Nat)(h:l≠[]):L5 l≠[]:=by
 intro e;have:=TJ l h;rw[e] at this;have a:pcs 58 []=[[]]:=rfl;rw[a] at this;cases l with
 | nil=>exact h rfl
 | cons x r=>
  simp only[ab0,List.cons.injEq] at this;exact Bx6 x this.1.symm
def Rh(l:List Nat)(last:Bool)(h:∀x∈l,x<65536):P8 (L5 l) last=some l:=by
 unfold P8;by_cases a:l=[]
 ·subst a;rfl
 ·rw[ae (Cu5 l a),TJ l a,Ap9 last l h]
def sh(n:Nat)(i:Int):Int:=if i=-1 then -1 else i+n
def MB(b:UInt8)(l:By):o8 (b::l) [58,58]=if b=58/\l.head? = some 58 then 0 else sh 1 (o8 l [58,58]):=by
 have a:([58,58]:By).isPrefixOf (b::l)=decide (b=58/\l.head? = some 58):=by
  cases l with
  | nil=>simp[p5]
  | cons c r=>
   grind
 show(if _ then _ else _)=_;rw[a];by_cases h:b=58/\l.head? = some 58
 ·grind
 ·rw[ae (by simpa using h),ae h];unfold sh;grind
def C15(n m:Nat)(i:Int)(h:-1<=i):sh n (sh m i)=sh (n+m) i:=by unfold sh;omega
def Ba5(s:By):-1<=o8 s [58,58]:=by rcases ae8 s [58,58] with h|⟨i,h,_⟩<;>omega
def ZX:∀(p r:By),(58:UInt8)∉p->o8 (p++r) [58,58]=sh p.length (o8 r [58,58])
 | [],r,_=>by unfold sh;simp<;>(intro h;rw[h])
 | b::p,r,h=>by
  simp only[w8,not_or] at h;rw[aa1,MB,ae (λe=>h.1 e.1.symm),ZX p r h.2,C15 _ _ _ (Ba5 r),aj2];rfl
def FH(x y:Nat)(t:List Nat):L5 (x::y::t)=Q3 x++58::L5 (y::t):=by unfold L5;rw[ab0,ab0,V8];rfl
def Ba7(y:Nat)(t:List Nat)(r:By):(L5 (y::t)++r).head?≠some 58:=by
 have e:=Bx6 y;have c:=GZ y;cases d:Q3 y with
 | nil=>exact absurd d e
 | cons a b=>
  rw[d] at c;simp only[w8,not_or] at c;cases t with
  | nil=>rw[Mg,d];simpa using ad4 c.1
  | cons z t=>rw[FH,d];simpa using ad4 c.1
def DG:∀(l:List Nat) (r:By),l≠[]->o8 (L5 l++r) [58,58]=sh (L5 l).length (o8 r [58,58])
 | [],r,h=>absurd rfl h
 | [x],r,_=>by rw[Mg];exact ZX _ _ (GZ x)
 | x::y::t,r,_=>by
  rw[FH,x6,aa1,ZX _ _ (GZ x),MB,ae (λe=>Ba7 y t r e.2),DG (y::t) r (by simp),C15 _ _ _ (Ba5 r),C15 _ _ _ (Ba5 r)];grind
def Df5:o8 [] [58,58]=-1:=rfl
def B57(l:List Nat):s8 (L5 l) [58,58]=(L5 l,[],false):=by
 have h:o8 (L5 l) [58,58]=-1:=by
  by_cases a:l=[]
  ·subst a;rfl
  ·have:=DG l [] a;rw[y5,Df5] at this;rw[this];rfl
 unfold s8;rw[h];rfl
def Db7(l:List Nat)(r:By):s8 (L5 l++58::58::r) [58,58]=(L5 l,r,true):=by
 have a:o8 (58::58::r) [58,58]=0:=by rw[MB,ac ⟨rfl,rfl⟩]
 have h:o8 (L5 l++58::58::r) [58,58]=((L5 l).length:Int):=by
  by_cases b:l=[]
  ·subst b;rw[Ic,v8,a];rfl
  ·rw[DG l _ b,a];unfold sh;simp
 unfold s8;simp_all
def TZ:∀l:List Nat,l.take (Ox l)=j4 (Ox l) 0
 | []=>rfl
 | x::r=>by
  rw[NX];split
  ·rename_i h;subst h;rw[List.take_succ_cons,TZ r];rfl
  ·rfl
def Bt1(full:List Nat):∀(l:List Nat) (i z m:Nat),full.drop i=l->i<=full.length->(full.drop z).take m=j4 m 0->z+m<=full.length->
  (full.drop (zGo l i z m).1).take (zGo l i z m).2=j4 (zGo l i z m).2 0/\(zGo l i z m).1+(zGo l i z m).2<=full.length
 | [],i,z,m,_,_,b,c=>⟨b,c⟩
 | x::r,i,z,m,d,f,b,c=>by
  have e:full.length-i=r.length+1:=by
   have:=congrArg j5 d;grind
  have a:full.drop (i+1)=r:=by
   rw[<-List.drop_drop,d];rfl
  unfold zGo;split
  ·refine Bt1 full r (i+1) i _ a (by omega) ?_ ?_
   ·rw[d,TZ]
   ·have:=HQ (x::r);grind
  ·exact Bt1 full r (i+1) z m a (by omega) b c
def Dp3(a:List Nat)(c:a.length=8)(h:∀x∈a,x<65536):v6B (Cv a)=some a:=by
 obtain⟨f,g⟩:=Bt1 a a 0 0 0 rfl (by omega) (by simp) (by omega);unfold Cv;generalize (zGo a 0 0 0).1=z at *;generalize (zGo a 0 0 0).2=m at *;by_cases d:m<2
 ·rw[ac d];unfold v6B;rw[B57];simp only[j1];rw[Rh a true h];show(if _ then _ else _)=_;simp[c]
 ·rw[ae d];unfold v6B;rw[Db7];simp only[j0];rw[Rh _ false (λx b=>h x (y9 b)),Rh _ true (λx b=>h x (x4 b))];simp only[if_true,w6,x9,c];rw[U9]
  congr 1
  have e:8-min z 8-(8-(z+m))=m:=by omega
  rw[e,<-f,x6]
  conv=>rhs;rw[<-ae6 z a]
  congr 1
  conv=>rhs;rw[<-ae6 m (a.drop z)]
  simp_all
def Br5(a:List Nat)(e:a.length=8)(h:∀x∈a,x<65536):(Cv a).length<=90:=by
 unfold Cv;split
 ·have:=Cp a h;omega
 ·have c:=Cp (a.take (zGo a 0 0 0).1) (λx b=>h x (y9 b));have d:=Cp (a.drop ((zGo a 0 0 0).1+(zGo a 0 0 0).2)) (λx b=>h x (x4 b));grind
def Cx1(a:List Nat)(d:a.length=8)(h:∀x∈a,x<65536):D7 (91::(Cv a++[93]))=(⟨3,[],0,a⟩,0):=by
 have e:=Br5 a d h;have b:(91::(Cv a++[93])).getLast? = some (93:UInt8):=by grind
 have c:((91::(Cv a++[93])).take ((91::(Cv a++[93])).length-1)).drop 1=Cv a:=by
  simp
 unfold D7;rw[ae (by simp;omega),ac (show(91::(Cv a++[93])).head? = some (91:UInt8) from rfl),ac ⟨b,by simp⟩,c,Dp3 a d h]
def Ap8{s:By}{last:Bool}{r:List Nat}(h:P8 s last=some r):∀x∈r,x<65536:=by
 unfold P8 at h;split at h
 ·grind
 ·exact Bx3 _ _ _ h
def D11{s:By}{a:List Nat}(h:v6B s=some a):a.length=8/\∀x∈a,x<65536:=by
 unfold v6B at h;split at h
 ·rename_i x y b c;have d:=Ap8 b;have e:=Ap8 c;grind
 ·cases h
def C31{s:By}(h:(J9 s).2=0):L4 (J9 s).1=true:=by unfold J9 at h ⊢;grind
def Lr:∀l:List By,(G5 l).2=0->(∀x∈(G5 l).1,L4 x=true)/\(G5 l).1.length=l.length
 | [],_=>⟨by simp[G5],rfl⟩
 | x::r,h=>by
  unfold G5 at h ⊢;by_cases a:(J9 x).2=0
  ·rw[ac a] at h ⊢;obtain⟨d,c⟩:=Lr r h;refine⟨λy b=>?_,by simp[c]⟩;rcases w8.1 b with rfl|b
   ·exact C31 a
   grind
  grind
structure Ga (h:C1):Prop where
 v4:h.v4<4294967296
 v6:h.v6.length=8/\∀x∈h.v6,x<65536
 kd:h.kind<4
def B37:z8.length=8/\∀x∈z8,x<65536:=by decide
def Cc0(s:By):Ga (D7 s).1/\((D7 s).2=0->N7 (D7 s).1=true):=by
 have no:Ga M9:=⟨by decide,B37,by decide⟩
 unfold D7;split
 ·grind
 split
 ·split
  ·cases d:v6B ((s.take (s.length-1)).drop 1) with
   | none=>exact⟨no,by simp⟩
   | some a=>exact⟨⟨show 0<4294967296 by decide,D11 d,show 3<4 by decide⟩,λ_=>by simp[N7]⟩
  grind
 cases l:R9 s with
 | none=>exact⟨no,by simp⟩
 | some t=>
  simp only;split
  ·cases d:pnB (I3 t) with
   | none=>exact⟨no,by simp⟩
   | some v=>exact⟨⟨Dj4 d,B37,show 2<4 by decide⟩,λ_=>by simp[N7]⟩
  split
  ·rename_i g;split
   ·grind
   split
   ·grind
   ·rename_i k h;refine⟨⟨show 0<4294967296 by decide,B37,show 1<4 by decide⟩,λ_=>?_⟩;obtain⟨f,i⟩:=Lr _ g;have b:(G5 (pcs 46 (I3 t))).1≠[]:=by
     intro e;rw[e] at i;have:=Ad3 46 (I3 t);grind
    have c:=Rw 46 (G5 (pcs 46 (I3 t))).1 b (λx j e=>(Wi ((Ex (f x j)).byt 46 e)).2.2.1 rfl);unfold N7;simp only[if_true,beq_self_eq_true,ab9];rw[Pm];exact⟨by omega,by simpa using h,by rw[c];exact f⟩
  grind
def Ba4{h:C1}(ok:Ga h)(a:N7 h=true):D7 (Y4 h)=(h,0):=by
 obtain⟨b,g,v4,v6⟩:=h;unfold Y4;rw[ac a];unfold N7 at a;simp only at a ⊢;by_cases c:b=1
 ·subst c;simp only[if_true,p9,beq_iff_eq] at a ⊢;obtain⟨⟨f,rfl⟩,rfl⟩:=a;exact Be1 (Pm.1 f)
 rw[ae c] at a ⊢;by_cases d:b=2
 ·subst d;simp only[if_true,p9,beq_iff_eq,ag5] at a ⊢;obtain⟨rfl,rfl⟩:=a;exact Cx0 v4 ok.v4
 rw[ae d] at a ⊢;by_cases e:b=3
 ·subst e;simp only[if_true,p9,beq_iff_eq,ag5] at a;obtain⟨rfl,rfl⟩:=a;exact Cx1 v6 ok.v6.1 ok.v6.2
 grind
def LT{h:C1}(a:N7 h=false):Y4 h=[]:=by unfold Y4;rw[a];rfl
structure Y0 where
 sch:By
 user:By
 host:C1
 port:Int
 rest:By
def De:Y0:=⟨[],[],M9,0,[]⟩
def QR:By:=[104,116,116,112]
def Qq:By:=[104,116,116,112,115]
def bWs:By:=[119,115]
def Al2:By:=[119,115,115]
def Jb(s:By):Int:=if s==QR||s==bWs then 80 else if s==Qq||s==Al2 then 443 else -1
def G3(s:By):Bool:=s==QR||s==bWs||(s==Qq||s==Al2)
def D71(s:By):Bool:=s==QR||s==bWs
def ctl(b:UInt8):Bool:=aa4 b.toNat 32||b==127
def Y5(b:UInt8):Bool:=(aa4 97 b.toNat&&aa4 b.toNat 122)||(aa4 65 b.toNat&&aa4 b.toNat 90)
def Bw(b:UInt8):Bool:=Y5 b||(aa4 48 b.toNat&&aa4 b.toNat 57)||b==43||b==45||b==46
def Fh:By->Bool
 | []=>false
 | b::r=>Y5 b&&r.all Bw
def Ai(b:UInt8):Bool:=b==47||b==63||b==35
def N8(s:By):Nat:=(s.takeWhile λb=>!Ai b).length
def We(c:UInt8):By->Option Nat
 | []=>none
 | b::r=>if b=c then some 0 else (We c r).map (· + 1)
def Zh:Int->By->Option Int
 | n,[]=>if n<65536 then some n else none
 | n,b::r=>if 48<=b.toNat/\b.toNat<=57 then Zh (min (10*max n 0+((b.toNat-48:Nat):Int)) 65536) r else none
def Rq(a:By):Option (By × By):=
 if a.head? = some 91 then (match We 93 a with
  | some k=>some (a.take (k+1),a.drop (k+1))
  | none=>none)
 else match We 58 a with
  | some k=>some (a.take k,a.drop k)
  | none=>some (a,[])
def R8(c user b:By)(a:By):Y0 × Nat:=
 match Rq a with
 | none=>(De,4)
 | some (name,tail)=>
  if tail≠[]/\tail.head?≠some 58 then (De,4)
  else if (D7 name).2≠0 then (De,(D7 name).2)
  else match Zh (-1) (tail.drop 1) with
   | none=>(De,16)
   | some p=>(⟨c,user,(D7 name).1,if p=Jb c then -1 else p,b⟩,0)
def J2(c b a:By):Y0 × Nat:=
 if 0<=N1 64 a then R8 c (a.take (N1 64 a).toNat) b (a.drop ((N1 64 a).toNat+1)) else R8 c [] b a
def Z2(r:By):By:=if r.head? = some 47 then r else 47::r
def H3(s:By):Y0 × Nat:=
 if s.any ctl then (De,4)
 else if !(s8 s [58]).2.2||!Fh (s8 s [58]).1 then (De,15)
 else if !G3 (C5 (s8 s [58]).1) then (⟨C5 (s8 s [58]).1,[],M9,-1,(s8 s [58]).2.1⟩,0)
 else if !([47,47]:By).isPrefixOf (s8 s [58]).2.1 then (De,4)
 else J2 (C5 (s8 s [58]).1) (Z2 (((s8 s [58]).2.1.drop 2).drop (N8 ((s8 s [58]).2.1.drop 2)))) (((s8 s [58]).2.1.drop 2).take (N8 ((s8 s [58]).2.1.drop 2)))
def C7(s:By):Y0 × Nat:=if 2048<s.length then (De,3) else H3 s
def Pv(p:Int):By:=if p<0 then 45::j6 (-p).toNat else j6 p.toNat
def QQ(u:Y0):By:=(if u.user=[] then [] else u.user++[64])++(Y4 u.host++(if u.port=-1 then [] else 58::Pv u.port))
def Gn(u:Y0):By:=if G3 u.sch then u.sch++58::47::47::(QQ u++u.rest) else u.sch++58::u.rest
def Cv7(b:Int)(c:By)(v4:Int)(a:List Nat):C1:=⟨if ltN b 4 then b.toNat else 4,c,v4.toNat,a⟩
def mkU(f g:By)(b:Int)(c:By)(v4:Int)(a:List Nat)(d:Int)(e:By):Y0:=⟨f,g,Cv7 b c v4 a,d,e⟩
def smU(c d a b:By):Bool:=aa4 c.length 100000000&&aa4 d.length 100000000&&aa4 a.length 100000000&&aa4 b.length 100000000
def eqH(a b:C1):Bool:=a.kind==b.kind&&a.name==b.name&&a.v4==b.v4&&a.v6==b.v6
def eqU(a b:Y0):Bool:=a.sch==b.sch&&a.user==b.user&&eqH a.host b.host&&a.port==b.port&&a.rest==b.rest
def Wy(u:Y0):Bool:=(H3 (Gn u)).2==0&&eqU (H3 (Gn u)).1 u
def prt(b:By)(a:Int):Int:=if a==-1 then Jb b else a
def GL:By->Int
 | s=>let rec go:Int->By->Int
   | n,[]=>n
   | n,b::r=>if 48<=b.toNat/\b.toNat<=57 then go (min (10*max n 0+((b.toNat-48:Nat):Int)) 65536) r else 0
  go (-1) s
def Dc9(s t:By):Nat:=(s.takeWhile λb=>!t.contains b).length
def isl:By:=[47,63,35]
def DJ(p:By):Bool:=p==isl
def OP(r:Int):Bool:=ltN r 55296||(ltI 57343 r&&ltN r 1114112)
def irn(r:Int):Int:=if r=47 then 0 else if r=63 then 1 else if r=35 then 2 else -1
abbrev uS(p:Y0 × Nat):By:=p.1.sch
abbrev uU(p:Y0 × Nat):By:=p.1.user
abbrev uK(p:Y0 × Nat):Int:=p.1.host.kind
abbrev uN(p:Y0 × Nat):By:=p.1.host.name
abbrev uV(p:Y0 × Nat):Int:=p.1.host.v4
abbrev uA(p:Y0 × Nat)(i:Nat):Int:=(p.1.host.v6.getD i 0:Nat)
abbrev uP(p:Y0 × Nat):Int:=p.1.port
abbrev uR(p:Y0 × Nat):By:=p.1.rest
abbrev uE(p:Y0 × Nat):Int:=p.2
def OY(s:By):decide (0<Jb s)=G3 s:=by
 unfold Jb G3;cases (s==QR||s==bWs) with
 | true=>rfl
 | false=>cases (s==Qq||s==Al2)<;>rfl
def C98{s:By}(h:G3 s=true):s=QR\/s=bWs\/s=Qq\/s=Al2:=by simp only[G3,ac3,beq_iff_eq] at h;rcases h with(h|h)|(h|h)<;>simp[h]
def B84{c:UInt8}:∀{s:By},c∉s->We c s=none
 | [],_=>rfl
 | b::r,h=>by
  simp only[w8,not_or] at h;rw[We,ae (ad4 h.1),B84 h.2];rfl
def SG{c:UInt8}:∀{s:By} {k:Nat},We c s=some k->∃p r,s=p++c::r/\c∉p/\p.length=k
 | [],k,h=>by cases h
 | b::s,k,h=>by
  rw[We] at h;split at h
  ·rename_i a;obtain rfl:=ah2 h;exact⟨[],s,by rw[a];rfl,by simp,rfl⟩
  ·rename_i a;cases d:We c s with
   | none=>rw[d] at h;cases h
   | some j=>
    rw[d] at h;obtain rfl:=ah2 h;obtain⟨p,r,rfl,e,rfl⟩:=SG d;exact⟨b::p,r,rfl,by simp only[w8,not_or];exact⟨ad4 a,e⟩,rfl⟩
def Wh{c:UInt8}:∀{s:By},c∉s->N1 c s=-1
 | [],_=>rfl
 | b::r,h=>by
  simp only[w8,not_or] at h;rw[N1,Wh h.2,ac (by decide),ae (ad4 h.1)]
def SM{c:UInt8}:∀(p:By) {r:By},c∉r->N1 c (p++c::r)=(p.length:Int)
 | [],r,h=>by rw[v8,N1,Wh h,ac (by decide),ac rfl];rfl
 | b::p,r,h=>by
  rw[aa1,N1,SM p h,I9,x8];omega
def SN{c:UInt8}:∀{s:By},c∈s->∃p r,s=p++c::r/\c∉r
 | [],h=>by cases h
 | b::s,h=>by
  by_cases a:c∈s
  ·obtain⟨p,r,rfl,d⟩:=SN a;exact⟨b::p,r,rfl,d⟩
  ·simp only[w8,a,or_false] at h;subst h;exact⟨[],s,rfl,a⟩
def Bb2{c:UInt8}{s:By}(h:0<=N1 c s):∃p r,s=p++c::r/\c∉r/\N1 c s=(p.length:Int):=by
 by_cases b:c∈s
 ·obtain⟨p,r,rfl,a⟩:=SN b;exact⟨p,r,rfl,a,SM p a⟩
 ·rw[Wh b] at h;omega
def Bo6(s:By):∀b∈s.take (N8 s),Ai b=false:=by
 intro b a;have h:s.take (N8 s)=s.takeWhile λb=>!Ai b:=by
  unfold N8;exact(List.prefix_iff_eq_take.1 (List.takeWhile_prefix _)).symm
 rw[h] at a;have:∀l:By,b∈l.takeWhile (λb=>!Ai b)->Ai b=false:=by
  intro l
  induction l with
  | nil=>intro h;cases h
  | cons x l d=>
   intro h;rw[List.takeWhile_cons] at h;split at h
   ·rename_i c;rcases w8.1 h with rfl|h
    ·simpa using c
    ·exact d h
   ·cases h
 exact this s a
def Cc{b:UInt8}:Y5 b=true↔(97<=b.toNat/\b.toNat<=122)\/(65<=b.toNat/\b.toNat<=90):=by simp[Y5,ae1]
def Db4{b:UInt8}:ctl b=true↔b.toNat<=32\/b.toNat=127:=by
 unfold ctl;rw[ac3,ae1,beq_iff_eq];have:b=127↔b.toNat=127:=⟨λh=>by rw[h];rfl,λh=>ae4.1 h⟩
 rw[this]
def FY{b:UInt8}:Bw b=true↔(97<=b.toNat/\b.toNat<=122)\/(65<=b.toNat/\b.toNat<=90)\/(48<=b.toNat/\b.toNat<=57)\/b=43\/b=45\/b=46:=by simp only[Bw,ac3,Cc,p9,ae1,beq_iff_eq,or_assoc]
abbrev clU(a b:By)(k:Int)(n:By)(v c d e f g h i j p:Int)(r:By):List PV:=[.s (.str a),.s (.str b),.s (.int .i64 k),.s (.str n),.s (.int .u32 v),.s (.int .u16 c),.s (.int .u16 d),.s (.int .u16 e),.s (.int .u16 f),.s (.int .u16 g),.s (.int .u16 h),.s (.int .u16 i),.s (.int .u16 j),.s (.int .i64 p),.s (.str r)]
abbrev clH(k:Int)(n:By)(v c d e f g h i j:Int):List PV:=[.s (.int .i64 k),.s (.str n),.s (.int .u32 v),.s (.int .u16 c),.s (.int .u16 d),.s (.int .u16 e),.s (.int .u16 f),.s (.int .u16 g),.s (.int .u16 h),.s (.int .u16 i),.s (.int .u16 j)]
abbrev bU(a b:By)(k:Int)(n:By)(v c d e f g h i j p:Int)(r:By):Blk:=.box (clU a b k n v c d e f g h i j p r)
abbrev gU(a b:By)(k:Int)(n:By)(v c d e f g h i j p:Int)(r:By):PV:=.agg (clU a b k n v c d e f g h i j p r)
abbrev bH(k:Int)(n:By)(v c d e f g h i j:Int):Blk:=.box (clH k n v c d e f g h i j)
abbrev gH(k:Int)(n:By)(v c d e f g h i j:Int):PV:=.agg (clH k n v c d e f g h i j)
abbrev bCx(a b c d z t:Bool)(l:LL):Blk:=.box [.s (.bool a),.s (.bool b),.s (.bool c),.s (.bool d),.s (.sl z t 1 l)]
abbrev gCx(a b c d z t:Bool)(l:LL):PV:=.agg [.s (.bool a),.s (.bool b),.s (.bool c),.s (.bool d),.s (.sl z t 1 l)]
abbrev bU0:Blk:=bU [] [] 0 [] 0 0 0 0 0 0 0 0 0 0 []
abbrev bQ(p:Y0 × Nat):Blk:=bU (uS p) (uU p) (uK p) (uN p) (uV p) (uA p 0) (uA p 1) (uA p 2) (uA p 3) (uA p 4) (uA p 5) (uA p 6) (uA p 7) (uP p) (uR p)
abbrev okQ(p:Y0 × Nat):Bool:=ok8 (uA p 0) (uA p 1) (uA p 2) (uA p 3) (uA p 4) (uA p 5) (uA p 6) (uA p 7)
abbrev mkQ(b:By)(p:Y0 × Nat)(a:Int):Y0:=mkU b (uU p) (uK p) (uN p) (uV p) (n8 (uA p 0) (uA p 1) (uA p 2) (uA p 3) (uA p 4) (uA p 5) (uA p 6) (uA p 7)) a (uR p)
end
section
open Go Go.Proofs
section
def JS:List PV->Tr
 | [.s (.str s)]=>.ret (.s (.int .i64 (Jb s))) []
 | _=>.fail
def XI(args:List PV):Tr:=JS (D5 [[0]] args)
def JT:List PV->Tr
 | [.s (.str s)]=>.ret (.s (.bool (G3 s))) []
 | _=>.fail
def Sq(args:List PV):Tr:=JT (D5 [[0]] args)
def D90:List PV->Tr
 | [.agg [.s (.str a),.s (.str n),.s (.int .i64 j),.s (.str k),.s (.int .u32 v4),.s (.int .u16 b),.s (.int .u16 c),.s (.int .u16 d),.s (.int .u16 e),.s (.int .u16 f),.s (.int .u16 g),.s (.int .u16 h),.s (.int .u16 i),.s (.int .i64 l),.s (.str m)]]=>.ret (.s (.bool (D71 a))) []
 | _=>.fail
def XK:List PV->Tr
 | [.s (.str s)]=>.need (A2 (j5 s)) (.ret (.s (.bool (Fh s))) [])
 | _=>.fail
def Co4(args:List PV):Tr:=XK (D5 [[0]] args)
def XH:List PV->Tr
 | [.s (.str s)]=>.need (A2 (j5 s)) (.ret (.tup [.s (.int .i64 (GL s)),.s (.bool (v7 (Zh ((-1):Int) s)))]) [])
 | _=>.fail
def Co3(args:List PV):Tr:=XH (D5 [[0]] args)
def BX:List PV->Tr
 | [.agg [.s (.str c),.s (.str e),.s (.int .i64 n),.s (.str o),.s (.int .u32 v4),.s (.int .u16 f),.s (.int .u16 g),.s (.int .u16 h),.s (.int .u16 i),.s (.int .u16 j),.s (.int .u16 k),.s (.int .u16 l),.s (.int .u16 m),.s (.int .i64 d),.s (.str b)],.s (.str a)]=>.need (A2 (j5 c)) (.need (A2 (j5 b)) (.need (A2 (j5 a)) (.need (aj0 e) (.need (d==((-1):Int)) (.ret (.tup [.agg [.s (.str (uS (J2 c b a))),.s (.str (uU (J2 c b a))),.s (.int .i64 (uK (J2 c b a))),.s (.str (uN (J2 c b a))),.s (.int .u32 (uV (J2 c b a))),.s (.int .u16 (uA (J2 c b a) 0)),.s (.int .u16 (uA (J2 c b a) 1)),.s (.int .u16 (uA (J2 c b a) 2)),.s (.int .u16 (uA (J2 c b a) 3)),.s (.int .u16 (uA (J2 c b a) 4)),.s (.int .u16 (uA (J2 c b a) 5)),.s (.int .u16 (uA (J2 c b a) 6)),.s (.int .u16 (uA (J2 c b a) 7)),.s (.int .i64 (uP (J2 c b a))),.s (.str (uR (J2 c b a)))],.s (.int .i64 (uE (J2 c b a)))]) [])))))
 | _=>.fail
def Ak4(args:List PV):Tr:=BX (D5 [[0,0,0,0,0,0,0,0,0,0,0,0,0,0,0],[0]] args)
def XJ:List PV->Tr
 | [.s (.str s)]=>.need (A2 (j5 s)) (.ret (.tup [.agg [.s (.str (uS (H3 s))),.s (.str (uU (H3 s))),.s (.int .i64 (uK (H3 s))),.s (.str (uN (H3 s))),.s (.int .u32 (uV (H3 s))),.s (.int .u16 (uA (H3 s) 0)),.s (.int .u16 (uA (H3 s) 1)),.s (.int .u16 (uA (H3 s) 2)),.s (.int .u16 (uA (H3 s) 3)),.s (.int .u16 (uA (H3 s) 4)),.s (.int .u16 (uA (H3 s) 5)),.s (.int .u16 (uA (H3 s) 6)),.s (.int .u16 (uA (H3 s) 7)),.s (.int .i64 (uP (H3 s))),.s (.str (uR (H3 s)))],.s (.int .i64 (uE (H3 s)))]) [])
 | _=>.fail
def A31(args:List PV):Tr:=XJ (D5 [[0]] args)
def BW:List PV->Tr
 | [.s (.str s)]=>.need (A2 (j5 s)) (.ret (.tup [.agg [.s (.str (uS (C7 s))),.s (.str (uU (C7 s))),.s (.int .i64 (uK (C7 s))),.s (.str (uN (C7 s))),.s (.int .u32 (uV (C7 s))),.s (.int .u16 (uA (C7 s) 0)),.s (.int .u16 (uA (C7 s) 1)),.s (.int .u16 (uA (C7 s) 2)),.s (.int .u16 (uA (C7 s) 3)),.s (.int .u16 (uA (C7 s) 4)),.s (.int .u16 (uA (C7 s) 5)),.s (.int .u16 (uA (C7 s) 6)),.s (.int .u16 (uA (C7 s) 7)),.s (.int .i64 (uP (C7 s))),.s (.str (uR (C7 s)))],.s (.int .i64 (uE (C7 s)))]) [])
 | _=>.fail
def JR(args:List PV):Tr:=BW (D5 [[0]] args)
def JU:List PV->Tr
 | [.agg [.s (.str l),.s (.str m),.s (.int .i64 n),.s (.str i),.s (.int .u32 v4),.s (.int .u16 a),.s (.int .u16 b),.s (.int .u16 c),.s (.int .u16 d),.s (.int .u16 e),.s (.int .u16 f),.s (.int .u16 g),.s (.int .u16 h),.s (.int .i64 j),.s (.str k)]]=>.need (smU l m i k) (.need (ltN v4 4294967296) (.need (ok8 a b c d e f g h) (.need (Qf j) (.ret (.s (.str (Gn (mkU l m n i v4 (n8 a b c d e f g h) j k)))) []))))
 | _=>.fail
def Bv4(args:List PV):Tr:=JU (D5 [[0,0,0,0,0,0,0,0,0,0,0,0,0,0,0]] args)
def Uz:List PV->Tr
 | [.agg [.s (.str l),.s (.str m),.s (.int .i64 n),.s (.str i),.s (.int .u32 v4),.s (.int .u16 a),.s (.int .u16 b),.s (.int .u16 c),.s (.int .u16 d),.s (.int .u16 e),.s (.int .u16 f),.s (.int .u16 g),.s (.int .u16 h),.s (.int .i64 j),.s (.str k)]]=>.need (smU l m i k) (.need (ltN v4 4294967296) (.need (ok8 a b c d e f g h) (.need (Qf j) (.ret (.s (.bool (Wy (mkU l m n i v4 (n8 a b c d e f g h) j k)))) []))))
 | _=>.fail
def QL(args:List PV):Tr:=Uz (D5 [[0,0,0,0,0,0,0,0,0,0,0,0,0,0,0]] args)
def D57:List PV->Tr
 | [.s (.str s),.s (.str t)]=>.need (A2 (j5 s)) (.need (A2 (j5 t)) (.ret (.s (.int .i64 (↑(Dc9 s t):Int))) []))
 | _=>.fail
def Dt2:List PV->Tr
 | [.s (.int .i64 n)]=>.need (ltN n 9223372036854775808) (.ret (.s (.str (j6 (j9 n)))) [])
 | _=>.fail
def IK:List PV->Tr
 | [.s (.int .i64 n)]=>.need (Qf n) (.ret (.s (.str (Pv n))) [])
 | _=>.fail
def Bt7(args:List PV):Tr:=IK (D5 [[0]] args)
def JK:List PV->Tr
 | [.s (.str s),.s (.int .u8 c)]=>.need (A2 (j5 s)) (.need (inR c 256) (.ret (.s (.int .i64 (aa9 s (u8n c)))) []))
 | _=>.fail
def Xe(args:List PV):Tr:=JK (D5 [[0],[0]] args)
def IQ:List PV->Tr
 | [.s (.str s),.s (.str p)]=>.need (A2 (j5 s)) (.ret (.s (.str (Iz s p))) [])
 | _=>.fail
def Bu0(args:List PV):Tr:=IQ (D5 [[0],[0]] args)
def XG:List PV->Tr
 | [.s (.str s),.s (.str p)]=>.need (A2 (j5 s)) (.ret (.s (.str (Iz s p))) [])
 | _=>.fail
def Co1(args:List PV):Tr:=XG (D5 [[0],[0]] args)
def Ak0:List PV->Tr
 | [.s (.str s),.s (.str p)]=>.need (A2 (j5 s)) (.need (DJ p) (.ret (.s (.int .i64 (ad9 s p))) []))
 | _=>.fail
def XC(args:List PV):Tr:=Ak0 (D5 [[0],[0]] args)
def Sn:List PV->Tr
 | [.s (.str s),.s (.str p)]=>.need (A2 (j5 s)) (.need (DJ p) (.need (aa4 9 (j5 s)) (.ret (.s (.int .i64 (ad9 s p))) [])))
 | _=>.fail
def Ak1(args:List PV):Tr:=Sn (D5 [[0],[0]] args)
def So:List PV->Tr
 | [.s (.str s),.s (.str p)]=>.need (DJ p) (.need (aa4 (j5 s) 8) (.ret (.s (.int .i64 (ad9 s p))) []))
 | _=>.fail
def Ak2(args:List PV):Tr:=So (D5 [[0],[0]] args)
def Ux:List PV->Tr
 | [.s (.int .i64 n)]=>.ret (.s (.bool (ltI (8:Int) n))) []
 | _=>.fail
def BS(args:List PV):Tr:=Ux (D5 [[0]] args)
def BQ:List PV->Tr
 | [.s (.str p),.s (.int .i32 r)]=>.need (DJ p) (.need (ltN r 1114112) (.ret (.s (.int .i64 (irn r))) []))
 | _=>.fail
def JL(args:List PV):Tr:=BQ (D5 [[0],[0]] args)
def QJ:List PV->Tr
 | [.s (.str s)]=>.fail
 | _=>.fail
def Qo(args:List PV):Tr:=QJ (D5 [[0]] args)
def BZ:List PV->Tr
 | [.s (.int .i32 r)]=>.ret (.s (.bool (OP r))) []
 | _=>.fail
def JV(args:List PV):Tr:=BZ (D5 [[0]] args)
end
section
variable {W R : Type} (L : Nat) (Q : G4) (Y : Yh W) (s : W) (k : Out -> St W -> Option R)
noncomputable def YE(L:Nat):Cfg:=D0 L [147] (A4 []) [(110,VT)] (A4 [(3,[4]),(2,[4]),(1,[0,0,5]),(0,[0,0])]) [110] (A4 []) (some [4]) [] [] []
noncomputable def Bz1(L:Nat)(b a:By)(d:By->Option R):Option R:=cond (A2 b.length) (cond (p5 a b) (cond (L3 (a.length:Int) (b.length:Int) b.length) (vl (cut b (a.length:Int) (b.length:Int)) λc=>d c) none) (d b)) none
def Cv3(d:Nat)(s0 prefix1):evC (YE L) (d+1) W Y 147 [pS s0,pS prefix1] [] s=Bz1 L s0 prefix1 (λa=>some (pS a,[],s)):=by refine(evE (fn:=Tryz.f147) (by kernel_rfl)).trans ?_;generalize evC (YE L) d=Q;unfold Bz1;kernel_rfl
noncomputable def A65(L:Nat):Cfg:=D0 L [114] (A4 []) [(147,Bu0)] (A4 [(1,[4]),(0,[0,0])]) [147] (A4 []) (some [4]) [] [] []
noncomputable def Do4(L:Nat)(b a:By)(c:By->Option R):Option R:=cond (A2 b.length) (c (Iz b a)) none
def Do5(d:Nat)(s0 prefix1):evC (A65 L) (d+1) W Y 114 [pS s0,pS prefix1] [] s=Do4 L s0 prefix1 (λa=>some (pS a,[],s)):=by refine(evE (fn:=Tryz.f114) (by kernel_rfl)).trans ?_;generalize evC (A65 L) d=Q;unfold Do4;kernel_rfl
noncomputable def YP(L:Nat):Cfg:=D0 L [41] (A4 []) [] (A4 [(8,[2]),(4,[2]),(7,[2]),(6,[7]),(5,[3,3]),(3,[3,0]),(2,[3,0]),(1,[3]),(0,[0])]) [] (A4 [(0,[])]) (some [2]) [] [] []
noncomputable def B23(L:Nat)(a:By)(b:Int->Option R):Option R:=cond (a==[104,116,116,112]) (cond (a==[104,116,116,112]) (b 80) (cond (a==[104,116,116,112,115]) (cond (a==[104,116,116,112,115]) (b 443) (b (-1))) (cond (a==[119,115,115]) (b 443) (b (-1))))) (cond (a==[119,115]) (b 80) (cond (a==[104,116,116,112,115]) (cond (a==[104,116,116,112,115]) (b 443) (b (-1))) (cond (a==[119,115,115]) (b 443) (b (-1)))))
def C40(d:Nat)(scheme0):evC (YP L) (d+1) W Y 41 [pS scheme0] [] s=B23 L scheme0 (λa=>some (pI a,[],s)):=by refine(evE (fn:=Tryz.f41) (by kernel_rfl)).trans ?_;generalize evC (YP L) d=Q;unfold B23;kernel_rfl
noncomputable def YR(L:Nat):Cfg:=D0 L [21] (A4 []) [(41,XI)] (A4 [(1,[2]),(0,[0])]) [41] (A4 []) (some [2]) [] [] []
noncomputable def B24(L:Nat)(a:By)(b:Bool->Option R):Option R:=b (ltI 0 (Jb a))
def C43(d:Nat)(scheme0):evC (YR L) (d+1) W Y 21 [pS scheme0] [] s=B24 L scheme0 (λa=>some (pB a,[],s)):=by refine(evE (fn:=Tryz.f21) (by kernel_rfl)).trans ?_;generalize evC (YR L) d=Q;unfold B24;kernel_rfl
noncomputable abbrev Qv:Code:=D4 ah5
noncomputable def Bi(L:Nat):Cfg:=D0 L [65] (A4 [(2,[0,1,4,0])]) [(104,Xe)] (A4 [(9,[2]),(8,[0,6,0]),(7,[2]),(6,[0,6,0,29]),(5,[0,2,0,0,1,0]),(4,[0,2,0,2,0]),(3,[0,2,3,0]),(2,[0,6,0,0]),(1,[0,6,0]),(0,[0])]) [104] (A4 [(0,[0]),(1,[0,6,0])]) (some [2]) [] [] []
noncomputable def HV(d:By)(a c:Int)(b:By->Int->Int->Option R):Option R:=b d c a
abbrev EI(b:Code):Prop:=∀(k:Out->St W->Option R) a i1 b2 n3,A9 (Bi L) Q Y b ⟨gp [(0,pS a),(2,pI i1),(0,p8 b2),(0,pB true),(1,pI n3),(0,pI i1)] 33,[],s⟩ k=HV a i1 n3 (λa c d=>k .normal ⟨gp [(0,pS a),(6,pI c),(0,pI d),(29,pB false)] 3,[],s⟩)
def Bq7:EI (R:=R) L Q Y s (cd [1,0,1,0,0,1,1,0,0,1,1,1] Qv):=by intro k d b a c;unfold HV;kernel_rfl
noncomputable def Hl(h:By)(c d:Int)(a:Bool)(g:Int)(e:Unit->Option R)(f:By->Int->Int->Bool->Option R):Option R:=cond (not a) (cond (c==0) (e ()) (cond (inR d 256) (vl (aa9 ([48,49,50,51,52,53,54,55,56,57,43,45,46]:By) (u8n d)) λb=>cond (ltI b 0) (e ()) (f h g c (ltI b 0))) none)) (f h g c false)
abbrev EJ(b:Code):Prop:=∀(k:Out->St W->Option R) a i1 b2 letter3 n4,A9 (Bi L) Q Y b ⟨gp [(0,pS a),(2,pI i1),(0,p8 b2),(0,pB letter3),(1,pI n4),(0,pI i1)] 33,[],s⟩ k=Hl a i1 b2 letter3 n4 (λ_=>k .ret ⟨gp [(2,pB false)] 39,[],s⟩) (λa d e c=>k .normal ⟨gp [(0,pS a),(6,pI d),(0,pI e),(29,pB c)] 3,[],s⟩)
def Bq8:EJ (R:=R) L Q Y s (cd [1,0,1,0,0,1,1,0,0,1,1,1] Qv):=by intro k e c b a d;unfold Hl;kernel_rfl
noncomputable def P3(L n:Nat)(b:By)(e a:Int)(c:Unit->Option R)(d:By->Option R):Option R:=match n with|0=>none|n+1=>cond (ltI a e) (cond (inR a b.length) (cond (not (ltI (bAt b a) (97:Int))) (cond (not (ltI 122 (bAt b a))) (HV b a e (λx r t=>P3 L n x r (A1 (t+1)) c d)) (cond (not (ltI (bAt b a) (65:Int))) (Hl b a (bAt b a) (not (ltI 90 (bAt b a))) e (λ_=>c ()) (λy u v D=>P3 L n y u (A1 (v+1)) c d)) (Hl b a (bAt b a) false e (λ_=>c ()) (λz w f A=>vl (A1 (f+1)) λg=>P3 L n z w g c d)))) (cond (not (ltI (bAt b a) (65:Int))) (Hl b a (bAt b a) (not (ltI 90 (bAt b a))) e (λ_=>c ()) (λp h i B=>vl (A1 (i+1)) λj=>P3 L n p h j c d)) (Hl b a (bAt b a) false e (λ_=>c ()) (λq l m C=>vl (A1 (m+1)) λo=>P3 L n q l o c d)))) none) (d b)
def Bq9(a:Code)(d:EI (R:=R) L Q Y s a)(b:EJ (R:=R) L Q Y s a)(n:Nat)(c:By)(f e:Int):E0 0 ((Bi L).keep 2) (bd (Bi L) Q Y (cd [1,0,1,0,0] (I2 [1,0,1,0,0,1,1,0,0,1,1,1] a Qv))) n ⟨gp [(0,pS c),(6,pI f),(0,pI e)] 33,[],s⟩ k =
 P3 L n c f e (λ_=>k .ret ⟨gp [(2,pB false)] 39,[],s⟩) (λc=>k (.exit 0) ⟨gp [(0,pS c)] 41,[],s⟩):=by
 induction n generalizing c f e with
 | zero=>rfl
 | succ n h=>rw[P3];exact let g:=(F0 1 (F5 (Bi L) Q Y (cd [1,0,1,0,0,1,1,1] Qv) (lpK 0 ((Bi L).keep 2) (bd (Bi L) Q Y (cd [1,0,1,0,0] (I2 [1,0,1,0,0,1,1,0,0,1,1,1] a Qv))) n k)));(j8 (by kernel_rfl) (A0 (A0 (A0 (A0 ((d g c e (bAt c e) f).trans (congr rfl (fx3 λx r t=>(j8 (by kernel_rfl) (h x r (A1 (t+1))))))) (A0 ((b g c e (bAt c e) (not (ltI 90 (bAt c e))) f).trans (congr (congr rfl (by kernel_rfl)) (fx4 λy u v H=>(j8 (by kernel_rfl) (h y u (A1 (v+1))))))) ((b g c e (bAt c e) false f).trans (congr (congr rfl (by kernel_rfl)) (fx4 λz w D A=>(j8 (by kernel_rfl) (A5 λi=>(h z w i)))))))) (A0 ((b g c e (bAt c e) (not (ltI 90 (bAt c e))) f).trans (congr (congr rfl (by kernel_rfl)) (fx4 λp j F B=>(j8 (by kernel_rfl) (A5 λl=>(h p j l)))))) ((b g c e (bAt c e) false f).trans (congr (congr rfl (by kernel_rfl)) (fx4 λq m G C=>(j8 (by kernel_rfl) (A5 λo=>(h q m o)))))))) rfl) rfl))
noncomputable def C42(L:Nat)(c:By)(b:Bool->Option R):Option R:=P3 L L c (c.length:Int) 0 (λ_=>b false) (λa=>b (not (a==[])))
def Dp1(a:Code)(b:EI (R:=PV × List Blk × W) L Q Y s a)(c:EJ (R:=PV × List Blk × W) L Q Y s a)(d:By):A9 (Bi L) Q Y (cd [] (I2 [1,0,1,0,0,1,1,0,0,1,1,1] a Qv)) ⟨[pS d]++tps 41,[],s⟩ (G1 (Bi L) ah5)=C42 L d (λe=>some (pB e,[],s)):=by unfold C42;exact(j8 (by kernel_rfl) ((Bq9 L Q Y s (F0 0 (F5 (Bi L) Q Y (cd [1,1] Qv) (G1 (Bi L) ah5))) a b c L d (d.length:Int) 0).trans (by kernel_rfl)))
def Dp2(d:Nat)(s0):evC (Bi L) (d+1) W Y 65 [pS s0] [] s=C42 L s0 (λa=>some (pB a,[],s)):=
 (evE (fn:=ah5) (by kernel_rfl)).trans (j8 (by kernel_rfl) (Dp1 L (evC (Bi L) d) Y s (cd [1,0,1,0,0,1,1,0,0,1,1,1] Qv) (Bq7 L (evC (Bi L) d) Y s) (Bq8 L (evC (Bi L) d) Y s) s0))
noncomputable abbrev Cp7:Code:=D4 ai3
noncomputable def Vw(L:Nat):Cfg:=D0 L [113] (A4 [(3,[0,1,0,0,2,0])]) [] (A4 [(9,[2,0]),(8,[0,3,2,0]),(7,[0,3,2,0]),(6,[2,0]),(5,[0,3,0,1,0,11]),(4,[0,3,0,1,0]),(3,[0,3,2,0,0]),(2,[0,3,2,0]),(1,[0,3]),(0,[0])]) [] (A4 [(0,[4]),(1,[0,3,2,0])]) (some [2,0]) [] [] []
noncomputable def Pk(L n:Nat)(b:By)(h j a:Int)(d:Unit->Option R)(i:Int->Option R):Option R:=match n with|0=>none|n+1=>cond (ltI a j) (cond (inR a b.length) (cond (ltI (bAt b a) (48:Int)) (d ()) (cond (inR a b.length) (cond (ltI 57 (bAt b a)) (d ()) (vl (A1 ((10:Int)*(if ((0:Int) > h) then (0:Int) else h))) λe=>cond (inR a b.length) (vl (wu8 ((bAt b a)-48)) λf=>vl (A1 (e+(A1 f))) λc=>vl (if ((65536:Int)<c) then (65536:Int) else c) λg=>Pk L n b g j (A1 (a+1)) d i) none)) none)) none) (i h)
def Bq2(n s0 n1 n2 n3):E0 0 ((Vw L).keep 3) (bd (Vw L) Q Y (cd [1,1,0,1,0,0] Cp7)) n ⟨gp [(0,pS s0),(3,pI n1),(2,pI n2),(0,pI n3)] 26,[],s⟩ k =
 Pk L n s0 n1 n2 n3 (λ_=>k .ret ⟨gp [(2,pI (0:Int)),(0,pB false)] 31,[],s⟩) (λn0=>k (.exit 0) ⟨gp [(4,pI n0)] 30,[],s⟩):=by
 induction n generalizing s0 n1 n2 n3 with
 | zero=>rfl
 | succ n a=>rw[Pk];simp only[<-a];kernel_rfl
noncomputable def Do7(L:Nat)(c:By)(b:Int->Bool->Option R):Option R:=Pk L L c (-1) (c.length:Int) 0 (λ_=>b 0 false) (λa=>b a (ltI a 65536))
def Do8(d:Nat)(s0):evC (Vw L) (d+1) W Y 113 [pS s0] [] s=Do7 L s0 (λa b=>some (.tup [pI a,pB b],[],s)):=by refine(evE (fn:=ai3) (by kernel_rfl)).trans ?_;generalize evC (Vw L) d=Q;unfold Do7;exact(j8 (by kernel_rfl) ((Bq2 L Q Y s (F0 0 (F5 (Vw L) Q Y (cd [1,1,1] Cp7) (G1 (Vw L) ai3))) L s0 (-1) (s0.length:Int) 0).trans (by kernel_rfl)))
noncomputable abbrev Cz:Code:=D4 ah6
noncomputable def Z8(L:Nat):Cfg:=D0 L [70] (A4 []) [(111,GQ),(69,IG),(104,Xe),(112,Aj7),(114,Co1),(113,Co3),(41,XI)] (A4 [(24,[4,0]),(23,[2,1]),(22,[2,1,8,71]),(21,[2,1,8]),(20,[4,0]),(19,[2,1,6,1,63]),(18,[2,1,6,1,0]),(17,[4,0]),(16,[2,1,3,2,0,54]),(15,[2,1,3,2,0]),(14,[4,0]),(13,[2,1,2,0,50]),(9,[2,1,2,0]),(8,[4,0]),(7,[1,0,1,4,23]),(6,[1,0,1,4]),(12,[2,1,2,0]),(11,[1,0,1,2,0,1,35]),(10,[1,0,1,2,0,1]),(5,[1,0,1,2,0,20]),(4,[1,0,1,2,0]),(3,[1,0,1]),(2,[1,0,1,1,11]),(1,[1,0,1,1]),(0,[1,0,1])]) [111,69,104,114,113,41] (A4 []) (some [4,0]) [] [] []
abbrev Kag(R:Type):=Int->Blk->By->By->Int->By->Int->Int->Int->Int->Int->Int->Int->Int->Int->Int->By->(List Blk)->Option R
noncomputable def X9(d e g h:By)(r:Int)(v:By)(t p u i j l m n o f:Int)(c:By)(q:Kag R):Option R:=cond (A2 d.length) (vl (D7 d) λa=>cond ((↑(a).2:Int)!=0) (q (↑(a).2:Int) (bU g h r v t p u i j l m n o f c) ([]:By) ([]:By) 0 ([]:By) 0 0 0 0 0 0 0 0 0 0 ([]:By) [(bH (↑(C1.kind (a).1):Int) (C1.name (a).1) (↑(C1.v4 (a).1):Int) (↑(j2 (C1.v6 (a).1) 0 0):Int) (↑(j2 (C1.v6 (a).1) 1 0):Int) (↑(j2 (C1.v6 (a).1) 2 0):Int) (↑(j2 (C1.v6 (a).1) 3 0):Int) (↑(j2 (C1.v6 (a).1) 4 0):Int) (↑(j2 (C1.v6 (a).1) 5 0):Int) (↑(j2 (C1.v6 (a).1) 6 0):Int) (↑(j2 (C1.v6 (a).1) 7 0):Int))]) (cond (A2 e.length) (vl (Iz e ([58]:By)) λb=>cond (A2 b.length) (cond (not (v7 (Zh ((-1):Int) b))) (q 16 (bU g h r v t p u i j l m n o f c) ([]:By) ([]:By) 0 ([]:By) 0 0 0 0 0 0 0 0 0 0 ([]:By) [(bH (↑(C1.kind (a).1):Int) (C1.name (a).1) (↑(C1.v4 (a).1):Int) (↑(j2 (C1.v6 (a).1) 0 0):Int) (↑(j2 (C1.v6 (a).1) 1 0):Int) (↑(j2 (C1.v6 (a).1) 2 0):Int) (↑(j2 (C1.v6 (a).1) 3 0):Int) (↑(j2 (C1.v6 (a).1) 4 0):Int) (↑(j2 (C1.v6 (a).1) 5 0):Int) (↑(j2 (C1.v6 (a).1) 6 0):Int) (↑(j2 (C1.v6 (a).1) 7 0):Int))]) (cond ((GL b)!=(Jb g)) (q 0 (bU g h (↑(C1.kind (a).1):Int) (C1.name (a).1) (↑(C1.v4 (a).1):Int) (↑(j2 (C1.v6 (a).1) 0 0):Int) (↑(j2 (C1.v6 (a).1) 1 0):Int) (↑(j2 (C1.v6 (a).1) 2 0):Int) (↑(j2 (C1.v6 (a).1) 3 0):Int) (↑(j2 (C1.v6 (a).1) 4 0):Int) (↑(j2 (C1.v6 (a).1) 5 0):Int) (↑(j2 (C1.v6 (a).1) 6 0):Int) (↑(j2 (C1.v6 (a).1) 7 0):Int) (GL b) c) g h (↑(C1.kind (a).1):Int) (C1.name (a).1) (↑(C1.v4 (a).1):Int) (↑(j2 (C1.v6 (a).1) 0 0):Int) (↑(j2 (C1.v6 (a).1) 1 0):Int) (↑(j2 (C1.v6 (a).1) 2 0):Int) (↑(j2 (C1.v6 (a).1) 3 0):Int) (↑(j2 (C1.v6 (a).1) 4 0):Int) (↑(j2 (C1.v6 (a).1) 5 0):Int) (↑(j2 (C1.v6 (a).1) 6 0):Int) (↑(j2 (C1.v6 (a).1) 7 0):Int) (GL b) c [(bH (↑(C1.kind (a).1):Int) (C1.name (a).1) (↑(C1.v4 (a).1):Int) (↑(j2 (C1.v6 (a).1) 0 0):Int) (↑(j2 (C1.v6 (a).1) 1 0):Int) (↑(j2 (C1.v6 (a).1) 2 0):Int) (↑(j2 (C1.v6 (a).1) 3 0):Int) (↑(j2 (C1.v6 (a).1) 4 0):Int) (↑(j2 (C1.v6 (a).1) 5 0):Int) (↑(j2 (C1.v6 (a).1) 6 0):Int) (↑(j2 (C1.v6 (a).1) 7 0):Int))]) (q 0 (bU g h (↑(C1.kind (a).1):Int) (C1.name (a).1) (↑(C1.v4 (a).1):Int) (↑(j2 (C1.v6 (a).1) 0 0):Int) (↑(j2 (C1.v6 (a).1) 1 0):Int) (↑(j2 (C1.v6 (a).1) 2 0):Int) (↑(j2 (C1.v6 (a).1) 3 0):Int) (↑(j2 (C1.v6 (a).1) 4 0):Int) (↑(j2 (C1.v6 (a).1) 5 0):Int) (↑(j2 (C1.v6 (a).1) 6 0):Int) (↑(j2 (C1.v6 (a).1) 7 0):Int) f c) g h (↑(C1.kind (a).1):Int) (C1.name (a).1) (↑(C1.v4 (a).1):Int) (↑(j2 (C1.v6 (a).1) 0 0):Int) (↑(j2 (C1.v6 (a).1) 1 0):Int) (↑(j2 (C1.v6 (a).1) 2 0):Int) (↑(j2 (C1.v6 (a).1) 3 0):Int) (↑(j2 (C1.v6 (a).1) 4 0):Int) (↑(j2 (C1.v6 (a).1) 5 0):Int) (↑(j2 (C1.v6 (a).1) 6 0):Int) (↑(j2 (C1.v6 (a).1) 7 0):Int) f c [(bH (↑(C1.kind (a).1):Int) (C1.name (a).1) (↑(C1.v4 (a).1):Int) (↑(j2 (C1.v6 (a).1) 0 0):Int) (↑(j2 (C1.v6 (a).1) 1 0):Int) (↑(j2 (C1.v6 (a).1) 2 0):Int) (↑(j2 (C1.v6 (a).1) 3 0):Int) (↑(j2 (C1.v6 (a).1) 4 0):Int) (↑(j2 (C1.v6 (a).1) 5 0):Int) (↑(j2 (C1.v6 (a).1) 6 0):Int) (↑(j2 (C1.v6 (a).1) 7 0):Int))]))) none) none)) none
abbrev Sc(b:Code):Prop:=∀(k:Out->St W->Option R) name0 tail1 b2 l s4 n5 s6 i h j a c d e f g n16 s17,A9 (Z8 L) Q Y b ⟨gp [(2,.ptr 0 0 0),(1,.ptr 1 0 0),(2,pS name0),(0,pS tail1),(50,pB b2)] 29,[(bU l s4 n5 s6 i h j a c d e f g n16 s17),bU0],s⟩ k=X9 name0 tail1 l s4 n5 s6 i h j a c d e f g n16 s17 (λn0 o r l p t q i h j a c d e f g n m=>k .ret ⟨gp [(4,.ptr 1 0 0),(0,pI n0)] 83,(o::(bU r l p t q i h j a c d e f g n)::m),s⟩)
def AT:Sc (R:=R) L Q Y s (cd [1,1,1,1,1] Cz):=by intro k a b m q r n t o j p c d e f g h i l;unfold X9;kernel_rfl
noncomputable def R3(b a s2 s3:By)(n4:Int)(s5:By)(n6 n7 i n9 c d e f g h:Int)(j:By)(k0:Kag R):Option R:=cond (not (a==[])) (cond (inR 0 a.length) (cond ((bAt a (0:Int))!=58) (k0 4 (bU s2 s3 n4 s5 n6 n7 i n9 c d e f g h j) ([]:By) ([]:By) 0 ([]:By) 0 0 0 0 0 0 0 0 0 0 ([]:By) []) (X9 b a s2 s3 n4 s5 n6 n7 i n9 c d e f g h j (λp l S T q U r t u v w x y z A B V n=>k0 p l S T q U r t u v w x y z A B V n))) none) (X9 b a s2 s3 n4 s5 n6 n7 i n9 c d e f g h j (λC m X Z D a0 F G H I J K M N O P a1 o=>k0 C m X Z D a0 F G H I J K M N O P a1 o))
abbrev Sd(b:Code):Prop:=∀(k:Out->St W->Option R) name0 tail1 o p j q l m h n a c d e f g i,A9 (Z8 L) Q Y b ⟨gp [(2,.ptr 0 0 0),(1,.ptr 1 0 0),(2,pS name0),(0,pS tail1)] 80,[(bU o p j q l m h n a c d e f g i),bU0],s⟩ k=R3 name0 tail1 o p j q l m h n a c d e f g i (λn0 t o p j q l m h n a c d e f g i r=>k .ret ⟨gp [(4,.ptr 1 0 0),(0,pI n0)] 83,(t::(bU o p j q l m h n a c d e f g i)::r),s⟩)
def Ah6(b:Code)(a:Sc (R:=R) L Q Y s b):Sd (R:=R) L Q Y s (cd [1,1,1,1] (I2 [1,1,1,1,1] b Cz)):=by intro k d c r t n u o p l q e f g h i j m;unfold R3;exact(j8 (by kernel_rfl) (A0 (A0 (A0 rfl ((a k d c ((bAt c (0:Int))!=58) r t n u o p l q e f g h i j m).trans (by kernel_rfl))) rfl) ((a k d c false r t n u o p l q e f g h i j m).trans (by kernel_rfl))))
def Ah7:Sd (R:=R) L Q Y s (cd [1,1,1,1] Cz):=by intro k a b p q l r m n i o c d e f g h j;exact j8 (by kernel_rfl) (Ah6 L Q Y s (cd [1,1,1,1,1] Cz) (AT L Q Y s) k a b p q l r m n i o c d e f g h j)
noncomputable def Tw(a J K:By)(G:Int)(M:By)(H C I v w x y z A B:Int)(D:By)(F:Kag R):Option R:=X9 a ([]:By) J K G M H C I v w x y z A B D (λd b q r e t f g h i j l m n o p u c=>F d b q r e t f g h i j l m n o p u c)
abbrev Se(b:Code):Prop:=∀(k:Out->St W->Option R) authority0 kk1 b2 l s4 n5 s6 i h j a c d e f g n16 s17,A9 (Z8 L) Q Y b ⟨gp [(1,pS authority0),(0,.ptr 0 0 0),(1,.ptr 1 0 0),(2,pS authority0),(0,pS ([]:By)),(1,pI kk1),(35,pB b2)] 42,[(bU l s4 n5 s6 i h j a c d e f g n16 s17),bU0],s⟩ k=Tw authority0 l s4 n5 s6 i h j a c d e f g n16 s17 (λn0 o r l p t q i h j a c d e f g n m=>k .ret ⟨gp [(4,.ptr 1 0 0),(0,pI n0)] 83,(o::(bU r l p t q i h j a c d e f g n)::m),s⟩)
def Ah8(c:Code)(a:Sc (R:=R) L Q Y s c):Se (R:=R) L Q Y s (cd [1,1,1,1] (I2 [1,1,1,1,1] c Cz)):=by intro k b n v r t o u p l q d e f g h i j m;unfold Tw;exact(j8 (by kernel_rfl) ((a k b ([]:By) false r t o u p l q d e f g h i j m).trans (by kernel_rfl)))
def Ah9:Se (R:=R) L Q Y s (cd [1,1,1,1] Cz):=by intro k a b m q r n t o j p c d e f g h i l;exact j8 (by kernel_rfl) (Ah8 L Q Y s (cd [1,1,1,1,1] Cz) (AT L Q Y s) k a b m q r n t o j p c d e f g h i l)
abbrev Kai(R:Type):=By->By->Int->By->Int->Int->Int->Int->Int->Int->Int->Int->Int->Int->By->Int->(List Blk)->Option R
noncomputable def Wu(L:Nat)(u0 u1:By)(u2:Int)(u3:By)(u4 u5 u6 u7 u8 u9 e f g h:Int)(i a:By)(k0:Kai R):Option R:=cond (A2 a.length) (vl (N1 (u8n (64:Int)) a) λc2=>cond (not (ltI c2 0)) (cond (L3 0 c2 a.length) (vl (cut a 0 c2) λe5=>cond (L3 (A1 (c2+1)) (a.length:Int) a.length) (vl (cut a (A1 (c2+1)) (a.length:Int)) λb=>cond (A2 b.length) (cond (p5 ([91]:By) b) (cond (A2 b.length) (vl (aa9 b (u8n (93:Int))) λJ=>cond (ltI J 0) (k0 ([]:By) ([]:By) 0 ([]:By) 0 0 0 0 0 0 0 0 0 0 ([]:By) 4 [(bU u0 e5 u2 u3 u4 u5 u6 u7 u8 u9 e f g h i),bU0]) (vl (A1 (J+1)) λe6=>cond (L3 0 e6 b.length) (vl (A1 (J+1)) λe7=>cond (L3 e7 (b.length:Int) b.length) (vl (cut b e7 (b.length:Int)) λi3=>R3 (cut b 0 e6) i3 u0 e5 u2 u3 u4 u5 u6 u7 u8 u9 e f g h i (λi2 i1 g1 g2 f0 g3 f1 f2 f3 f4 f5 f6 f7 f8 f9 g0 g4 h0=>k0 g1 g2 f0 g3 f1 f2 f3 f4 f5 f6 f7 f8 f9 g0 g4 i2 (i1::((bU g1 g2 f0 g3 f1 f2 f3 f4 f5 f6 f7 f8 f9 g0 g4)::h0)))) none) none)) none) (cond (A2 b.length) (vl (aa9 b (u8n (58:Int))) λc=>cond (not (ltI c 0)) (cond (L3 0 c b.length) (cond (L3 c (b.length:Int) b.length) (vl (cut b c (b.length:Int)) λi4=>R3 (cut b 0 c) i4 u0 e5 u2 u3 u4 u5 u6 u7 u8 u9 e f g h i (λh6 g5 c3 c4 j c5 l m n o p q r t u v c6 h1=>k0 c3 c4 j c5 l m n o p q r t u v c6 h6 (g5::((bU c3 c4 j c5 l m n o p q r t u v c6)::h1)))) none) none) (Tw b u0 e5 u2 u3 u4 u5 u6 u7 u8 u9 e f g h i (λh7 g6 c7 c8 w d0 x y z A B C D F G H d1 h2=>k0 c7 c8 w d0 x y z A B C D F G H d1 h7 (g6::((bU c7 c8 w d0 x y z A B C D F G H d1)::h2))))) none)) none) none) none) (cond (A2 a.length) (cond (p5 ([91]:By) a) (cond (A2 a.length) (vl (aa9 a (u8n (93:Int))) λc1=>cond (ltI c1 0) (k0 ([]:By) ([]:By) 0 ([]:By) 0 0 0 0 0 0 0 0 0 0 ([]:By) 4 [(bU u0 u1 u2 u3 u4 u5 u6 u7 u8 u9 e f g h i),bU0]) (vl (A1 (c1+1)) λe8=>cond (L3 0 e8 a.length) (vl (cut a 0 e8) λi5=>vl (A1 (c1+1)) λe9=>cond (L3 e9 (a.length:Int) a.length) (vl (cut a e9 (a.length:Int)) λi6=>R3 i5 i6 u0 u1 u2 u3 u4 u5 u6 u7 u8 u9 e f g h i (λh8 g7 d2 d3 I d4 K M N O P S T U V X d5 h3=>k0 d2 d3 I d4 K M N O P S T U V X d5 h8 (g7::((bU d2 d3 I d4 K M N O P S T U V X d5)::h3)))) none) none)) none) (cond (A2 a.length) (vl (aa9 a (u8n (58:Int))) λd=>cond (not (ltI d 0)) (cond (L3 0 d a.length) (vl (cut a 0 d) λi7=>cond (L3 d (a.length:Int) a.length) (vl (cut a d (a.length:Int)) λi9=>R3 i7 i9 u0 u1 u2 u3 u4 u5 u6 u7 u8 u9 e f g h i (λh9 g8 d6 d7 Z d8 a0 a1 a2 a3 a4 a5 a6 a7 a8 a9 d9 h4=>k0 d6 d7 Z d8 a0 a1 a2 a3 a4 a5 a6 a7 a8 a9 d9 h9 (g8::((bU d6 d7 Z d8 a0 a1 a2 a3 a4 a5 a6 a7 a8 a9 d9)::h4)))) none) none) (Tw a u0 u1 u2 u3 u4 u5 u6 u7 u8 u9 e f g h i (λi0 g9 e1 e2 b0 e3 b1 b2 b3 b4 b5 b6 b7 b8 b9 c0 e4 h5=>k0 e1 e2 b0 e3 b1 b2 b3 b4 b5 b6 b7 b8 b9 c0 e4 i0 (g9::((bU e1 e2 b0 e3 b1 b2 b3 b4 b5 b6 b7 b8 b9 c0 e4)::h5))))) none)) none)) none
def Cj2(d:Code)(a:Sd (R:=PV × List Blk × W) L Q Y s d)(c:Se (R:=PV × List Blk × W) L Q Y s d)(m G:By)(n:Int)(o:By)(p q r t u8 u e f g h:Int)(i b:By):A9 (Z8 L) Q Y (cd [] (I2 [1,1,1,1] d Cz)) ⟨[(gU m G n o p q r t u8 u e f g h i),pS b]++tps 87,[],s⟩ (G1 (Z8 L) ah6)=Wu L m G n o p q r t u8 u e f g h i b (λZ r1 r2 r3 r4 r5 r6 r7 r8 r9 I J K M N O H=>some (.tup [(gU Z r1 r2 r3 r4 r5 r6 r7 r8 r9 I J K M N),pI O],H,s)):=by unfold Wu;exact let x:=(G1 (Z8 L) ah6);(j8 (by kernel_rfl) (A0 (A5 λX=>(A0 (A0 (A5 λv=>(A0 (A5 λw=>(A0 (A0 (A0 (A5 λP=>(A0 rfl (A5 λy=>(A0 (A5 λS=>(A0 (A5 λz=>((a x (cut w 0 y) z m v n o p q r t u8 u e f g h i).trans (by kernel_rfl))) rfl)) rfl)))) rfl) (A0 (A5 λj=>(A0 (A0 (A0 (A5 λA=>((a x (cut w 0 j) A m v n o p q r t u8 u e f g h i).trans (by kernel_rfl))) rfl) rfl) ((c x w j (not (ltI j 0)) m v n o p q r t u8 u e f g h i).trans (by kernel_rfl)))) rfl)) rfl)) rfl)) rfl) (A0 (A0 (A0 (A5 λT=>(A0 rfl (A5 λU=>(A0 (A5 λB=>(A5 λV=>(A0 (A5 λC=>((a x B C m G n o p q r t u8 u e f g h i).trans (by kernel_rfl))) rfl))) rfl)))) rfl) (A0 (A5 λl=>(A0 (A0 (A5 λD=>(A0 (A5 λF=>((a x D F m G n o p q r t u8 u e f g h i).trans (by kernel_rfl))) rfl)) rfl) ((c x b l (not (ltI l 0)) m G n o p q r t u8 u e f g h i).trans (by kernel_rfl)))) rfl)) rfl))) rfl))
def Cj3(d:Nat)(u0 u1 u2 u3 u4 u5 u6 u7 u8 u9 u10 u11 u12 u13 u14 authority15):evC (Z8 L) (d+1) W Y 70 [(gU u0 u1 u2 u3 u4 u5 u6 u7 u8 u9 u10 u11 u12 u13 u14),pS authority15] [] s=Wu L u0 u1 u2 u3 u4 u5 u6 u7 u8 u9 u10 u11 u12 u13 u14 authority15 (λi j l m n o p q r8 r b c e f g h a=>some (.tup [(gU i j l m n o p q r8 r b c e f g),pI h],a,s)):=
 (evE (fn:=ah6) (by kernel_rfl)).trans (j8 (by kernel_rfl) (Cj2 L (evC (Z8 L) d) Y s (cd [1,1,1,1] Cz) (Ah7 L (evC (Z8 L) d) Y s) (Ah9 L (evC (Z8 L) d) Y s) u0 u1 u2 u3 u4 u5 u6 u7 u8 u9 u10 u11 u12 u13 u14 authority15))
noncomputable abbrev Cp8:Code:=D4 aj8
noncomputable def Vx(L:Nat):Cfg:=D0 L [39] (A4 [(2,[0,1,0,8,0])]) [(64,A30),(65,Co4),(66,IN),(21,Sq),(67,A14),(68,XC),(69,IG),(70,Ak4)] (A4 [(23,[2,0]),(22,[2,5,0]),(21,[2,5,0,65]),(20,[2,5,0]),(19,[2,3,1,0]),(18,[2,3,1,0,0,52]),(17,[2,3,1,0,0]),(16,[2,3,1,0]),(15,[2,0]),(14,[2,3,1,48]),(13,[2,3,0,0]),(12,[2,0]),(11,[2,3,1,40]),(10,[2,3,1]),(9,[2,0]),(8,[2,2,0,33]),(7,[2,2,0,0]),(6,[0,1,9,0]),(5,[2,0]),(4,[0,1,9,0,11]),(3,[0,1,1,7,0]),(2,[0,1,9,0,0]),(1,[0,1,9,0]),(0,[0,1])]) [64,65,66,21,67,68,69] (A4 [(0,[0,1]),(1,[0,1,9,0])]) (some [2,0]) [] [] []
noncomputable def Ks(L n:Nat)(b:By)(e a:Int)(c:(List Blk)->Option R)(d:By->Option R):Option R:=match n with|0=>none|n+1=>cond (ltI a e) (cond (inR a b.length) (cond (not (ltI 32 (bAt b a))) (c []) (cond (inR a b.length) (cond ((bAt b a)==127) (c []) (Ks L n b e (A1 (a+1)) c d)) none)) none) (d b)
def Bq6(n a n1 n2):E0 1 ((Vx L).keep 2) (bd (Vx L) Q Y (cd [1,0,1,0,0] Cp8)) n ⟨gp [(0,pS a),(1,.ptr 0 0 0),(9,pI n1),(0,pI n2)] 71,[bU0],s⟩ k =
 Ks L n a n1 n2 (λb=>k .ret ⟨gp [(2,.ptr 0 0 0),(0,pI (4:Int))] 81,(bU0::b),s⟩) (λa=>k (.exit 0) ⟨gp [(0,pS a),(1,.ptr 0 0 0)] 82,[bU0],s⟩):=by
 induction n generalizing a n1 n2 with
 | zero=>rfl
 | succ n c=>rw[Ks];simp only[<-c];kernel_rfl
noncomputable def QC(L:Nat)(q:By)(n:Kai R):Option R:=Ks L L q (q.length:Int) 0 (λp=>n ([]:By) ([]:By) 0 ([]:By) 0 0 0 0 0 0 0 0 0 0 ([]:By) 4 (bU0::p)) (λo=>cond (A2 o.length) (vl ((s8 o ([58]:By))).1 λf=>vl (((s8 o ([58]:By))).2).1 λj=>cond (not (((s8 o ([58]:By))).2).2) (n ([]:By) ([]:By) 0 ([]:By) 0 0 0 0 0 0 0 0 0 0 ([]:By) 15 [bU0]) (cond (A2 f.length) (cond (not (Fh f)) (n ([]:By) ([]:By) 0 ([]:By) 0 0 0 0 0 0 0 0 0 0 ([]:By) 15 [bU0]) (cond (A2 f.length) (cond (not (G3 (C5 f))) (n (C5 f) ([]:By) 0 ([]:By) 0 0 0 0 0 0 0 0 0 (-1) j 0 [(bU (C5 f) ([]:By) (0:Int) ([]:By) (0:Int) (0:Int) (0:Int) (0:Int) (0:Int) (0:Int) (0:Int) (0:Int) (0:Int) ((-1):Int) j),(bU (C5 f) ([]:By) (0:Int) ([]:By) (0:Int) (0:Int) (0:Int) (0:Int) (0:Int) (0:Int) (0:Int) (0:Int) (0:Int) ((-1):Int) j)]) (cond (A2 j.length) (vl (Iz j ([47,47]:By)) λe=>cond (not (p5 ([47,47]:By) j)) (n ([]:By) ([]:By) 0 ([]:By) 0 0 0 0 0 0 0 0 0 0 ([]:By) 4 [bU0,(bU (C5 f) ([]:By) (0:Int) ([]:By) (0:Int) (0:Int) (0:Int) (0:Int) (0:Int) (0:Int) (0:Int) (0:Int) (0:Int) ((-1):Int) j)]) (cond (A2 e.length) (cond (DJ ([47,63,35]:By)) (vl (ad9 e ([47,63,35]:By)) λi=>cond (not (ltI i 0)) (cond (L3 0 i e.length) (cond (L3 (↑(j5 (cut e 0 i)):Int) (e.length:Int) e.length) (vl (cut e (↑(j5 (cut e 0 i)):Int) (e.length:Int)) λg=>cond (A2 g.length) (cond (not (p5 ([47]:By) g)) (cond (J1 1 g.length) (vl (([47]:By)++g) λl=>cond (A2 (j5 (C5 f))) (cond (A2 l.length) (cond (A2 (j5 (cut e 0 i))) (cond (((-1):Int)==((-1):Int)) (vl (J2 (C5 f) l (cut e 0 i)) λa=>n (uS a) (uU a) (uK a) (uN a) (uV a) (uA a 0) (uA a 1) (uA a 2) (uA a 3) (uA a 4) (uA a 5) (uA a 6) (uA a 7) (uP a) (uR a) (uE a) [(bQ a),(bU (C5 f) ([]:By) (0:Int) ([]:By) (0:Int) (0:Int) (0:Int) (0:Int) (0:Int) (0:Int) (0:Int) (0:Int) (0:Int) ((-1):Int) l)]) none) none) none) none) none) (cond (A2 (j5 (C5 f))) (cond (A2 g.length) (cond (A2 (j5 (cut e 0 i))) (cond (((-1):Int)==((-1):Int)) (vl (J2 (C5 f) g (cut e 0 i)) λb=>n (uS b) (uU b) (uK b) (uN b) (uV b) (uA b 0) (uA b 1) (uA b 2) (uA b 3) (uA b 4) (uA b 5) (uA b 6) (uA b 7) (uP b) (uR b) (uE b) [(bQ b),(bU (C5 f) ([]:By) (0:Int) ([]:By) (0:Int) (0:Int) (0:Int) (0:Int) (0:Int) (0:Int) (0:Int) (0:Int) (0:Int) ((-1):Int) g)]) none) none) none) none)) none) none) none) (cond (L3 (e.length:Int) (e.length:Int) e.length) (vl (cut e (e.length:Int) (e.length:Int)) λh=>cond (A2 h.length) (cond (not (p5 ([47]:By) h)) (cond (J1 1 h.length) (vl (([47]:By)++h) λm=>cond (A2 (j5 (C5 f))) (cond (A2 m.length) (cond (A2 e.length) (cond (((-1):Int)==((-1):Int)) (vl (J2 (C5 f) m e) λc=>n (uS c) (uU c) (uK c) (uN c) (uV c) (uA c 0) (uA c 1) (uA c 2) (uA c 3) (uA c 4) (uA c 5) (uA c 6) (uA c 7) (uP c) (uR c) (uE c) [(bQ c),(bU (C5 f) ([]:By) (0:Int) ([]:By) (0:Int) (0:Int) (0:Int) (0:Int) (0:Int) (0:Int) (0:Int) (0:Int) (0:Int) ((-1):Int) m)]) none) none) none) none) none) (cond (A2 (j5 (C5 f))) (cond (A2 h.length) (cond (A2 e.length) (cond (((-1):Int)==((-1):Int)) (vl (J2 (C5 f) h e) λd=>n (uS d) (uU d) (uK d) (uN d) (uV d) (uA d 0) (uA d 1) (uA d 2) (uA d 3) (uA d 4) (uA d 5) (uA d 6) (uA d 7) (uP d) (uR d) (uE d) [(bQ d),(bU (C5 f) ([]:By) (0:Int) ([]:By) (0:Int) (0:Int) (0:Int) (0:Int) (0:Int) (0:Int) (0:Int) (0:Int) (0:Int) ((-1):Int) h)]) none) none) none) none)) none) none)) none) none)) none)) none)) none)) none)
def Do9(d:Nat)(s0):evC (Vx L) (d+1) W Y 39 [pS s0] [] s=QC L s0 (λi j l m n o p q r8 r b c e f g h a=>some (.tup [(gU i j l m n o p q r8 r b c e f g),pI h],a,s)):=by refine(evE (fn:=aj8) (by kernel_rfl)).trans ?_;generalize evC (Vx L) d=Q;unfold QC;exact(j8 (by kernel_rfl) ((Bq6 L Q Y s (F0 0 (F5 (Vx L) Q Y (cd [1,1] Cp8) (G1 (Vx L) aj8))) L s0 (s0.length:Int) 0).trans (by kernel_rfl)))
noncomputable def KQ(L:Nat):Cfg:=D0 L [19] (A4 []) [(39,A31)] (A4 [(3,[2,0]),(2,[2,0]),(1,[0,1,3]),(0,[0,1])]) [] (A4 []) (some [2,0]) [] [] []
noncomputable def Ah5(L:Nat)(b:By)(c:Kai R):Option R:=cond (ltI 2048 (b.length:Int)) (c ([]:By) ([]:By) 0 ([]:By) 0 0 0 0 0 0 0 0 0 0 ([]:By) 3 [bU0]) (cond (A2 b.length) (vl (H3 b) λa=>c (uS a) (uU a) (uK a) (uN a) (uV a) (uA a 0) (uA a 1) (uA a 2) (uA a 3) (uA a 4) (uA a 5) (uA a 6) (uA a 7) (uP a) (uR a) (uE a) [(bQ a)]) none)
def Cj0(d:Nat)(s0):evC (KQ L) (d+1) W Y 19 [pS s0] [] s=Ah5 L s0 (λi j l m n o p q r8 r b c e f g h a=>some (.tup [(gU i j l m n o p q r8 r b c e f g),pI h],a,s)):=by refine(evE (fn:=Tryz.f19) (by kernel_rfl)).trans ?_;generalize evC (KQ L) d=Q;unfold Ah5;kernel_rfl
noncomputable def YS(L:Nat):Cfg:=D0 L [73] (A4 []) [(21,Sq),(17,IF),(61,Bt7)] (A4 [(9,[2]),(8,[1,1]),(7,[1,1,28]),(6,[1,1]),(5,[1,1]),(4,[1,1,15]),(3,[1,1]),(2,[2]),(1,[1,5]),(0,[1])]) [21,17,61] (A4 []) (some [2]) [] [] []
noncomputable def Un(L:Nat)(l t:By)(u:Int)(m:By)(n o p q u8 r e f g b:Int)(a:By)(v:By->(List Blk)->Option R):Option R:=cond (not (G3 l)) (cond (J1 l.length 1) (vl (l++[58]) λw=>cond (J1 w.length a.length) (v (w++a) [(bU l t u m n o p q u8 r e f g b a)]) none) none) (cond (J1 l.length 3) (vl (l++[58,47,47]) λc=>cond (not (t==[])) (cond (J1 t.length 1) (vl (t++[64]) λh=>cond (J1 c.length h.length) (cond (A2 m.length) (cond (ltN n 4294967296) (cond (ok8 o p q u8 r e f g) (vl (Y4 (mkH u m n (n8 o p q u8 r e f g))) λj=>cond (J1 (j5 (c++h)) j.length) (cond (b !=((-1):Int)) (cond (Qf b) (cond (J1 1 (j5 (Pv b))) (vl (([58]:By)++(Pv b)) λz=>cond (J1 (j5 ((c++h)++j)) z.length) (vl (((c++h)++j)++z) λA=>cond (J1 A.length a.length) (v (A++a) [(bU l t u m n o p q u8 r e f g b a)]) none) none) none) none) (cond (J1 (j5 ((c++h)++j)) a.length) (vl (((c++h)++j)++a) λx=>v x [(bU l t u m n o p q u8 r e f g b a)]) none)) none) none) none) none) none) none) (cond (A2 m.length) (cond (ltN n 4294967296) (cond (ok8 o p q u8 r e f g) (vl (Y4 (mkH u m n (n8 o p q u8 r e f g))) λd=>cond (J1 c.length d.length) (cond (b !=((-1):Int)) (cond (Qf b) (cond (J1 1 (j5 (Pv b))) (vl (([58]:By)++(Pv b)) λi=>cond (J1 (j5 (c++d)) i.length) (cond (J1 (j5 ((c++d)++i)) a.length) (vl (((c++d)++i)++a) λy=>v y [(bU l t u m n o p q u8 r e f g b a)]) none) none) none) none) (cond (J1 (j5 (c++d)) a.length) (v ((c++d)++a) [(bU l t u m n o p q u8 r e f g b a)]) none)) none) none) none) none)) none)
def C44(d:Nat)(u0 u1 u2 u3 u4 u5 u6 u7 u8 u9 u10 u11 u12 u13 u14):evC (YS L) (d+1) W Y 73 [(gU u0 u1 u2 u3 u4 u5 u6 u7 u8 u9 u10 u11 u12 u13 u14)] [] s=Un L u0 u1 u2 u3 u4 u5 u6 u7 u8 u9 u10 u11 u12 u13 u14 (λb a=>some (pS b,a,s)):=by refine(evE (fn:=Tryz.f73) (by kernel_rfl)).trans ?_;generalize evC (YS L) d=Q;unfold Un;kernel_rfl
noncomputable def CP(L:Nat):Cfg:=D0 L [42] (A4 []) [(73,Bv4),(39,A31)] (A4 [(2,[2]),(1,[1,1,0]),(0,[1])]) [73] (A4 []) (some [2]) [] [] []
noncomputable def HW(L:Nat)(h i:By)(q:Int)(j:By)(l m n o u8 p b c d e:Int)(f:By)(r:Bool->(List Blk)->Option R):Option R:=cond (smU h i j f) (cond (ltN l 4294967296) (cond (ok8 m n o u8 p b c d) (cond (Qf e) (vl (Gn (mkU h i q j l (n8 m n o u8 p b c d) e f)) λg=>cond (A2 g.length) (vl (H3 g) λa=>cond ((uE a)==0) (r ((h==(uS a))&&((i==(uU a))&&((q==(uK a))&&((j==(uN a))&&((l==(uV a))&&((m==(uA a 0))&&((n==(uA a 1))&&((o==(uA a 2))&&((u8==(uA a 3))&&((p==(uA a 4))&&((b==(uA a 5))&&((c==(uA a 6))&&((d==(uA a 7))&&((e==(uP a))&&((f==(uR a))&&true))))))))))))))) [(bU h i q j l m n o u8 p b c d e f),(bQ a)]) (r false [(bU h i q j l m n o u8 p b c d e f),(bQ a)])) none) none) none) none) none
def Br1(d:Nat)(u0 u1 u2 u3 u4 u5 u6 u7 u8 u9 u10 u11 u12 u13 u14):evC (CP L) (d+1) W Y 42 [(gU u0 u1 u2 u3 u4 u5 u6 u7 u8 u9 u10 u11 u12 u13 u14)] [] s=HW L u0 u1 u2 u3 u4 u5 u6 u7 u8 u9 u10 u11 u12 u13 u14 (λb a=>some (pB b,a,s)):=by refine(evE (fn:=Tryz.f42) (by kernel_rfl)).trans ?_;generalize evC (CP L) d=Q;unfold HW;kernel_rfl
end
end
end Go.Proofs.YtddlcgjamdbinaaGreatDoor.E
