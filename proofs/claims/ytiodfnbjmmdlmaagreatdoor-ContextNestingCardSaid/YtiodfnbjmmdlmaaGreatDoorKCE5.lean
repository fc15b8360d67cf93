/-
  Parts of the proof, merged by a program of the prover's own; no condition.
-/
import Derived.Test.YtiodfnbjmmdlmaaGreatDoorKCE4
import Derived.Lib.SlicesCompact
import Derived.Lib.TrimUEq
import Derived.Lib.ValidLaws
open Int renaming toNat_natCast->c8,toNat->k9,eq_ofNat_of_zero_le->v7,add->aa9,tdiv->ad3,tmod->ae5,mul_nonneg->ag1
open Bool renaming not_true->c9,not_false->j1,and_eq_true->o5,eq_false_iff->x4,eq_iff_iff->x7,true_and->x9,false_eq_true->aa0,and_true->aa7,false_or->aa8,true_or->ab7,false_and->ab9,or_eq_false_iff->ad2,or_false->ae0,not_eq_true'->ae2,not_eq_true->af0
open List renaming length_cons->j0,length->j2,length_append->j4,drop_of_length_le->j6,length_drop->j7,map->j8,drop_zero->o7,getD_eq_getElem?_getD->o8,length_eq_zero_iff->o9,length_map->p7,length_nil->p9,length_take->s8,all->w7,countP_le_length->w8,map_cons->w9,append_assoc->x5,nil_append->x8,all_cons->y7,getElem?_eq_getElem->y8,length_pos_iff->y9,isEmpty->aa1,append_nil->aa3,any_cons->aa5,all_eq_true->aa6,flatMap_cons->ab0,cons_append->ab3,getD_cons_zero->ab5,map_congr_left->ab6,map_map->ab8,countP_cons_of_neg->ac3,getElem?_cons_zero->ac4,isEmpty_iff->ac5,take_length->ac6,foldl_cons->ac7,isPrefixOf->ac8,map_append->ac9,length_singleton->ad1,getD->ad7,countP_pos_iff->ad9,sum_cons->ae1,all_map->ae8,map_nil->ae9,isEmpty_nil->af2,not_mem_nil->af3,append->af8,drop_drop->ag4,map_id''->ah0,mem_cons->ah1,drop->ah2,map_id->ai0
open Eq renaming trans->j5
open Option.some renaming injEq->j9
open Exists renaming intro->o0
open Nat renaming ble->o6,ble_eq->w6,ble_eq_true_of_le->ab1,le_of_ble_eq_true->ab2,le_refl->ab4,div_le_self->ad0,mul_le_mul->ad6,min_eq_left->ag0,mod_lt->ag5,le_trans->ah6,pow_succ->ah7,zero_add->ah8
open Go.Fn renaming func->s9
open UInt8 renaming ofNat->v8,toNat->ai5
open Go.Lib renaming decodeL->x6,indexByte->y5,compact->z7,compactUpTo->aa2,decodeL_drop->ac2,compactUpTo_succ->ad4,join->ad5,decodeL_ascii->ae6,runeCountFrom->ae7,keeps->af1,decodeN->af7,decodeL_le->ag2,runeCountL->ag3,decodeL_N->ag9,validGoD->ah5
open Option renaming map_some->aa4,isSome_map->ac1,bind_some->af4,getD_some->af5
open Classical renaming byContradiction->ac0,not_not->ae3
open Go.Proofs.Tryz renaming f112->ad8,f113->af6,f11->ag6,f38->ag7,f40->ag8,f131->ah3,f144->ah4,f17->ai3,f93->ai4,f4->ai6
open Function renaming comp_def->ae4
open Go.Utf8 renaming decode->af9
open BEq renaming comm->ah9
namespace Go.Proofs.YtiodfnbjmmdlmaaGreatDoor.E
set_option linter.all false
section
open Go Go.Proofs
set_option maxRecDepth 100000
section
variable {W R : Type} (L : Nat) (Y : E3) (Q : Yh W) (s : W) (k : Out -> St W -> Option R)
noncomputable def Ad6(L:Nat):Cfg:=D1 L [146] (A3 []) [] (A3 [(2,[2]),(1,[1,1]),(0,[1])]) [] (A3 []) (some [2]) [] [] []
noncomputable def Cl0{R:Type}(L:Nat)(b:Int)(a:Int->Option R):Option R:=a b
theorem B95(d:Nat)(b):evC (Ad6 L) (d+1) W Q 146 [pI b] [] s=Cl0 L b (λn0=>some (.fnr (s9 156) [] [.ptr 1 0 0,.ptr 0 0 0],[.box [pI n0],.box [pI (0:Int)]],s)):=by refine(evE (fn:=Tryz.f146) (by kernel_rfl)).trans ?_;generalize evC (Ad6 L) d=Y;unfold Cl0;kernel_rfl
noncomputable def NT(L:Nat):Cfg:=D1 L [156] (A3 []) [] (A3 [(2,[2]),(1,[0,0]),(0,[0,0])]) [] (A3 []) (some [2]) [] [] []
noncomputable def Ax9{R:Type}(L:Nat)(k b:Int)(d:Int->Int->Int->Option R):Option R:=vl (A4 ((A4 (k+36))-b)) λa=>vl (if ((26:Int)<(if ((1:Int) > a) then (1:Int) else a)) then (26:Int) else (if ((1:Int) > a) then (1:Int) else a)) λc=>d c (A4 (k+36)) b
theorem Bq1(d:Nat)(k b):evC (NT L) (d+1) W Q 156 [.ptr 0 0 0,.ptr 1 0 0] [.box [pI k],.box [pI b]] s=Ax9 L k b (λe a c=>some (pI e,[.box [pI a],.box [pI c]],s)):=by refine(evE (fn:=Tryz.f156) (by kernel_rfl)).trans ?_;generalize evC (NT L) d=Y;unfold Ax9;kernel_rfl
noncomputable abbrev Ch7:Code:=E5 ah3
noncomputable def Vj(L:Nat):Cfg:=D1 L [131] (A3 [(2,[0,0,4,0])]) [(146,BF),(147,Aa0)] (A3 [(6,[0,0,5]),(5,[0,0,5,0]),(4,[6]),(3,[0,0,5,0,6]),(2,[0,0,5,0]),(1,[0,0,5]),(0,[0,0,0])]) [147] (A3 [(0,[6]),(1,[0,0,5])]) (some [6]) [(156,Nf)] [] [156]
noncomputable def Gv{R:Type}(L n:Nat)(f:Int)(p:Bool)(g:LL)(a b:Int)(o:Bool->LL->Int->Int->Option R):Option R:=match n with|0=>none|n+1=>cond (ltN b 1000000000000) (cond (ltN a 1000000) (cond (ltI f (Y9 b a)) (cond (ltN f 36) (vl (↑(ai5 (Mc (k9 f))):Int) λh=>cond (I4 (g.length+1)) (o p (g++[[(SV.int .u8 h)]]) a (aa9 b (36:Int))) none) none) (vl (A4 (f-(Y9 b a))) λi=>vl (A4 ((36:Int)-(Y9 b a))) λc=>cond (c !=0) (vl (A4 ((Y9 b a)+(ae5 i c))) λd=>cond (ltN d 36) (vl (↑(ai5 (Mc (k9 d))):Int) λj=>cond (I4 (g.length+1)) (vl (A4 (f-(Y9 b a))) λl=>vl (A4 ((36:Int)-(Y9 b a))) λe=>cond (e !=0) (vl (A4 (ad3 l e)) λm=>Gv L n m p (g++[[(SV.int .u8 j)]]) a (aa9 b (36:Int)) o) none) none) none) none)) none) none
theorem Al4(n q0 z1 l2 a n4):G1 3 ((Vj L).keep 2) (bd (Vj L) Y Q (cd [1,1,0,0] Ch7)) n ⟨gp [(0,.fl 0),(0,pI q0),(5,.fnr (s9 156) [] [.ptr 2 0 0,.ptr 1 0 0])] 31,[.arr z1 5 1 l2,.box [pI a],.box [pI n4]],s⟩ k =
 Gv L n q0 z1 l2 a n4 (λe c d a=>k .ret ⟨gp [(6,.fl 0)] 32,[.arr e 5 1 c,.box [pI d],.box [pI a]],s⟩):=by
 induction n generalizing q0 z1 l2 a n4 with
 | zero=>rfl
 | succ n b=>rw[Gv];simp only[<-b];kernel_rfl
noncomputable def Ck7{R:Type}(L:Nat)(q b:Int)(z:Bool)(l:LL)(f:Bool->LL->Int->Int->Option R):Option R:=Gv L L q z l b 0 (λe a c d=>f e a c d)
theorem B84(d:Nat)(q b z l):evC (Vj L) (d+1) W Q 131 [.fl 0,pI q,pI b] [.arr z 5 1 l] s=Ck7 L q b z l (λf a c e=>some (.fl 0,[.arr f 5 1 a,.box [pI c],.box [pI e]],s)):=by refine(evE (fn:=ah3) (by kernel_rfl)).trans ?_;generalize evC (Vj L) d=Y;unfold Ck7;exact(j5 (by kernel_rfl) ((Al4 L Y Q s (I1 0 (I6 (Vj L) ah3)) L q z l b 0).trans (by kernel_rfl)))
noncomputable abbrev Ct:Code:=E5 af6
noncomputable def N3(L:Nat):Cfg:=D1 L [113] (A3 [(29,[0,1,0,0,2,0,0,0,0,61,0,0]),(21,[0,1,0,0,2,0,0,0,0,0,38,0,0]),(17,[0,1,0,0,2,0,0,0,0]),(5,[0,1,0,0,15,0,0])]) [(130,Li),(132,Lh)] (A3 [(40,[2,0]),(18,[0,3,2,0,0,0,0]),(39,[0,3,2,0,0,0,0]),(38,[0,3,2,0,0,0,0,61,0,0]),(32,[0,3,2,0,0,0,0,61,0,0]),(37,[0,3,2,0,0,0,0,61,0,0]),(36,[0,3,2,0,0,0,0,61,0,0]),(35,[0,3,2,0,1,0,61,0,0]),(34,[0,3,2,0,0,1,61,0,0]),(33,[0,3,2,0,0,0,0,61,0,0,9]),(31,[0,3,2,0,0,0,0,4,56,0,0,3]),(30,[0,3,2,0,0,0,0,4,56,0,0]),(29,[0,3,2,0,0,0,0,61,0,0,0]),(28,[0,3,2,0,0,0,0,61,0,0]),(27,[0,3,2,0,0,0,0]),(26,[0,3,2,1,0,0,0]),(25,[0,3,2,0,0,0,0,0,38,0,0]),(24,[0,3,2,0,0,0,0,0,38,0,0]),(23,[0,3,2,0,0,0,0,0,1,36,0,0,5]),(22,[0,3,2,0,0,0,0,0,1,36,0,0]),(21,[0,3,2,0,0,0,0,0,38,0,0,0]),(20,[0,3,2,0,0,0,0,0,38,0,0]),(19,[0,3,2,0,0,0,0,0]),(17,[0,3,2,0,0,0,0,36]),(16,[0,3,2,0,0,0,0]),(15,[0,3,2,0,0,0]),(14,[0,3,2]),(13,[0,3,2,32]),(12,[0,3,2]),(11,[0,3,15,0,0]),(10,[0,3,15,0,0]),(9,[0,3,1,13,0,0,7]),(8,[2,0]),(7,[0,3,1,13,0,0,5]),(6,[0,3,1,13,0,0]),(5,[0,3,15,0,0,0]),(4,[0,3,15,0,0]),(3,[0,3]),(2,[2,0]),(1,[0,18]),(0,[0])]) [130,132] (A3 [(2,[4]),(3,[0,3,2,0,0,0,0]),(6,[0,3,2,0,0,0,0]),(7,[0,3,2,0,0,0,0,61,0,0]),(8,[0,3,2,0,0,0,0,61,0,0]),(4,[0,3,2,0,0,0,0,0]),(5,[0,3,2,0,0,0,0,0,38,0,0]),(0,[0,3]),(1,[0,3,15,0,0])]) (some [2,0]) [(131,MA)] [] [131]
noncomputable def S7{R:Type}(L n:Nat)(c b:Bool)(a:LL)(i e:Int)(f:LL)(g:LL->Option R)(h:Bool->Bool->LL->LL->Option R):Option R:=match n with|0=>none|n+1=>cond (ltI e i) (cond (inR e a.length) (cond (okE Ap7 a (k9 e) 0) (vl (gE a (k9 e) 0) λd=>cond (not (ptI d)) (g f) (cond (ltI d 128) (cond (I4 (f.length+1)) (S7 L n c b a i (A4 (e+1)) (f++[[(SV.int .u8 (wu8 d))]]) g h) none) (S7 L n c b a i (A4 (e+1)) f g h))) none) none) (h c b a f)
theorem Am4(n b a c n3 n4 l5):G1 1 ((N3 L).keep 5) (bd (N3 L) Y Q (cd [1,1,1,0,1,0,0] Ct)) n ⟨gp [(0,.s (.sl b a 1 c)),(3,.fl 0),(15,.s (.sl b a 1 c)),(0,pI n3),(0,pI n4)] 84,[.arr true 5 1 l5],s⟩ k =
 S7 L n b a c n3 n4 l5 (λe=>k .ret ⟨gp [(2,pS ([]:List UInt8)),(0,pI (2:Int))] 103,[.arr true 5 1 e],s⟩) (λb a c f=>k (.exit 0) ⟨gp [(0,.s (.sl b a 1 c)),(3,.fl 0)] 102,[.arr true 5 1 f],s⟩):=by
 induction n generalizing b a c n3 n4 l5 with
 | zero=>rfl
 | succ n d=>rw[S7];simp only[<-d];kernel_rfl
noncomputable def Gy{R:Type}(L n:Nat)(c b:Bool)(a:LL)(d o e f g m q h:Int)(i:LL)(p:Bool->Bool->LL->Int->Int->Int->Int->Int->Int->LL->Option R):Option R:=match n with|0=>none|n+1=>cond (ltI h q) (cond (inR h a.length) (cond (okE Ap7 a (k9 h) 0) (vl (gE a (k9 h) 0) λj=>cond (not (ltI j o)) (vl (if (j<m) then j else m) λl=>Gy L n c b a d o e f g l q (A4 (h+1)) i p) (Gy L n c b a d o e f g m q (A4 (h+1)) i p)) none) none) (p c b a d o e f g m i)
theorem Am5(n b a c d i e f g h n9 n10 l11):G1 1 ((N3 L).keep 21) (bd (N3 L) Y Q (cd [1,1,1,1,1,1,1,0,1,0,0,1,0,0,1,0,1,0,0] Ct)) n ⟨gp [(0,.s (.sl b a 1 c)),(3,.fl 0),(2,pI d),(0,pI i),(0,pI e),(0,pI f),(0,pI g),(0,pI h),(38,.s (.sl b a 1 c)),(0,pI n9),(0,pI n10)] 53,[.arr true 5 1 l11],s⟩ k =
 Gy L n b a c d i e f g h n9 n10 l11 (λb a c d i e f g h l=>k (.exit 4) ⟨gp [(0,.s (.sl b a 1 c)),(3,.fl 0),(2,pI d),(0,pI i),(0,pI e),(0,pI f),(0,pI g),(0,pI h)] 94,[.arr true 5 1 l],s⟩):=by
 induction n generalizing b a c d i e f g h n9 n10 l11 with
 | zero=>rfl
 | succ n j=>rw[Gy];simp only[<-j];kernel_rfl
noncomputable def Al{R:Type}(L n:Nat)(d c:Bool)(a:LL)(e o b g f j m:Int)(h:LL)(u:Bool->Bool->LL->Int->Int->Int->Int->Int->LL->Option R):Option R:=match n with|0=>none|n+1=>cond (ltI m j) (cond (inR m a.length) (cond (okE Ap7 a (k9 m) 0) (vl (gE a (k9 m) 0) λl=>cond (ltI l o) (vl (A4 (b+1)) λq=>Al L n d c a e o q g f j (A4 (m+1)) h u) (cond (l==o) (cond (ltN b 1152921504606846976) (cond (ltN g 1000000) (cond (o6 h.length 100000) (vl (af8 h (j8 H7 (T7 (k9 b) 0 (k9 g)))) λp=>vl (A4 (f+1)) λi=>cond (ltN b 1152921504606846976) (cond (ltN i 1000000) (cond (ltI 0 i) (vl (↑(Ex (k9 b) (k9 i) (f==e)):Int) λr=>vl (A4 (f+1)) λt=>Al L n d c a e o 0 r t j (A4 (m+1)) p u) none) none) none) none) none) none) (Al L n d c a e o b g f j (A4 (m+1)) h u))) none) none) (u d c a e o b g f h)
theorem Am6(n b a c d h e f g n8v n9 l10):G1 1 ((N3 L).keep 29) (bd (N3 L) Y Q (cd [1,1,1,1,1,1,1,0,1,0,0,1,0,0,1,1,1,1,0,1,0,0] Ct)) n ⟨gp [(0,.s (.sl b a 1 c)),(3,.fl 0),(2,pI d),(0,pI h),(0,pI e),(0,pI f),(0,pI g),(61,.s (.sl b a 1 c)),(0,pI n8v),(0,pI n9)] 31,[.arr true 5 1 l10],s⟩ k =
 Al L n b a c d h e f g n8v n9 l10 (λb a c d h e f g j=>k (.exit 6) ⟨gp [(0,.s (.sl b a 1 c)),(3,.fl 0),(2,pI d),(0,pI h),(0,pI e),(0,pI f),(0,pI g)] 95,[.arr true 5 1 j],s⟩):=by
 induction n generalizing b a c d h e f g n8v n9 l10 with
 | zero=>rfl
 | succ n i=>rw[Al];simp only[<-i];kernel_rfl
noncomputable def Dq{R:Type}(L n:Nat)(j i:Bool)(b:LL)(v K w y u:Int)(J:LL)(I:LL->Option R):Option R:=match n with|0=>none|n+1=>cond (ltI u (b.length:Int)) (Gy L L j i b v K w y u 1114112 (b.length:Int) 0 J (λe c a l B o q g x z=>vl (A4 (g+1)) λC=>vl (A4 ((A4 (x-B))*C)) λD=>Al L L e c a l x (A4 (o+D)) q g (a.length:Int) 0 z (λf d h m F p r t A=>vl (A4 (p+1)) λG=>vl (A4 (F+1)) λH=>Dq L n f d h m H G r t A I))) (I J)
theorem FC(n points_z0 points_t1 points2 basic3 n4 delta5 bias6 done7 l8):G1 1 ((N3 L).keep 17) (bd (N3 L) Y Q (cd [1,1,1,1,1,1,1,0,1,0,0] Ct)) n ⟨gp [(0,.s (.sl points_z0 points_t1 1 points2)),(3,.fl 0),(2,pI basic3),(0,pI n4),(0,pI delta5),(0,pI bias6),(0,pI done7)] 95,[.arr true 5 1 l8],s⟩ k =
 Dq L n points_z0 points_t1 points2 basic3 n4 delta5 bias6 done7 l8 (λB=>k (.exit 2) ⟨gp [(4,.fl 0)] 102,[.arr true 5 1 B],s⟩):=by
 induction n generalizing points_z0 points_t1 points2 basic3 n4 delta5 bias6 done7 l8 with
 | zero=>rfl
 | succ n A=>rw[Dq];exact(j5 (by kernel_rfl) (A0 ((Am5 L Y Q s (I1 4 (J0 (N3 L) Y Q (cd [1,1,1,1,1,1,1,0,1,0,0,1,0,0,1,1] Ct) (I1 3 (J0 (N3 L) Y Q (cd [1,1,1,1,1,1,1,0,1,0,0,1,1] Ct) (lpK 1 ((N3 L).keep 17) (bd (N3 L) Y Q (cd [1,1,1,1,1,1,1,0,1,0,0] Ct)) n k))))) L points_z0 points_t1 points2 basic3 n4 delta5 bias6 done7 1114112 (points2.length:Int) 0 l8).trans (congr rfl (Cu0 λd b a g x i j m t q=>(j5 (by kernel_rfl) (A5 λy=>(A5 λu=>((Am6 L Y Q s (I1 6 (J0 (N3 L) Y Q (cd [1,1,1,1,1,1,1,0,1,0,0,1,0,0,1,1,1,1,1] Ct) (I1 3 (J0 (N3 L) Y Q (cd [1,1,1,1,1,1,1,0,1,0,0,1,1] Ct) (lpK 1 ((N3 L).keep 17) (bd (N3 L) Y Q (cd [1,1,1,1,1,1,1,0,1,0,0] Ct)) n k))))) L d b a g t (A4 (i+u)) j m (a.length:Int) 0 q).trans (congr rfl (fx9 λe c f h z p l o r=>(j5 (by kernel_rfl) (A5 λv=>(A5 λw=>(A e c f h w v l o r))))))))))))) rfl))
noncomputable def XQ{R:Type}(L:Nat)(l j:Bool)(p:LL)(m:Unit->Option R)(h:By->Int->LL->Option R):Option R:=cond (ltI 256 (p.length:Int)) (m ()) (S7 L L l j p (p.length:Int) 0 [] (λi=>h ([]:List UInt8) 2 i) (λb a c g=>vl (g.length:Int) λf=>cond (ltI 0 f) (cond (I4 (g.length+1)) (Dq L L b a c f 128 0 72 f (g++[[(SV.int .u8 (45:Int))]]) (λd=>cond (w7 d DY) (h (j8 Zd d) 0 d) none)) none) (Dq L L b a c f 128 0 72 f g (λe=>cond (w7 e DY) (h (j8 Zd e) 0 e) none))))
theorem B89(d:Nat)(p_z p_t p):evC (N3 L) (d+1) W Q 113 [.s (.sl p_z p_t 1 p)] [] s=XQ L p_z p_t p (λ_=>some (.tup [pS ([]:List UInt8),pI (3:Int)],[],s)) (λi j h=>some (.tup [pS i,pI j],[.arr true 5 1 h],s)):=by refine(evE (fn:=af6) (by kernel_rfl)).trans ?_;generalize evC (N3 L) d=Y;unfold XQ;exact let g:=(I1 2 (J0 (N3 L) Y Q (cd [1,1,1,1,1,1,1,1] Ct) (I6 (N3 L) af6)));(j5 (by kernel_rfl) (A0 rfl ((Am4 L Y Q s (I1 0 (J0 (N3 L) Y Q (cd [1,1,1,1] Ct) (I6 (N3 L) af6))) L p_z p_t p (p.length:Int) 0 []).trans (congr (congr rfl (by kernel_rfl)) (fx4 λb a c f=>(j5 (by kernel_rfl) (A5 λe=>(A0 (A0 ((FC L Y Q s g L b a c e 128 0 72 e (f++[[(SV.int .u8 (45:Int))]])).trans (by kernel_rfl)) rfl) ((FC L Y Q s g L b a c e 128 0 72 e f).trans (by kernel_rfl))))))))))
end
theorem FZ(k b:Nat):Y9 ((36*k:Nat):Int) (b:Int)=(thr k b:Int):=by unfold Y9 thr;omega
theorem Ba1{R:Type}{a:Int->Option R}(b:Int):Cl0 LF b a=a b:=rfl
theorem An0{R:Type}{a:Int->Int->Int->Option R}(k b:Int)(e:ltN k 1000000000000=true)(f:ltN b 1000000=true):Ax9 LF k b a=a (Y9 k b) (aa9 k 36) b:=by
 obtain⟨g,h⟩:=E8.1 e;obtain⟨i,j⟩:=E8.1 f;unfold Ax9;have c:A4 (k+36)=k+36:=C0;have d:A4 (k+36-b)=k+36-b:=C0;simp only[vl,c,d];have:(if (26:Int)<(if (1:Int) > k+36-b then (1:Int) else k+36-b) then (26:Int) else (if (1:Int) > k+36-b then (1:Int) else k+36-b))=Y9 k b:=by
  unfold Y9;omega
 grind
theorem Vw{q k b:Nat}(h:q<thr k b):T7 q k b=[Mc q]:=by rw[T7,dif_pos h]
theorem IM{q k b:Nat}(h:¬q<thr k b):T7 q k b=Mc (thr k b+(q-thr k b) % (36-thr k b))::T7 ((q-thr k b) / (36-thr k b)) (k+1) b:=by rw[T7,dif_neg h]
theorem Au9{x y m:Nat}(a:10<=y)(h:x<10*m):x / y<m:=by have b:x / y<=x / 10:=Nat.div_le_div_left a (by omega);omega
theorem Af4(b:Nat):∀(r q k:Nat),q<10 ^ r->(T7 q k b).length<=r+1:=by
 intro r
 induction r with
 | zero=>
  intro q k h;have c:=Bt k b;rw[Vw (by simp at h;omega)];simp
 | succ r d=>
  intro q k h;have c:=Bt k b;by_cases a:q<thr k b
  ·rw[Vw a];simp
  ·rw[IM a,j0];have:=d ((q-thr k b) / (36-thr k b)) (k+1) (Au9 (by omega) (by rw[ah7] at h;omega));omega
theorem A87(z:Bool)(b:Nat)(K:b<1000000):∀(r q k n:Nat) (l:LL),q<10 ^ r->q<1152921504606846976->k+r<=1000->r<n->l.length+r<=200000->
  ∃(d f:Int),∀(R:Type) (a:Bool->LL->Int->Int->Option R),Gv LF n (q:Int) z l (b:Int) ((36*k:Nat):Int) a=a z (l++(T7 q k b).map H7) d f:=by
 have c:∀(q k n:Nat) (l:LL),q<thr k b->k<=1000->l.length<=200000->∃(d f:Int),∀(R:Type) (a:Bool->LL->Int->Int->Option R),Gv LF (n+1) (q:Int) z l (b:Int) ((36*k:Nat):Int) a=a z (l++(T7 q k b).map H7) d f:=by
  intro q k n l g i j;have p:=Bt k b;refine⟨(b:Int),aa9 ((36*k:Nat):Int) 36,λR a=>?_⟩;rw[Gv];rw[Ay,Ay,FZ,C7,Ay,Vw g];simp only[vl,cond_true,c8];rw[I7 (by omega)];rfl
 intro r
 induction r with
 | zero=>
  intro q k n l h _ i H j;have p:=Bt k b;obtain⟨n,rfl⟩:∃m,n=m+1:=⟨n-1,by omega⟩
  exact c q k n l (by simp at h;omega) (by omega) (by omega)
 | succ r I=>
  intro q k n l h o i H j;have p:=Bt k b;obtain⟨n,rfl⟩:∃m,n=m+1:=⟨n-1,by omega⟩
  by_cases g:q<thr k b
  ·exact c q k n l g (by omega) (by omega)
  ·have D:(q-thr k b) / (36-thr k b)<10 ^ r:=Au9 (by omega) (by rw[ah7] at h;omega);have F:(q-thr k b) / (36-thr k b)<=q:=ah6 (ad0 _ _) (by omega);have G:(q-thr k b) % (36-thr k b)<36-thr k b:=ag5 _ (by omega);obtain⟨d,f,e⟩:=I ((q-thr k b) / (36-thr k b)) (k+1) n (l++[H7 (Mc (thr k b+(q-thr k b) % (36-thr k b)))]) D (by omega) (by omega) (by omega) (by rw[j4,ad1];omega);refine⟨d,f,λR a=>?_⟩;rw[Gv];have t:A4 ((q:Int)-(thr k b:Int))=((q-thr k b:Nat):Int):=by rw[C0];omega
   have u:A4 ((36:Int)-(thr k b:Int))=((36-thr k b:Nat):Int):=by rw[C0];omega
   have v:ae5 ((q-thr k b:Nat):Int) ((36-thr k b:Nat):Int)=(((q-thr k b) % (36-thr k b):Nat):Int):=GB _ _;have w:ad3 ((q-thr k b:Nat):Int) ((36-thr k b:Nat):Int)=(((q-thr k b) / (36-thr k b):Nat):Int):=Ar _ _;have C:((((36-thr k b:Nat):Int))!=0)=true:=by rw[bne_iff_ne];omega
   rw[Ay,Ay,FZ,A8];simp only[vl,t,u,v,w,C,cond_true,cond_false];rw[IM g];generalize hA:(q-thr k b) / (36-thr k b)=A at *;generalize J:(q-thr k b) % (36-thr k b)=B at *;have x:A4 ((thr k b:Int)+(B:Int))=((thr k b+B:Nat):Int):=by rw[C0];rfl
   have y:A4 (A:Int)=(A:Int):=C0;rw[x,y,Ay,I7 (by omega),c8,show aa9 ((36*k:Nat):Int) 36=((36*(k+1):Nat):Int) from(by show((36*k:Nat):Int)+36=_;omega)];refine j5 (e R a) ?_;simp[x5]
theorem A88(q b:Int)(z:Bool)(l:LL)(h:ltN q 1152921504606846976=true)(i:ltN b 1000000=true)(j:o6 l.length 100000=true) :
  ∃(c d:Int),∀(R:Type) (a:Bool->LL->Int->Int->Option R),Ck7 LF q b z l a=a z (af8 l ((T7 q.toNat 0 b.toNat).map H7)) c d:=by
 obtain⟨f,m⟩:=E8.1 h;obtain⟨g,n⟩:=E8.1 i;obtain⟨q,rfl⟩:=v7 f;obtain⟨b,rfl⟩:=v7 g;have o:=ab2 j;have k:=G3;obtain⟨c,d,e⟩:=A87 z b (by omega) 19 q 0 LF l (by omega) (by omega) (by omega) (by omega) (by omega);exact⟨c,d,λR a=>e R _⟩
def Io(l:List Int):LL:=l.map λx=>[SV.int .i64 x]
def I3(l:List Nat):LL:=l.map λx:Nat=>[SV.int .i64 (x:Int)]
theorem Wk(l:List Nat):Io (l.map λn:Nat=>(n:Int))=I3 l:=by simp[Io,I3,ae4]
theorem Ip(l:List Int):(Io l).length=l.length:=by simp[Io]
theorem N8(l:List Nat):(I3 l).length=l.length:=by simp[I3]
theorem XD(a b:List Nat):I3 (a++b)=I3 a++I3 b:=by simp[I3]
theorem Ax3{l:List Int}{i:Nat}(h:i<l.length):okE Ap7 (Io l) i 0=true:=by unfold okE Io Ap7;simp[o8,h,okS,SV.has]
theorem Bl4(l:List Int)(i:Nat)(h:i<l.length):gE (Io l) i 0=l.getD i 0:=by unfold gE gC Io;simp[o8,y8 h,SV.gI]
theorem QL{l:List Nat}{i:Nat}(h:i<l.length):okE Ap7 (I3 l) i 0=true:=by rw[<-Wk];exact Ax3 (by simpa using h)
theorem Ag1(l:List Nat)(i:Nat)(h:i<l.length):gE (I3 l) i 0=(l.getD i 0:Int):=by rw[<-Wk,Bl4 _ _ (by simpa using h)];grind
theorem B48{l:LL}(h:l.all Xw=true):∃P:List Int,l=Io P:=by
 induction l with
 | nil=>exact⟨[],rfl⟩
 | cons x r b=>
  simp only[y7,o5] at h;obtain⟨P,rfl⟩:=b h.2;have a:=h.1;unfold Xw at a;split at a
  ·rename_i n;exact⟨n::P,rfl⟩
  ·cases a
theorem Bk6(P:List Int):(Io P).map elI=P:=by
 unfold Io;rw[ab8]
 conv=>rhs;rw[<-ai0 P]
 apply ab6;intro x _;simp[elI,SV.gI]
theorem Bk4(l:List Int)(i:Nat)(h:i<l.length):l.drop i=l.getD i 0::l.drop (i+1):=by simp_all
theorem VD(l:List Nat)(i:Nat)(h:i<l.length):l.drop i=l.getD i 0::l.drop (i+1):=by simp_all
theorem Bz3:∀(r d k:Nat),d<456*35 ^ r->BY d k<=k+36*r+36:=by
 intro r
 induction r with
 | zero=>
  intro d k h;rw[BZ (by simp at h;omega)];have:36*d / (d+38)<=36:=by
   apply Nat.div_le_of_le_mul;omega
  omega
 | succ r b=>
  intro d k h;by_cases a:455<d
  ·rw[TO a];grind
  grind
theorem TP(d c:Nat)(f:Bool)(h:d<1152921504606846976):Ex d c f<=500:=by
 unfold Ex;have a:∀x:Nat,x<=d->BY (x+x / c) 0<=500:=by
  intro x a;have:=ad0 x c;have:=Bz3 11 (x+x / c) 0 (by omega);omega
 grind
theorem A31{q k b:Nat}(h:q<1152921504606846976):(T7 q k b).length<=20:=Af4 b 19 q k (by omega)
theorem Ax7(z t:Bool)(c:List Nat)(a m:Nat)(Q:m<=1114112)(P:c.length<=256):∀(r i n:Nat) (s:ZP),i+r=c.length->r<n->s.delta+r<=1000000000000->s.bias<=500->s.out.length+20*r<=90000->s.done+r<=1000->a<=256->
  (∀(R:Type) (d:Bool->Bool->LL->Int->Int->Int->Int->Int->LL->Option R),Al LF n z t (I3 c) (a:Int) (m:Int) (s.delta:Int) (s.bias:Int) (s.done:Int) (c.length:Int) (i:Int) (s.out.map H7) d =
   d z t (I3 c) (a:Int) (m:Int) ((O7 m a (c.drop i) s).delta:Int) ((O7 m a (c.drop i) s).bias:Int) ((O7 m a (c.drop i) s).done:Int) ((O7 m a (c.drop i) s).out.map H7))/\
  (O7 m a (c.drop i) s).bias<=500/\(O7 m a (c.drop i) s).out.length<=s.out.length+20*(c.drop i).countP (· == m)/\(O7 m a (c.drop i) s).done=s.done+(c.drop i).countP (· == m)/\
  (O7 m a (c.drop i) s).delta<=(if 0<(c.drop i).countP (· == m) then r else s.delta+r):=by
 intro r
 induction r with
 | zero=>
  intro i n s N O K x L M y;obtain⟨n,rfl⟩:∃m,n=m+1:=⟨n-1,by omega⟩
  rw[j6 (by omega)];refine⟨λR d=>?_,x,by simp[O7],by simp[O7],by simp[O7]⟩;rw[Al];rw[A8];rfl
 | succ r F=>
  intro i n s N O K x L M y;obtain⟨n,rfl⟩:∃m,n=m+1:=⟨n-1,by omega⟩
  rw[VD c i (by omega)];have C:=Ag1 c i (by omega);have ok:=QL (l:=c) (i:=i) (by omega);generalize c.getD i 0=p at *;have A:A4 ((i:Int)+1)=((i+1:Nat):Int):=by rw[C0];rfl
  have I:A4 ((s.delta:Int)+1)=((s.delta+1:Nat):Int):=by rw[C0];rfl
  have J:A4 ((s.done:Int)+1)=((s.done+1:Nat):Int):=by rw[C0];rfl
  by_cases D:p<m
  ·have e:(p==m)=false:=by rw[beq_eq_false_iff_ne];omega
   have j:O7 m a (p::c.drop (i+1)) s=O7 m a (c.drop (i+1)) { s with delta:=s.delta+1 }:=by rw[O7,if_pos D]
   obtain⟨o,u,v,w,f⟩:=F (i+1) n { s with delta:=s.delta+1 } (by omega) (by omega) (by simp only;omega) x (by simp only;omega) (by simp only;omega) y;rw[j,ac3 (by rw[e];simp)];refine⟨λR d=>?_,u,v,w,?_⟩
   ·rw[Al];rw[C7,N8,K8,c8,ok];simp only[cond_true,vl,C,A,I];rw[C7,cond_true];exact o R d
   ·simp only at f;split at f<;>split<;>omega
  ·by_cases H:p=m
   ·subst H;have G:=A31 (q:=s.delta) (k:=0) (b:=s.bias) (by omega);have B:=TP s.delta (s.done+1) (s.done==a) (by omega);have j:O7 p a (p::c.drop (i+1)) s=O7 p a (c.drop (i+1)) { delta:=0,bias:=Ex s.delta (s.done+1) (s.done==a),done:=s.done+1,out:=s.out++T7 s.delta 0 s.bias }:=by rw[O7,if_neg D,if_pos rfl]
    obtain⟨o,u,v,w,f⟩:=F (i+1) n { delta:=0,bias:=Ex s.delta (s.done+1) (s.done==a),done:=s.done+1,out:=s.out++T7 s.delta 0 s.bias } (by omega) (by omega) (by simp only;omega) B (by simp only[j4];omega) (by simp only;omega) y;rw[j,List.countP_cons_of_pos (by simp)];refine⟨λR d=>?_,u,?_,?_,?_⟩
    ·rw[Al];have g:((s.done:Int)==(a:Int))=(s.done==a):=by grind
     rw[C7,N8,K8,c8,ok];simp only[cond_true,vl,C,A,J];rw[A8,cond_false,beq_self_eq_true,cond_true,Ay,Ay,p7,ab1 (show s.out.length<=100000 by omega),Ay,C7,g];simp only[cond_true,c8];have h:af8 (s.out.map H7) ((T7 s.delta 0 s.bias).map H7)=(s.out++T7 s.delta 0 s.bias).map H7:=by rw[ac9];rfl
     rw[h];exact o R d
    ·simp only[j4] at v;omega
    ·simp only at w;omega
    ·simp only at f;rw[Fo];split at f<;>omega
   ·have e:(p==m)=false:=by rw[beq_eq_false_iff_ne];omega
    have j:O7 m a (p::c.drop (i+1)) s=O7 m a (c.drop (i+1)) s:=by rw[O7,if_neg D,if_neg H]
    obtain⟨o,u,v,w,f⟩:=F (i+1) n s (by omega) (by omega) (by omega) x (by omega) (by omega) y;rw[j,ac3 (by rw[e];simp)];refine⟨λR d=>?_,u,v,w,?_⟩
    ·rw[Al];rw[C7,N8,K8,c8,ok];simp only[cond_true,vl,C,A];rw[A8,cond_false,show((p:Int)==(m:Int))=false by rw[beq_eq_false_iff_ne];omega,cond_false];exact o R d
    ·split at f<;>split<;>omega
theorem Am7{R:Type}{k0:Bool->Bool->LL->Int->Int->Int->Int->Int->Int->LL->Option R}(z t:Bool)(a:List Nat)(k:a.length<=256)(n0:Nat)(b delta c done:Int)(l:LL):∀(r i n m:Nat),i+r=a.length->r<n->
  Gy LF n z t (I3 a) b (n0:Int) delta c done (m:Int) (a.length:Int) (i:Int) l k0=k0 z t (I3 a) b (n0:Int) delta c done ((L2 n0 (a.drop i) m:Nat):Int) l:=by
 intro r
 induction r with
 | zero=>
  intro i n m g j;obtain⟨n,rfl⟩:∃m,n=m+1:=⟨n-1,by omega⟩
  rw[Gy];rw[A8,j6 (by omega)];rfl
 | succ r d=>
  intro i n m g j;obtain⟨n,rfl⟩:∃m,n=m+1:=⟨n-1,by omega⟩
  have f:=Ag1 a i (by omega);have ok:=QL (l:=a) (i:=i) (by omega);rw[Gy,VD a i (by omega)];generalize a.getD i 0=p at *;have e:A4 ((i:Int)+1)=((i+1:Nat):Int):=by rw[C0];rfl
  rw[C7,N8,K8,c8,ok];simp only[cond_true,vl,f,e,L2];by_cases h:n0<=p
  ·rw[if_pos h,A8,j1,cond_true];have:(if (p:Int)<(m:Int) then (p:Int) else (m:Int))=((min m p:Nat):Int):=by split<;>omega
   rw[this];exact d (i+1) n (min m p) (by omega) (by omega)
  ·rw[if_neg h,C7,c9,cond_false];exact d (i+1) n m (by omega) (by omega)
theorem Mm(n:Nat):∀(l:List Nat) (m:Nat),(L2 n l m=m\/(L2 n l m∈l/\n<=L2 n l m))/\L2 n l m<=m/\∀p∈l,n<=p->L2 n l m<=p
 | [],m=>⟨.inl rfl,ab4 _,λp h=>by cases h⟩
 | q::r,m=>by
  obtain⟨a,b,c⟩:=Mm n r (if n<=q then min m q else m);simp only[L2];grind
theorem CW{n m:Nat}(a:n<=m):∀l:List Nat,(∀p∈l,n<=p->m<=p)->l.countP (λp=>decide (p<m+1))=l.countP (λp=>decide (p<n))+l.countP (· == m)
 | [],_=>rfl
 | p::l,h=>by
  have d:=CW a l (λq b=>h q (List.mem_cons_of_mem _ b));have c:=h p List.mem_cons_self;grind
theorem Bj3{n:Nat}{l:List Nat}(h:l.countP (λp=>decide (p<n))<l.length):∃p∈l,n<=p:=by
 apply ac0;intro a;have:l.countP (λp=>decide (p<n))=l.length:=by simp_all
 omega
theorem Bp9(z t:Bool)(a:List Nat)(b:Nat)(x:a.length<=256)(N:b<=256)(g:∀p∈a,p<=1114111):∀(f n d:Nat) (s:ZP),s.done=a.countP (λp=>decide (p<n))->a.length<=s.done+f->f<d->s.delta<=300->s.bias<=500->s.out.length+20*(a.length-s.done)<=80000->n<=1114112->
  ∀(R:Type) (k0:LL->Option R),Dq LF d z t (I3 a) (b:Int) (n:Int) (s.delta:Int) (s.bias:Int) (s.done:Int) (s.out.map H7) k0=k0 ((Y1 a b f n s).out.map H7):=by
 intro f;have M:=G3
 induction f with
 | zero=>
  intro n d s P S T I v J L R k0;obtain⟨d,rfl⟩:∃m,d=m+1:=⟨d-1,by omega⟩
  rw[Dq];rw[N8,A8];rfl
 | succ f U=>
  intro n d s P S T I v J L R k0;obtain⟨d,rfl⟩:∃m,d=m+1:=⟨d-1,by omega⟩
  rw[Dq];rw[N8];have O:a.countP (λp=>decide (p<n))<=a.length:=w8;by_cases j:s.done<a.length
  ·obtain⟨A,k,q⟩:=Bj3 (n:=n) (l:=a) (by omega);obtain⟨g1,g2,u⟩:=Mm n a 1114112;have g4:=u A k q;have g5:=g A k;have e:L2 n a 1114112∈a/\n<=L2 n a 1114112:=by grind
   have Q:Y1 a b (f+1) n s=Y1 a b f (L2 n a 1114112+1) { O7 (L2 n a 1114112) b a { s with delta:=s.delta+(L2 n a 1114112-n)*(s.done+1) } with delta:=(O7 (L2 n a 1114112) b a { s with delta:=s.delta+(L2 n a 1114112-n)*(s.done+1) }).delta+1 }:=by
    rw[Y1,if_pos j]
   rw[Q,C7,cond_true];have c:=λ(K:Bool->Bool->LL->Int->Int->Int->Int->Int->Int->LL->Option R)=>Am7 (k0:=K) z t a x n (b:Int) (s.delta:Int) (s.bias:Int) (s.done:Int) (s.out.map H7) a.length 0 LF 1114112 (by omega) (by omega)
   rw[o7] at c;refine j5 (c _) ?_;generalize L2 n a 1114112=m at *;have y:(m-n)*(s.done+1)<=1114112*256:=ad6 (by omega) (by omega);have B:A4 ((s.done:Int)+1)=((s.done+1:Nat):Int):=by rw[C0];rfl
   have C:A4 ((m:Int)-(n:Int))=((m-n:Nat):Int):=by rw[C0];omega
   have D:A4 (((m-n:Nat):Int)*((s.done+1:Nat):Int))=(((m-n)*(s.done+1):Nat):Int):=by
    rw[<-Int.natCast_mul];exact C0
   have F:A4 ((s.delta:Int)+(((m-n)*(s.done+1):Nat):Int))=((s.delta+(m-n)*(s.done+1):Nat):Int):=by
    rw[C0];rfl
   simp only[vl,B,C,D,F];have i:=Ax7 z t a b m (by omega) x a.length 0 LF { s with delta:=s.delta+(m-n)*(s.done+1) } (by omega) (by omega) (by simp only;omega) v (by simp only;omega) (by simp only;omega) N;rw[o7] at i;obtain⟨V,W,X,Y,Z⟩:=i;rw[N8];refine j5 (V R _) ?_;have h:0<a.countP (· == m):=ad9.2 ⟨m,e.1,by simp⟩;rw[if_pos h] at Z;have r:=CW e.2 a u;generalize O7 m b a { s with delta:=s.delta+(m-n)*(s.done+1) } = o at *;simp only at X Y;have G:A4 ((o.delta:Int)+1)=((o.delta+1:Nat):Int):=by rw[C0];rfl
   have H:A4 ((m:Int)+1)=((m+1:Nat):Int):=by rw[C0];rfl
   have w:a.countP (λp=>decide (p<m+1))<=a.length:=w8;simp only[G,H];exact U (m+1) d { o with delta:=o.delta+1 } (by simp only;omega) (by simp only;omega) (by omega) (by simp only;omega) W (by simp only;omega) (by omega) R k0
  ·rw[A8];rw[Y1,if_neg j];rfl
def Hj(l:List Int):By:=(l.filter λx=>decide (x<128)).map λx=>v8 x.toNat
theorem Cl9(x:Int)(a:0<=x)(h:x<128):[SV.int .u8 (wu8 x)]=H7 (v8 x.toNat):=by
 unfold H7;have e:wu8 x=x:=by unfold wu8;exact Int.emod_eq_of_lt a (show x<256 by omega)
 rw[e];have:((v8 x.toNat).toNat:Int)=x:=by simp;omega
 rw[this]
theorem FF{x:Int}(h:ptI x=true):0<=x/\x<=1114111:=by
 cases x with
 | negSucc m=>cases h
 | ofNat m=>
  have:Ld m=true:=h;unfold Ld at this;simp only[o5,w6] at this;grind
theorem Am2(z t:Bool)(P:List Int)(A:P.length<=256):∀(r i n:Nat) (out:By),i+r=P.length->r<n->out.length+r<=1000->
  ((P.drop i).all ptI=true->∀(R:Type) (a:LL->Option R) (b:Bool->Bool->LL->LL->Option R),S7 LF n z t (Io P) (P.length:Int) (i:Int) (out.map H7) a b=b z t (Io P) ((out++Hj (P.drop i)).map H7))/\
  ((P.drop i).all ptI=false->∃l,∀(R:Type) (a:LL->Option R) (b:Bool->Bool->LL->LL->Option R),S7 LF n z t (Io P) (P.length:Int) (i:Int) (out.map H7) a b=a l):=by
 intro r
 induction r with
 | zero=>
  intro i n out u v w;obtain⟨n,rfl⟩:∃m,n=m+1:=⟨n-1,by omega⟩
  rw[j6 (by omega)];refine⟨λ_ R a b=>?_,λh=>(by cases h)⟩;rw[S7];rw[A8];simp[Hj]
 | succ r q=>
  intro i n out u v w;obtain⟨n,rfl⟩:∃m,n=m+1:=⟨n-1,by omega⟩
  have j:=Bl4 P i (by omega);have ok:=Ax3 (l:=P) (i:=i) (by omega);rw[Bk4 P i (by omega)];generalize P.getD i 0=x at *;have p:A4 ((i:Int)+1)=((i+1:Nat):Int):=by rw[C0];rfl
  cases f:ptI x with
  | false=>
   refine⟨λh=>?_,λ_=>⟨out.map H7,λR a b=>?_⟩⟩
   ·rw[y7,f] at h;cases h
   ·rw[S7];rw[C7,Ip,K8,c8,ok];simp only[cond_true,vl,j,f,j1]
  | true=>
   obtain⟨y,B⟩:=FF f;rw[y7,f,x9];by_cases c:x<128
   ·have d:Hj (x::P.drop (i+1))=v8 x.toNat::Hj (P.drop (i+1)):=by
     unfold Hj;rw[List.filter_cons_of_pos (by simpa using c)];rfl
    have g:out.map H7++[[SV.int .u8 (wu8 x)]]=(out++[v8 x.toNat]).map H7:=by rw[Cl9 x y c];simp
    obtain⟨k,o⟩:=q (i+1) n (out++[v8 x.toNat]) (by omega) (by omega) (by simp;omega);have step:∀(R:Type) (a:LL->Option R) (b:Bool->Bool->LL->LL->Option R),S7 LF (n+1) z t (Io P) (P.length:Int) (i:Int) (out.map H7) a b=S7 LF n z t (Io P) (P.length:Int) ((i+1:Nat):Int) ((out++[v8 x.toNat]).map H7) a b:=by
     intro R a b;rw[S7];rw[C7,Ip,K8,c8,ok];simp only[cond_true,vl,j,f,c9,cond_false,p];rw[F1 c,p7,I7 (by omega),g];rfl
    refine⟨λh R a b=>?_,λh=>?_⟩
    ·rw[step,k h,d];simp
    ·obtain⟨l,e⟩:=o h;exact⟨l,λR a b=>by rw[step];exact e R a b⟩
   ·have d:Hj (x::P.drop (i+1))=Hj (P.drop (i+1)):=by
     unfold Hj;rw[List.filter_cons_of_neg (by simpa using c)]
    obtain⟨k,o⟩:=q (i+1) n out (by omega) (by omega) (by omega);have step:∀(R:Type) (a:LL->Option R) (b:Bool->Bool->LL->LL->Option R),S7 LF (n+1) z t (Io P) (P.length:Int) (i:Int) (out.map H7) a b=S7 LF n z t (Io P) (P.length:Int) ((i+1:Nat):Int) (out.map H7) a b:=by
     intro R a b;rw[S7];rw[C7,Ip,K8,c8,ok];simp only[cond_true,vl,j,f,c9,cond_false,p];rw[A8];rfl
    refine⟨λh R a b=>?_,λh=>?_⟩
    ·rw[step,k h,d]
    ·obtain⟨l,e⟩:=o h;exact⟨l,λR a b=>by rw[step];exact e R a b⟩
theorem B96{P:List Int}(h:P.all ptI=true):∃a:List Nat,P=a.map (λn:Nat=>(n:Int))/\a.all Ld=true/\∀p∈a,p<=1114111:=by
 induction P with
 | nil=>exact⟨[],rfl,rfl,by simp⟩
 | cons x P c=>
  rw[y7,o5] at h;obtain⟨a,rfl,b,e⟩:=c h.2;obtain⟨d,f⟩:=FF h.1;obtain⟨m,rfl⟩:=v7 d;refine⟨m::a,rfl,?_,?_⟩
  ·rw[y7,b,aa7];exact h.1
  grind
theorem Ab7(a:List Nat):Hj (a.map λn:Nat=>(n:Int))=N2 a:=by
 unfold Hj N2
 induction a with
 | nil=>rfl
 | cons p r b=>
  grind
theorem CD(a:List Nat):(N2 a).length=a.countP (λp=>decide (p<128)):=by unfold N2;grind
theorem Am3(z t:Bool)(P:List Int):(Gd P=([],3)/\∀(R:Type) (b:Unit->Option R) (f:By->Int->LL->Option R),XQ LF z t (Io P) b f=b ())\/
  (∃l,∀(R:Type) (b:Unit->Option R) (f:By->Int->LL->Option R),XQ LF z t (Io P) b f=f (Gd P).1 ((Gd P).2:Nat) l):=by
 have x:=G3;by_cases j:256<P.length
 ·refine .inl ⟨by unfold Gd;rw[if_pos j],λR b f=>?_⟩;unfold XQ;rw[Ip,C7];rfl
 ·right
  obtain⟨v,w⟩:=Am2 z t P (by omega) P.length 0 LF [] (by omega) (by omega) (by simp;omega);rw[o7] at v w;cases g:P.all ptI with
  | false=>
   obtain⟨l,e⟩:=w g;refine⟨l,λR b f=>?_⟩;unfold XQ;rw[Ip,A8,cond_false];refine j5 (e R _ _) ?_;unfold Gd;rw[if_neg j,g];rfl
  | true=>
   obtain⟨a,rfl,A,q⟩:=B96 g;rw[p7] at j;have m:Gd (a.map λn:Nat=>(n:Int))=Jy a:=by
    unfold Gd;rw[p7,if_neg j,g];simp[ae4]
   have k:=CD a;have y:a.countP (λp=>decide (p<128))<=a.length:=w8;have main:∀(o:By),o.length<=300->∀(R:Type) (b:LL->Option R),Dq LF LF z t (I3 a) ((N2 a).length:Int) 128 0 72 ((N2 a).length:Int) (o.map H7) b=b ((Y1 a (N2 a).length 256 128 { delta:=0,bias:=72,done:=(N2 a).length,out:=o }).out.map H7):=by
    intro o B R b;exact Bp9 z t a (N2 a).length (by omega) (by omega) q 256 128 LF { delta:=0,bias:=72,done:=(N2 a).length,out:=o } k (by simp only;omega) (by omega) (by simp) (by simp) (by simp only;omega) (by omega) R b
   have d:Jy a=((Y1 a (N2 a).length 256 128 { delta:=0,bias:=72,done:=(N2 a).length,out:=if (N2 a).isEmpty then [] else N2 a++[45] }).out,0):=by
    unfold Jy;grind
   refine⟨(Jy a).1.map H7,λR b f=>?_⟩;unfold XQ;rw[Ip,p7,A8,cond_false,m];have i:=v g R;rw[p7] at i;refine j5 (i _ _) ?_;rw[x8,Ab7,Wk];simp only[vl,p7];by_cases c:N2 a=[]
   ·rw[c,p9,A8,cond_false];have r:=main [] (by simp) R;rw[c,p9] at r;rw[ae9] at r;refine j5 (r _) ?_;rw[c] at d;rw[d];simp only[af2,if_true,p9];rw[Lk,Mo];rfl
   ·have u:0<(N2 a).length:=y9.2 c;rw[C7,cond_true,I7 (by omega),cond_true];have h:(N2 a).map H7++[[SV.int .u8 (45:Int)]]=(N2 a++[45]).map H7:=by rw[ac9];rfl
    rw[h];refine j5 (main (N2 a++[45]) (by simp;omega) R _) ?_;rw[d,if_neg (by simpa using c)];rw[Lk,Mo];rfl
theorem B90(z t:Bool)(p:LL)(b:p.all Xw=true):∃r H,XQ LF z t p (λ_=>rv (.tup [.s (.str []),.s (.int .i64 3)]) []) (λd e l=>rv (.tup [.s (.str d),.s (.int .i64 e)]) [.arr true 5 1 l])=rv r H/\
  r.stab [0,0] H = .tup [.s (.str (Gd (p.map elI)).1),.s (.int .i64 ((Gd (p.map elI)).2:Nat))]:=by
 obtain⟨P,rfl⟩:=B48 b;rw[Bk6];rcases Am3 z t P with⟨c,a⟩|⟨l,a⟩
 ·exact⟨_,_,a _ _ _,by rw[c];rfl⟩
 ·exact⟨_,_,a _ _ _,rfl⟩
section
variable {W R : Type} (L : Nat) (Y : E3) (Q : Yh W) (s : W) (k : Out -> St W -> Option R)
noncomputable abbrev Ch6:Code:=E5 ah4
noncomputable def Vh(L:Nat):Cfg:=D1 L [144] (A3 [(3,[0,1,0,0])]) [(146,BF),(153,Aa2)] (A3 [(17,[2]),(16,[0,2,0,53]),(15,[0,2,0]),(14,[2]),(13,[0,2,0,1,45]),(12,[0,2,0,0,0]),(11,[2]),(10,[0,2,0,0,41]),(9,[0,2,0,0]),(8,[0,2,0,0]),(7,[2]),(6,[0,2,0,0,18]),(5,[0,2,0,0]),(4,[2]),(3,[0,2,0,11]),(2,[0,2,0]),(1,[0,2]),(0,[0])]) [153] (A3 [(0,[2]),(1,[0,2,0])]) (some [2]) [(156,Nf)] [] [156]
noncomputable def Dh{R:Type}(L n:Nat)(p:Int)(c:By)(j o d:Int)(g l:Bool)(i:LL)(a:Int)(h:Int->By->Int->Int->Int->Bool->Bool->LL->Int->Option R):Option R:=match n with|0=>none|n+1=>cond (c==[]) (h 4 c j o d g l i a) (cond (inR 0 c.length) (cond (inR (bAt c (0:Int)) 256) (vl (J7 (u8n (bAt c (0:Int)))) λf=>cond (ltI f 0) (h 4 c j o d g l i a) (cond (O6 1 (c.length:Int) c.length) (vl (cut c 1 (c.length:Int)) λe=>vl (A4 (o+(A4 (f*p)))) λb=>cond (ltI 1099511627776 b) (h 19 e j b d g l i a) (cond (ltN a 1000000000000) (cond (ltN d 1000000) (cond (ltI f (Y9 a d)) (h 0 e j b d g l i (aa9 a (36:Int))) (vl (A4 ((36:Int)-(Y9 a d))) λm=>cond (ltI 1099511627776 (A4 (p*m))) (h 19 e j b d g l i (aa9 a (36:Int))) (Dh L n (A4 (p*m)) e j b d g l i (aa9 a (36:Int)) h))) none) none)) none)) none) none)
theorem Af2(n w0 g e f b c h d a):G1 4 ((Vh L).keep 3) (bd (Vh L) Y Q (cd [1,1,1,0,0] Ch6)) n ⟨gp [(0,.ptr 0 0 0),(2,.fnr (s9 156) [] [.ptr 3 0 0,.ptr 2 0 0]),(0,pI w0)] 54,[.box [pS g,.fl 1,pI e,pI f,pI b,pB c],.arr h 3 1 d,.box [pI b],.box [pI a]],s⟩ k =
 Dh L n w0 g e f b c h d a (λn0 g e f b c h d a=>k .ret ⟨gp [(2,pI n0)] 56,[.box [pS g,.fl 1,pI e,pI f,pI b,pB c],.arr h 3 1 d,.box [pI b],.box [pI a]],s⟩):=by
 induction n generalizing w0 g e f b c h d a with
 | zero=>rfl
 | succ n i=>rw[Dh];simp only[<-i];kernel_rfl
noncomputable def Ci7{R:Type}(L:Nat)(g:By)(n i b:Int)(q z:Bool)(l:LL)(p:Int->By->Int->Int->Int->Bool->Bool->LL->Int->Option R):Option R:=Dh L L 1 g n i b q z l 0 (λj o m d e a h c f=>p j o m d e a h c f)
theorem B19(d:Nat)(rest n i b st z l):evC (Vh L) (d+1) W Q 144 [.ptr 0 0 0] [.box [pS rest,.fl 1,pI n,pI i,pI b,pB st],.arr z 3 1 l] s=Ci7 L rest n i b st z l (λj m g h c e o f a=>some (pI j,[.box [pS m,.fl 1,pI g,pI h,pI c,pB e],.arr o 3 1 f,.box [pI c],.box [pI a]],s)):=by refine(evE (fn:=ah4) (by kernel_rfl)).trans ?_;generalize evC (Vh L) d=Y;unfold Ci7;exact(j5 (by kernel_rfl) ((Af2 L Y Q s (I1 0 (I6 (Vh L) ah4)) L 1 rest n i b st z l 0).trans (by kernel_rfl)))
noncomputable def NH(L:Nat):Cfg:=D1 L [129] (A3 []) [(132,Lh),(130,Li)] (A3 [(16,[2]),(15,[]),(14,[0]),(13,[2]),(12,[0,67]),(11,[2]),(10,[0,4,60]),(9,[0,4]),(8,[0,4]),(7,[0,4]),(6,[0,4]),(5,[0,2,1]),(4,[2]),(3,[0,2,0,8]),(2,[0,2,0]),(1,[0,2]),(0,[0])]) [132,130] (A3 []) (some [2]) [(144,KV),(145,MM)] [] [144,145]
noncomputable def Av0{R:Type}(L:Nat)(a:By)(n i b:Int)(m z:Bool)(l:LL)(j:Int->By->Int->Int->Int->Bool->Bool->LL->Option R):Option R:=cond (A2 a.length) (cond (ltN b 1000000) (cond (ltN i 1099511627777) (cond ((EO b a i)!=0) (j (EO b a i) (EQ b a i) n (Qa b a i) b m z l) (vl (A4 ((l.length:Int)+1)) λc=>vl (A4 ((Qa b a i)-i)) λh=>cond (ltN h 1152921504606846976) (cond (ltN c 1000000) (cond (ltI 0 c) (vl (↑(Ex (k9 h) (k9 c) (not m)):Int) λf=>cond (c !=0) (vl (A4 (ad3 (Qa b a i) c)) λd=>cond (c !=0) (vl (ae5 (Qa b a i) c) λe=>cond (not (ptI (A4 (n+d)))) (j 2 (EQ b a i) (A4 (n+d)) e f true z l) (cond (ltI 256 c) (j 3 (EQ b a i) (A4 (n+d)) e f true z l) (cond (ltN e (Nat.add l.length 1)) (cond (o6 l.length 100000) (vl (Kd l (k9 e) (A4 (n+d))) λg=>j 0 (EQ b a i) (A4 (n+d)) (A4 (e+1)) f true z g) none) none))) none) none) none) none) none)) none) none) none
theorem Bk5(d:Nat)(rest n i b st z l):evC (NH L) (d+1) W Q 129 [.ptr 0 0 0] [.box [pS rest,.fl 1,pI n,pI i,pI b,pB st],.arr z 3 1 l] s=Av0 L rest n i b st z l (λh j e f g a m c=>some (pI h,[.box [pS j,.fl 1,pI e,pI f,pI g,pB a],.arr m 3 1 c],s)):=by refine(evE (fn:=Tryz.f129) (by kernel_rfl)).trans ?_;generalize evC (NH L) d=Y;unfold Av0;kernel_rfl
noncomputable abbrev Pf:Code:=E5 ad8
noncomputable def W9(L:Nat):Cfg:=D1 L [112] (A3 [(20,[2,0,1]),(13,[0,1,0,1,0,22,0]),(4,[0,1,0,9,0])]) [(67,Zo)] (A3 [(24,[2,0]),(23,[2,0]),(22,[5,2,59]),(21,[5,2]),(20,[5,58]),(19,[2,0]),(18,[5,53]),(17,[5]),(16,[0,4,0,22,0]),(15,[0,4,0,22,0]),(14,[0,4,0,0,21,0]),(13,[0,4,0,22,0,0]),(12,[0,4,0,22,0]),(11,[0,4,0,21]),(10,[0,4,0]),(9,[0,4]),(8,[0,12,0]),(7,[2,0]),(6,[0,12,0,5]),(5,[0,3,8,0]),(4,[0,12,0,0]),(3,[0,12,0]),(2,[2,0]),(1,[0,10]),(0,[0])]) [67] (A3 [(4,[5]),(5,[5]),(2,[0,4,0]),(3,[0,4,0,22,0]),(0,[0]),(1,[0,12,0])]) (some [2,0]) [(129,Zn)] [] [129] (nt:=[(157,1,3,1)])
noncomputable def Kj{R:Type}(L n:Nat)(b:By)(e a:Int)(c:Unit->Option R)(d:By->Option R):Option R:=match n with|0=>none|n+1=>cond (ltI a e) (cond (inR a b.length) (cond (not (ltI (bAt b a) (128:Int))) (c ()) (Kj L n b e (A4 (a+1)) c d)) none) (d b)
theorem Am0(n a n1 n2):G1 0 ((W9 L).keep 4) (bd (W9 L) Y Q (cd [1,1,0,1,0,0] Pf)) n ⟨gp [(0,pS a),(12,pI n1),(0,pI n2)] 59,[],s⟩ k =
 Kj L n a n1 n2 (λ_=>k .ret ⟨gp [(2,.fl 0),(0,pI (4:Int))] 70,[.arr true 3 1 []],s⟩) (λa=>k (.exit 0) ⟨gp [(0,pS a)] 73,[],s⟩):=by
 induction n generalizing a n1 n2 with
 | zero=>rfl
 | succ n b=>rw[Kj];simp only[<-b];kernel_rfl
noncomputable def Gx{R:Type}(L n:Nat)(c:By)(a b:Int)(d:LL)(e:By->Int->LL->Option R):Option R:=match n with|0=>none|n+1=>cond (ltI b a) (cond (inR b c.length) (cond (I4 (d.length+1)) (Gx L n c a (A4 (b+1)) (d++[[(SV.int .i64 (A4 (bAt c b)))]]) e) none) none) (e c a d)
theorem Am1(n b a n2 l3):G1 2 ((W9 L).keep 13) (bd (W9 L) Y Q (cd [1,1,1,1,0,1,1,0,0,1,0,0] Pf)) n ⟨gp [(0,pS b),(4,.ptr 1 0 0),(0,pI a),(22,pI a),(0,pI n2)] 43,[.arr true 3 1 l3,.box [pS b,.fl 0,pI (128:Int),pI (0:Int),pI (72:Int),pB false]],s⟩ k =
 Gx L n b a n2 l3 (λb a d=>k (.exit 2) ⟨gp [(0,pS b),(4,.ptr 1 0 0),(0,pI a)] 67,[.arr true 3 1 d,.box [pS b,.fl 0,pI (128:Int),pI (0:Int),pI (72:Int),pB false]],s⟩):=by
 induction n generalizing b a n2 l3 with
 | zero=>rfl
 | succ n c=>rw[Gx];simp only[<-c];kernel_rfl
noncomputable def Q5{R:Type}(L n:Nat)(b:LL)(a:By)(c d e:Int)(f:Bool)(i:Int->LL->By->Int->Int->Int->Bool->Option R)(j:LL->By->Int->Int->Int->Bool->Option R):Option R:=match n with|0=>none|n+1=>cond (not (a==[])) (cond (A2 a.length) (cond (ltN e 1000000) (cond (ltN d 1099511627777) (cond (ltN c 1152921504606846976) (cond (o6 b.length 100000) (vl ((E4 (DS.mk a c d e f b))).1 λh=>vl (DS.l ((E4 (DS.mk a c d e f b))).2) λg=>cond (h !=0) (i h g (DS.rest ((E4 (DS.mk a c d e f b))).2) (DS.n ((E4 (DS.mk a c d e f b))).2) (DS.i ((E4 (DS.mk a c d e f b))).2) (DS.b ((E4 (DS.mk a c d e f b))).2) (DS.st ((E4 (DS.mk a c d e f b))).2)) (Q5 L n g (DS.rest ((E4 (DS.mk a c d e f b))).2) (DS.n ((E4 (DS.mk a c d e f b))).2) (DS.i ((E4 (DS.mk a c d e f b))).2) (DS.b ((E4 (DS.mk a c d e f b))).2) (DS.st ((E4 (DS.mk a c d e f b))).2) i j)) none) none) none) none) none) (j b a c d e f)
theorem EZ(n d f e a b c):G1 2 ((W9 L).keep 20) (bd (W9 L) Y Q (cd [1,1,1,1,1,1,0,0,0] Pf)) n ⟨gp [(5,.ptr 1 0 0)] 68,[.arr true 3 1 d,.box [pS f,.fl 0,pI e,pI a,pI b,pB c]],s⟩ k =
 Q5 L n d f e a b c (λn0 i l a b j g=>k .ret ⟨gp [(2,.fl 2),(0,pI n0)] 70,[.arr true 3 1 i,.box [pS l,.fl 0,pI a,pI b,pI j,pB g],.arr true 3 1 []],s⟩) (λd f e a b c=>k (.exit 4) ⟨gp [(5,.ptr 1 0 0)] 68,[.arr true 3 1 d,.box [pS f,.fl 0,pI e,pI a,pI b,pB c]],s⟩):=by
 induction n generalizing d f e a b c with
 | zero=>rfl
 | succ n h=>rw[Q5];simp only[<-h];kernel_rfl
noncomputable def Sz{R:Type}(L:Nat)(M:By)(N:Int->Option R)(K:Int->LL->By->Int->Int->Int->Bool->Option R)(O:LL->By->Int->Int->Int->Bool->Option R):Option R:=cond (ltI 1024 (M.length:Int)) (N 3) (Kj L L M (M.length:Int) 0 (λ_=>N 4) (λa=>cond (A2 a.length) (vl (J8 (u8n (45:Int)) a) λC=>cond (ltI 0 C) (Gx L L a C 0 [] (λb h c=>vl (A4 (h+1)) λD=>cond (O6 D (b.length:Int) b.length) (vl (cut b D (b.length:Int)) λJ=>cond (ltI 256 (c.length:Int)) (K 3 c J 128 0 72 false) (Q5 L L c J 128 0 72 false (λn i F o p q d=>K n i F o p q d) (λj G r t u e=>O j G r t u e))) none)) (Q5 L L [] a 128 0 72 false (λv l H w x y f=>K v l H w x y f) (λm I z A B g=>O m I z A B g))) none))
theorem B85(d:Nat)(s0):evC (W9 L) (d+1) W Q 112 [pS s0] [] s=Sz L s0 (λg=>some (.tup [.fl 0,pI g],[.arr true 3 1 []],s)) (λg o v e f r m=>some (.tup [.fl 2,pI g],[.arr true 3 1 o,.box [pS v,.fl 0,pI e,pI f,pI r,pB m],.arr true 3 1 []],s)) (λn u q e f l=>some (.tup [.fl 0,pI (0:Int)],[.arr true 3 1 n,.box [pS u,.fl 0,pI q,pI e,pI f,pB l]],s)):=by refine(evE (fn:=ad8) (by kernel_rfl)).trans ?_;generalize evC (W9 L) d=Y;unfold Sz;exact let i:=(I1 4 (J0 (W9 L) Y Q (cd [1,1,1,1,1,1,1] Pf) (I6 (W9 L) ad8)));(j5 (by kernel_rfl) (A0 rfl ((Am0 L Y Q s (I1 0 (J0 (W9 L) Y Q (cd [1,1,1] Pf) (I6 (W9 L) ad8))) L s0 (s0.length:Int) 0).trans (congr (congr rfl (by kernel_rfl)) (fx1 λa=>(j5 (by kernel_rfl) (A0 (A5 λc=>(A0 ((Am1 L Y Q s (I1 2 (J0 (W9 L) Y Q (cd [1,1,1,1,0,1,1,0,1] Pf) (J0 (W9 L) Y Q (cd [1,1,1,1,1] Pf) (I6 (W9 L) ad8)))) L a c 0 []).trans (congr rfl (fx3 λt j b=>(j5 (by kernel_rfl) (A5 λp=>(A0 (A5 λh=>(A0 rfl ((EZ L Y Q s i L b h 128 0 72 false).trans (by kernel_rfl)))) rfl)))))) ((EZ L Y Q s i L [] a 128 0 72 false).trans (by kernel_rfl)))) rfl)))))))
noncomputable abbrev TY:Code:=E5 ai4
noncomputable def Fa(L:Nat):Cfg:=D1 L [93] (A3 [(2,[0,0,2,0])]) [] (A3 [(6,[4]),(3,[0,0,3]),(5,[4]),(4,[0,0,3,11]),(2,[0,0,3,4]),(1,[0,0,3]),(0,[0,0])]) [] (A3 [(0,[]),(1,[0,0,3])]) (some [4]) [] [] []
noncomputable def Bf{R:Type}(L n:Nat)(b:By)(c a:Int)(d:Int->Option R)(e:Unit->Option R):Option R:=match n with|0=>none|n+1=>cond (not (ltI a 0)) (cond (inR a b.length) (cond ((bAt b a)==c) (d a) (Bf L n b c (A4 (a-1)) d e)) none) (e ())
theorem PH(n s0 c1 i2):G1 0 ((Fa L).keep 2) (bd (Fa L) Y Q (cd [1,0,1,0,0] TY)) n ⟨gp [(0,pS s0),(0,p8 c1),(3,pI i2)] 13,[],s⟩ k =
 Bf L n s0 c1 i2 (λn0=>k .ret ⟨gp [(4,pI n0)] 14,[],s⟩) (λ_=>k (.exit 0) ⟨gp [] 19,[],s⟩):=by
 induction n generalizing s0 c1 i2 with
 | zero=>rfl
 | succ n a=>rw[Bf];simp only[<-a];kernel_rfl
noncomputable def PG{R:Type}(L:Nat)(d:By)(e:Int)(c:Int->Option R):Option R:=vl (A4 ((d.length:Int)-1)) λa=>Bf L L d e a (λb=>c b) (λ_=>c (-1))
theorem A50(d:Nat)(s0 c1):evC (Fa L) (d+1) W Q 93 [pS s0,p8 c1] [] s=PG L s0 c1 (λb=>some (pI b,[],s)):=by refine(evE (fn:=ai4) (by kernel_rfl)).trans ?_;generalize evC (Fa L) d=Y;unfold PG;exact(j5 (by kernel_rfl) (A5 λa=>((PH L Y Q s (I1 0 (J0 (Fa L) Y Q (cd [1,1] TY) (I6 (Fa L) ai4))) L s0 c1 a).trans (by kernel_rfl))))
noncomputable def NM(L:Nat):Cfg:=D1 L [67] (A3 []) [(93,TD)] (A3 [(1,[4]),(0,[0,0])]) [93] (A3 []) (some [4]) [] [] []
noncomputable def Aw2{R:Type}(L:Nat)(b:By)(a:Int)(c:Int->Option R):Option R:=cond (A2 b.length) (cond (inR a 256) (c (J8 (u8n a) b)) none) none
theorem Bn4(d:Nat)(s0 c1):evC (NM L) (d+1) W Q 67 [pS s0,p8 c1] [] s=Aw2 L s0 c1 (λa=>some (pI a,[],s)):=by refine(evE (fn:=Tryz.f67) (by kernel_rfl)).trans ?_;generalize evC (NM L) d=Y;unfold Aw2;kernel_rfl
end
theorem Tw(c:UInt8):-1<=J7 c/\J7 c<=35:=by unfold J7 La;grind
theorem GA(k b:Int):1<=Y9 k b/\Y9 k b<=26:=by unfold Y9;omega
theorem Wj{x w:Int}(b:0<=x)(c:x<=35)(a:0<=w)(w1:w<=1099511627776):0<=x*w/\x*w<=38482906972160:=by refine⟨ag1 b a,?_⟩;have:=Int.mul_le_mul c w1 a (show(0:Int)<=35 by omega);omega
theorem OY(b:Int):∀(s:By) (i w k:Int),0<=i->0<=w->w<=1099511627776->(Ij b s i w k).1=0->i<=(Ij b s i w k).2.2/\(Ij b s i w k).2.2<=1099511627776/\(Ij b s i w k).2.1.length<s.length
 | [],i,w,k,_,_,_,h=>by simp[Ij] at h
 | c::r,i,w,k,m,d,a,h=>by
  have l:=Tw c;have o:=GA k b;unfold Ij at h ⊢;split at h
  ·simp at h
  ·rename_i e;rw[if_neg e];have n:=Wj (by omega) l.2 d a;split at h
   ·simp at h
   ·rename_i f;rw[if_neg f];split at h
    ·grind
    ·rename_i g;rw[if_neg g];split at h
     ·omega
     ·rename_i j;rw[if_neg j];obtain⟨p,q,t⟩:=OY b r (i+J7 c*w) (w*(36-Y9 k b)) (k+36) (by omega) (ag1 d (by omega)) (by omega) h;grind
theorem A27(f:Int)(b:Int)(g z:Bool)(l:LL)(M:0<=b)(N:b<1000000):∀(s:By) (n:Nat) (i w k:Int),s.length<n->s.length<=1000000000->0<=i->i<=1099511627776->0<=w->w<=1099511627776->0<=k->k+36*s.length<=100000000000->
  ∃H,∀(R:Type) (a:Int->By->Int->Int->Int->Bool->Bool->LL->Int->Option R),Dh LF n w s f i b g z l k a=a (Ij b s i w k).1 (Ij b s i w k).2.1 f (Ij b s i w k).2.2 b g z l H:=by
 intro s
 induction s with
 | nil=>
  intro n i w k K L O B G h P o;obtain⟨n,rfl⟩:∃m,n=m+1:=⟨n-1,by omega⟩
  refine⟨k,λR a=>?_⟩;rw[Dh];rfl
 | cons c r T=>
  intro n i w k K L O B G h P o;obtain⟨n,rfl⟩:∃m,n=m+1:=⟨n-1,by omega⟩
  rw[j0] at K L o;have S:=Tw c;have V:=GA k b;have Q:u8n (bAt (c::r) 0)=c:=by unfold u8n bAt;simp
  have C:inR (bAt (c::r) 0) 256=true:=by rw[Qx];have:=c.toNat_lt;exact O8 (by omega) (by simp;omega)
  have j:cut (c::r) 1 ((c::r).length:Int)=r:=by
   have:=Gq (c::r) 1 (c::r).length;grind
  have F:((c::r)==([]:By))=false:=rfl;have start:∀(R:Type) (a:Int->By->Int->Int->Int->Bool->Bool->LL->Int->Option R),Dh LF (n+1) w (c::r) f i b g z l k a =
    cond (ltI (J7 c) 0) (a 4 (c::r) f i b g z l k)
     (vl (A4 (i+(A4 (J7 c*w)))) λd=>cond (ltI 1099511627776 d) (a 19 r f d b g z l k)
      (cond (ltI (J7 c) (Y9 k b)) (a 0 r f d b g z l (aa9 k 36))
       (vl (A4 (36-(Y9 k b))) λp=>cond (ltI 1099511627776 (A4 (w*p))) (a 19 r f d b g z l (aa9 k 36)) (Dh LF n (A4 (w*p)) r f d b g z l (aa9 k 36) a)))):=by
   intro R a;rw[Dh];rw[F,C,O8 (by omega) (by rw[j0];omega),Fz (by omega) (by rw[j0];omega) (by omega),j,Q,Ay,Ay];rfl
  unfold Ij;by_cases u:J7 c<0
  ·rw[if_pos u];refine⟨k,λR a=>?_⟩;rw[start,F1 u];rfl
  ·rw[if_neg u];have U:=Wj (by omega) S.2 G h;have q:A4 (J7 c*w)=J7 c*w:=C0;have t:A4 (i+J7 c*w)=i+J7 c*w:=C0;by_cases v:1099511627776<i+J7 c*w
   ·rw[if_pos v];refine⟨k,λR a=>?_⟩;rw[start,A8,q,t];simp only[vl,cond_false];rw[F1 v];rfl
   ·rw[if_neg v];by_cases y:J7 c<Y9 k b
    ·rw[if_pos y];refine⟨aa9 k 36,λR a=>?_⟩;rw[start,A8,q,t];simp only[vl,cond_false];rw[A8,F1 y];rfl
    ·rw[if_neg y];have I:A4 (36-Y9 k b)=36-Y9 k b:=C0;have D:=Wj (x:=36-Y9 k b) (by omega) (by omega) G h;rw[Int.mul_comm] at D;have J:A4 (w*(36-Y9 k b))=w*(36-Y9 k b):=C0;by_cases A:1099511627776<w*(36-Y9 k b)
     ·rw[if_pos A];refine⟨aa9 k 36,λR a=>?_⟩;rw[start,A8,q,t];simp only[vl,cond_false];rw[A8,A8,I,J,F1 A];rfl
     ·rw[if_neg A];obtain⟨H,e⟩:=T n (i+J7 c*w) (w*(36-Y9 k b)) (k+36) (by omega) (by omega) (by omega) (by omega) (by omega) (by omega) (by omega) (by omega);refine⟨H,λR a=>?_⟩;rw[start,A8,q,t];simp only[vl,cond_false];rw[A8,A8,I,J,A8];exact e R a
theorem A28(a:By)(n i b:Int)(f z:Bool)(l:LL)(h:A2 a.length=true)(j:ltN b 1000000=true)(k:ltN i 1099511627777=true) :
  ∃c,∀(R:Type) (d:Int->By->Int->Int->Int->Bool->Bool->LL->Int->Option R),Ci7 LF a n i b f z l d=d (EO b a i) (EQ b a i) n (Qa b a i) b f z l c:=by
 have q:=N7 h;obtain⟨g,p⟩:=E8.1 j;obtain⟨o,r⟩:=E8.1 k;have m:=G3;obtain⟨c,e⟩:=A27 n b f z l g (by omega) a LF i 1 0 (by omega) (by omega) o (by omega) (by omega) (by omega) (by omega) (by omega);exact⟨c,λR d=>e R _⟩
theorem Af3{R:Type}{j:Int->By->Int->Int->Int->Bool->Bool->LL->Option R}(a:By)(n i b:Int)(d z:Bool)(l:LL)(y:A2 a.length=true)(C:ltN b 1000000=true)(g:ltN i 1099511627777=true)(D:ltN n 1152921504606846976=true)(h:o6 l.length 100000=true) :
  Av0 LF a n i b d z l j=j (E4 ⟨a,n,i,b,d,l⟩).1 (E4 ⟨a,n,i,b,d,l⟩).2.rest (E4 ⟨a,n,i,b,d,l⟩).2.n (E4 ⟨a,n,i,b,d,l⟩).2.i (E4 ⟨a,n,i,b,d,l⟩).2.b (E4 ⟨a,n,i,b,d,l⟩).2.st z (E4 ⟨a,n,i,b,d,l⟩).2.l:=by
 obtain⟨F,P⟩:=E8.1 g;obtain⟨n0,Q⟩:=E8.1 D;have M:=ab2 h;unfold Av0 E4;rw[y,C,g];simp only[cond_true];by_cases e:EO b a i=0
 ·rw[if_pos e,e];obtain⟨G,I,S⟩:=OY b a i 1 0 F (by omega) (by omega) e;have H:i<=Qa b a i:=G;have J:Qa b a i<=1099511627776:=I;have o:A4 ((l.length:Int)+1)=(l.length:Int)+1:=C0;simp only[vl];rw[o];generalize Qa b a i=x at *;have f:0<=x:=by omega
  obtain⟨X,rfl⟩:=v7 f;have p:A4 ((X:Int)-i)=(X:Int)-i:=C0;have u:((l.length:Int)+1)=((l.length+1:Nat):Int):=rfl;have v:ad3 (X:Int) ((l.length+1:Nat):Int)=((X / (l.length+1):Nat):Int):=Ar _ _;have w:ae5 (X:Int) ((l.length+1:Nat):Int)=((X % (l.length+1):Nat):Int):=GB _ _;have L:=ad0 X (l.length+1);have N:=ag5 X (show 0<l.length+1 by omega);rw[p,u,v,w];generalize hA:X / (l.length+1)=A at *;generalize K:X % (l.length+1)=B at *;have q:A4 (A:Int)=(A:Int):=C0;have r:A4 (n+(A:Int))=n+(A:Int):=C0;have t:A4 ((B:Int)+1)=(B:Int)+1:=C0;have k:((0:Int)!=0)=false:=rfl;have m:((((l.length+1:Nat):Int))!=0)=true:=by rw[bne_iff_ne];omega
  rw[q,r,t,k,Ay,Ay,C7,m];simp only[cond_true,cond_false];cases O:ptI (n+(A:Int)) with
  | false=>simp
  | true=>
   simp only[c9,cond_false,if_true];by_cases c:(256:Int)<((l.length+1:Nat):Int)
   ·rw[if_pos c,F1 c];rfl
   ·rw[if_neg c,A8,cond_false,EI (by omega) (by show(B:Int)<((l.length+1:Nat):Int);omega),h];rfl
 ·rw[if_neg e,show(EO b a i !=0)=true from bne_iff_ne.2 e];rfl
theorem EB(c:UInt8):∀l:By,-1<=J8 c l
 | []=>by simp[J8]
 | b::r=>by
  have:=EB c r;unfold J8;omega
theorem EC(c b:UInt8):∀l:By,J8 c (l++[b])=if b=c then (l.length:Int) else J8 c l
 | []=>by
  by_cases h:b=c<;>simp[J8,h]
 | a::l=>by
  have d:=EC c b l;rw[ab3,J8,d];by_cases h:b=c
  ·grind
  ·rw[if_neg h,if_neg h];rfl
theorem WI{R:Type}{b:Int->Option R}{d:Unit->Option R}(s:By)(c:UInt8)(l:s.length<=1000000000):∀(m n:Nat),m<=s.length->m<n->
  Bf LF n s (c.toNat:Int) ((m:Int)-1) b d=if J8 c (s.take m)<0 then d () else b (J8 c (s.take m)):=by
 intro m
 induction m with
 | zero=>
  intro n g i;obtain⟨n,rfl⟩:∃m,n=m+1:=⟨n-1,by omega⟩
  rw[Bf];rw[C7];rfl
 | succ m k=>
  intro n g i;obtain⟨n,rfl⟩:∃m,n=m+1:=⟨n-1,by omega⟩
  rw[Bf];have e0:(((m+1:Nat):Int)-1)=(m:Int):=by omega
  have e:A4 ((m:Int)-1)=(m:Int)-1:=C0;have j:s.take (m+1)=s.take m++[s.getD m 0]:=by
   rw[List.take_add_one,o8,y8 (by omega)];rfl
  rw[e0,e,A8,K8,L4,j,EC];simp only[j1,cond_true];by_cases h:s.getD m 0=c
  ·rw[if_pos h,h,beq_self_eq_true,cond_true,s8,ag0 (by omega),T1]
  ·have a:(((s.getD m 0).toNat:Int)==(c.toNat:Int))=false:=by
    rw[beq_eq_false_iff_ne];intro f;exact h (UInt8.toNat.inj (Int.ofNat.inj f))
   rw[if_neg h,a,cond_false];exact k n (by omega) (by omega)
theorem Bt1{c:Int}(h:inR c 256=true):c=((u8n c).toNat:Int):=by simp only[inR,o5,decide_eq_true_eq] at h;unfold u8n;simp;omega
theorem WJ{R:Type}{a:Int->Option R}(s:By)(c:Int)(e:A2 s.length=true)(f:inR c 256=true):PG LF s c a=a (J8 (u8n c) s):=by
 have j:=N7 e;have g:=G3;have i:=Bt1 f;generalize u8n c=d at *;subst i;unfold PG;have b:A4 ((s.length:Int)-1)=(s.length:Int)-1:=C0;simp only[vl];rw[b];refine j5 (WI s d (by omega) s.length LF (by omega) (by omega)) ?_;rw[ac6];have:=EB d s;by_cases h:J8 d s<0
 ·rw[if_pos h,show J8 d s=-1 by omega]
 ·rw[if_neg h]
theorem Ai2{R:Type}{a:Int->Option R}(s:By)(c:Int)(b:A2 s.length=true)(d:inR c 256=true):Aw2 LF s c a=a (J8 (u8n c) s):=by unfold Aw2;grind
theorem Xy:∀s:By,(45∈s->J8 45 s=(P8 s:Int))/\(45∉s->J8 45 s=-1/\P8 s=0)
 | []=>⟨λh=>(by cases h),λ_=>⟨rfl,rfl⟩⟩
 | b::r=>by
  obtain⟨a,c⟩:=Xy r;unfold J8 P8;grind
theorem ZB{c:UInt8}(h:La c=none):J7 c=-1:=by unfold J7;rw[h]
theorem ZC{c:UInt8}{x:Nat}(h:La c=some x):J7 c=x:=by unfold J7;rw[h]
theorem VC(b:Nat):∀(s:By) (i w k:Nat),Ij (b:Int) s (i:Int) (w:Int) ((36*k:Nat):Int)=((((E1 b s i w k).2.2:Nat):Int),(Ij (b:Int) s (i:Int) (w:Int) ((36*k:Nat):Int)).2)/\
  ((E1 b s i w k).2.2=0->(Ij (b:Int) s (i:Int) (w:Int) ((36*k:Nat):Int)).2=((E1 b s i w k).2.1,((E1 b s i w k).1:Int)))
 | [],i,w,k=>⟨rfl,λh=>by simp[E1] at h⟩
 | c::r,i,w,k=>by
  unfold Ij E1;cases d:La c with
  | none=>
   rw[ZB d,Fo];grind
  | some x=>
   rw[ZC d,T1,FZ];have e:(i:Int)+(x:Int)*(w:Int)=((i+x*w:Nat):Int):=by push_cast;rfl
   have n:=Bt k b;have f:(w:Int)*(36-(thr k b:Int))=((w*(36-thr k b):Nat):Int):=by grind
   have g:((36*k:Nat):Int)+36=((36*(k+1):Nat):Int):=by omega
   have a:Iw=1099511627776:=by decide
   rw[e,f,g,a];simp only;generalize i+x*w=I;generalize w*(36-thr k b)=W;by_cases j:1099511627776<I
   ·grind
   ·rw[T1,if_neg j];by_cases l:x<thr k b
    ·grind
    ·rw[T1,if_neg l];by_cases m:1099511627776<W
     ·grind
     ·rw[T1,if_neg m];exact VC b r I W (k+1)
theorem Bm7(l:List Nat)(i n:Nat):Kd (I3 l) i (n:Int)=I3 (Xv l i n):=by unfold Kd Xv I3;simp_all
theorem QJ(b:Nat)(s:By)(i:Nat):EO (b:Int) s (i:Int)=((E1 b s i 1 0).2.2:Int)/\((E1 b s i 1 0).2.2=0->EQ (b:Int) s (i:Int)=(E1 b s i 1 0).2.1/\Qa (b:Int) s (i:Int)=((E1 b s i 1 0).1:Int)):=by obtain⟨a,c⟩:=VC b s i 1 0;have e:Ij (b:Int) s (i:Int) 1 0=Ij (b:Int) s (i:Int) ((1:Nat):Int) ((36*0:Nat):Int):=rfl;unfold EO EQ Qa;rw[e];refine⟨by rw[a],λh=>?_⟩;have:=c h;rw[this];exact⟨rfl,rfl⟩
theorem Cr0(s:By)(a:List Nat)(n i b:Nat)(c:Bool)(h:(E1 b s i 1 0).2.2=0)(q:i<=(E1 b s i 1 0).1)(o:Ld (n+(E1 b s i 1 0).1 / (a.length+1))=true)(p:¬ 256<a.length+1) :
  E4 ⟨s,(n:Int),(i:Int),(b:Int),c,I3 a⟩=(0,⟨(E1 b s i 1 0).2.1,((n+(E1 b s i 1 0).1 / (a.length+1):Nat):Int),(((E1 b s i 1 0).1 % (a.length+1)+1:Nat):Int),((Ex ((E1 b s i 1 0).1-i) (a.length+1) (!c):Nat):Int),true,I3 (Xv a ((E1 b s i 1 0).1 % (a.length+1)) (n+(E1 b s i 1 0).1 / (a.length+1)))⟩):=by
 obtain⟨j,k⟩:=QJ b s i;obtain⟨l,m⟩:=k h;unfold E4;simp only;rw[j,h,if_pos (show((0:Nat):Int)=0 from rfl),l,m,N8];generalize (E1 b s i 1 0).1=X at *;have d:((a.length:Int)+1)=((a.length+1:Nat):Int):=rfl;have e:ad3 (X:Int) ((a.length+1:Nat):Int)=((X / (a.length+1):Nat):Int):=Ar _ _;have f:ae5 (X:Int) ((a.length+1:Nat):Int)=((X % (a.length+1):Nat):Int):=GB _ _;have g:(n:Int)+((X / (a.length+1):Nat):Int)=((n+X / (a.length+1):Nat):Int):=rfl;rw[d,e,f,g,Zy,o,if_pos rfl,T1,c8,Bm7,c8,show((X:Int)-(i:Int)).toNat=X-i by omega];rfl
theorem Ci8(s:By)(a:List Nat)(n i b:Nat)(f:Bool):((E1 b s i 1 0).2.2≠0->(E4 ⟨s,(n:Int),(i:Int),(b:Int),f,I3 a⟩).1=((E1 b s i 1 0).2.2:Int))/\
  ((E1 b s i 1 0).2.2=0->Ld (n+(E1 b s i 1 0).1 / (a.length+1))=false->(E4 ⟨s,(n:Int),(i:Int),(b:Int),f,I3 a⟩).1=2)/\
  ((E1 b s i 1 0).2.2=0->Ld (n+(E1 b s i 1 0).1 / (a.length+1))=true->256<a.length+1->(E4 ⟨s,(n:Int),(i:Int),(b:Int),f,I3 a⟩).1=3):=by
 obtain⟨c,l⟩:=QJ b s i;have g:(((I3 a).length:Int)+1)=((a.length+1:Nat):Int):=by rw[N8];rfl
 have j:∀X:Nat,ad3 (X:Int) ((a.length+1:Nat):Int)=((X / (a.length+1):Nat):Int):=λX=>Ar _ _
 have k:∀A:Nat,(n:Int)+(A:Int)=((n+A:Nat):Int):=λA=>rfl
 refine⟨λh=>?_,λh e=>?_,λh e o=>?_⟩
 ·unfold E4;simp only;rw[c,T1]
 ·obtain⟨m,d⟩:=l h;unfold E4;simp only;rw[c,h,if_pos (show((0:Nat):Int)=0 from rfl),d,g,j,k,Zy,e,if_neg (by simp)]
 ·obtain⟨m,d⟩:=l h;unfold E4;simp only;rw[c,h,if_pos (show((0:Nat):Int)=0 from rfl),d,g,j,k,Zy,e,if_pos rfl,Fo]
theorem Pt(a:List Nat)(n i b:Nat)(f:Bool):S6 [] a n i b f=(a,0):=by rw[S6];rfl
theorem CZ{s:By}(c:s≠[])(a:List Nat)(n i b:Nat)(f:Bool)(h:(E1 b s i 1 0).2.2≠0):S6 s a n i b f=([],(E1 b s i 1 0).2.2):=by rw[S6,dif_neg c];grind
theorem Xp{s:By}(c:s≠[])(a:List Nat)(n i b:Nat)(f:Bool)(h:(E1 b s i 1 0).2.2=0):S6 s a n i b f =
  if Ld (n+(E1 b s i 1 0).1 / (a.length+1)) then (if 256<a.length+1 then ([],3) else S6 (E1 b s i 1 0).2.1 (Xv a ((E1 b s i 1 0).1 % (a.length+1)) (n+(E1 b s i 1 0).1 / (a.length+1))) (n+(E1 b s i 1 0).1 / (a.length+1)) ((E1 b s i 1 0).1 % (a.length+1)+1) (Ex ((E1 b s i 1 0).1-i) (a.length+1) f) false) else ([],2):=by
 rw[S6,dif_neg c];simp only;rw[dif_pos h]
theorem IY(l:List Nat)(i n:Nat):(Xv l i n).length=l.length+1:=by unfold Xv;grind
theorem A95:∀(r:Nat) (s:By) (a:List Nat) (n i b f:Nat) (c:Bool),s.length<=r->r<f->s.length<=1000000->a.length<=256->n<=1114111->i<=1000->b<=500->
  ((S6 s a n i b (!c)).2=0->∃u t q p j,∀(R:Type) (d:Int->LL->By->Int->Int->Int->Bool->Option R) (g:LL->By->Int->Int->Int->Bool->Option R),Q5 LF f (I3 a) s (n:Int) (i:Int) (b:Int) c d g=g (I3 (S6 s a n i b (!c)).1) u t q p j)/\
  ((S6 s a n i b (!c)).2≠0->(S6 s a n i b (!c)).1=[]/\∃l u t q p j,∀(R:Type) (d:Int->LL->By->Int->Int->Int->Bool->Option R) (g:LL->By->Int->Int->Int->Bool->Option R),Q5 LF f (I3 a) s (n:Int) (i:Int) (b:Int) c d g=d ((S6 s a n i b (!c)).2:Nat) l u t q p j):=by
 intro r
 induction r with
 | zero=>
  intro s a n i b f c h K _ _ _ _ _;obtain⟨f,rfl⟩:∃m,f=m+1:=⟨f-1,by omega⟩
  have v:s=[]:=o9.1 (by omega);subst v;rw[Pt];refine⟨λ_=>⟨[],n,i,b,c,λR d g=>?_⟩,λh=>absurd rfl h⟩;rw[Q5];rfl
 | succ r L=>
  intro s a n i b f c h K X Y Z h4 h5;obtain⟨f,rfl⟩:∃m,f=m+1:=⟨f-1,by omega⟩
  by_cases v:s=[]
  ·subst v;rw[Pt];refine⟨λ_=>⟨[],n,i,b,c,λR d g=>?_⟩,λh=>absurd rfl h⟩;rw[Q5];rfl
  ·have start:∀(R:Type) (d:Int->LL->By->Int->Int->Int->Bool->Option R) (g:LL->By->Int->Int->Int->Bool->Option R),Q5 LF (f+1) (I3 a) s (n:Int) (i:Int) (b:Int) c d g =
     cond ((E4 ⟨s,n,i,b,c,I3 a⟩).1 !=0) (d (E4 ⟨s,n,i,b,c,I3 a⟩).1 (E4 ⟨s,n,i,b,c,I3 a⟩).2.l (E4 ⟨s,n,i,b,c,I3 a⟩).2.rest (E4 ⟨s,n,i,b,c,I3 a⟩).2.n (E4 ⟨s,n,i,b,c,I3 a⟩).2.i (E4 ⟨s,n,i,b,c,I3 a⟩).2.b (E4 ⟨s,n,i,b,c,I3 a⟩).2.st)
      (Q5 LF f (E4 ⟨s,n,i,b,c,I3 a⟩).2.l (E4 ⟨s,n,i,b,c,I3 a⟩).2.rest (E4 ⟨s,n,i,b,c,I3 a⟩).2.n (E4 ⟨s,n,i,b,c,I3 a⟩).2.i (E4 ⟨s,n,i,b,c,I3 a⟩).2.b (E4 ⟨s,n,i,b,c,I3 a⟩).2.st d g):=by
    intro R d g;rw[Q5];rw[show(s==([]:By))=false from beq_eq_false_iff_ne.2 v,S9,Ay,Ay,Ay,N8,ab1 (show a.length<=100000 by omega)];rfl
   obtain⟨G,H,I⟩:=Ci8 s a n i b c;have o:=Cr0 s a n i b c;generalize E4 ⟨s,n,i,b,c,I3 a⟩=D at *;by_cases k:(E1 b s i 1 0).2.2=0
   ·rw[Xp v a n i b (!c) k];obtain⟨M,N⟩:=QJ b s i;obtain⟨O,P⟩:=N k;have J:EO (b:Int) s (i:Int)=0:=by rw[M,k];rfl
    obtain⟨U,V,W⟩:=OY b s i 1 0 (by omega) (by omega) (by omega) J;have A:(i:Int)<=Qa (b:Int) s (i:Int):=U;have B:Qa (b:Int) s (i:Int)<=1099511627776:=V;have C:(EQ (b:Int) s (i:Int)).length<s.length:=W;rw[P] at A B;rw[O] at C;cases x:Ld (n+(E1 b s i 1 0).1 / (a.length+1)) with
    | false=>
     rw[if_neg (by simp)];refine⟨λh=>by simp at h,λ_=>⟨rfl,D.2.l,D.2.rest,D.2.n,D.2.i,D.2.b,D.2.st,λR d g=>?_⟩⟩
     ·rw[start,H k x];rfl
    | true=>
     rw[if_pos rfl];by_cases w:256<a.length+1
     ·rw[if_pos w];refine⟨λh=>by simp at h,λ_=>⟨rfl,D.2.l,D.2.rest,D.2.n,D.2.i,D.2.b,D.2.st,λR d g=>?_⟩⟩;rw[start,I k x w];rfl
     ·rw[if_neg w];have o:=o k (by omega) x w;have z:n+(E1 b s i 1 0).1 / (a.length+1)<=1114111:=by
       unfold Ld at x;simp_all
      have F:=ag5 (E1 b s i 1 0).1 (show 0<a.length+1 by omega);have y:=TP ((E1 b s i 1 0).1-i) (a.length+1) (!c) (by omega);have:=L (E1 b s i 1 0).2.1 (Xv a ((E1 b s i 1 0).1 % (a.length+1)) (n+(E1 b s i 1 0).1 / (a.length+1))) (n+(E1 b s i 1 0).1 / (a.length+1)) ((E1 b s i 1 0).1 % (a.length+1)+1) (Ex ((E1 b s i 1 0).1-i) (a.length+1) (!c)) f true (by omega) (by omega) (by omega) (by rw[IY];omega) z (by omega) y;obtain⟨Q,S⟩:=this;refine⟨λh=>?_,λh=>?_⟩
      ·obtain⟨u,t,q,p,j,e⟩:=Q h;refine⟨u,t,q,p,j,λR d g=>?_⟩;rw[start,o];exact e R d g
      ·obtain⟨T,l,u,t,q,p,j,e⟩:=S h;refine⟨T,l,u,t,q,p,j,λR d g=>?_⟩;rw[start,o];exact e R d g
   ·rw[CZ v a n i b (!c) k];refine⟨λh=>absurd h k,λ_=>⟨rfl,D.2.l,D.2.rest,D.2.n,D.2.i,D.2.b,D.2.st,λR d g=>?_⟩⟩;rw[start,G k,show(((E1 b s i 1 0).2.2:Int)!=0)=true by rw[bne_iff_ne];omega];rfl
theorem JQ(l:List Nat):Ak4 l=I3 l:=rfl
theorem Al8{R:Type}{k0:Unit->Option R}{k1:By->Option R}(s:By)(f:s.length<=1000000):∀(r i n:Nat),i+r=s.length->r<n->
  Kj LF n s (s.length:Int) (i:Int) k0 k1=if (s.drop i).any (λb=>o6 128 b.toNat) then k0 () else k1 s:=by
 intro r
 induction r with
 | zero=>
  intro i n c d;obtain⟨n,rfl⟩:∃m,n=m+1:=⟨n-1,by omega⟩
  rw[Kj];rw[A8,j6 (by omega)];rfl
 | succ r e=>
  intro i n c d;obtain⟨n,rfl⟩:∃m,n=m+1:=⟨n-1,by omega⟩
  rw[Kj];have a:A4 ((i:Int)+1)=((i+1:Nat):Int):=by rw[C0];rfl
  rw[C7,K8,L4,N0 s i (by omega),a,aa5];simp only[cond_true];generalize s.getD i 0=b;by_cases h:128<=b.toNat
  ·rw[A8,ab1 h];rfl
  ·have:o6 128 b.toNat=false:=by rw[x4,ne_eq,w6];exact h
   rw[C7,this,aa8];exact e (i+1) n (by omega) (by omega)
theorem A94{R:Type}{k0:By->Int->LL->Option R}(s:By)(q:s.length<=1000000)(k:Nat)(p:k<=s.length):∀(r i n:Nat) (l:List Nat),i+r=k->r<n->l.length=i->
  Gx LF n s (k:Int) (i:Int) (I3 l) k0=k0 s (k:Int) (I3 (l++((s.take k).drop i).map (·.toNat))):=by
 intro r
 induction r with
 | zero=>
  intro i n l f h g;obtain⟨n,rfl⟩:∃m,n=m+1:=⟨n-1,by omega⟩
  rw[Gx];rw[A8,j6 (by rw[s8];omega)];simp
 | succ r j=>
  intro i n l f h g;obtain⟨n,rfl⟩:∃m,n=m+1:=⟨n-1,by omega⟩
  rw[Gx];have c:A4 ((i:Int)+1)=((i+1:Nat):Int):=by rw[C0];rfl
  have e:(s.take k).drop i=s.getD i 0::(s.take k).drop (i+1):=by
   rw[N0 (s.take k) i (by rw[s8];omega)]
   congr 1
   rw[o8,o8,List.getElem?_take_of_lt (by omega)]
  rw[C7,K8,L4,e,N8,I7 (by omega),c];simp only[cond_true];generalize s.getD i 0=b;have o:=b.toNat_lt;have d:A4 (b.toNat:Int)=(b.toNat:Int):=C0;have a:I3 l++[[SV.int .i64 (A4 (b.toNat:Int))]]=I3 (l++[b.toNat]):=by rw[d,XD];rfl
  rw[a,j (i+1) n _ (by omega) (by omega) (by simp;omega)];simp
theorem Xz:∀s:By,P8 s<=s.length-1
 | []=>by simp[P8]
 | b::r=>by
  have:=Xz r;unfold P8;grind
theorem Al9(s:By)(M:A2 s.length=true):(∃e,W0 s=([],e)/\∀(R:Type) (k0:Int->Option R) (k1:Int->LL->By->Int->Int->Int->Bool->Option R) (a:LL->By->Int->Int->Int->Bool->Option R),Sz LF s k0 k1 a=k0 (e:Nat))\/
  (∃e l k j i f c,W0 s=([],e)/\∀(R:Type) (k0:Int->Option R) (k1:Int->LL->By->Int->Int->Int->Bool->Option R) (a:LL->By->Int->Int->Int->Bool->Option R),Sz LF s k0 k1 a=k1 (e:Nat) l k j i f c)\/
  ((W0 s).2=0/\∃k j i f c,∀(R:Type) (k0:Int->Option R) (k1:Int->LL->By->Int->Int->Int->Bool->Option R) (a:LL->By->Int->Int->Int->Bool->Option R),Sz LF s k0 k1 a=a (I3 (W0 s).1) k j i f c):=by
 have N:=G3;unfold W0;by_cases C:1024<s.length
 ·rw[if_pos C];refine .inl ⟨3,rfl,λR k0 k1 a=>?_⟩;unfold Sz;rw[C7];rfl
 ·rw[if_neg C];have r:=λ(R:Type) (G:Unit->Option R) (H:By->Option R)=>Al8 (k0:=G) (k1:=H) s (by omega) s.length 0 LF (by omega) (by omega)
  rw[o7] at r;cases A:s.any (λb=>o6 128 b.toNat) with
  | true=>
   rw[if_pos rfl];refine .inl ⟨4,rfl,λR k0 k1 a=>?_⟩;unfold Sz;rw[A8,cond_false];refine j5 (r R _ _) ?_;rw[A,if_pos rfl];rfl
  | false=>
   rw[if_neg (by simp)];obtain⟨I,J⟩:=Xy s;have O:=Xz s;have key:∀(d:List Nat) (t:By),d.length<=256->t.length<=1024->(∀(R:Type) (k0:Int->Option R) (k1:Int->LL->By->Int->Int->Int->Bool->Option R) (a:LL->By->Int->Int->Int->Bool->Option R),Sz LF s k0 k1 a=Q5 LF LF (I3 d) t 128 0 72 false k1 a)->
     (∃e l k j i f c,S6 t d 128 0 72 true=([],e)/\∀(R:Type) (k0:Int->Option R) (k1:Int->LL->By->Int->Int->Int->Bool->Option R) (a:LL->By->Int->Int->Int->Bool->Option R),Sz LF s k0 k1 a=k1 (e:Nat) l k j i f c)\/
     ((S6 t d 128 0 72 true).2=0/\∃k j i f c,∀(R:Type) (k0:Int->Option R) (k1:Int->LL->By->Int->Int->Int->Bool->Option R) (a:LL->By->Int->Int->Int->Bool->Option R),Sz LF s k0 k1 a=a (I3 (S6 t d 128 0 72 true).1) k j i f c):=by
    intro d t P V B;obtain⟨D,F⟩:=A95 t.length t d 128 0 72 LF false (ab4 _) (by omega) (by omega) P (by omega) (by omega) (by omega);rw[j1] at D F;by_cases w:(S6 t d 128 0 72 true).2=0
    ·obtain⟨k,j,i,f,c,e⟩:=D w;exact .inr ⟨w,k,j,i,f,c,λR k0 k1 a=>by rw[B];exact e R k1 a⟩
    ·obtain⟨S,l,k,j,i,f,c,e⟩:=F w;exact .inl ⟨_,l,k,j,i,f,c,Prod.ext S rfl,λR k0 k1 a=>by rw[B];exact e R k1 a⟩
   have Q:u8n 45=45:=rfl;have top:∀(R:Type) (k0:Int->Option R) (k1:Int->LL->By->Int->Int->Int->Bool->Option R) (a:LL->By->Int->Int->Int->Bool->Option R),Sz LF s k0 k1 a =
     cond (ltI 0 (J8 45 s)) (Gx LF LF s (J8 45 s) 0 [] (λn x u=>cond (O6 (A4 (x+1)) (n.length:Int) n.length)
      (vl (cut n (A4 (x+1)) (n.length:Int)) λy=>cond (ltI 256 (u.length:Int)) (k1 3 u y 128 0 72 false) (Q5 LF LF u y 128 0 72 false k1 a)) none))
      (Q5 LF LF [] s 128 0 72 false k1 a):=by
    intro R k0 k1 a;unfold Sz;rw[A8,cond_false];refine j5 (r R _ _) ?_;rw[A,if_neg (by simp),M,Q];rfl
   by_cases T:0<P8 s
   ·have v:45∈s:=by
     apply ac0;intro h;have:=(J h).2;omega
    have z:=I v;generalize P8 s=m at *;have g:=λ(R:Type) (K:By->Int->LL->Option R)=>A94 (k0:=K) s (by omega) m (by omega) m 0 LF [] (by omega) (by omega) rfl
    rw[o7] at g;have L:A4 ((m:Int)+1)=((m+1:Nat):Int):=by rw[C0];rfl
    have p:((s.take m).map (·.toNat)).length=m:=by rw[p7,s8];omega
    have q:∀(R:Type) (k0:Int->Option R) (k1:Int->LL->By->Int->Int->Int->Bool->Option R) (a:LL->By->Int->Int->Int->Bool->Option R),Sz LF s k0 k1 a =
      cond (ltI 256 (m:Int)) (k1 3 (I3 ((s.take m).map (·.toNat))) (s.drop (m+1)) 128 0 72 false) (Q5 LF LF (I3 ((s.take m).map (·.toNat))) (s.drop (m+1)) 128 0 72 false k1 a):=by
     intro R k0 k1 a;rw[top,z,C7,cond_true];refine j5 (g R _) ?_;rw[L,T0,Gq,ac6,x8,N8,p];rfl
    by_cases o:256<m
    ·rw[if_pos o];refine .inr (.inl ⟨3,I3 ((s.take m).map (·.toNat)),s.drop (m+1),128,0,72,false,rfl,λR k0 k1 a=>?_⟩);rw[q,C7];rfl
    ·rw[if_neg o,if_neg (show ¬m=0 by omega)];exact .inr (key _ (s.drop (m+1)) (by rw[p];omega) (by rw[j7];omega) (λR k0 k1 a=>by rw[q,A8];rfl))
   ·have w:P8 s=0:=by omega
    have z:¬ 0<J8 45 s:=by
     by_cases U:45∈s;all_goals grind
    rw[w,T1,if_pos rfl];refine .inr (key [] s (by simp) (by omega) (λR k0 k1 a=>?_));rw[top,A8];rfl
theorem QC(l:List Nat):(I3 l).isEmpty=l.isEmpty:=by cases l<;>rfl
theorem B86(s:By)(k:A2 s.length=true):∃r H,Sz LF s (λf=>rv (.tup [.fl 0,.s (.int .i64 f)]) [.arr true 3 1 []]) (λf o w c d t j=>rv (.tup [.fl 2,.s (.int .i64 f)]) [.arr true 3 1 o,.box [.s (.str w),.fl 0,.s (.int .i64 c),.s (.int .i64 d),.s (.int .i64 t),.s (.bool j)],.arr true 3 1 []]) (λn v q c d i=>rv (.tup [.fl 0,.s (.int .i64 (0:Int))]) [.arr true 3 1 n,.box [.s (.str v),.fl 0,.s (.int .i64 q),.s (.int .i64 c),.s (.int .i64 d),.s (.bool i)]])=rv r H/\
  r.stab [1,0] H = .tup [.s (.sl (W0 s).1.isEmpty (W0 s).1.isEmpty 1 (Ak4 (W0 s).1)),.s (.int .i64 ((W0 s).2:Nat))]:=by
 rcases Al9 s k with⟨e,a,b⟩|⟨e,l,u,p,m,h,g,a,b⟩|⟨a,u,p,m,h,g,b⟩
 ·refine⟨_,_,b _ _ _ _,?_⟩;rw[a];rfl
 ·refine⟨_,_,b _ _ _ _,?_⟩;rw[a];rfl
 ·refine⟨_,_,b _ _ _ _,?_⟩;rw[a,JQ];simp[PV.stab,Pu,Rt,PV.snap,O2,QC]
end
section
open Go
theorem Yj:∀(f:Nat) (l:By),ah5 f l=(Dc f l).isSome
 | 0,_=>rfl
 | f+1,l=>by
  unfold ah5 Dc;split
  ·rfl
  ·split
   ·rfl
   ·rw[Yj f,ac1]
theorem Ar2(l:By):Lib.validD l=(Zi l).isSome:=Yj _ l
theorem KA:∀(f:Nat) (s:ByteArray) (pos:Nat) (p:List Nat),pos<=s.size->Dc f (s.data.toList.drop pos)=some p->s.size-pos<=f->ae7 s f pos=p.length
 | 0,s,pos,p,e,h,d=>by
  simp only[Dc,j9] at h;subst h;rfl
 | f+1,s,pos,p,e,h,d=>by
  have g:s.data.toList.length=s.size:=by rw[Array.length_toList];rfl
  unfold Dc at h;rw[ac2] at h;by_cases a:pos<s.size
  ·rw[if_neg (by rw[<-o9,j7];omega)] at h;split at h
   ·cases h
   ·cases b:Dc f (ah2 (af9 s pos).2 (ah2 pos s.data.toList)) with
    | none=>rw[b] at h;cases h
    | some q=>
     rw[b] at h;simp only[aa4,j9] at h;subst h;have i:=Lib.decode_width_pos s pos a;have c:pos+(af9 s pos).2<=s.size:=by
      have:=ag2 (s.data.toList.drop pos) (by rw[ne_eq,<-o9,j7];omega);rw[ac2,j7] at this;omega
     rw[ag4] at b;unfold ae7;rw[if_pos a,KA f s _ q c b (by omega)];grind
  ·rw[if_pos (by rw[<-o9,j7];omega)] at h;simp only[j9] at h;subst h;rw[Lib.runeCountFrom_end s _ _ a];rfl
theorem FK{l:By}{p:List Nat}(h:Zi l=some p):ag3 l=p.length:=by
 unfold ag3 Lib.runeCount;have a:(ByteArray.mk l.toArray).size=l.length:=by simp[ByteArray.size]
 refine KA _ _ 0 p (Nat.zero_le _) ?_ (by omega);rw[a,o7];simpa[Zi] using h
end
section
open Go Go.Proofs
theorem VG(l:List Nat):Gd (l.map λn:Nat=>(n:Int))=Jy l:=by
 have b:(l.map λn:Nat=>(n:Int)).all ptI=l.all Ld:=by
  rw[ae8]
  congr 1
 have c:(l.map λn:Nat=>(n:Int)).map k9=l:=by
  rw[ab8];exact(ab6 λa _=>by simp).trans (ai0 l)
 unfold Gd;rw[p7,b,c];by_cases h:256<l.length
 ·rw[if_pos h];unfold Jy;rw[if_pos h]
 ·rw[if_neg h];cases d:l.all Ld with
  | true=>rw[if_pos rfl]
  | false=>
   rw[if_neg (by simp)];unfold Jy;grind
theorem VE(l:List Nat):(I3 l).map elI=l.map λn:Nat=>(n:Int):=by unfold I3;rw[ab8];exact ab6 λa _=>rfl
theorem Oh(l:List Nat):(I3 l).all Xw=true:=by unfold I3;rw[ae8,aa6];intro x _;rfl
theorem Aj4{R:Type}{a:Unit->Option R}{d:By->Bool->LL->Bool->Option R}(s:By)(z:Bool)(p:List Nat)(t:p.length<=1000000000):∀(r i n:Nat) (b:Bool),i+r=p.length->r<n->
  V0 LF n s z (I3 p) b (p.length:Int) (i:Int) a d=if (p.drop i).any (λp=>o6 65 p&&o6 p 90) then a () else d s z (I3 p) (b&&!((p.drop i).any λp=>o6 128 p)):=by
 intro r
 induction r with
 | zero=>
  intro i n b h j;obtain⟨n,rfl⟩:∃m,n=m+1:=⟨n-1,by omega⟩
  rw[V0];rw[A8,j6 (by omega)];simp
 | succ r k=>
  intro i n b h j;obtain⟨n,rfl⟩:∃m,n=m+1:=⟨n-1,by omega⟩
  rw[V0];have f:A4 ((i:Int)+1)=((i+1:Nat):Int):=by rw[C0];rfl
  have g:p.drop i=p.getD i 0::p.drop (i+1):=by
   rw[o8,y8 (by omega),af5,List.getElem_cons_drop]
  rw[C7,N8,K8,c8,QL (by omega),Ag1 _ _ (by omega),g,aa5,aa5,f];simp only[cond_true,vl];generalize p.getD i 0=q;have go:∀c:Bool,V0 LF n s z (I3 p) c (p.length:Int) ((i+1:Nat):Int) a d=_:=λc=>k (i+1) n c (by omega) (by omega)
  by_cases l:q<65
  ·rw[C7,show o6 65 q=false by rw[x4,ne_eq,w6];omega];have e:o6 128 q=false:=by rw[x4,ne_eq,w6];omega
   rw[show ltI (q:Int) (128:Int)=true from C7,e];simp only[c9,cond_false,ab9,aa8];cases b<;>simp only[cond_true,cond_false]<;>rw[go]
  ·rw[A8,show o6 65 q=true by rw[w6];omega];simp only[j1,cond_true,x9];by_cases e:90<q
   ·rw[C7,show o6 q 90=false by rw[x4,ne_eq,w6];omega];simp only[c9,cond_false,aa8];by_cases o:q<128
    ·rw[show ltI (q:Int) (128:Int)=true from C7,show o6 128 q=false by rw[x4,ne_eq,w6];omega];cases b<;>simp only[cond_true,cond_false,aa8]<;>rw[go]
    ·rw[show ltI (q:Int) (128:Int)=false from A8,show o6 128 q=true by rw[w6];omega];cases b<;>simp only[cond_true,cond_false,ab7,c9,Bool.and_false]<;>rw[go]<;>simp
   ·rw[A8,show o6 q 90=true by rw[w6];omega];simp
theorem Ae6:∀(m:Nat) (s:By) (a:List Nat) (n i b:Nat) (f:Bool),s.length<=m->a.length<=256->(S6 s a n i b f).1.length<=256:=by
 intro m
 induction m with
 | zero=>
  intro s a n i b f e d;obtain rfl:=o9.1 (Nat.le_zero.1 e);rw[Pt];exact d
 | succ m j=>
  intro s a n i b f e d;by_cases h:s=[]
  ·grind
  ·by_cases c:(E1 b s i 1 0).2.2=0
   ·rw[Xp h _ _ _ _ _ c];have g:=Vr b s i 1 0 c;split
    ·split
     ·grind
     ·rename_i k;exact j _ _ _ _ _ _ (by omega) (by rw[IY];omega)
    grind
   ·rw[CZ h _ _ _ _ _ c];grind
theorem Bj9(s:By):(W0 s).1.length<=256:=by
 unfold W0;split
 ·grind
 ·split
  ·grind
  ·split
   ·grind
   ·rename_i h;exact Ae6 _ _ _ _ _ _ _ (ab4 _) (by rw[p7,s8];omega)
theorem Aj5{R:Type}{a:Bool->Option R}(s:By)(b:A2 s.length=true):Aw5 LF s a=a (Ob s):=by
 have c:=G3;unfold Aw5 Ob;rw[b,cond_true];by_cases h:(W0 s).2=0
 ·have e:(((W0 s).2:Int)!=(0:Int))=false:=by rw[h];rfl
  rw[e,cond_false,JQ,N8,h];have i:=Bj9 s;refine j5 (Aj4 s _ (W0 s).1 (by omega) (W0 s).1.length 0 LF true (by omega) (by omega)) ?_;rw[o7];cases d:(W0 s).1.any (λp=>o6 65 p&&o6 p 90) with
  | true=>simp
  | false=>
   rw[if_neg (by simp),Oh,VE,VG];simp only[cond_true,vl,x9,j1];cases f:(W0 s).1.any (λp=>o6 128 p) with
   | false=>simp
   | true=>
    simp only[c9,j1,cond_true,aa7,beq_self_eq_true,x9];by_cases g:(Jy (W0 s).1).2=0;all_goals grind
 grind
theorem A77{R:Type}{d:Unit->Option R}{e:By->Option R}(s:By)(w:s.length<=1000000000):∀(r i n:Nat),i+r=s.length->r<n->
  P9 LF n s (s.length:Int) (i:Int) d e=if (s.drop i).all X8 then e s else d ():=by
 intro r
 induction r with
 | zero=>
  intro i n l c;obtain⟨n,rfl⟩:∃m,n=m+1:=⟨n-1,by omega⟩
  rw[P9];rw[A8,j6 (by omega)];rfl
 | succ r o=>
  intro i n l c;obtain⟨n,rfl⟩:∃m,n=m+1:=⟨n-1,by omega⟩
  rw[P9];have k:A4 ((i:Int)+1)=((i+1:Nat):Int):=by rw[C0];rfl
  rw[C7,K8,L4,N0 s i (by omega),k,y7];simp only[cond_true];rw[o (i+1) n (by omega) (by omega)];generalize s.getD i 0=b;have j:=Ya b;have u:((b.toNat:Int)!=45) = !(b==45):=congrArg _ (Qh b 45 (by omega));have v:((b.toNat:Int)!=95) = !(b==95):=congrArg _ (Qh b 95 (by omega));rw[u,v];have t:∀{x:Bool},X8 b=x->(if (X8 b&&(s.drop (i+1)).all X8)=true then e s else d ())=if (x&&(s.drop (i+1)).all X8)=true then e s else d ():=λh=>by rw[h]
  cases a:X8 b with
  | true=>
   rw[j] at a;simp only[x9];by_cases f:b=45
   ·subst f;simp (disch:=decide) [ltI]
   ·by_cases g:b=95
    ·subst g;simp (disch:=decide) [ltI]
    ·rcases a with a|a|a|a
     ·rw[show ltI (b.toNat:Int) 97=false from A8,show ltI (122:Int) b.toNat=false from A8];rfl
     ·rw[show ltI (b.toNat:Int) 97=true from C7,show ltI (b.toNat:Int) 48=false from A8,show ltI (57:Int) b.toNat=false from A8];rfl
     ·exact absurd a f
     ·exact absurd a g
  | false=>
   have c:¬((97<=b.toNat/\b.toNat<=122)\/(48<=b.toNat/\b.toNat<=57)\/b=45\/b=95):=λh=>by rw[j.2 h] at a;cases a
   have p:(b==45)=false:=by simpa using λh=>c (.inr (.inr (.inl h)))
   have q:(b==95)=false:=by simpa using λh=>c (.inr (.inr (.inr h)))
   rw[p,q];simp only[j1,cond_true,ab9,aa0,if_false];by_cases f:b.toNat<48
   ·rw[show ltI (b.toNat:Int) 97=true from C7,show ltI (b.toNat:Int) 48=true from C7];rfl
   ·by_cases g:b.toNat<97
    ·rw[show ltI (b.toNat:Int) 97=true from C7,show ltI (b.toNat:Int) 48=false from A8,show ltI (57:Int) b.toNat=true from C7];rfl
    ·rw[show ltI (b.toNat:Int) 97=false from A8,show ltI (122:Int) b.toNat=true from C7,show ltI (b.toNat:Int) 48=false from A8,show ltI (57:Int) b.toNat=true from C7];rfl
theorem A78{R:Type}{a:Bool->Option R}(s:By)(b:A2 s.length=true):B72 LF s a=a (R3 s):=by
 have k:=N7 b;have h:=G3;unfold B72 R3;by_cases c:s=[]
 ·simp_all
 ·have o:0<s.length:=y9.2 c;have j:s.isEmpty=false:=by simpa using c
  rw[A8,cond_false,j];by_cases m:63<s.length
  ·rw[C7,show o6 s.length 63=false by rw[x4,ne_eq,w6];omega];rfl
  ·rw[A8,cond_false,show o6 s.length 63=true by rw[w6];omega,K8];have l:(bAt s 0==(45:Int))=(s.getD 0 0==45):=by rw[Qx];exact Qh _ 45 (by omega)
   have d:A4 ((s.length:Int)-1)=((s.length-1:Nat):Int):=by rw[C0];omega
   rw[l,d];simp only[cond_true,vl];rw[K8,L4,show((((s.getD (s.length-1) 0).toNat:Nat):Int)==45)=(s.getD (s.length-1) 0==45) from Qh _ 45 (by omega)];cases e:(s.getD 0 0==45) with
   | true=>
    grind
   | false=>
    rw[show(s.getD 0 0 !=45)=true by unfold bne;rw[e];rfl];simp only[cond_true,cond_false];cases f:(s.getD (s.length-1) 0==45) with
    | true=>
     grind
    | false=>
     rw[show(s.getD (s.length-1) 0 !=45)=true by unfold bne;rw[f];rfl];simp only[cond_false];refine j5 (A77 s k s.length 0 LF (by omega) (by omega)) ?_;rw[o7];cases n:s.all X8 with
     | false=>simp
     | true=>
      rw[if_pos rfl,b,cond_true];simp only[j1,x9,aa7];show cond (!(xnB.isPrefixOf s)) _ _=_;cases g:xnB.isPrefixOf s with
      | false=>rfl
      | true=>
       have i:Fh s xnB=s.drop 4:=by unfold Fh;rw[g];rfl
       show cond (A2 (Fh s xnB).length) (a (Ob (Fh s xnB))) none=_;rw[i,D9 (by rw[j7];omega)];rfl
theorem Af5(a:List Nat)(b:Nat)(F:a.length<=256)(A:b<=256)(d:∀p∈a,p<=1114111):∀(f n:Nat) (s:ZP),s.done=a.countP (λp=>decide (p<n))->s.delta<=300->s.bias<=500->s.out.length+20*(a.length-s.done)<=80000->n<=1114112->
  (Y1 a b f n s).out.length<=80000:=by
 intro f;have z:=G3
 induction f with
 | zero=>intro n s C w q x y;unfold Y1;omega
 | succ f G=>
  intro n s C w q x y;have B:a.countP (λp=>decide (p<n))<=a.length:=w8;by_cases h:s.done<a.length
  ·obtain⟨u,i,j⟩:=Bj3 (n:=n) (l:=a) (by omega);obtain⟨L,M,o⟩:=Mm n a 1114112;have N:=o u i j;have O:=d u i;have c:L2 n a 1114112∈a/\n<=L2 n a 1114112:=by grind
   have D:Y1 a b (f+1) n s=Y1 a b f (L2 n a 1114112+1) { O7 (L2 n a 1114112) b a { s with delta:=s.delta+(L2 n a 1114112-n)*(s.done+1) } with delta:=(O7 (L2 n a 1114112) b a { s with delta:=s.delta+(L2 n a 1114112-n)*(s.done+1) }).delta+1 }:=by
    rw[Y1,if_pos h]
   rw[D];generalize L2 n a 1114112=m at *;have t:(m-n)*(s.done+1)<=1114112*256:=ad6 (by omega) (by omega);have g:=Ax7 false false a b m (by omega) F a.length 0 LF { s with delta:=s.delta+(m-n)*(s.done+1) } (by omega) (by omega) (by simp only;omega) q (by simp only;omega) (by simp only;omega) A;rw[o7] at g;obtain⟨_,H,I,J,K⟩:=g;have e:0<a.countP (· == m):=ad9.2 ⟨m,c.1,by simp⟩;rw[if_pos e] at K;have k:=CW c.2 a o;generalize O7 m b a { s with delta:=s.delta+(m-n)*(s.done+1) } = v at *;simp only at I J;have r:a.countP (λp=>decide (p<m+1))<=a.length:=w8;exact G (m+1) { v with delta:=v.delta+1 } (by simp only;omega) (by simp only;omega) H (by simp only;omega) (by omega)
  ·rw[Y1,if_neg h];omega
theorem Bk8(p:List Nat):(Jy p).1.length<=80000:=by
 unfold Jy;split
 ·grind
 ·rename_i h;split
  ·grind
  ·rename_i a;have d:∀q∈p,q<=1114111:=λq e=>by
    have a:p.all Ld=true:=by simpa using a
    have:=aa6.1 a q e;simp only[Ld,o5,w6] at this;omega
   have b:=CD p;have c:p.countP (λq=>decide (q<128))<=p.length:=w8;refine Af5 p _ (by omega) (by omega) d 256 128 _ b (by simp) (by simp) ?_ (by omega);grind
theorem PW{b:UInt8}(h:128<=b.toNat):Aw b=b:=by
 rcases U9 b with⟨_,e⟩|⟨_,e⟩|⟨_,a,_⟩
 all_goals omega
theorem PX{b:UInt8}(h:b.toNat<128):(Aw b).toNat<128:=by
 rcases U9 b with⟨_,e⟩|⟨_,e⟩|⟨_,a,e⟩
 all_goals grind
theorem A22(n:Nat)(a c d e:UInt8)(h:128<=a.toNat):af7 n a.toNat (Aw c).toNat (Aw d).toNat (Aw e).toNat=af7 n a.toNat c.toNat d.toNat e.toNat:=by
 have i:∀b:UInt8,b.toNat / 64=2->Aw b=b:=λb f=>PW (by omega)
 have j:∀b:UInt8,¬b.toNat / 64=2->¬(Aw b).toNat / 64=2:=λb f h=>by
  by_cases g:128<=b.toNat
  ·rw[PW g] at h;exact f h
  ·have:=PX (b:=b) (by omega);omega
 unfold af7;grind
theorem B09(l:By)(c:l≠[]):(x6 (D0 l)).2=(x6 l).2/\(¬((x6 l).1=65533/\(x6 l).2=1)->¬((x6 (D0 l)).1=65533/\(x6 (D0 l)).2=1)):=by
 cases l with
 | nil=>exact absurd rfl c
 | cons b t=>
  by_cases a:b.toNat<128
  ·have d:=ae6 b t a;have f:x6 (D0 (b::t))=((Aw b).toNat,1):=ae6 (Aw b) (D0 t) (PX a);rw[d,f];refine⟨rfl,λ_ h=>?_⟩;have:=PX a;omega
  ·have e:x6 (D0 (b::t))=x6 (b::t):=by
    rw[ag9,ag9,Bk,Kg,Kg,Kg,Kg];have e0:Aw ((b::t).getD 0 0)=b:=PW (b:=b) (show 128<=b.toNat by omega);rw[e0];exact A22 (b::t).length b ((b::t).getD 1 0) ((b::t).getD 2 0) ((b::t).getD 3 0) (show 128<=b.toNat by omega)
   grind
theorem JS:∀(f:Nat) (l:By),(Dc f l).isSome=true->(Dc f (D0 l)).isSome=true
 | 0,_,_=>rfl
 | f+1,l,h=>by
  unfold Dc at h ⊢;by_cases a:l=[]
  ·subst a;rfl
  ·rw[if_neg a] at h;rw[if_neg (by rw[A74];exact a)];obtain⟨b,c⟩:=B09 l a;split at h
   ·cases h
   ·rename_i d;rw[if_neg (c d),ac1,b,Aj1];rw[ac1] at h;exact JS f _ h
theorem Bq2{l:By}(h:(Zi l).isSome=true):(Zi (D0 l)).isSome=true:=by unfold Zi at h ⊢;rw[Bk];exact JS _ _ h
theorem A62(t:By)(C:t.length<=1000000000):∀(f pos:Nat) (P q:List Nat) (n:Nat),pos<=t.length->t.length-pos<=f->f<n->P.length<=pos->Dc f (t.drop pos)=some q->
  ∃m,∀(R:Type) (h:LL->By->Nat->Option R),Dj LF n (I3 P) t pos h=h (I3 (P++q)) t m:=by
 intro f
 induction f with
 | zero=>
  intro pos P q n u v w x a;obtain⟨n,rfl⟩:∃m,n=m+1:=⟨n-1,by omega⟩
  simp only[Dc,j9] at a;subst a;refine⟨pos,λR h=>?_⟩;rw[Dj];rw[decide_eq_false (by omega),cond_false,aa3]
 | succ f z=>
  intro pos P q n u v w x a;obtain⟨n,rfl⟩:∃m,n=m+1:=⟨n-1,by omega⟩
  by_cases l:pos<t.length
  ·have b:t.drop pos≠[]:=by rw[ne_eq,<-o9,j7];omega
   have y:=ac2 ⟨t.toArray⟩ pos;have i:af9 ⟨List.toArray t⟩ pos=x6 (t.drop pos):=by rw[<-y]
   unfold Dc at a;rw[if_neg b] at a;split at a
   ·cases a
   ·have D:=Lib.decodeL_width (t.drop pos);have j:=ag2 (t.drop pos) b;have B:=Lib.decodeL_rune (t.drop pos);rw[j7] at j;rw[ag4] at a;generalize x6 (t.drop pos)=p at *;obtain⟨c,o⟩:=p;simp only at *;cases k:Dc f (t.drop (pos+o)) with
    | none=>rw[k] at a;cases a
    | some A=>
     rw[k] at a;simp only[aa4,j9] at a;subst a;obtain⟨m,e⟩:=z (pos+o) (P++[c]) A n (by omega) (by omega) (by omega) (by simp;omega) k;refine⟨m,λR h=>?_⟩;rw[Dj];rw[decide_eq_true l,cond_true,i,N8,I7 (by omega)];simp only[vl,cond_true];have r:A4 (c:Int)=(c:Int):=C0;have g:I3 P++[[SV.int .i64 (A4 (c:Int))]]=I3 (P++[c]):=by rw[r,XD];rfl
     rw[g,e,x5];rfl
  ·have d:t.drop pos=[]:=by rw[<-o9,j7];omega
   unfold Dc at a;rw[d,if_pos rfl] at a;simp only[j9] at a;subst a;refine⟨pos,λR h=>?_⟩;rw[Dj];rw[decide_eq_false l,cond_false,aa3]
theorem Ah9(s:By)(i:A2 s.length=true):(∀(R:Type) (b:By->Int->Option R) (c:By->Int->LL->By->Nat->Option R),WS LF s b c=b (R4 s).1 ((R4 s).2:Nat))\/
  (∃l t m,∀(R:Type) (b:By->Int->Option R) (c:By->Int->LL->By->Nat->Option R),WS LF s b c=c (R4 s).1 ((R4 s).2:Nat) l t m):=by
 have x:=N7 i;have u:=G3;unfold R4;cases h:Zi s with
 | none=>
  refine .inl λR b c=>?_
  unfold WS;rw[i,h];rfl
 | some p=>
  have k:=FK h;have top:∀(R:Type) (b:By->Int->Option R) (c:By->Int->LL->By->Nat->Option R),WS LF s b c=cond (ltI 256 (p.length:Int)) (b [] 3) (cond (ltI (p.length:Int) (s.length:Int)) (Dj LF LF [] (D0 s) 0 (λa g f=>cond (w7 a Xw)
      (cond (((Gd (j8 elI a)).2:Int)!=(0:Int))
       (c ([]:List UInt8) 14 a g f)
       (cond (P5 4 (j2 ((Gd (j8 elI a))).1))
        (cond (A2 (j2 (xnB++((Gd (j8 elI a))).1)))
         (cond (not (R3 (xnB++((Gd (j8 elI a))).1)))
         (c ([]:List UInt8) 14 a g f)
         (c (xnB++((Gd (j8 elI a))).1) 0 a g f))
         (none))
        (none)))
      (none)))
     (cond (A2 (j2 (D0 s)))
      (cond (not (R3 (D0 s)))
      (b ([]:List UInt8) 14)
      (b (D0 s) 0))
      (none))):=by
   intro R b c;unfold WS;rw[i,h,k];rfl
  simp only;by_cases n:256<p.length
  ·rw[if_pos n];refine .inl λR b c=>?_
   rw[top,C7];rfl
  ·rw[if_neg n];by_cases o:p.length<s.length
   ·rw[if_pos o];have d:=Bq2 (l:=s) (by rw[h];rfl);cases r:Zi (D0 s) with
    | none=>rw[r] at d;cases d
    | some q=>
     have w:=Bk s;obtain⟨m,e⟩:=A62 (D0 s) (by omega) (D0 s).length 0 [] q LF (by omega) (by omega) (by omega) (by simp) (by rw[o7];exact r);refine .inr ⟨I3 q,D0 s,m,λR b c=>?_⟩;rw[top,A8,cond_false,C7,cond_true];refine j5 (e R _) ?_;have v:=Bk8 q;rw[x8,Oh,VE,VG,cond_true,R7 (by omega),cond_true,D9 (by rw[j4];simp only[xnB,j0,p9];omega),cond_true];simp only;by_cases j:(Jy q).2=0
     ·rw[j,if_pos rfl];cases y:R3 (xnB++(Jy q).1) with
      | true=>rfl
      | false=>rfl
     ·rw[if_neg j];have:(((Jy q).2:Int)!=(0:Int))=true:=by simpa using j
      rw[this];rfl
   ·rw[if_neg o];refine .inl λR b c=>?_
    rw[top,A8,cond_false,A8,cond_false,D9 (by rw[Bk];exact x),cond_true];cases R3 (D0 s)<;>rfl
theorem B62(s:By)(c:A2 s.length=true):∃r H,WS LF s (λa b=>rv (.tup [.s (.str a),.s (.int .i64 b)]) []) (λa b d f e=>rv (.tup [.s (.str a),.s (.int .i64 b)]) [.arr true 3 1 d,.iter f e])=rv r H/\
  r.stab [0,0] H = .tup [.s (.str (R4 s).1),.s (.int .i64 ((R4 s).2:Nat))]:=by
 rcases Ah9 s c with h|⟨l,t,m,h⟩
 ·exact⟨_,_,h _ _ _,rfl⟩
 ·exact⟨_,_,h _ _ _,rfl⟩
theorem A40{R:Type}{g:Int->Option R}(b:Int)(h:inR b 256=true):Bm5 LF b g=g (Vt (u8n b)):=by
 simp only[inR,o5,decide_eq_true_eq] at h;have j:b=((u8n b).toNat:Int):=by
  unfold u8n;simp;omega
 generalize u8n b=c at *;subst j;have i:=c.toNat_lt;unfold Bm5;simp only[Se,Sd,vl,Vt];rcases Vu c with⟨d,f,e⟩|⟨d,f,e⟩|⟨d,f,e⟩|⟨d,f,o,e⟩
 ·have a:A4 (wu8 ((c.toNat:Int)-48))=((dig c:Nat):Int):=by
   rw[Z9,C0];omega
  rw[Fo];simp (disch:=omega) only[F1,I2,c9,j1,cond_false,cond_true,a]
 ·have a:A4 (A4 (wu8 ((c.toNat:Int)-97))+10)=((dig c:Nat):Int):=by
   rw[Z9,O5 (n:=(c.toNat:Int)-97) (by omega) (by omega),C0];omega
  rw[Fo];simp (disch:=omega) only[F1,I2,c9,j1,cond_false,cond_true,a]
 ·have a:A4 (A4 (wu8 ((c.toNat:Int)-65))+10)=((dig c:Nat):Int):=by
   rw[Z9,O5 (n:=(c.toNat:Int)-65) (by omega) (by omega),C0];omega
  rw[Fo];simp (disch:=omega) only[F1,I2,c9,j1,cond_false,cond_true,a]
 ·rw[e,if_neg (by decide)];by_cases k:c.toNat<48
  ·simp (disch:=omega) only[F1,I2,c9,j1,cond_false,cond_true]
  ·by_cases l:c.toNat<65
   ·simp (disch:=omega) only[F1,I2,c9,j1,cond_false,cond_true]
   ·by_cases m:c.toNat<97
    ·simp (disch:=omega) only[F1,I2,c9,j1,cond_false,cond_true]
    ·simp (disch:=omega) only[F1,I2,c9,j1,cond_false,cond_true]
theorem Ax6{b:UInt8}(r:By)(h:b≠37):Ak (b::r)=(Ak r).map (b::·):=by
 conv=>lhs;unfold Ak
 grind
theorem XP(x y:UInt8)(r:By):Ak (37::x::y::r)=if dig x<16/\dig y<16 then (Ak r).map (v8 (16*dig x+dig y)::·) else none:=by
 conv=>lhs;unfold Ak
 grind
theorem Bk0(x:UInt8):ltI (Vt x) 0 = !(decide (dig x<16)):=by
 unfold Vt;by_cases h:dig x<16
 ·simp_all
 ·rw[if_neg h,C7,decide_eq_false h];rfl
theorem QW:∀(s t:By),Ak s=some t->t.length<=s.length
 | [],t,h=>by simp only[Ak,j9] at h;subst h;exact ab4 _
 | b::r,t,h=>by
  by_cases c:b=37
  ·subst c
   match r,h with
   | [],h=>cases h
   | [x],h=>cases h
   | x::y::d,h=>
    rw[XP] at h;split at h
    ·cases a:Ak d with
     | none=>rw[a] at h;cases h
     | some q=>
      rw[a] at h;simp only[aa4,j9] at h;subst h;have:=QW d q a;simp only[j0];omega
    ·cases h
  ·rw[Ax6 _ c] at h;cases a:Ak r with
   | none=>rw[a] at h;cases h
   | some q=>
    rw[a] at h;simp only[aa4,j9] at h;subst h;have:=QW r q a;grind
theorem A39(s:By)(P:s.length<=1000000000):∀(m i n:Nat) (a:By),i<=s.length->s.length-i<=m->m<n->a.length<=i->
  (∀t,Ak (s.drop i)=some t->∀(R:Type) (c:LL->Option R) (d:LL->Option R),Q4 LF n s (i:Int) (a.map H7) c d=d ((a++t).map H7))/\
  (Ak (s.drop i)=none->∃l,∀(R:Type) (c:LL->Option R) (d:LL->Option R),Q4 LF n s (i:Int) (a.map H7) c d=c l):=by
 intro m
 induction m with
 | zero=>
  intro i n a J K L I;obtain⟨n,rfl⟩:∃m,n=m+1:=⟨n-1,by omega⟩
  rw[j6 (by omega)];refine⟨λt f R c d=>?_,λh=>(by cases h)⟩;simp only[Ak,j9] at f;subst f;rw[Q4];rw[A8,aa3];rfl
 | succ m G=>
  intro i n a J K L I;obtain⟨n,rfl⟩:∃m,n=m+1:=⟨n-1,by omega⟩
  by_cases z:i<s.length
  ·have D:A4 ((i:Int)+1)=((i+1:Nat):Int):=by rw[C0];rfl
   have F:A4 ((i:Int)+2)=((i+2:Nat):Int):=by rw[C0];rfl
   have H:A4 (((i+2:Nat):Int)+1)=((i+3:Nat):Int):=by rw[C0];omega
   have p:(a.map H7).length=a.length:=p7 _;have v:∀b:UInt8,a.map H7++[[SV.int .u8 (b.toNat:Int)]]=(a++[b]).map H7:=λb=>by rw[ac9];rfl
   have C:(((s.getD i 0).toNat:Int)!=37) = !(s.getD i 0==37):=congrArg _ (Qh _ 37 (by omega));rw[N0 s i z];by_cases g:s.getD i 0=37
   ·by_cases O:i+2<s.length
    ·rw[N0 s (i+1) (by omega),N0 s (i+1+1) (by omega),g,XP];obtain⟨A,B⟩:=G (i+3) n (a++[v8 (16*dig (s.getD (i+1) 0)+dig (s.getD (i+2) 0))]) (by omega) (by omega) (by omega) (by simp;omega);have top:∀(R:Type) (c:LL->Option R) (d:LL->Option R),Q4 LF (n+1) s (i:Int) (a.map H7) c d=cond (decide (dig (s.getD (i+1) 0)<16)&&decide (dig (s.getD (i+2) 0)<16)) (Q4 LF n s ((i+3:Nat):Int) ((a++[v8 (16*dig (s.getD (i+1) 0)+dig (s.getD (i+2) 0))]).map H7) c d) (c (a.map H7)):=by
      intro R c d;rw[Q4];rw[C7,K8,L4,C,g,p,F,C7,D,K8,K8,L4,L4];simp only[cond_true,vl,c9,cond_false,beq_self_eq_true,Cl8,SD,Bk0,I7 (show a.length+1<=68719476736 by omega),H];generalize s.getD (i+1) 0=x at *;generalize s.getD (i+2) 0=y at *;by_cases M:dig x<16
      ·by_cases N:dig y<16
       ·have w1:Vt x=(dig x:Int):=by unfold Vt;rw[if_pos M]
        have S:Vt y=(dig y:Int):=by unfold Vt;rw[if_pos N]
        have T:A4 ((16:Int)*(dig x:Int))=((16*dig x:Nat):Int):=by rw[C0];omega
        have U:A4 (((16*dig x:Nat):Int)+(dig y:Int))=((16*dig x+dig y:Nat):Int):=by rw[C0];omega
        have V:wu8 ((16*dig x+dig y:Nat):Int)=((v8 (16*dig x+dig y)).toNat:Int):=by
         rw[Z9];simp;omega
        grind
       grind
      grind
     by_cases o:dig (s.getD (i+1) 0)<16/\dig (s.getD (i+2) 0)<16
     ·rw[if_pos o];have w:(decide (dig (s.getD (i+1) 0)<16)&&decide (dig (s.getD (i+2) 0)<16))=true:=by rw[decide_eq_true o.1,decide_eq_true o.2];rfl
      refine⟨λt f R c d=>?_,λh=>?_⟩
      ·cases j:Ak (s.drop (i+3)) with
       | none=>rw[show i+1+1+1=i+3 from rfl,j] at f;cases f
       | some q=>
        rw[show i+1+1+1=i+3 from rfl,j] at f;simp only[aa4,j9] at f;subst f;rw[top,w,cond_true,A q j,x5];rfl
      ·cases j:Ak (s.drop (i+3)) with
       | some q=>rw[show i+1+1+1=i+3 from rfl,j] at h;cases h
       | none=>
        obtain⟨l,e⟩:=B j;exact⟨l,λR c d=>by rw[top,w,cond_true,e]⟩
     ·rw[if_neg o];have w:(decide (dig (s.getD (i+1) 0)<16)&&decide (dig (s.getD (i+2) 0)<16))=false:=by grind
      exact⟨λt h=>(by cases h),λ_=>⟨_,λR c d=>by rw[top,w,cond_false]⟩⟩
    ·have k:Ak (s.getD i 0::s.drop (i+1))=none:=by
      rw[g];cases o:s.drop (i+1) with
      | nil=>rfl
      | cons x r=>
       cases r with
       | nil=>rfl
       | cons y Q=>
        exfalso;have:=congrArg j2 o;rw[j7,j0,j0] at this;omega
     rw[k];refine⟨λt h=>(by cases h),λ_=>⟨a.map H7,λR c d=>?_⟩⟩;rw[Q4];rw[C7,K8,L4,C,g,F,A8];rfl
   ·rw[Ax6 _ g];obtain⟨A,B⟩:=G (i+1) n (a++[s.getD i 0]) (by omega) (by omega) (by omega) (by simp;omega);have u:(s.getD i 0==37)=false:=by simpa using g
    have top:∀(R:Type) (c:LL->Option R) (d:LL->Option R),Q4 LF (n+1) s (i:Int) (a.map H7) c d=Q4 LF n s ((i+1:Nat):Int) ((a++[s.getD i 0]).map H7) c d:=by
     intro R c d;rw[Q4];rw[C7,K8,L4,C,u,p,I7 (by omega),D,v];rfl
    refine⟨λt f R c d=>?_,λh=>?_⟩
    ·cases j:Ak (s.drop (i+1)) with
     | none=>rw[j] at f;cases f
     | some q=>
      rw[j] at f;simp only[aa4,j9] at f;subst f;rw[top,A q j,x5];rfl
    ·cases j:Ak (s.drop (i+1)) with
     | some q=>rw[j] at h;cases h
     | none=>
      obtain⟨l,e⟩:=B j;exact⟨l,λR c d=>by rw[top,e]⟩
  ·rw[j6 (by omega)];refine⟨λt f R c d=>?_,λh=>(by cases h)⟩;simp only[Ak,j9] at f;subst f;rw[Q4];rw[A8,aa3];rfl
theorem B35(s:By)(f:A2 s.length=true):∃r H,Bm4 LF s (λj k i=>rv (.tup [.s (.str j),.s (.bool k)]) [.arr false 5 1 i])=rv r H/\
  r.stab [0,0] H = .tup [.s (.str (Al7 s)),.s (.bool (Ak s).isSome)]:=by
 have h:=N7 f;have g:=G3;have a:((decide ((0:Int)<=(s.length:Int)))&&(I4 (k9 (s.length:Int))))=true:=by
  rw[c8,I7 (by omega),decide_eq_true (by omega)];rfl
 obtain⟨c,d⟩:=A39 s h s.length 0 LF [] (by omega) (by omega) (by omega) (by simp);rw[o7] at c d;unfold Al7;cases b:Ak s with
 | none=>
  obtain⟨l,e⟩:=d b;refine⟨.tup [.s (.str []),.s (.bool false)],[.arr false 5 1 l],?_,rfl⟩;unfold Bm4;rw[a,cond_true];exact e _ _ _
 | some t=>
  refine⟨.tup [.s (.str t),.s (.bool true)],[.arr false 5 1 (t.map H7)],?_,rfl⟩;unfold Bm4;rw[a,cond_true];refine j5 (c t b _ _ _) ?_;rw[x8,Lk,Mo];rfl
abbrev GN(i:Int)(j:By)(v4 a b c d e f g h:Int):List PV:=[.s (.int .i64 i),.s (.str j),.s (.int .u32 v4),.s (.int .u16 a),.s (.int .u16 b),.s (.int .u16 c),.s (.int .u16 d),.s (.int .u16 e),.s (.int .u16 f),.s (.int .u16 g),.s (.int .u16 h)]
def WD(h:C1):PV:=.agg [.s (.int .i64 (h.kind:Nat)),.s (.str h.name),.s (.int .u32 (h.v4:Nat)),.s (.int .u16 (h.v6.getD 0 0:Nat)),.s (.int .u16 (h.v6.getD 1 0:Nat)),.s (.int .u16 (h.v6.getD 2 0:Nat)),.s (.int .u16 (h.v6.getD 3 0:Nat)),.s (.int .u16 (h.v6.getD 4 0:Nat)),.s (.int .u16 (h.v6.getD 5 0:Nat)),.s (.int .u16 (h.v6.getD 6 0:Nat)),.s (.int .u16 (h.v6.getD 7 0:Nat))]
abbrev Cu1:Int->Int->Int->Int->Int->Int->Int->Int->Int->Int->Int->LL->Option (PV × List Blk × Unit):=λj c d e f g h i r8 k b a=>rv (.tup [.agg (GN j [] 0 c d e f g h i r8),.s (.int .i64 k)]) [.box (GN b [] 0 c d e f g h i r8),.arr false 39 1 a]
abbrev Cr2:Unit->Option (PV × List Blk × Unit):=λ_=>rv (.tup [.agg (GN 0 [] 0 0 0 0 0 0 0 0 0),.s (.int .i64 14)]) [.box (GN 0 [] 0 0 0 0 0 0 0 0 0)]
theorem B63(s:By)(c:UInt8)(h:s≠[]):(s.getLast? = some c)↔s.getD (s.length-1) 0=c:=by have:0<s.length:=y9.2 h;grind
theorem Bm3(s:By)(g:A2 s.length=true)(e:Bm9 s=true):∃r H,Av5 LF s Cu1 Cr2=rv r H/\r.stab [0,0] H = .tup [WD (P4 s).1,.s (.int .i64 ((P4 s).2:Nat))]:=by
 have m:=N7 g;have c:s≠[]:=by rintro rfl;cases e
 have l:0<s.length:=y9.2 c;have i:s.getD 0 0=91:=by
  cases s with
  | nil=>exact absurd rfl c
  | cons b t=>
   simp only[Bm9,ac8,aa7,beq_iff_eq] at e;grind
 have f:A4 ((s.length:Int)-1)=((s.length-1:Nat):Int):=by rw[C0];omega
 have k:(((s.getD (s.length-1) 0).toNat:Int)==93)=(s.getD (s.length-1) 0==93):=Qh _ 93 (by omega);have bad:∃r H,Cr2 ()=rv r H/\r.stab [0,0] H = .tup [WD M6,.s (.int .i64 14)]:=⟨_,_,rfl,rfl⟩
 unfold Av5 P4;simp only[vl,f];rw[K8,L4,k,cond_true];by_cases d:s.getD (s.length-1) 0=93
 ·have h:2<=s.length:=by grind
  rw[if_pos ⟨(B63 s 93 c).2 d,h⟩,d,beq_self_eq_true,cond_true,show(1:Int)=((1:Nat):Int) from rfl,T0,cond_true,Gq];have j:((s.take (s.length-1)).drop 1).length<=s.length:=by rw[j7,s8];omega
  rw[S9,cond_true];unfold v6c;cases n:v6B ((s.take (s.length-1)).drop 1) with
  | none=>exact⟨_,_,rfl,rfl⟩
  | some a=>exact⟨_,_,rfl,rfl⟩
 grind
theorem Bs1(l:List By)(i:Nat)(y:By)(h:i<l.length):List.set (A6 l) i (F9 ((A6 l).getD i []) 0 [SV.str y])=A6 (l.set i y):=by
 have e:(A6 l).getD i []=[SV.str (l.getD i [])]:=by
  unfold A6;grind
 rw[e];unfold A6;rw[List.map_set];rfl
theorem WE(N:Nat)(hN:N<=1000000001):∀(a:List By) (done:List By) (n:Nat),done.length+a.length=N->a.length<n->(∀x∈a,x.length<=1000000000)->
  ((K5 a).2=0->∀(R:Type) (b:Int->LL->Option R) (c:Nat->LL->Option R),Q8 LF n N (N:Int) (done.length:Int) (A6 (done++a)) b c=c N (A6 (done++(K5 a).1)))/\
  ((K5 a).2≠0->∃l,∀(R:Type) (b:Int->LL->Option R) (c:Nat->LL->Option R),Q8 LF n N (N:Int) (done.length:Int) (A6 (done++a)) b c=b ((K5 a).2:Nat) l):=by
 intro a
 induction a with
 | nil=>
  intro done n i o p;obtain⟨n,rfl⟩:∃m,n=m+1:=⟨n-1,by simp at o;omega⟩
  simp only[p9] at i;refine⟨λ_ R b c=>?_,λh=>absurd rfl h⟩;rw[Q8];rw[A8];rfl
 | cons x r z=>
  intro done n i o p;simp only[j0] at i o;obtain⟨n,rfl⟩:∃m,n=m+1:=⟨n-1,by omega⟩
  have v:A4 ((done.length:Int)+1)=((done.length+1:Nat):Int):=by rw[C0];rfl
  have q:(done++x::r).length=N:=by rw[j4,j0];omega
  have k:(done++x::r).getD done.length []=x:=by grind
  have f:∀y,(done++x::r).set done.length y=(done++[y])++r:=λy=>by grind
  have top:∀(R:Type) (b:Int->LL->Option R) (c:Nat->LL->Option R),Q8 LF (n+1) N (N:Int) (done.length:Int) (A6 (done++x::r)) b c=cond (((R4 x).2:Int)!=0) (b ((R4 x).2:Nat) (A6 (done++x::r))) (Q8 LF n N (N:Int) ((done.length+1:Nat):Int) (A6 ((done++[(R4 x).1])++r)) b c):=by
   intro R b c;rw[Q8];rw[C7,K8,c8,ah8,R0 (by omega),W3,k];simp only[vl,cond_true];rw[D9 (p x (by simp)),C2,decide_eq_true (show done.length<(done++x::r).length by omega),Bs1 _ _ _ (by omega),f,v];rfl
  unfold K5;obtain⟨t,u⟩:=z (done++[(R4 x).1]) n (by simp;omega) (by omega) (λy w=>p y (by simp[w]));have j:(done++[(R4 x).1]).length=done.length+1:=by simp
  rw[j] at t u;by_cases h:(R4 x).2=0
  ·rw[if_pos h];have g:(((R4 x).2:Int)!=0)=false:=by rw[h];rfl
   refine⟨λd R b c=>?_,λd=>?_⟩
   ·rw[top,g,cond_false,t d,x5];rfl
   ·obtain⟨l,e⟩:=u d;exact⟨l,λR b c=>by rw[top,g,cond_false,e]⟩
  ·rw[if_neg h];have g:(((R4 x).2:Int)!=0)=true:=by simpa using h
   exact⟨λd=>absurd d h,λ_=>⟨_,λR b c=>by rw[top,g,cond_true]⟩⟩
theorem Aw1(p:By)(m:Nat):∀l:List By,(∀x∈l,x.length<=m)->(ad5 l p).length<=(m+p.length)*l.length
 | [],_=>by simp[ad5]
 | [x],h=>by
  have:=h x (by simp);rw[show ad5 [x] p=x by simp[ad5,Lib.joinTail]];grind
 | x::y::r,h=>by
  have b:=h x (by simp);have c:=Aw1 p m (y::r) (λz a=>h z (by simp[a]));rw[DZ,j4,j4,j0,Nat.mul_add,Nat.mul_one];omega
theorem NB(l:List By):(A6 l).all isS=true:=by unfold A6;rw[ae8,aa6];intro x _;rfl
theorem Bs8(s:By):RY s [46]=M8 s:=by
 unfold RY M8;by_cases h:s.getLast? = some 46
 ·obtain⟨t,rfl⟩:=List.getLast?_eq_some_iff.1 h;grind
 ·rw[if_neg h,if_neg];rw[List.isSuffixOf_iff_suffix];rintro⟨t,a⟩;grind
abbrev Cr3:Int->By->Int->Int->Int->Int->Int->Int->Int->Int->Int->Int->Int->By->Int->Int->Int->Int->Int->Int->Int->Int->Int->Option (PV × List Blk × Unit):=λn o p q r t u v r8 w k l a m b c d e f g h i j=>rv (.tup [.agg (GN n o p q r t u v r8 w k),.s (.int .i64 l)]) [.box (GN a m b c d e f g h i j)]
abbrev Cr4:Int->By->Int->Int->By->LL->Option (PV × List Blk × Unit):=λc d e b f a=>rv (.tup [.agg (GN c d 0 0 0 0 0 0 0 0 0),.s (.int .i64 e)]) [.box (GN b f 0 0 0 0 0 0 0 0 0),.arr false 9 1 a]
theorem A43(s:By)(n:A2 s.length=true):∃r H,Wc LF s Cr3 Cr4=rv r H/\r.stab [0,0] H = .tup [WD (H4 s).1,.s (.int .i64 ((H4 s).2:Nat))]:=by
 have Q:=N7 n;have A:=G3;have bad:∀e:Nat,∃r H,Cr3 0 [] 0 0 0 0 0 0 0 0 0 (e:Int) 0 [] 0 0 0 0 0 0 0 0 0=rv r H/\r.stab [0,0] H = .tup [WD M6,.s (.int .i64 (e:Nat))]:=λe=>⟨_,_,rfl,rfl⟩
 have a:∀(e:Nat) (l:LL),∃r H,Cr4 0 [] (e:Int) 0 [] l=rv r H/\r.stab [0,0] H = .tup [WD M6,.s (.int .i64 (e:Nat))]:=λe l=>⟨_,_,rfl,rfl⟩
 by_cases i:1024<s.length
 ·have e:H4 s=(M6,3):=by unfold H4;rw[if_pos i]
  rw[e];unfold Wc;rw[C7,cond_true];exact bad 3
 ·have f:([91]:By).isPrefixOf s=decide (s.head? = some 91):=by
   cases s with
   | nil=>rfl
   | cons b t=>
    grind
  by_cases d:s.head? = some 91
  ·have j:([91]:By).isPrefixOf s=true:=by rw[f,decide_eq_true d]
   have e:H4 s=P4 s:=by unfold H4 P4;rw[if_neg i,if_pos d]<;>rfl
   rw[e];unfold Wc;rw[A8,cond_false,n,cond_true,j,cond_true,cond_true,show Bm9 s=true from j,cond_true];exact⟨_,_,rfl,rfl⟩
  ·have j:([91]:By).isPrefixOf s=false:=by rw[f,decide_eq_false d]
   unfold Wc;rw[A8,cond_false,n,cond_true,j,cond_false,cond_true];cases k:Ak s with
   | none=>
    have e:H4 s=(M6,14):=by unfold H4;rw[if_neg i,if_neg d,k]
    rw[e];exact bad 14
   | some t=>
    have L:t.length<=s.length:=QW s t k;have M:Al7 s=t:=by unfold Al7;rw[k];rfl
    rw[M,S9];simp only[Option.isSome_some,c9,cond_false,cond_true,vl];rw[Bs8];have K:(M8 t).length<=t.length:=by unfold M8;split<;>simp
    have B:H4 s=if N9 (M8 t) then (match pnB (M8 t) with
      | some v=>(⟨2,[],v,z8⟩,0)
      | none=>(M6,14))
     else if (K5 (pcs 46 (M8 t))).2=0 then (
      let name:=ad5 (K5 (pcs 46 (M8 t))).1 [46]
      if 253<name.length then (M6,3) else if N9 name then (M6,14) else (⟨1,name,0,z8⟩,0))
     else (M6,(K5 (pcs 46 (M8 t))).2):=by
     unfold H4;rw[if_neg i,if_neg d,k];rfl
    rw[B];generalize M8 t=u at *;rw[S9,cond_true];cases O:N9 u with
    | true=>
     rw[if_pos rfl,cond_true,cond_true];cases P:pnB u with
     | none=>exact bad 14
     | some v=>exact⟨_,_,rfl,rfl⟩
    | false=>
     rw[if_neg (by simp),cond_false,cond_true,show((1:Nat)==1)=true from rfl,cond_true];have C:([46]:By).getD 0 0=46:=rfl;rw[C];have J:=Nz 46 u;have D:=Mb 46 u;obtain⟨w,y⟩:=WE (pcs 46 u).length (by omega) (pcs 46 u) [] LF (by simp) (by omega) (λx p=>by have:=(Gw p).2;omega);rw[x8,p9] at w y;by_cases g:(K5 (pcs 46 u)).2=0
     ·rw[if_pos g];obtain⟨z,N⟩:=Uy _ g;have G:=Aw1 [46] 63 (K5 (pcs 46 u)).1 (λx p=>(KI (z x p)).le);have F:∀{R:Type} (m:Int->LL->Option R) (h:Nat->LL->Option R),Q8 LF LF (pcs 46 u).length ((pcs 46 u).length:Int) 0 (A6 (pcs 46 u)) m h=h (pcs 46 u).length (A6 (K5 (pcs 46 u)).1):=λm h=>w g _ m h
      rw[F];have hA:(K5 (pcs 46 u)).1.length<=1025:=by omega
      have o:List.take (pcs 46 u).length (ah2 0 (A6 (K5 (pcs 46 u)).1))=A6 (K5 (pcs 46 u)).1:=by
       rw[o7,List.take_of_length_le (by rw[C2];omega)]
      have q:(63+([46]:By).length)*(K5 (pcs 46 u)).1.length<=64*1025:=ad6 (by simp) hA;rw[o,NB,VF,C2,S9,S9];simp only[cond_true];generalize ad5 (K5 (pcs 46 u)).1 [46]=name at *;by_cases c:253<name.length
      ·rw[if_pos c,C7,cond_true];exact a 3 _
      ·rw[if_neg c,A8,cond_false];cases I:N9 name with
       | true=>exact a 14 _
       | false=>exact⟨_,_,rfl,rfl⟩
     ·rw[if_neg g];obtain⟨l,e⟩:=y g;simp_all
theorem WH{R:Type}{k0 k1:Unit->Option R}:∀l:List By,(∀x∈l,x.length<=1000000000)->DP LF l k0 k1=if l.all R3 then k0 () else k1 ()
 | [],_=>rfl
 | x::r,h=>by
  rw[WG];unfold Zt;rw[D9 (h x (by simp)),cond_true,y7];have b:=WH (k0:=k0) (k1:=k1) r (λy a=>h y (by simp[a]));grind
theorem Cj4(s:By)(a:A2 s.length=true):∃r H,hvn LF s (λ_=>rv (.s (.bool false)) [.box [.s (.bool false)]]) (λd b=>rv (.s (.bool d)) [.box [.s (.bool b)],.box [.bad],.box [.bad],.box [.bad]])=rv r H/\r.stab [] H = .s (.bool (Cy s)):=by
 have h:=N7 a;unfold hvn PE Cy;by_cases e:253<s.length
 ·rw[C7,show o6 s.length 253=false by rw[x4,ne_eq,w6];omega];exact⟨_,_,rfl,rfl⟩
 ·rw[A8,cond_false,a,cond_true,show o6 s.length 253=true by rw[w6];omega];cases f:N9 s with
  | true=>exact⟨_,_,rfl,rfl⟩
  | false=>
   rw[cond_false,show((1:Nat)==1&&(0:Int)==(0:Int))=true from rfl,show([46]:By).getD 0 0=46 from rfl,aa7,cond_true,WH _ (λx c=>by have:=(Gw c).2;omega)];cases g:(pcs 46 s).all R3 with
   | true=>exact⟨_,_,rfl,rfl⟩
   | false=>exact⟨_,_,rfl,rfl⟩
theorem Cr9(a c d f g h i j:Nat):(n8 (a:Int) c d f g h i j==z8)=(((a:Int)==0)&&(((c:Int)==0)&&(((d:Int)==0)&&(((f:Int)==0)&&(((g:Int)==0)&&(((h:Int)==0)&&(((i:Int)==0)&&(((j:Int)==0)&&true)))))))):=by
 have e:n8 (a:Int) c d f g h i j=[a,c,d,f,g,h,i,j]:=rfl;have q:∀b:Nat,((b:Int)==0)=(b==0):=λb=>by grind
 rw[e];simp only[q,z8];rfl
theorem B47(a:Int)(b:By)(v4 l m n o p q t u:Int)(D:A2 b.length=true)(F:ltN v4 4294967296=true)(G:ok8 l m n o p q t u=true) :
  ∃r H,Lb LF a b v4 l m n o p q t u (λV M W N O P Q R n8 S y z x=>rv (.s (.bool V)) [.box (GN M W N O P Q R n8 S y z),.arr false 39 1 x])=rv r H/\
   r.stab [] H = .s (.bool (P2 (mkH a b v4 (n8 l m n o p q t u)))):=by
 obtain⟨c,d,e,f,g,i,j,k,rfl,rfl,rfl,rfl,rfl,rfl,rfl,rfl,X⟩:=Sv G;obtain⟨v0,v1⟩:=E8.1 F;obtain⟨v,rfl⟩:=v7 v0;have U:((v:Int)==0)=(v==0):=by
  rw[x7,beq_iff_eq,beq_iff_eq];omega
 have T:(b==([]:By))=b.isEmpty:=by cases b<;>rfl
 have J:(mkH a b (v:Int) (n8 (c:Int) d e f g i j k)).kind=if ltN a 4 then a.toNat else 0:=rfl
 have K:(mkH a b (v:Int) (n8 (c:Int) d e f g i j k)).name=b:=rfl;have L:(mkH a b (v:Int) (n8 (c:Int) d e f g i j k)).v4=v:=c8 v;have I:(mkH a b (v:Int) (n8 (c:Int) d e f g i j k)).v6=n8 (c:Int) d e f g i j k:=rfl;unfold Lb P2;rw[J,K,L,I,Cr9,U,T];by_cases A:a=1
 ·subst A;rw[show((1:Int)==1)=true from rfl,cond_true,D,cond_true,if_pos (by decide)];cases Cy b with
  | false=>exact⟨_,_,rfl,rfl⟩
  | true=>
   cases (v==0) with
   | false=>exact⟨_,_,rfl,rfl⟩
   | true=>exact⟨_,_,rfl,rfl⟩
 ·rw[show(a==(1:Int))=false by simpa using A,cond_false];by_cases B:a=2
  ·subst B;rw[show((2:Int)==2)=true from rfl,cond_true,if_neg (by decide),if_pos (by decide)];cases b.isEmpty with
   | false=>exact⟨_,_,rfl,rfl⟩
   | true=>exact⟨_,_,rfl,rfl⟩
  ·rw[show(a==(2:Int))=false by simpa using B,cond_false];by_cases C:a=3
   ·subst C;rw[show((3:Int)==3)=true from rfl,cond_true,if_neg (by decide),if_neg (by decide),if_pos (by decide)];cases b.isEmpty with
    | false=>exact⟨_,_,rfl,rfl⟩
    | true=>exact⟨_,_,rfl,rfl⟩
   ·rw[show(a==(3:Int))=false by simpa using C,cond_false];have w:(if ltN a 4 then a.toNat else 0)=0:=by
     split
     ·rename_i h;have:=E8.1 h;omega
     ·rfl
    rw[w];exact⟨_,_,rfl,rfl⟩
theorem Cg5{a b c d e f g i:Int}(h:ok8 a b c d e f g i=true):(n8 a b c d e f g i).length=8/\∀x∈n8 a b c d e f g i,x<65536:=by obtain⟨k,l,m,n,o,p,q,r,rfl,rfl,rfl,rfl,rfl,rfl,rfl,rfl,t⟩:=Sv h;refine⟨rfl,λx j=>?_⟩;simp only[n8,c8,ah1,af3,or_false] at j;omega
theorem B42(a:Int)(j:By)(v4 b c d e f g h i:Int)(q:A2 j.length=true)(t:ltN v4 4294967296=true)(n:ok8 b c d e f g h i=true) :
  ∃r H,B40 LF a j v4 b c d e f g h i (λI k J y z A B C n8 D l m=>rv (.s (.str I)) [.box (GN k J y z A B C n8 D l m)])=rv r H/\
   r.stab [] H = .s (.str (Fm (mkH a j v4 (n8 b c d e f g h i)))):=by
 obtain⟨F,G⟩:=Cg5 n;have v:=Bu2 _ F G;unfold B40 Fm;rw[q,t,n];simp only[cond_true,vl];have u:(mkH a j v4 (n8 b c d e f g h i)).kind=if ltN a 4 then a.toNat else 0:=rfl
 cases w:P2 (mkH a j v4 (n8 b c d e f g h i)) with
 | false=>exact⟨_,_,rfl,rfl⟩
 | true=>
  rw[if_pos rfl,c9,cond_false,u];by_cases o:a=1
  ·subst o;rw[if_pos (by decide)];exact⟨_,_,rfl,rfl⟩
  ·rw[show(a==(1:Int))=false by simpa using o,cond_false];have k:¬(if ltN a 4 then a.toNat else 0)=1:=by grind
   rw[if_neg k];by_cases p:a=2
   ·subst p;rw[if_pos (by decide)];exact⟨_,_,rfl,rfl⟩
   ·rw[show(a==(2:Int))=false by simpa using p,cond_false];have x:¬(if ltN a 4 then a.toNat else 0)=2:=by grind
    rw[if_neg x,R7 (by omega),cond_true,R7 (by rw[j4,ad1];omega),cond_true];exact⟨_,_,rfl,rfl⟩
theorem A38{R:Type}{b:Bool->Option R}(p s:By)(a:A2 p.length=true)(c:A2 s.length=true):B32 LF p s b=b (Rl p s):=by have d:=N7 a;unfold B32 Rl;rw[a,c,R7 (by omega)];grind
theorem Aj6{R:Type}{a:By->By->Int->Option R}(t p:By)(n:Int):Bn9 LF t p n a=a t p n:=rfl
theorem Bc0{R:Type}{a:By->By->Option R}(t p:By):Cl3 LF t p a=a t p:=rfl
theorem Ap0{l R:Type}(g:Yh l)(c:UInt8):∀(m:Nat) (t:By) (n:Nat) (s i:l),t.length<=m->t.length<=1000000000->m<n->P0 g ((pcs c t).map λx=>([.s (.str x)]:List PV)) s=some i->
  ∃u , (∃w:l,∃b:Bool,g [.s (.str u)] w=some (b,i)/\∀(a d:By->By->Int->l->Option R),R2 g LF n [c] t 0 s a d=a [c] u 0 w)\/(∀(a d:By->By->Int->l->Option R),R2 g LF n [c] t 0 s a d=d [c] u 0 i):=by
 intro m
 induction m with
 | zero=>
  intro t n s i z o F h;obtain rfl:=o9.1 (Nat.le_zero.1 z);obtain⟨n,rfl⟩:∃m,n=m+1:=⟨n-1,by omega⟩
  rw[Sy (by simp)] at h;simp only[w9,ae9,P0] at h;refine⟨[],.inl ⟨s,?_⟩⟩;have e:∀(a d:By->By->Int->l->Option R),R2 g LF (n+1) [c] [] 0 s a d=a [c] [] 0 s:=λa d=>by
   rw[R2];rw[Pw (by simp)];rfl
  cases k:g [.s (.str [])] s with
  | none=>rw[k] at h;cases h
  | some q=>
   obtain⟨b,j⟩:=q;rw[k] at h;have:j=i:=by cases b<;>simpa using h
   subst this;exact⟨b,rfl,e⟩
 | succ m G=>
  intro t n s i z o F h;obtain⟨n,rfl⟩:∃m,n=m+1:=⟨n-1,by omega⟩
  rcases Z7 c t with v|⟨p,r,rfl,v⟩
  ·rw[Sy v] at h;simp only[w9,ae9,P0] at h;refine⟨t,.inl ⟨s,?_⟩⟩;have e:∀(a d:By->By->Int->l->Option R),R2 g LF (n+1) [c] t 0 s a d=a [c] t 0 s:=λa d=>by
    rw[R2];rw[Pw v,D9 o];rfl
   cases k:g [.s (.str t)] s with
   | none=>rw[k] at h;cases h
   | some q=>
    obtain⟨b,j⟩:=q;rw[k] at h;have:j=i:=by cases b<;>simpa using h
    subst this;exact⟨b,rfl,e⟩
  ·rw[QU v] at h;simp only[w9,P0] at h;have y:(p++c::r).length=p.length+r.length+1:=by rw[j4,j0];omega
   have A:A4 ((p.length:Int)+0)=((p.length:Nat):Int):=by rw[C0];omega
   have B:A4 ((p.length:Int)+(([c]:By).length:Int))=((p.length+1:Nat):Int):=by
    rw[O5 (by simp;omega) (by simp;omega)];simp
   have C:cut (p++c::r) 0 (p.length:Int)=p:=by rw[Ch,c8,List.take_left]
   have D:cut (p++c::r) ((p.length+1:Nat):Int) ((p++c::r).length:Int)=r:=by
    rw[Bw,c8,show p++c::r=(p++[c])++r by simp,List.drop_left' (by simp)]
   have top:∀(a d:By->By->Int->l->Option R),R2 g LF (n+1) [c] (p++c::r) 0 s a d=ydK (g [.s (.str p)] s) λb j=>cond (not b) (d [c] (p++c::r) 0 j) (R2 g LF n [c] r 0 j a d):=λa d=>by
    rw[R2];rw[We v,D9 o,cond_true,A8,cond_false];simp only[vl,A,B,C,D];rw[T0,cond_true,T0];rfl
   cases k:g [.s (.str p)] s with
   | none=>rw[k] at h;cases h
   | some q=>
    obtain⟨b,j⟩:=q;rw[k] at h top;cases b with
    | false=>
     have:j=i:=by simpa using h
     subst this;exact⟨p++c::r,.inr λa d=>by rw[top];rfl⟩
    | true=>
     simp only at h;obtain⟨u,⟨w,b,e,f⟩|f⟩:=G r n j i (by omega) (by omega) (by omega) h
     ·exact⟨u,.inl ⟨w,b,e,λa d=>by rw[top];exact f a d⟩⟩
     ·exact⟨u,.inr λa d=>by rw[top];exact f a d⟩
theorem Ap1{j R:Type}(i:Yh j)(p t:By)(n:Int)(s g:j)(h:(A2 t.length&&(p.length==1&&n==0))=true)(o:P0 i ((pcs (p.getD 0 0) t).map λx=>([.s (.str x)]:List PV)) s=some g) :
  ∃d,∀(a:By->By->Int->j->Option R),YK i LF p t n s a=a p d n g:=by
 have m:=G3;simp only[o5,beq_iff_eq] at h;obtain⟨k,l,rfl⟩:=h;obtain⟨c,rfl⟩:=List.length_eq_one_iff.1 l;have q:=N7 k;obtain⟨d,⟨r,b,e,f⟩|f⟩:=Ap0 (R:=R) i c t.length t LF s g (ab4 _) q (by omega) o
 ·refine⟨d,λa=>?_⟩;unfold YK;rw[show(((([c]:By).length:Nat):Int)==0)=false from rfl,cond_false];refine j5 (f _ _) ?_;rw[e];rfl
 ·refine⟨d,λa=>?_⟩;unfold YK;rw[show(((([c]:By).length:Nat):Int)==0)=false from rfl,cond_false];exact f _ _
set_option maxRecDepth 100000
theorem Aj7{R:Type}{b:By->Option R}(s p:By)(a:A2 s.length=true):Aw6 LF s p b=b (Fh s p):=by
 have:=N7 a;unfold Aw6 Fh;rw[a];cases h:p.isPrefixOf s with
 | false=>simp
 | true=>
  have:p.length<=s.length:=by rw[Cv] at h;simp at h;exact h.1
  simp (disch:=omega)
theorem Bc6{R:Type}{a:By->Option R}(s p:By)(b:A2 s.length=true):Cb1 LF s p a=a (Fh s p):=by unfold Cb1;rw[b];rfl
theorem Aq4{R:Type}{e:Int->Option R}(s:By):Ay9 LF s e=e (Fi s):=by unfold Ay9 Fi HW bWs Ll TV;generalize (s==([104,116,116,112]:List UInt8))=a;generalize (s==([119,115]:List UInt8))=b;generalize (s==([104,116,116,112,115]:List UInt8))=c;generalize (s==([119,115,115]:List UInt8))=d;cases a<;>cases b<;>cases c<;>cases d<;>rfl
theorem Aq9{R:Type}{a:Bool->Option R}(s:By):Az0 LF s a=a (E9 s):=by unfold Az0;rw[V2,GR]
def QG:By:=[48,49,50,51,52,53,54,55,56,57,43,45,46]
theorem Kc(c:UInt8):∀l:By,ltI (y5 l c) 0 = !l.contains c
 | []=>rfl
 | b::r=>by
  have f:=Kc c r;have g:=Lib.indexByte_ge r c;unfold y5;by_cases h:b=c
  ·subst h;simp[I2]
  ·have e:(b==c)=false:=by simpa using h
   have d:(c==b)=false:=by simpa using Ne.symm h
   rw[List.contains_cons,d,aa8,<-f,e];simp only[aa0,if_false];by_cases a:y5 r c=-1
   ·rw[a];rfl
   ·have:(y5 r c==-1)=false:=by simpa using a
    rw[this,if_neg (by simp),A8,A8]
theorem YB:∀b:UInt8,X9 b=(T8 b||QG.contains b):=by
 have:∀n:Fin 256,X9 (v8 n.val)=(T8 (v8 n.val)||QG.contains (v8 n.val)):=by decide +kernel
 intro b;have h:=this ⟨b.toNat,b.toNat_lt⟩;simpa using h
theorem YY{R:Type}{c:Unit->Option R}{d:By->Int->Int->Bool->Option R}(s:By)(i:Nat)(b:UInt8)(l:Bool)(n:Int):Dx s (i:Int) (b.toNat:Int) l n c d=if l then d s n i false else if i=0 then c () else if QG.contains b then d s n i false else c ():=by
 unfold Dx;cases l with
 | true=>rfl
 | false=>
  rw[j1,cond_true,if_neg (by simp)];by_cases a:i=0
  ·subst a;rfl
  ·have f:=b.toNat_lt;rw[show((i:Int)==0)=false by simpa using a,cond_false,K8,cond_true,if_neg a];simp only[vl];rw[SD];have e:=Kc b QG;rw[show([48,49,50,51,52,53,54,55,56,57,43,45,46]:List UInt8)=QG from rfl,e];cases QG.contains b<;>rfl
theorem GG{R:Type}{a:Unit->Option R}{c:By->Option R}(s:By)(r:s.length<=1000000000)(n i:Nat)(p:i<s.length) :
  L1 LF (n+1) s (s.length:Int) (i:Int) a c=if T8 (s.getD i 0) then L1 LF n s s.length ((i+1:Nat):Int) a c else if i=0 then a () else if QG.contains (s.getD i 0) then L1 LF n s s.length ((i+1:Nat):Int) a c else a ():=by
 have k:A4 ((i:Int)+1)=((i+1:Nat):Int):=by rw[C0];rfl
 rw[L1,C7,K8,L4];simp only[cond_true];generalize s.getD i 0=b;have go:∀l,Dx s (i:Int) (b.toNat:Int) l (s.length:Int) (λ_=>a ()) (λj g h m=>L1 LF n j g (A4 (h+(1:Int))) a c)=if l then L1 LF n s s.length ((i+1:Nat):Int) a c else if i=0 then a () else if QG.contains b then L1 LF n s s.length ((i+1:Nat):Int) a c else a ():=λl=>by
  rw[YY,k]
 have q:T8 b=((o6 97 b.toNat&&o6 b.toNat 122)||(o6 65 b.toNat&&o6 b.toNat 90)):=rfl;by_cases f:97<=b.toNat
 ·rw[A8,j1,cond_true];by_cases d:b.toNat<=122
  ·rw[A8,j1,cond_true,if_pos (Y4.2 (.inl ⟨f,d⟩))];unfold AF;simp only[k]
  ·rw[C7,c9,cond_false,A8,j1,cond_true,C7,c9];have e:T8 b=false:=by
    rw[<-af0,Y4];omega
   rw[e];exact go false
 ·rw[C7,c9,cond_false];by_cases o:65<=b.toNat
  ·rw[A8,j1,cond_true];have e:T8 b = !ltI 90 (b.toNat:Int):=by
    rw[x7,Y4,ae2,Sl];omega
   rw[e];exact go _
  ·rw[C7,c9,cond_false];have e:T8 b=false:=by
    rw[<-af0,Y4];omega
   rw[e];exact go false
theorem Bd6{R:Type}{k0:Unit->Option R}{k1:By->Option R}(s:By)(d:s.length<=1000000000):∀(r i n:Nat),i+r=s.length->r<n->0<i->
  L1 LF n s (s.length:Int) (i:Int) k0 k1=if (s.drop i).all X9 then k1 s else k0 ():=by
 intro r
 induction r with
 | zero=>
  intro i n b c a;obtain⟨n,rfl⟩:∃m,n=m+1:=⟨n-1,by omega⟩
  rw[L1];rw[A8,j6 (by omega)];rfl
 | succ r e=>
  intro i n b c a;obtain⟨n,rfl⟩:∃m,n=m+1:=⟨n-1,by omega⟩
  rw[GG s d n i (by omega),e (i+1) n (by omega) (by omega) (by omega),N0 s i (by omega),y7,YB,if_neg (by omega:¬i=0)];cases T8 (s.getD i 0) with
  | true=>simp
  | false=>
   cases QG.contains (s.getD i 0)<;>simp
theorem Bd7{R:Type}{k0:Bool->Option R}(s:By)(f:A2 s.length=true):Bt4 LF s k0=k0 (Ca s):=by
 have c:=N7 f;have g:=G3;unfold Bt4;obtain⟨n,d⟩:∃m,LF=m+1:=⟨LF-1,by omega⟩
 cases s with
 | nil=>
  rw[show @L1 R LF LF = @L1 R LF (n+1) by rw[<-d]];rfl
 | cons b t=>
  rw[show @L1 R LF LF = @L1 R LF (n+1) by rw[<-d]];refine j5 (GG (b::t) c n 0 (by simp)) ?_;have e:=Bd6 (k0:=λ_=>k0 false) (k1:=λa=>k0 (not (a==([]:List UInt8)))) (b::t) c t.length 1 n (by simp;omega) (by simp at c;omega) (by omega);rw[ab5];simp only[ah8,if_true];rw[show(((0+1:Nat):Int))=((1:Nat):Int) from rfl,e];rw[show(b::t).drop 1=t from rfl,show Ca (b::t)=(T8 b&&t.all X9) from rfl];cases T8 b with
  | false=>rfl
  | true=>cases t.all X9<;>rfl
theorem QI:∀(s:By) (n:Int),Zh.go n s=(Ss n s).getD 0
 | [],n=>rfl
 | b::r,n=>by
  unfold Zh.go Ss;split
  ·exact QI r _
  ·rfl
theorem Bc8{R:Type}{a:Unit->Option R}{c:Int->Option R}(s:By)(y:s.length<=1000000000):∀(r i n:Nat) (v:Int),i+r=s.length->r<n->-1<=v->v<=65536->
  Ko LF n s v (s.length:Int) (i:Int) a c=match Ss v (s.drop i) with|some m=>c m|none=>a ():=by
 intro r
 induction r with
 | zero=>
  intro i n v p q j k;obtain⟨n,rfl⟩:∃m,n=m+1:=⟨n-1,by omega⟩
  rw[Ko];rw[A8,j6 (by omega)];rfl
 | succ r t=>
  intro i n v p q j k;obtain⟨n,rfl⟩:∃m,n=m+1:=⟨n-1,by omega⟩
  have d:A4 ((i:Int)+1)=((i+1:Nat):Int):=by rw[C0];rfl
  rw[Ko];rw[C7,K8,L4,N0 s i (by omega),d];have x:=(s.getD i 0).toNat_lt;generalize s.getD i 0=b at *;unfold Ss;simp only[cond_true,vl];by_cases l:b.toNat<48
  ·rw[C7,cond_true,T1]
  ·rw[A8,cond_false];by_cases o:57<b.toNat
   ·rw[C7,cond_true,T1]
   ·rw[A8,cond_false,if_pos (show 48<=b.toNat/\b.toNat<=57 by omega)];have u:(if (0:Int) > v then (0:Int) else v)=max v 0:=by omega
    have e:A4 (10*max v 0)=10*max v 0:=C0;have f:wu8 ((b.toNat:Int)-48)=((b.toNat-48:Nat):Int):=by rw[Z9];omega
    have g:A4 ((b.toNat-48:Nat):Int)=((b.toNat-48:Nat):Int):=C0;have h:A4 (10*max v 0+((b.toNat-48:Nat):Int))=10*max v 0+((b.toNat-48:Nat):Int):=C0;rw[u,e,f,g,h];have w:(if (65536:Int)<10*max v 0+((b.toNat-48:Nat):Int) then (65536:Int) else 10*max v 0+((b.toNat-48:Nat):Int))=min (10*max v 0+((b.toNat-48:Nat):Int)) 65536:=by omega
    rw[w];exact t (i+1) n _ (by omega) (by omega) (by omega) (by omega)
theorem Bc9{R:Type}{a:Int->Bool->Option R}(s:By)(b:A2 s.length=true):Cb4 LF s a=a (Zh s) (Su (-1) s).isSome:=by
 have d:=N7 b;have c:=G3;unfold Cb4;refine j5 (Bc8 s d s.length 0 LF (-1) (by omega) (by omega) (by omega) (by omega)) ?_;rw[o7,QH,show Zh s=Zh.go (-1) s from rfl,QI];cases Ss (-1) s with
 | none=>rfl
 | some m=>
  simp only[af5,af4];rw[V2];by_cases h:m<65536
  ·rw[decide_eq_true h,if_pos h];rfl
  ·rw[decide_eq_false h,if_neg h];rfl
theorem Bo9{s:By}{p:Int}(h:Su (-1) s=some p):Zh s=p:=by
 rw[QH] at h;rw[show Zh s=Zh.go (-1) s from rfl,QI];cases a:Ss (-1) s with
 | none=>rw[a] at h;cases h
 | some m=>
  rw[a] at h;simp only[af4] at h;split at h
  ·exact Option.some.inj h
  ·cases h
def hpT(name tail b user a:By):U3 × Nat:=
 if (H4 name).2≠0 then (Ai,(H4 name).2)
 else match Su (-1) (tail.drop 1) with
  | none=>(Ai,16)
  | some p=>(⟨b,user,(H4 name).1,if p=Fi b then -1 else p,a⟩,0)
def hpC(name tail b user a:By):U3 × Nat:=if tail≠[]/\tail.head?≠some 58 then (Ai,4) else hpT name tail b user a
theorem PC(c user b a:By):N6 c user b a=match Mq a with|none=>(Ai,4)|some (name,tail)=>hpC name tail c user b:=by
 unfold N6;cases Mq a with
 | none=>rfl
 | some q=>
  obtain⟨name,tail⟩:=q;rfl
theorem Pr{t:By}(h:t=[]\/t.head? = some 58):Fh t [58]=t.drop 1:=by
 rcases h with rfl|h
 ·rfl
 ·cases t with
  | nil=>cases h
  | cons b r=>
   simp only[List.head?_cons,j9] at h;subst h;simp[Fh]
theorem Tu(name tail:By)(f:name.length<=1000000000)(j:tail.length<=1000000000)(h:tail=[]\/tail.head? = some 58)(d u:By)(v:Int)(y:By)(w n8 x k l m n o r:Int)(c:By) :
  ∃B H,∀(R:Type) (a:Int->Blk->By->By->Int->By->Int->Int->Int->Int->Int->Int->Int->Int->Int->Int->By->List Blk->Option R),T5 name tail d u v y w n8 x k l m n o r (-1) c a=(λq=>a (uE q) B (uS q) (uU q) (uK q) (uN q) (uV q) (uA q 0) (uA q 1) (uA q 2) (uA q 3) (uA q 4) (uA q 5) (uA q 6) (uA q 7) (uP q) (uR q) H) (hpT name tail d u c):=by
 have i:(tail.drop 1).length<=1000000000:=by rw[j7];omega
 by_cases b:(H4 name).2=0
 ·cases g:Su (-1) (tail.drop 1) with
  | none=>
   apply o0;apply o0;intro R a;unfold T5 hpT;rw[D9 f,cond_true,Pr h,D9 j];simp only[vl,cond_true];rw[b,D9 i,g];rfl
  | some p=>
   have t:=Bo9 g;by_cases e:p=Fi d
   ·apply o0;apply o0;intro R a;unfold T5 hpT;rw[D9 f,cond_true,Pr h,D9 j];simp only[vl,cond_true];rw[b,D9 i,g,t,show(p !=Fi d)=false by simpa using e];simp only[e,if_true];rfl
   ·apply o0;apply o0;intro R a;unfold T5 hpT;rw[D9 f,cond_true,Pr h,D9 j];simp only[vl,cond_true];rw[b,D9 i,g,t,show(p !=Fi d)=true by simpa using e];simp only[e,if_false];rfl
 ·apply o0;apply o0;intro R a;unfold T5 hpT;rw[D9 f,cond_true];simp only[vl];rw[show(((H4 name).2:Int)!=0)=true by simpa using b,cond_true,if_pos b];rfl
theorem Kp(name tail:By)(w:name.length<=1000000000)(x:tail.length<=1000000000)(l m:By)(p:Int)(v:By)(t n8 u d f g i j k:Int)(a:By) :
  ∃B H,∀(R:Type) (c:Int->Blk->By->By->Int->By->Int->Int->Int->Int->Int->Int->Int->Int->Int->Int->By->List Blk->Option R),N1 name tail l m p v t n8 u d f g i j k (-1) a c=(λq=>c (uE q) B (uS q) (uU q) (uK q) (uN q) (uV q) (uA q 0) (uA q 1) (uA q 2) (uA q 3) (uA q 4) (uA q 5) (uA q 6) (uA q 7) (uP q) (uR q) H) (hpC name tail l m a):=by
 cases tail with
 | nil=>
  obtain⟨B,H,e⟩:=Tu name [] w x (.inl rfl) l m p v t n8 u d f g i j k a;refine⟨B,H,λR c=>?_⟩;unfold N1 hpC;exact e R c
 | cons b r=>
  by_cases n:b=58
  ·subst n;obtain⟨B,H,e⟩:=Tu name (58::r) w x (.inr rfl) l m p v t n8 u d f g i j k a;refine⟨B,H,λR c=>?_⟩;unfold N1 hpC;rw[O8 (by omega) (by simp),if_neg (by simp)];exact e R c
  ·apply o0;apply o0;intro R c;unfold N1 hpC;have o:(((b.toNat:Int))!=(58:Int))=true:=by
    rw[bne_iff_ne];intro h;have y:b.toNat=58:=by omega
    exact n (UInt8.toNat_inj.1 y)
   rw[O8 (by omega) (by simp),if_pos (by simpa using n),Qx,ab5,o];rfl
theorem Av7{c:UInt8}{s:By}(h:Pv c s=none):y5 s c=-1:=by rw[Hp,h]
theorem Av8{c:UInt8}{s:By}{k:Nat}(h:Pv c s=some k):y5 s c=(k:Int)/\k<s.length:=by obtain⟨p,r,rfl,_,rfl⟩:=IW h;exact⟨by rw[Hp,h],by simp⟩
theorem Ck9(c:UInt8)(s:By):([c]:By).isPrefixOf s=(s.head? == some c):=by
 cases s with
 | nil=>rfl
 | cons b r=>
  grind
abbrev KU(R:Type):=By->By->Int->By->Int->Int->Int->Int->Int->Int->Int->Int->Int->Int->By->Int->List Blk->Option R
abbrev IE{R:Type}(a:KU R)(q:U3 × Nat)(H:List Blk):Option R:=a (uS q) (uU q) (uK q) (uN q) (uV q) (uA q 0) (uA q 1) (uA q 2) (uA q 3) (uA q 4) (uA q 5) (uA q 6) (uA q 7) (uP q) (uR q) (uE q) H
theorem Aq2(u:By)(J:Int)(O:By)(v4 y z A C D F G I:Int)(t a:By)(h2:A2 a.length=true) :
  ∃H,∀(R:Type) (o:KU R),Qi LF u [] J O v4 y z A C D F G I (-1) t a o=IE o (G2 u t a) H:=by
 have ha:=N7 h2;have ge:=EB 64 a;have key:∀(x b:By),b.length<=1000000000->∃H,∀(R:Type) (o:KU R),(cond (A2 (j2 b)) (cond (ac8 (([91]:List UInt8)) b)
   (cond (A2 (j2 b))
    (vl (y5 b (u8n (93:Int))) λc=>
    cond (ltI c (0:Int))
     (o ([]:List UInt8) ([]:List UInt8) 0 ([]:List UInt8) 0 0 0 0 0 0 0 0 0 0 ([]:List UInt8) 4 [(bU u x J O v4 y z A C D F G I (-1) t),bU0])
     (cond (O6 (0:Int) (A4 (c+(1:Int))) (j2 b))
      (cond (O6 (A4 (c+(1:Int))) (↑(j2 b):Int) (j2 b))
       (N1 (cut b (0:Int) (A4 (c+(1:Int)))) (cut b (A4 (c+(1:Int))) (↑(j2 b):Int)) u x J O v4 y z A C D F G I (-1) t (λn0 T P Q K S L M n8 N f g i j l m n q=>o P Q K S L M n8 N f g i j l m n n0 (T::((bU P Q K S L M n8 N f g i j l m n)::q))))
       (none))
      (none)))
    (none))
   (cond (A2 (j2 b))
    (vl (y5 b (u8n (58:Int))) λd=>
    cond (not (ltI d (0:Int)))
     (cond (O6 (0:Int) d (j2 b))
      (cond (O6 d (↑(j2 b):Int) (j2 b))
       (N1 (cut b (0:Int) d) (cut b d (↑(j2 b):Int)) u x J O v4 y z A C D F G I (-1) t (λn0 T P Q K S L M n8 N f g i j l m n q=>o P Q K S L M n8 N f g i j l m n n0 (T::((bU P Q K S L M n8 N f g i j l m n)::q))))
      (none))
     (none))
     (N1 b ([]:List UInt8) u x J O v4 y z A C D F G I (-1) t (λn0 T P Q K S L M n8 N f g i j l m n q=>o P Q K S L M n8 N f g i j l m n n0 (T::((bU P Q K S L M n8 N f g i j l m n)::q)))))
    (none))) none)=IE o (N6 u x t b) H:=by
  intro x b hb;rw[PC];unfold Mq;have w:A2 b.length=true:=D9 hb;have W:u8n (93:Int)=93:=rfl;have U:u8n (58:Int)=58:=rfl;by_cases v:b.head? = some 91
  ·rw[if_pos v];have Z:([91]:By).isPrefixOf b=true:=by rw[Ck9,v];rfl
   cases Y:Pv 93 b with
   | none=>
    apply o0;intro R o;rw[w,Z,W,Av7 Y];rfl
   | some k=>
    obtain⟨e,hk⟩:=Av8 Y;have e1:A4 ((k:Int)+1)=((k+1:Nat):Int):=by rw[C0];rfl
    obtain⟨B,H,X⟩:=Kp (b.take (k+1)) (b.drop (k+1)) (by rw[s8];omega) (by rw[j7];omega) u x J O v4 y z A C D F G I t;apply o0;intro R o;rw[w,Z,W,e];simp only[vl,cond_true];rw[A8,cond_false,e1,T0,T0,cond_true,cond_true,Ch,Bw,c8,X]
  ·rw[if_neg v];have Z:([91]:By).isPrefixOf b=false:=by rw[Ck9];simpa using v
   cases Y:Pv 58 b with
   | none=>
    obtain⟨B,H,X⟩:=Kp b [] hb (by simp) u x J O v4 y z A C D F G I t;apply o0;intro R o;rw[w,Z,U,Av7 Y];simp only[vl,cond_true,cond_false];rw[C7,c9,cond_false,X]
   | some k=>
    obtain⟨e,hk⟩:=Av8 Y;obtain⟨B,H,X⟩:=Kp (b.take k) (b.drop k) (by rw[s8];omega) (by rw[j7];omega) u x J O v4 y z A C D F G I t;apply o0;intro R o;rw[w,Z,U,e];simp only[vl,cond_true,cond_false];rw[A8,j1,cond_true,T0,T0,cond_true,cond_true,Ch,Bw,c8,X]
 have V:u8n (64:Int)=64:=rfl;unfold G2;by_cases h:0<=J8 64 a
 ·obtain⟨p,r,rfl,_,hl⟩:=Ai1 h;rw[if_pos h,hl,c8];rw[j4,j0] at ha;obtain⟨H,e⟩:=key ((p++64::r).take p.length) ((p++64::r).drop (p.length+1)) (by rw[j7,j4,j0];omega);refine⟨H,λR o=>?_⟩;refine j5 ?_ (e R o);have e1:A4 ((p.length:Int)+1)=((p.length+1:Nat):Int):=by rw[C0];rfl
  have ln:(p++64::r).length=p.length+r.length+1:=by rw[j4,j0];omega
  unfold Qi;rw[h2,V,hl];simp only[vl,cond_true];rw[A8,j1,cond_true,e1,T0,T0,cond_true,cond_true,Ch,Bw,c8,c8];rfl
 ·rw[if_neg h];obtain⟨H,e⟩:=key [] a ha;refine⟨H,λR o=>?_⟩;refine j5 ?_ (e R o);unfold Qi;rw[h2,V];simp only[vl,cond_true];rw[C7,c9,cond_false];rfl
def Tru(x:Option (PV × List Blk × Unit)):Prop:=∃H,x=some (.s (.bool true),H,())
theorem eq8{v6:List Nat}(h:v6.length=8):∃a b c d e f g i,v6=[a,b,c,d,e,f,g,i]:=by
 match v6,h with
 | [a,b,c,d,e,f,g,i],_=>exact⟨a,b,c,d,e,f,g,i,rfl⟩
theorem B81{a b c d e f g i:Nat}(h:∀x∈[a,b,c,d,e,f,g,i],x<65536):ok8 a b c d e f g i=true:=by
 have q:∀x∈[a,b,c,d,e,f,g,i],ltN (x:Int) 65536=true:=λx j=>E8.2 ⟨by omega,by have:=h x j;omega⟩
 simp[ok8,q a,q b,q c,q d,q e,q f,q g,q i]
theorem Yy{h:C1}(a:P2 h=true):h.name.length<=253:=by
 unfold P2 at a;split at a
 ·simp only[o5] at a;exact(GI.1 a.1.1).le
 ·split at a
  ·simp only[o5,ac5] at a;rw[a.1];simp
  ·split at a
   ·simp only[o5,ac5] at a;rw[a.1];simp
   ·cases a
theorem VR{h:C1}(ok:Le h):(Fm h).length<=300:=by
 cases a:P2 h with
 | false=>rw[DL a];simp
 | true=>
  have d:=Yy a;have c:=Bu2 _ ok.v6.1 ok.v6.2;have b:=Cm1 _ ok.v4;unfold Fm;rw[if_pos a];split
  ·omega
  ·split
   ·omega
   ·simp only[j0,j4,p9];omega
theorem Av6{h0 b c d e f g i j a:Int}{h1:By}(k:ltN b 4294967296=true)(l:ok8 c d e f g i j a=true):Le (mkH h0 h1 b (n8 c d e f g i j a)):=by
 have⟨m,n⟩:=E8.1 k;refine⟨by show b.toNat<_;omega,Cg5 l,?_⟩;show(if ltN h0 4 then h0.toNat else 0)<4;split
 ·rename_i h;have:=E8.1 h;omega
 ·omega
theorem Bd4(c z:By)(x:Int)(y:By)(v4 m n o p t u v w k:Int)(b a:By)(O:A2 c.length=true)(P:A2 b.length=true)(A:A2 a.length=true)(B:z.isEmpty=true)(C:(k==-1)=true) :
  ∃r H,Qi LF c z x y v4 m n o p t u v w k b a (λL M D N F G I J n8 K f g h i l j d=>rv (.tup [gU L M D N F G I J n8 K f g h i l,.s (.int .i64 j)]) d)=rv r H/\
   r.stab [0,0] H=(λq=>.tup [gU (uS q) (uU q) (uK q) (uN q) (uV q) (uA q 0) (uA q 1) (uA q 2) (uA q 3) (uA q 4) (uA q 5) (uA q 6) (uA q 7) (uP q) (uR q),.s (.int .i64 (uE q))]) (G2 c b a):=by
 obtain rfl:=ac5.1 B;obtain rfl:k=-1:=by simpa using C
 obtain⟨H,e⟩:=Aq2 c x y v4 m n o p t u v w b a A;exact⟨_,_,e _ _,rfl⟩
theorem B06(b:UInt8):ctl b=(!ltI 32 (b.toNat:Int)||((b.toNat:Int)==127)):=by rw[x7,B05,Bool.or_eq_true,ae2,Sl,beq_iff_eq];omega
theorem Bd5{R:Type}{a:List Blk->Option R}{b:By->Option R}(s:By)(g:s.length<=1000000000):∀(r i n:Nat),i+r=s.length->r<n->
  He LF n s (s.length:Int) (i:Int) a b=if (s.drop i).any ctl then a [] else b s:=by
 intro r
 induction r with
 | zero=>
  intro i n d e;obtain⟨n,rfl⟩:∃m,n=m+1:=⟨n-1,by omega⟩
  rw[He];rw[A8,j6 (by omega)];rfl
 | succ r f=>
  intro i n d e;obtain⟨n,rfl⟩:∃m,n=m+1:=⟨n-1,by omega⟩
  have c:A4 ((i:Int)+1)=((i+1:Nat):Int):=by rw[C0];rfl
  rw[He];rw[C7,K8,L4,N0 s i (by omega),c,aa5,B06];simp only[cond_true];rw[f (i+1) n (by omega) (by omega)];cases ltI 32 ((s.getD i 0).toNat:Int) with
  | false=>rfl
  | true=>cases (((s.getD i 0).toNat:Int)==127)<;>rfl
theorem Bt3(s:By)(i:A2 s.length=true):∃H,∀(R:Type) (a:KU R),HK LF s a=IE a (F2 s) H:=by
 have y:=N7 i;have v:=G3;have L:∀{R:Type} (a:List Blk->Option R) (l:By->Option R),He LF LF s (s.length:Int) 0 a l=if s.any ctl then a [] else l s:=λa l=>Bd5 s y s.length 0 LF (by omega) (by omega)
 unfold F2;by_cases h:s.any ctl=true
 ·rw[if_pos h];apply o0;intro R a;unfold HK;rw[L,if_pos h];rfl
 rw[if_neg h];rcases Z7 58 s with b|⟨p,r,rfl,b⟩
 ·apply o0;intro R a;unfold HK;rw[L,if_neg h,i,Vq b];rfl
 have B:(p++58::r).length=p.length+r.length+1:=by rw[j4,j0];omega
 have sp:A2 p.length=true:=S9;have o:A2 r.length=true:=S9;rw[Fg b];simp only[c9,aa8];cases c:Ca p with
 | false=>
  apply o0;intro R a;unfold HK;rw[L,if_neg h,i,Fg b];simp only[vl,cond_true,c9,cond_false];rw[sp,c];rfl
 | true=>
 rw[if_neg (by simp)];cases f:E9 (D0 p) with
 | false=>
  apply o0;intro R a;unfold HK;rw[L,if_neg h,i,Fg b];simp only[vl,cond_true,c9,cond_false];rw[sp,c,f];rfl
 | true=>
 rw[if_neg (by simp)];cases Zg:([47,47]:By).isPrefixOf r with
 | false=>
  apply o0;intro R a;unfold HK;rw[L,if_neg h,i,Fg b];simp only[vl,cond_true,c9,cond_false];rw[sp,c,f,o,Zg];rfl
 | true=>
 rw[if_neg (by simp)];have j:Fh r [47,47]=r.drop 2:=by unfold Fh;rw[Zg,if_pos rfl];rfl
 generalize m:r.drop 2=t;rw[m] at j;have lt:t.length<=r.length:=by rw[<-m,j7];omega
 have u:A2 t.length=true:=S9;have z:=FU t;have sl:A2 (D0 p).length=true:=by rw[Bk];exact sp
 have tail:∀(R:Type) (a:KU R) (X d:By),X.length<=t.length->d.length<=t.length->
   (cond (A2 (j2 X))
    (cond (not (ac8 (([47]:List UInt8)) X))
     (cond (P5 1 (j2 X))
     (cond (A2 (j2 (D0 p)))
      (cond (A2 (j2 (([47]:List UInt8)++X)))
       (cond (A2 (j2 d))
       (cond (((-1):Int)==((-1):Int))
        (IE a (G2 (D0 p) (([47]:List UInt8)++X) d) ((λq=>[bU (uS q) (uU q) (uK q) (uN q) (uV q) (uA q 0) (uA q 1) (uA q 2) (uA q 3) (uA q 4) (uA q 5) (uA q 6) (uA q 7) (uP q) (uR q),bU (D0 p) [] 0 [] 0 0 0 0 0 0 0 0 0 (-1) (([47]:List UInt8)++X)]) (G2 (D0 p) (([47]:List UInt8)++X) d)))
        (none))
       (none))
       (none))
      (none))
     (none))
     (cond (A2 (j2 (D0 p)))
     (cond (A2 (j2 X))
      (cond (A2 (j2 d))
      (cond (((-1):Int)==((-1):Int))
       (IE a (G2 (D0 p) X d) ((λq=>[bU (uS q) (uU q) (uK q) (uN q) (uV q) (uA q 0) (uA q 1) (uA q 2) (uA q 3) (uA q 4) (uA q 5) (uA q 6) (uA q 7) (uP q) (uR q),bU (D0 p) [] 0 [] 0 0 0 0 0 0 0 0 0 (-1) X]) (G2 (D0 p) X d)))
       (none))
      (none))
      (none))
     (none)))
    none)=IE a (G2 (D0 p) (U2 X) d) ((λq=>[bU (uS q) (uU q) (uK q) (uN q) (uV q) (uA q 0) (uA q 1) (uA q 2) (uA q 3) (uA q 4) (uA q 5) (uA q 6) (uA q 7) (uP q) (uR q),bU (D0 p) [] 0 [] 0 0 0 0 0 0 0 0 0 (-1) (U2 X)]) (G2 (D0 p) (U2 X) d)):=by
  intro R a X d A w;rw[S9,sl,Ck9,D9 (n:=d.length) (by omega)];unfold U2;by_cases g:X.head? = some 47
  ·rw[if_pos g,g];rfl
  ·have e:(X.head? == some 47)=false:=by simpa using g
   rw[if_neg g,e,R7 (by omega),D9 (by simp;omega)];rfl
 refine⟨(λX=>(λq=>[bU (uS q) (uU q) (uK q) (uN q) (uV q) (uA q 0) (uA q 1) (uA q 2) (uA q 3) (uA q 4) (uA q 5) (uA q 6) (uA q 7) (uP q) (uR q),bU (D0 p) [] 0 [] 0 0 0 0 0 0 0 0 0 (-1) (U2 X)]) (G2 (D0 p) (U2 X) (t.take (K4 t)))) (t.drop (K4 t)),λR a=>?_⟩;refine j5 ?_ (tail R a (t.drop (K4 t)) (t.take (K4 t)) (by rw[j7];omega) (by rw[s8];omega));unfold HK;rw[L,if_neg h,i,Fg b];simp only[vl,cond_true,c9,cond_false];rw[sp,c,f,o,Zg,j,u];rw[show Wf ([47,63,35]:List UInt8)=true from rfl,show([47,63,35]:List UInt8)=isl from rfl,Ho];simp only[cond_true,c9,cond_false];by_cases k:K4 t<t.length
 ·rw[if_pos k,A8,j1,cond_true,Ch,c8,s8,ag0 (by omega),T0,T0,Bw,c8];rfl
 ·have x:K4 t=t.length:=by omega
  rw[if_neg k,C7,c9,cond_false,T0,Bw,c8,x,ac6,u];rfl
abbrev rvU(n o:By)(h:Int)(p:By)(i j k l n8 m b c d e:Int)(g:By)(f:Int)(a:List Blk):=rv (.tup [gU n o h p i j k l n8 m b c d e g,.s (.int .i64 f)]) a
abbrev pvU(q:U3 × Nat):PV:=.tup [gU (uS q) (uU q) (uK q) (uN q) (uV q) (uA q 0) (uA q 1) (uA q 2) (uA q 3) (uA q 4) (uA q 5) (uA q 6) (uA q 7) (uP q) (uR q),.s (.int .i64 (uE q))]
theorem Cb7(s:By)(a:A2 s.length=true):∃r H,HK LF s rvU=rv r H/\r.stab [0,0] H=pvU (F2 s):=by obtain⟨H,e⟩:=Bt3 s a;exact⟨_,_,e _ _,rfl⟩
theorem Bd1(s:By)(a:A2 s.length=true):∃r H,SE LF s rvU=rv r H/\r.stab [0,0] H=pvU (C5 s):=by
 unfold SE C5;by_cases h:2048<s.length
 ·rw[C7,if_pos h];exact⟨_,_,rfl,rfl⟩
 ·rw[A8,if_neg h,a];exact⟨_,_,rfl,rfl⟩
theorem JB{p:Int}(h:Lc p=true):(Ku p).length<=20:=by
 obtain⟨a,b⟩:=DQ.1 h;unfold Ku;split
 ·have:=Nn 19 (-p).toNat (by omega) (by omega);rw[j0];omega
 ·have:=Nn 19 p.toNat (by omega) (by omega);omega
theorem VQ(b:Int)(c:By)(v4:Int)(a:List Nat):Fm (mkH b c v4 a)=Fm (Bo5 b c v4 a):=by
 unfold mkH Bo5;cases h:ltN b 4 with
 | true=>rfl
 | false=>
  rw[if_neg (by simp),if_neg (by simp),DL (by rfl),DL (by rfl)]
theorem AC{c d a b:By}(h:smU c d a b=true):c.length<=100000000/\d.length<=100000000/\a.length<=100000000/\b.length<=100000000:=by simp only[smU,o5,w6,and_assoc] at h;exact h
theorem Bc4{l m:By}{kd:Int}{a:By}{v4 b c d e f g h i j:Int}{k:By}(h0:smU l m a k=true)(h1:ltN v4 4294967296=true)(n:ok8 b c d e f g h i=true)(o:Lc j=true) :
  (Df (mkU l m kd a v4 (n8 b c d e f g h i) j k)).length<=400000000:=by
 obtain⟨r,t,u,v⟩:=AC h0;have p:=VR (Av6 (h0:=kd) (h1:=a) h1 n);rw[VQ] at p;have q:=JB o;unfold Df mkU HV;simp only;split
 ·split<;>split<;>simp only[j4,j0,p9]<;>omega
 ·simp only[j4,j0];omega
theorem Bt7(c n:By)(m:Int)(a:By)(v4 e f g h i j k l b:Int)(d:By)(h0:smU c n a d=true)(h1:ltN v4 4294967296=true)(t:ok8 e f g h i j k l=true)(x:Lc b=true) :
  ∃r H,Ou LF c n m a v4 e f g h i j k l b d (λu q=>rv (.s (.str u)) q)=rv r H/\r.stab [] H = .s (.str (Df (mkU c n m a v4 (n8 e f g h i j k l) b d))):=by
 obtain⟨D,F,G,I⟩:=AC h0;have A:=VR (Av6 (h0:=m) (h1:=a) h1 t);have C:=JB x;have key:∀T:By,Ou LF c n m a v4 e f g h i j k l b d (λu q=>rv (.s (.str u)) q)=rv (.s (.str T)) [bU c n m a v4 e f g h i j k l b d]->T=Df (mkU c n m a v4 (n8 e f g h i j k l) b d)->∃r H,Ou LF c n m a v4 e f g h i j k l b d (λu q=>rv (.s (.str u)) q)=rv r H/\r.stab [] H = .s (.str (Df (mkU c n m a v4 (n8 e f g h i j k l) b d))):=λT y z=>⟨_,_,y,by rw[<-z];rfl⟩
 have w:A2 a.length=true:=S9;cases o:E9 c with
 | false=>
  refine key (c++[58]++d) ?_ ?_
  ·unfold Ou;rw[o,R7 (by omega)];simp only[vl,cond_true,j1];rw[R7 (by simp;omega)];rfl
  ·unfold Df mkU;simp only[o];simp
 | true=>
  have B:=A;by_cases v:n=[]
  ·subst v;have e0:(([]:By)==([]:List UInt8))=true:=rfl;by_cases p:b=-1
   ·subst p;refine key (((c++[58,47,47])++Fm (mkH m a v4 (n8 e f g h i j k l)))++d) ?_ ?_
    ·unfold Ou;rw[o,w,h1,t,e0];simp only[vl,cond_true,cond_false,c9,show((-1:Int)!=-1)=false from rfl]
     repeat rw[R7 (by first|omega|(simp only[j4,j0,p9];omega))]
     rfl
    ·unfold Df mkU HV;simp[o,VQ]
   ·refine key (((c++[58,47,47])++Fm (mkH m a v4 (n8 e f g h i j k l)))++([58]++Ku b)++d) ?_ ?_
    ·unfold Ou;rw[o,w,h1,t,x,e0];simp only[vl,cond_true,cond_false,c9,show(b !=-1)=true by simpa using p]
     repeat rw[R7 (by first|omega|(simp only[j4,j0,p9];omega))]
     rfl
    ·unfold Df mkU HV;simp[o,VQ,p]
  ·have e0:(n==([]:List UInt8))=false:=by simpa using v
   by_cases p:b=-1
   ·subst p;refine key (((c++[58,47,47])++(n++[64])++Fm (mkH m a v4 (n8 e f g h i j k l)))++d) ?_ ?_
    ·unfold Ou;rw[o,w,h1,t,e0];simp only[vl,cond_true,cond_false,c9,j1,show((-1:Int)!=-1)=false from rfl]
     repeat rw[R7 (by first|omega|(simp only[j4,j0,p9];omega))]
     rfl
    ·unfold Df mkU HV;simp[o,VQ,v]
   ·refine key (((c++[58,47,47])++(n++[64])++Fm (mkH m a v4 (n8 e f g h i j k l)))++([58]++Ku b)++d) ?_ ?_
    ·unfold Ou;rw[o,w,h1,t,x,e0];simp only[vl,cond_true,cond_false,c9,j1,show(b !=-1)=true by simpa using p]
     repeat rw[R7 (by first|omega|(simp only[j4,j0,p9];omega))]
     rfl
    ·unfold Df mkU HV;simp[o,VQ,p,v]
theorem B57{a:Int}{k:Nat}(d:k<4):(a==(k:Int))=(k==(if ltN a 4 then a.toNat else 4)):=by
 rw[x7,beq_iff_eq,beq_iff_eq];cases h:ltN a 4 with
 | true=>
  obtain⟨b,c⟩:=E8.1 h;rw[if_pos rfl];omega
 | false=>
  rw[if_neg (by simp)];have:¬(0<=a/\a<4):=λq=>by
   have:=E8.2 q;rw[h] at this;cases this
  omega
theorem NE(a b:By):(a==b)=(b==a):=by rw[x7,beq_iff_eq,beq_iff_eq];exact eq_comm
theorem B50(a b:Int):(a==b)=(b==a):=by rw[x7,beq_iff_eq,beq_iff_eq];exact eq_comm
theorem Dm(a b:Nat):((a:Int)==(b:Int))=(b==a):=by rw[x7,beq_iff_eq,beq_iff_eq];omega
theorem A16{F G:By}{Q:Int}{B:By}{v4 a b c d f g h i C:Int}{D:By}{p:U3 × Nat}(R:ltN v4 4294967296=true)(S:ok8 a b c d f g h i=true)(V:SZ p.1) :
  ((F==(uS p))&&((G==(uU p))&&((Q==(uK p))&&((B==(uN p))&&((v4==(uV p))&&((a==(uA p 0))&&((b==(uA p 1))&&((c==(uA p 2))&&((d==(uA p 3))&&((f==(uA p 4))&&((g==(uA p 5))&&((h==(uA p 6))&&((i==(uA p 7))&&((C==(uP p))&&((D==(uR p))&&true)))))))))))))))=eqU p.1 (mkU F G Q B v4 (n8 a b c d f g h i) C D):=by
 obtain⟨⟨s,u,⟨k,n,v,l⟩,q,t⟩,e⟩:=p;obtain⟨P,_⟩:=V;obtain⟨H,I,J,K,L,M,N,O,rfl⟩:=eq8 P.v6.1;obtain⟨j,m,o,r,x,y,z,A,rfl,rfl,rfl,rfl,rfl,rfl,rfl,rfl,_⟩:=Sv S;obtain⟨w,rfl⟩:=v7 (E8.1 R).1;have T:k<4:=P.kd;have U:(([H,I,J,K,L,M,N,O]:List Nat)==[j,m,o,r,x,y,z,A])=((H==j)&&((I==m)&&((J==o)&&((K==r)&&((L==x)&&((M==y)&&((N==z)&&((O==A)&&true)))))))):=rfl;simp only[eqU,eqH,mkU,Bo5,n8,c8,U,ab5,List.getD_cons_succ];rw[B57 T,NE F,NE G,NE B,NE D,B50 C,Dm w,Dm j,Dm m,Dm o,Dm r,Dm x,Dm y,Dm z,Dm A];simp only[Bool.and_assoc,aa7];rfl
theorem Ar1(m n:By)(kd:Int)(j:By)(v4 a b c d f g h i k:Int)(l:By)(u:smU m n j l=true)(o:ltN v4 4294967296=true)(q:ok8 a b c d f g h i=true)(v:Lc k=true) :
  ∃r H,AG LF m n kd j v4 a b c d f g h i k l (λz w=>rv (.s (.bool z)) w)=rv r H/\r.stab [] H = .s (.bool (Ql (mkU m n kd j v4 (n8 a b c d f g h i) k l))):=by
 have A:=Bc4 (kd:=kd) u o q v;unfold AG Ql;rw[u,o,q,v];simp only[vl,cond_true];rw[S9,cond_true];have x:=XN (Df (mkU m n kd j v4 (n8 a b c d f g h i) k l));rw[A16 o q x];generalize F2 (Df (mkU m n kd j v4 (n8 a b c d f g h i) k l))=p;obtain⟨y,e⟩:=p;by_cases t:e=0
 ·subst t;exact⟨_,_,rfl,rfl⟩
 ·rw[show(uE (y,e)==(0:Int))=false by simpa using t,show(e==0)=false by simpa using t];exact⟨_,_,rfl,rfl⟩
end
section
open Go
def ofB(u:U3):Bool:=E9 u.sch&&Ql u
structure OC where
 s:By
 k:Int
 n:By
 v:Int
 a:List Int
 p:Int
 b:Bool
def ofC(i n:By)(j:Int)(k:By)(v4 a b c d e f g h l:Int)(m:By):OC:=
 cond (ofB (mkU i n j k v4 (n8 a b c d e f g h) l m)) ⟨i,j,k,v4,[a,b,c,d,e,f,g,h],prt i l,true⟩ ⟨[],0,[],0,[0,0,0,0,0,0,0,0],0,false⟩
abbrev oS(c:OC):By:=c.s
abbrev oK(c:OC):Int:=c.k
abbrev oN(c:OC):By:=c.n
abbrev oV(c:OC):Int:=c.v
abbrev oA(c:OC)(i:Nat):Int:=c.a.getD i 0
abbrev oP(c:OC):Int:=c.p
abbrev oB(c:OC):Bool:=c.b
def Ct8:By:=[108,111,99,97,108,104,111,115,116]
def WX(i:Int)(j:By)(v4 a b c d e f g h:Int):Bool:=
 cond (P2 (mkH i j v4 (n8 a b c d e f g h))) (cond (i==2) (HG .u32 v4 24==127) (cond (i==3) ((a==0)&&((b==0)&&((c==0)&&((d==0)&&((e==0)&&((f==0)&&((g==0)&&((h==1)&&true)))))))) (Rl Ct8 j))) false
def Bh4:By:=[102,105,108,101]
def Uz:By:=[97,98,111,117,116]
def Wz(i n:By)(k:Int)(l:By)(v4 a b c d e f g h m:Int)(j:By):Bool:=
 cond (Ql (mkU i n k l v4 (n8 a b c d e f g h) m j)) (cond (i==Ll||(i==TV||i==Bh4)) true (cond (i==Uz) (j==[98,108,97,110,107]||j==[115,114,99,100,111,99]) (cond (E9 i) (WX k l v4 a b c d e f g h) false))) false
def Cg1(n:Int):Bool:=!ltI n 1&&!ltI 22 n
def Ct9(n:Int)(a:Bool):Int:=cond (n==4) 1 (cond (n==2||(n==20||(n==9&&!a))) 2 (cond (Cg1 n) 3 0))
def A49(l:List By)(s:By):Int:=match l.findIdx? (· == s) with|some i=>(i:Int)|none=>-1
def N5(l:List By)(s:By):Bool:=l.any (· == s)
def Ck2(l:List By)(h:C1):Bool:=P2 h&&N5 l (Fm h)
end
section
open Go Go.Op
def A51(c:Int):Bool:=c==32||c==9
def DW(c:Int):Bool:=A51 c||(c==10||(c==12||c==13))
def spB(b:UInt8):Bool:=DW (b.toNat:Int)
def Xd(a:By):By->List By
 | []=>if a.isEmpty then [] else [a]
 | c::r=>if spB c then (if a.isEmpty then Xd [] r else a::Xd [] r) else Xd (a++[c]) r
def Q2(s:By):List By:=Xd [] s
def smL(s:By):Bool:=A2 s.length
theorem Tz:∀(s a:By),(∀x∈Xd a s,x.length<=a.length+s.length)/\(Xd a s).length<=s.length+(if a.isEmpty then 0 else 1)
 | [],a=>by
  unfold Xd;split
  ·exact⟨λx b=>(by cases b),Nat.zero_le _⟩
  ·exact⟨λx b=>(by simp at b;subst b;simp),by simp[*]⟩
 | c::r,a=>by
  unfold Xd;split
  ·split
   ·obtain⟨d,e⟩:=Tz r [];refine⟨λx b=>?_,?_⟩
    ·have:=d x b;simp at this ⊢;omega
    ·simp at e ⊢;omega
   ·obtain⟨d,e⟩:=Tz r [];refine⟨λx b=>?_,?_⟩
    ·rcases ah1.1 b with rfl|b
     ·omega
     ·have:=d x b;simp at this ⊢;omega
    ·simp at e ⊢;omega
  ·obtain⟨d,e⟩:=Tz r (a++[c]);refine⟨λx b=>?_,?_⟩
   ·have:=d x b;simp at this ⊢;omega
   ·simp at e ⊢;omega
theorem Bv0{s:By}(h:A2 s.length=true):A2 (A6 (Q2 s)).length=true/\((A6 (Q2 s)).map elS).all smL=true:=by have d:=N7 h;obtain⟨a,b⟩:=Tz s [];refine⟨D9 (by rw[C2];unfold Q2;simp at b;omega),?_⟩;rw[show(A6 (Q2 s)).map elS=Q2 s by unfold A6;rw[ab8];exact ah0 (λ_=>rfl) _];exact aa6.2 λx c=>D9 (by have:=a x c;simp at this;omega)
def GQ(d:By):List By:=match Q2 d with
 | []=>[]
 | w::_=>[D0 w]
def Md(t:By):List By:=(pcs 44 t).flatMap λp=>(pcs 59 p).flatMap GQ
def CA(a:List By)(n:By):List By:=cond (N5 a n) a (a++[n])
def EL:List By->List By->List By × Int
 | [],a=>(a,0)
 | v::r,a=>cond (ltI 4096 (v.length:Int)) ([],3) (EL r ((Md v).foldl CA a))
def G0(l:List By):List By × Int:=EL l []
def GF:By:=[117,112,103,114,97,100,101,45,105,110,115,101,99,117,114,101,45,114,101,113,117,101,115,116,115]
def Ra:By:=[98,108,111,99,107,45,97,108,108,45,109,105,120,101,100,45,99,111,110,116,101,110,116]
def Hq:List SV->Bool
 | [.str _,.sl z _ k a]=>(Nat.beq k 1||(z&&a.isEmpty))&&a.all isS
 | _=>false
def Ww(a:List SV):Bool:=o6 (elS a).length 10000000&&o6 ((a.getD 1 .nilp).gE).length 1000
abbrev FrV:=By × List By
def M3(a:List SV):FrV:=(elS a,((a.getD 1 .nilp).gE).map elS)
def Du(l:List FrV):Bool:=o6 l.length 20&&l.all λf=>ltN f.1.length 3001&&(o6 f.2.length 6&&Hu 5000 f.2)
def Q0:List By->List By
 | []=>[]
 | [a]=>[a]
 | l=>l.mergeSort λx y=>decide (x<=y)
theorem FS(l:List By):Q0 l=l.mergeSort λx y=>decide (x<=y):=by unfold Q0;split<;>simp
structure KN where
 e:Int
 s:Bool
 p:Bool
 u:Bool
 b:Bool
 h:List By
abbrev cE(c:KN):Int:=c.e
abbrev cS(c:KN):Bool:=c.s
abbrev cP(c:KN):Bool:=c.p
abbrev cU(c:KN):Bool:=c.u
abbrev cB(c:KN):Bool:=c.b
abbrev cH(c:KN):List By:=c.h
def Ze(e:Int):KN:=⟨e,false,false,false,false,[]⟩
abbrev trQ(p:U3 × Nat):Bool:=Wz (uS p) (uU p) (uK p) (uN p) (uV p) (uA p 0) (uA p 1) (uA p 2) (uA p 3) (uA p 4) (uA p 5) (uA p 6) (uA p 7) (uP p) (uR p)
abbrev hsQ(p:U3 × Nat):By:=Fm (mkH (uK p) (uN p) (uV p) (n8 (uA p 0) (uA p 1) (uA p 2) (uA p 3) (uA p 4) (uA p 5) (uA p 6) (uA p 7)))
def trF(a:Bool)(p:U3 × Nat):Bool:=cond (uS p !=Uz) (E9 (uS p)&&trQ p) a
def upF(c:List By):Bool:=N5 (G0 c).1 GF
def Hz:List FrV->Bool->Bool->Bool->Bool->Bool->List By->KN
 | [],e,d,up,c,b,a=>⟨0,e,d,up,c,z7 (Q0 a)⟩
 | f::r,e,d,up,c,b,a=>cond (uE (C5 f.1)!=0) (Ze (uE (C5 f.1))) (cond ((G0 f.2).2 !=0) (Ze (G0 f.2).2)
   (Hz r (e&&trF b (C5 f.1)) (d||trF b (C5 f.1)) (up||upF f.2) (c||N5 (G0 f.2).1 Ra) (trF b (C5 f.1))
    (cond (upF f.2&&E9 (uS (C5 f.1))) (a++[hsQ (C5 f.1)]) a)))
def D5(l:List FrV):KN:=cond (l.isEmpty||ltI 16 (l.length:Int)) (Ze 3) (Hz l true false false false false [])
theorem Cb(l:List By):(A6 l).map elS=l:=by unfold A6;rw[ab8];exact ah0 (λ_=>rfl) _
theorem Bj2(d:Array By)(m:Nat):(aa2 d m).length<=m:=by unfold aa2;rw[p7];exact ah6 (List.length_filter_le _ _) (by simp)
theorem Au6(l:List By):(z7 l).length<=l.length:=Bj2 _ _
theorem IG(d:Array By):∀m,0<m->(aa2 d m).getLast? = some d[m-1]!
 | 0,h=>absurd h (by omega)
 | m+1,_=>by
  rw[ad4];cases a:af1 d m with
  | true=>rw[if_pos rfl];simp
  | false=>
   rw[if_neg (by simp),aa3];have b:0<m:=by
    apply Nat.pos_of_ne_zero;rintro rfl;rw[Lib.keeps_lt_one d 0 (by omega)] at a;cases a
   rw[IG d m b];have:d[m]! = d[m-1]!:=by
    simp only[af1,decide_eq_false_iff_not,not_or,ae3] at a;exact a.2
   simp[this]
theorem Ci3{l:List By}(h:l≠[]):z7 l≠[]:=by intro e;have:=IG l.toArray l.length (y9.2 h);rw[show aa2 l.toArray l.length=[] from e] at this;cases this
theorem UV(d:Array By)(x:By):∀m,x∈aa2 d m↔∃i,i<m/\d[i]! = x
 | 0=>by simp[aa2]
 | m+1=>by
  rw[ad4,List.mem_append,UV d x m];cases b:af1 d m with
  | true=>
   simp only[if_true,List.mem_singleton];constructor
   ·rintro(⟨i,a,e⟩|e)
    ·exact⟨i,by omega,e⟩
    ·exact⟨m,by omega,e.symm⟩
   ·rintro⟨i,a,e⟩;by_cases q:i=m
    ·exact .inr (by rw[<-e,q])
    ·exact .inl ⟨i,by omega,e⟩
  | false=>
   simp only[aa0,if_false,af3,or_false];constructor
   ·rintro⟨i,a,e⟩;exact⟨i,by omega,e⟩
   ·rintro⟨i,a,e⟩;by_cases q:i=m
    ·subst q;simp only[af1,decide_eq_false_iff_not,not_or,ae3] at b;exact⟨i-1,by omega,by rw[<-b.2];exact e⟩
    ·exact⟨i,by omega,e⟩
theorem Bz9{l:List By}{x:By}:x∈z7 l↔x∈l:=by
 unfold z7;rw[UV];constructor
 ·rintro⟨i,a,rfl⟩;rw[getElem!_pos _ _ (by simpa using a)];simp
 ·intro h;obtain⟨i,a,rfl⟩:=List.getElem_of_mem h;exact⟨i,a,by rw[getElem!_pos _ _ (by simpa using a)];simp⟩
theorem Br6{l:List By}{x:By}:x∈Q0 l↔x∈l:=by rw[FS];exact List.mem_mergeSort
theorem FT(l:List By):(Q0 l).length=l.length:=by rw[FS];exact List.length_mergeSort l
theorem Bi5{l:List By}{x:By}:x∈z7 (Q0 l)↔x∈l:=by rw[Bz9,Br6]
set_option maxRecDepth 100000
def Cj5(c b a:Bool):Prop:=(c=true->a=true)/\(a=true->b=true)
theorem Ea(f:FrV)(r:List FrV)(e d up c a:Bool)(b:List By):Hz (f::r) e d up c a b=cond (uE (C5 f.1)!=0) (Ze (uE (C5 f.1))) (cond ((G0 f.2).2 !=0) (Ze (G0 f.2).2)
   (Hz r (e&&trF a (C5 f.1)) (d||trF a (C5 f.1)) (up||upF f.2) (c||N5 (G0 f.2).1 Ra) (trF a (C5 f.1))
    (cond (upF f.2&&E9 (uS (C5 f.1))) (b++[hsQ (C5 f.1)]) b))):=rfl
theorem UD:∀(l:List FrV) (c a up g e:Bool) (i:List By),(Hz l c a up g e i).e=0->
  ∃d b p j o n,Hz l c a up g e i=⟨0,d,b,p,j,z7 (Q0 n)⟩/\(∀r,Hz (l++r) c a up g e i=Hz r d b p j o n)/\((l≠[]\/Cj5 c a e)->Cj5 d b o)
 | [],c,a,up,g,e,i,h=>⟨c,a,up,g,e,i,rfl,λr=>rfl,λh=>h.resolve_left λq=>q rfl⟩
 | f::r,c,a,up,g,e,i,h=>by
  rw[Ea] at h ⊢;cases k:(uE (C5 f.1)!=0) with
  | true=>
   rw[k,cond_true] at h;have:uE (C5 f.1)=0:=h;rw[this] at k;cases k
  | false=>
   rw[k,cond_false] at h;rw[cond_false];cases m:((G0 f.2).2 !=0) with
   | true=>
    rw[m,cond_true] at h;have:(G0 f.2).2=0:=h;rw[this] at m;cases m
   | false=>
    rw[m,cond_false] at h;rw[cond_false];obtain⟨u,v,w,x,y,z,A,B,C⟩:=UD r _ _ _ _ _ _ h;refine⟨u,v,w,x,y,z,A,λD=>?_,λ_=>C (.inr ⟨λt=>?_,λt=>?_⟩)⟩
    ·rw[ab3,Ea,k,cond_false,m,cond_false];exact B D
    ·rw[o5] at t;exact t.2
    ·rw[t,Bool.or_true]
theorem UE:∀(l:List FrV) (d c up a e:Bool) (b:List By),(Hz l d c up a e b).e≠0->Hz l d c up a e b=Ze (Hz l d c up a e b).e
 | [],d,c,up,a,e,b,h=>absurd rfl h
 | f::r,d,c,up,a,e,b,h=>by
  rw[Ea] at h ⊢;cases g:(uE (C5 f.1)!=0) with
  | true=>rfl
  | false=>
   rw[g,cond_false] at h;rw[cond_false];cases i:((G0 f.2).2 !=0) with
   | true=>rfl
   | false=>
    rw[i,cond_false] at h;rw[cond_false];exact UE r _ _ _ _ _ _ h
theorem Jr(l:List FrV):D5 l=cond (l.isEmpty||ltI 16 (l.length:Int)) (Ze 3) (Hz l true false false false false []):=rfl
theorem A10{l:List FrV}(h:cE (D5 l)≠0):D5 l=Ze (cE (D5 l)):=by
 rw[Jr] at h ⊢;cases a:(l.isEmpty||ltI 16 (l.length:Int)) with
 | true=>rfl
 | false=>
  rw[a,cond_false] at h;rw[cond_false];exact UE _ _ _ _ _ _ _ h
def Ad:By:=[97,98,111,117,116,58,98,108,97,110,107]
theorem UG:uE (C5 Ad)=0/\uS (C5 Ad)=Uz:=⟨by kernel_rfl,by kernel_rfl⟩
theorem IC{l:List FrV}(h:cE (D5 l)=0)(n:l.length<16):∃c b up d i g,D5 l=⟨0,c,b,up,d,z7 (Q0 g)⟩/\(∀f,D5 (l++[f])=Hz [f] c b up d i g)/\Cj5 c b i:=by
 rw[Jr] at h ⊢;cases a:(l.isEmpty||ltI 16 (l.length:Int)) with
 | true=>rw[a] at h;cases h
 | false=>
  rw[a,cond_false] at h;rw[cond_false];simp only[ad2] at a;have j:l≠[]:=by
   intro e;rw[e] at a;cases a.1
  obtain⟨c,b,up,d,i,g,o,p,q⟩:=UD l true false false false false [] h;refine⟨c,b,up,d,i,g,o,λf=>?_,q (.inl j)⟩;rw[Jr];have k:(l++[f]).isEmpty=false:=by cases l<;>rfl
  have m:ltI 16 ((l++[f]).length:Int)=false:=by rw[V2,decide_eq_false_iff_not,j4];simp;omega
  rw[k,m];exact p [f]
theorem Ak5{l:List FrV}(h:cE (D5 l)=0)(b:l.length<16):D5 (l++[(Ad,[])])=D5 l:=by
 obtain⟨c,d,up,q,a,r,m,n,o,p⟩:=IC h b;rw[n,m,Ea];have e0:(uE (C5 ((Ad,[]):FrV).1)!=0)=false:=by rw[UG.1];rfl
 have e:(G0 ((Ad,[]):FrV).2).2=0:=rfl;have f:upF ((Ad,[]):FrV).2=false:=rfl;have g:N5 (G0 ((Ad,[]):FrV).2).1 Ra=false:=rfl;have i:trF a (C5 ((Ad,[]):FrV).1)=a:=by unfold trF;rw[UG.2];rfl
 have j:(c&&a)=c:=by
  cases c with
  | false=>rfl
  | true=>rw[o rfl];rfl
 have k:(d||a)=d:=by
  cases a with
  | false=>rw[ae0]
  | true=>rw[p rfl];rfl
 rw[e0,cond_false,e,f,g,i,j,k,ae0,ae0,ab9,cond_false];rfl
theorem A79{l:List FrV}(f:FrV)(h:cE (D5 l)=0)(d:l.length<16)(b:cE (D5 (l++[f]))=0) :
  (∀x∈cH (D5 l),x∈cH (D5 (l++[f])))/\(cS (D5 (l++[f]))=true->cS (D5 l)=true)/\(cP (D5 l)=true->cP (D5 (l++[f]))=true)/\(cU (D5 l)=true->cU (D5 (l++[f]))=true)/\(cB (D5 l)=true->cB (D5 (l++[f]))=true):=by
 obtain⟨m,i,up,g,n,o,j,k,p,q⟩:=IC h d;rw[k] at b ⊢;rw[j];rw[Ea] at b ⊢;cases c:(uE (C5 f.1)!=0) with
 | true=>
  rw[c,cond_true] at b;have:uE (C5 f.1)=0:=b;rw[this] at c;cases c
 | false=>
  rw[c,cond_false] at b;rw[cond_false];cases e:((G0 f.2).2 !=0) with
  | true=>
   rw[e,cond_true] at b;have:(G0 f.2).2=0:=b;rw[this] at e;cases e
  | false=>
   rw[cond_false];refine⟨λx a=>?_,λa=>?_,λa=>?_,λa=>?_,λa=>?_⟩
   ·refine Bi5.2 ?_;have:=Bi5.1 a;cases (upF f.2&&E9 (uS (C5 f.1))) with
    | false=>exact this
    | true=>exact List.mem_append_left _ this
   ·have a:(m&&trF n (C5 f.1))=true:=a;rw[o5] at a;exact a.1
   ·have a:i=true:=a;show(i||_)=true;rw[a,ab7]
   ·have a:up=true:=a;show(up||_)=true;rw[a,ab7]
   ·have a:g=true:=a;show(g||_)=true;rw[a,ab7]
end
section
open Go Go.Proofs
set_option maxRecDepth 100000
section
def Ct7:List PV->Tr
 | [.agg [.s (.str l),.s (.str m),.s (.int .i64 n),.s (.str i),.s (.int .u32 v4),.s (.int .u16 a),.s (.int .u16 b),.s (.int .u16 c),.s (.int .u16 d),.s (.int .u16 e),.s (.int .u16 f),.s (.int .u16 g),.s (.int .u16 h),.s (.int .i64 j),.s (.str k)]]=>.need (smU l m i k) (.need (ltN v4 4294967296) (.need (ok8 a b c d e f g h) (.need (Lc j) (.ret (.tup [.agg [.s (.str (oS (ofC l m n i v4 a b c d e f g h j k))),.s (.int .i64 (oK (ofC l m n i v4 a b c d e f g h j k))),.s (.str (oN (ofC l m n i v4 a b c d e f g h j k))),.s (.int .u32 (oV (ofC l m n i v4 a b c d e f g h j k))),.s (.int .u16 (oA (ofC l m n i v4 a b c d e f g h j k) 0)),.s (.int .u16 (oA (ofC l m n i v4 a b c d e f g h j k) 1)),.s (.int .u16 (oA (ofC l m n i v4 a b c d e f g h j k) 2)),.s (.int .u16 (oA (ofC l m n i v4 a b c d e f g h j k) 3)),.s (.int .u16 (oA (ofC l m n i v4 a b c d e f g h j k) 4)),.s (.int .u16 (oA (ofC l m n i v4 a b c d e f g h j k) 5)),.s (.int .u16 (oA (ofC l m n i v4 a b c d e f g h j k) 6)),.s (.int .u16 (oA (ofC l m n i v4 a b c d e f g h j k) 7)),.s (.int .i64 (oP (ofC l m n i v4 a b c d e f g h j k)))],.s (.bool (oB (ofC l m n i v4 a b c d e f g h j k)))]) []))))
 | _=>.fail
def BC:List PV->Tr
 | [.agg [.s (.int .i64 j),.s (.str i),.s (.int .u32 v4),.s (.int .u16 a),.s (.int .u16 b),.s (.int .u16 c),.s (.int .u16 d),.s (.int .u16 e),.s (.int .u16 f),.s (.int .u16 g),.s (.int .u16 h)]]=>.need (A2 (j2 i)) (.need (ltN v4 4294967296) (.need (ok8 a b c d e f g h) (.ret (.s (.bool (WX j i v4 a b c d e f g h))) [])))
 | _=>.fail
def At7(args:List PV):Tr:=BC (E0 [[0,0,0,0,0,0,0,0,0,0,0]] args)
def Ul:List PV->Tr
 | [.agg [.s (.str l),.s (.str m),.s (.int .i64 n),.s (.str i),.s (.int .u32 v4),.s (.int .u16 a),.s (.int .u16 b),.s (.int .u16 c),.s (.int .u16 d),.s (.int .u16 e),.s (.int .u16 f),.s (.int .u16 g),.s (.int .u16 h),.s (.int .i64 j),.s (.str k)]]=>.need (smU l m i k) (.need (ltN v4 4294967296) (.need (ok8 a b c d e f g h) (.need (Lc j) (.ret (.s (.bool (Wz l m n i v4 a b c d e f g h j k))) []))))
 | _=>.fail
def BD(args:List PV):Tr:=Ul (E0 [[0,0,0,0,0,0,0,0,0,0,0,0,0,0,0]] args)
end
section
def Cp6:List PV->Tr
 | [.s (.int .i64 n)]=>.ret (.s (.bool (Cg1 n))) []
 | _=>.fail
def Ct3:List PV->Tr
 | [.s (.int .i64 n),.s (.bool a)]=>.ret (.s (.int .i64 (Ct9 n a))) []
 | _=>.fail
def BM:List PV->Tr
 | [.s (.sl b a 1 l),.s (.str s)]=>.need (w7 l isS) (.need (A2 (j2 l)) (.ret (.s (.int .i64 (A49 (j8 elS l) s))) []))
 | _=>.fail
def At8(args:List PV):Tr:=BM (E0 [[1],[0]] args)
def BK:List PV->Tr
 | [.s (.sl b a 1 l),.s (.str s)]=>.need (w7 l isS) (.need (A2 (j2 l)) (.ret (.s (.bool (N5 (j8 elS l) s))) []))
 | _=>.fail
def Zp(args:List PV):Tr:=BK (E0 [[1],[0]] args)
def KP:List PV->Tr
 | [.agg [.s (.bool p),.s (.bool o),.s (.bool up),.s (.bool n),.s (.sl m k 1 l)],.agg [.s (.int .i64 j),.s (.str i),.s (.int .u32 v4),.s (.int .u16 a),.s (.int .u16 b),.s (.int .u16 c),.s (.int .u16 d),.s (.int .u16 e),.s (.int .u16 f),.s (.int .u16 g),.s (.int .u16 h)]]=>.need (w7 l isS) (.need (A2 (j2 l)) (.need (A2 (j2 i)) (.need (ltN v4 4294967296) (.need (ok8 a b c d e f g h) (.ret (.s (.bool (Ck2 (j8 elS l) (mkH j i v4 (n8 a b c d e f g h))))) [])))))
 | _=>.fail
def ZR(args:List PV):Tr:=KP (E0 [[0,0,0,0,1],[0,0,0,0,0,0,0,0,0,0,0]] args)
end
section
def LK:List PV->Tr
 | [.s (.int .u8 c)]=>.ret (.s (.bool (A51 c))) []
 | _=>.fail
def Bg2(args:List PV):Tr:=LK (E0 [[0]] args)
def AT:List PV->Tr
 | [.s (.int .u8 c)]=>.ret (.s (.bool (DW c))) []
 | _=>.fail
def At1(args:List PV):Tr:=AT (E0 [[0]] args)
def BU:List PV->Tr
 | [.s (.str s)]=>.need (A2 (j2 s)) (.ret (.s (.sl (aa1 (Q2 s)) (aa1 (Q2 s)) 1 (A6 (Q2 s)))) [])
 | _=>.fail
def MW(args:List PV):Tr:=BU (E0 [[0]] args)
def KO:List PV->Tr
 | [.s (.str t)]=>.ret (.fnr (s9 38) [] [.ptr 0 0 0]) [.box [.s (.str t)]]
 | _=>.fail
def ZQ(args:List PV):Tr:=KO (E0 [[0]] args)
def Zm:List PV->List Blk->Option (Bool × List (List PV))
 | [.yd,.ptr 0 0 0],[.box [.s (.str t)]]=>some ((A2 (j2 t)),j8 (λ(x:By)=>([.s (.str x)]:List PV)) (Md t))
 | _,_=>none
def Ue:List PV->Tr
 | [.s (.sl b a 1 l)]=>.need (w7 l isS) (.need (o6 (j2 l) 1000) (.ret (.tup [.agg [.s (.bool (N5 ((G0 (j8 elS l))).1 GF)),.s (.bool (N5 ((G0 (j8 elS l))).1 Ra)),.s (.sl (aa1 ((G0 (j8 elS l))).1) (aa1 ((G0 (j8 elS l))).1) 1 (A6 ((G0 (j8 elS l))).1))],.s (.int .i64 ((G0 (j8 elS l))).2)]) []))
 | _=>.fail
def AK(args:List PV):Tr:=Ue (E0 [[1]] args)
def Qt:SV->List (List SV)->Bool × List (List SV)
 | .nilp,l=>(((w7 l isS)&&(A2 (j2 l))),(A6 (Q0 (j8 elS l))))
 | _,_=>(false,[])
def Jl:List PV->List Blk->Tr
 | [.fl 0],[.arr z 9 1 l]=>.need (w7 l isS) (.need (A2 (j2 l)) (.ret (.fl 0) [.arr z 9 1 (A6 (z7 (j8 elS l)))]))
 | _,_=>.fail
def Ud:List PV->Tr
 | [.s (.sl b a 2 l)]=>.need (w7 l Hq) (.need (w7 l Ww) (.need (A2 (j2 l)) (.ret (.tup [.agg [.s (.bool (cS (D5 (j8 M3 l)))),.s (.bool (cP (D5 (j8 M3 l)))),.s (.bool (cU (D5 (j8 M3 l)))),.s (.bool (cB (D5 (j8 M3 l)))),.fl 0],.s (.int .i64 (cE (D5 (j8 M3 l))))]) [.arr true 9 1 (A6 (cH (D5 (j8 M3 l))))])))
 | _=>.fail
def Lg(args:List PV):Tr:=Ud (E0 [[2]] args)
def LQ:List PV->Tr
 | [.s (.sl b a 2 l)]=>.need (w7 l Hq) (.ret (.s (.bool (Du (j8 M3 l)))) [])
 | _=>.fail
def ZX(args:List PV):Tr:=LQ (E0 [[2]] args)
def LP:List PV->Tr
 | [.agg [.s (.bool k),.s (.bool j),.s (.bool up),.s (.bool e),.s (.sl g f 1 l)],.agg [.s (.bool c),.s (.bool b),.s (.bool d),.s (.bool a),.s (.sl i h 1 m)]]=>.need (w7 l isS) (.need (A2 (j2 l)) (.need (w7 m isS) (.need (A2 (j2 m)) (.ret (.s (.bool (((((k==c)&&(j==b))&&(up==d))&&(e==a))&&((j8 elS l)==(j8 elS m))))) []))))
 | _=>.fail
def ZW(args:List PV):Tr:=LP (E0 [[0,0,0,0,1],[0,0,0,0,1]] args)
def Ow:List PV->Tr
 | []=>.ret (.s (.bool true)) []
 | _=>.fail
def Uc(args:List PV):Tr:=Ow (E0 [] args)
end
end
section
open Go
abbrev hN(p:C1 × Nat):By:=p.1.name
abbrev hV(p:C1 × Nat):Int:=(p.1.v4:Int)
abbrev hA(p:C1 × Nat)(i:Nat):Int:=(p.1.v6.getD i 0:Int)
abbrev e0:By:=[]
end
section
open Go Go.Proofs
set_option maxRecDepth 100000
section
variable {W R : Type} (Y : Nat) (J : E3) (Q : Yh W) (s : W) (k : Out -> St W -> Option R)
noncomputable def Ad1(Y:Nat):Cfg:=D1 Y [104] (A3 []) []
 (A3 [(1,[2]),(0,[0])]) [] (A3 []) (some [2]) [] [] []
noncomputable def B52{R:Type}(Y:Nat)(a:Int)(b:Bool->Option R):Option R:=
 cond (a==32)
 (b true)
 (b (a==9))
theorem B53(d:Nat)(b0):evC (Ad1 Y) (d+1) W Q 104 [p8 b0] [] s=B52 Y b0 (λa=>some (pB a,[],s)):=by refine(evE (fn:=Tryz.f104) (by kernel_rfl)).trans ?_;generalize evC (Ad1 Y) d=J;unfold B52;kernel_rfl
noncomputable def NL(Y:Nat):Cfg:=D1 Y [72] (A3 []) [(104,Bg2)]
 (A3 [(1,[2]),(0,[0])]) [104] (A3 []) (some [2]) [] [] []
noncomputable def Aw0{R:Type}(Y:Nat)(a:Int)(b:Bool->Option R):Option R:=
 cond (A51 a)
 (b true)
 (cond (a==10)
  (b true)
  (cond (a==12)
  (b true)
  (b (a==13))))
theorem Bn1(d:Nat)(b0):evC (NL Y) (d+1) W Q 72 [p8 b0] [] s=Aw0 Y b0 (λa=>some (pB a,[],s)):=by refine(evE (fn:=Tryz.f72) (by kernel_rfl)).trans ?_;generalize evC (NL Y) d=J;unfold Aw0;kernel_rfl
noncomputable abbrev Jo:Code:=E5 ag8
noncomputable def T9(Y:Nat):Cfg:=D1 Y [40] (A3 [(4,[0,1,0,0,0])]) [(72,At1)]
 (A3 [(10,[2]),(5,[0,2,0,0]),(9,[0,2,0,0]),(8,[0,2,1]),(7,[0,2,0,0,19]),(6,[0,2,0,0,16]),(4,[0,2,0,0,3]),(3,[0,2,0,0]),(2,[0,2,0]),(1,[0,2]),(0,[0])]) [72] (A3 [(0,[3]),(1,[0,2,0,0])]) (some [2]) [] [] []
noncomputable def Jh{R:Type}(c:By)(a b:Int)(d:LL)(e:By->Int->Int->LL->Option R):Option R:=
 cond (ltI a b)
 (cond (O6 a b c.length)
  (cond (I4 (d.length+1))
  (e c (A4 (b+1)) b (d++[[(SV.str (cut c a b))]]))
  none)
  none)
 (e c (A4 (b+1)) b d)
abbrev Qm(b:Code):Prop:=∀(k:Out->St W->Option R) d a c b3 l4,A7 (T9 Y) J Q b ⟨gp [(0,pS d),(2,.fl 0),(0,pI a),(0,pI c),(16,pB b3)] 13,[.arr true 9 1 l4],s⟩ k =
 Jh d a c l4 (λd a c e=>k .normal ⟨gp [(0,pS d),(2,.fl 0),(0,pI a),(0,pI c)] 30,[.arr true 9 1 e],s⟩)
theorem ZF:Qm (R:=R) Y J Q s (cd [1,1,1,0,1,0,0,1,0,0,1] Jo):=by intro k e a c b d;unfold Jh;kernel_rfl
noncomputable def V7{R:Type}(Y n:Nat)(e:By)(a d:Int)(g:LL)(f:LL->Option R):Option R:=match n with
 | 0=>none
 | n+1=>
  cond (not (ltI (e.length:Int) d))
   (cond (ltI d (e.length:Int))
   (cond (inR d e.length)
    (cond (not (DW (bAt e d)))
    (V7 Y n e a (A4 (d+1)) g f)
    (Jh e a d g (λm b h j=>V7 Y n m b (A4 (h+1)) j f)))
    none)
   (Jh e a d g (λo c i l=>V7 Y n o c (A4 (i+1)) l f)))
   (f g)
theorem ZG(a:Code)(c:Qm (R:=R) Y J Q s a)(n:Nat)(g:By)(b f:Int)(h:LL):G1 1 ((T9 Y).keep 4) (bd (T9 Y) J Q (cd [1,1,1,0,1,0,0] (K3 [1,1,1,0,1,0,0,1,0,0,1] a Jo))) n ⟨gp [(0,pS g),(2,.fl 0),(0,pI b),(0,pI f)] 30,[.arr true 9 1 h],s⟩ k =
 V7 Y n g b f h (λt=>k (.exit 0) ⟨gp [(3,.fl 0)] 32,[.arr true 9 1 t],s⟩):=by
 induction n generalizing g b f h with
 | zero=>rfl
 | succ n l=>rw[V7];exact let r:=(I1 1 (J0 (T9 Y) J Q (cd [1,1,1,0,1,0,0,1,1] Jo) (lpK 1 ((T9 Y).keep 4) (bd (T9 Y) J Q (cd [1,1,1,0,1,0,0] (K3 [1,1,1,0,1,0,0,1,0,0,1] a Jo))) n k)));(j5 (by kernel_rfl) (A0 (A0 (A0 (A0 (l g b (A4 (f+1)) h) ((c r g b f (not (DW (bAt g f))) h).trans (congr rfl (fx4 λp d i m=>(j5 (by kernel_rfl) (l p d (A4 (i+1)) m)))))) rfl) ((c r g b f false h).trans (congr rfl (fx4 λq e j o=>(j5 (by kernel_rfl) (l q e (A4 (j+1)) o)))))) rfl))
noncomputable def ZE{R:Type}(Y:Nat)(c:By)(b:LL->(List Blk)->Option R):Option R:=
 V7 Y Y c 0 0 [] (λa=>b a [])
theorem Bu8(a:Code)(b:Qm (R:=PV × List Blk × W) Y J Q s a)(c:By):A7 (T9 Y) J Q (cd [] (K3 [1,1,1,0,1,0,0,1,0,0,1] a Jo)) ⟨[pS c]++tps 35,[],s⟩ (I6 (T9 Y) ag8)=ZE Y c (λe d=>some (.fl 0,(.arr true 9 1 e::d),s)):=by unfold ZE;exact(j5 (by kernel_rfl) ((ZG Y J Q s (I1 0 (J0 (T9 Y) J Q (cd [1,1,1,1] Jo) (I6 (T9 Y) ag8))) a b Y c 0 0 []).trans (by kernel_rfl)))
theorem Bu9(d:Nat)(s0):evC (T9 Y) (d+1) W Q 40 [pS s0] [] s=ZE Y s0 (λb a=>some (.fl 0,(.arr true 9 1 b::a),s)):=
 (evE (fn:=ag8) (by kernel_rfl)).trans (j5 (by kernel_rfl) (Bu8 Y (evC (T9 Y) d) Q s (cd [1,1,1,0,1,0,0,1,0,0,1] Jo) (ZF Y (evC (T9 Y) d) Q s) s0))
noncomputable abbrev Az2(c:By):Option (PV × List Blk × Unit):=ZE LF c (λb a=>some (.fl 0,(.arr true 9 1 b::a),()))
noncomputable def Ac1(Y:Nat):Cfg:=D1 Y [21] (A3 []) []
 (A3 [(1,[2]),(0,[1])]) [] (A3 []) (some [2]) [] [] []
noncomputable def Ci2{R:Type}(Y:Nat)(a:By)(b:By->(List Blk)->Option R):Option R:=
 b a []
theorem Bz8(d:Nat)(value0):evC (Ac1 Y) (d+1) W Q 21 [pS value0] [] s=Ci2 Y value0 (λb a=>some (.fnr (s9 38) [] [.ptr 0 0 0],(.box [pS b]::a),s)):=by refine(evE (fn:=Tryz.f21) (by kernel_rfl)).trans ?_;generalize evC (Ac1 Y) d=J;unfold Ci2;kernel_rfl
noncomputable abbrev Ab:Code:=E5 ag6
noncomputable def M0(Y:Nat):Cfg:=D1 Y [11] (A3 [(4,[2,0,0,0,4,0,0])]) [(21,ZQ),(19,Zp)]
 (A3 [(16,[2,0]),(15,[2,1]),(14,[2,1]),(13,[2,1,0,4,0,0]),(12,[2,1,0,4,0,0]),(11,[2,1,0,2,1,0,0]),(10,[2,1,0,2,1,0,0,13]),(9,[2,1,0,2,1,0,0]),(8,[2,1,0,4,0,0,8]),(7,[2,0]),(6,[2,1,0,1,2,0,0,5]),(5,[2,1,0,1,2,0,0]),(4,[2,1,0,4,0,0,0]),(3,[2,1,0,4,0,0]),(2,[0,1,1,0]),(1,[0,1,1]),(0,[0,1])]) [19] (A3 [(0,[2,1]),(1,[2,1,0,4,0,0]),(2,[2,1,0,4,0,0]),(3,[2,1,0,4,0,0])]) (some [2,0]) [] [(38,Zm)] [] (nt:=[(47,2,9,1),(1000047,2,9,1),(1000023,0,9,1)])
noncomputable def Jx{R:Type}(Y:Nat)(a:By)(xs:List By)(self:Bool->Bool->LL->Int->Int->LL->MS->Option R)(h g:Bool)(d:LL)(e f:Int)(c:LL)(b:MS)(i:Bool->Bool->LL->Int->Int->LL->MS->Option R):Option R:=
 cond ((!(V3 b a))||(B82 ⟨true,false,[.bool]⟩ (U1 [] b a)))
 (cond (not ((V3 b a)&&(SV.gB (ad7 (U1 [] b a) 0 SV.nilp))))
  (cond (I4 (c.length+1))
  (self h g d e f (c++[[(SV.str a)]]) (Ah b a [(SV.bool true)]))
  none)
  (self h g d e f c b))
 none
noncomputable def Ii{R:Type}(Y:Nat)(L:List By)(h f:Bool)(a:LL)(c d:Int)(b:LL)(e:MS)(i:Bool->Bool->LL->Int->Int->LL->MS->Option R):Option R:=
 Bq7 (α:=Bool->Bool->LL->Int->Int->LL->MS->Option R) i (λg xs self h f a c d b e=>Jx Y g xs self h f a c d b e i) L h f a c d b e
theorem Xn{R:Type}(Y:Nat)(a:By)(xs:List By)(h g:Bool)(b:LL)(d e:Int)(c:LL)(f:MS)(i:Bool->Bool->LL->Int->Int->LL->MS->Option R):Ii Y (a::xs) h g b d e c f i=Jx Y a xs (λh g b d e c f=>Ii Y xs h g b d e c f i) h g b d e c f i:=rfl
theorem OT(L:List By)(f e:Bool)(b:LL)(c d:Int)(g:LL)(h:MS):Q6 #[22] (gp [(2,.ptr 1 0 0),(1,.ptr 3 0 0),(0,.ptr 5 0 0),(4,.s (.sl f e 1 b)),(0,pI c),(0,pI d),(8,.fnr (s9 38) [] [.bad])] 23) (bd (M0 Y) J Q (cd [1,1,1,0,1,0,0,1,1,0,0,1,1,1,0,0] Ab)) (bd (M0 Y) J Q (cd [1,1,1,0,1,0,0,1,1,0,0,1,1,1,0,1] Ab)) (L.map (λ(a:By)=>([pS a]:List PV))) [.arr true 9 1 [],.box [pB false,pB false,.fl 0],.arr true 9 1 g,.box [pB false,pB false,.fl 2],.ms false h,.box [.it 4],.dead] s (rgK (gp [(2,.ptr 1 0 0),(1,.ptr 3 0 0),(0,.ptr 5 0 0),(4,.s (.sl f e 1 b)),(0,pI c),(0,pI d),(8,.fnr (s9 38) [] [.bad])] 23) (λH=>S8 H [6] [.box [.bad]]) k) =
 Ii Y L f e b c d g h (λf e b c d g h=>k .normal ⟨gp [(2,.ptr 1 0 0),(1,.ptr 3 0 0),(0,.ptr 5 0 0),(4,.s (.sl f e 1 b)),(0,pI c),(0,pI d),(8,.fnr (s9 38) [] [.bad])] 23,[.arr true 9 1 [],.box [pB false,pB false,.fl 0],.arr true 9 1 g,.box [pB false,pB false,.fl 2],.ms false h,.box [.it 4],.box [.bad]],s⟩):=by
 induction L generalizing f e b c d g h with
 | nil=>rfl
 | cons a xs i=>rw[Xn];unfold Jx;exact(j5 (by kernel_rfl) (A0 (A0 (A0 (i f e b c d (g++[[(SV.str a)]]) (Ah h a [(SV.bool true)])) rfl) (i f e b c d g h)) rfl))
noncomputable def Ih{R:Type}(Y:Nat)(i h:Bool)(c:LL)(e f:Int)(d:LL)(g:MS)(a:By)(b:Bool->Bool->LL->Int->Int->LL->MS->Option R):Option R:=
 cond (A2 a.length) (Ii Y (Md a) i h c e f d g b) none
abbrev Ma(b:Code):Prop:=∀(k:Out->St W->Option R) h g a d e c f s7,A7 (M0 Y) J Q b ⟨gp [(2,.ptr 1 0 0),(1,.ptr 3 0 0),(0,.ptr 5 0 0),(4,.s (.sl h g 1 a)),(0,pI d),(0,pI e),(8,.fnr (s9 38) [] [.ptr 6 0 0])] 23,[.arr true 9 1 [],.box [pB false,pB false,.fl 0],.arr true 9 1 c,.box [pB false,pB false,.fl 2],.ms false f,.box [.it 4],.box [pS s7]],s⟩ k =
 Ih Y h g a d e c f s7 (λh g a d e c f=>k .normal ⟨gp [(2,.ptr 1 0 0),(1,.ptr 3 0 0),(0,.ptr 5 0 0),(4,.s (.sl h g 1 a)),(0,pI d),(0,pI e),(8,.fnr (s9 38) [] [.bad])] 23,[.arr true 9 1 [],.box [pB false,pB false,.fl 0],.arr true 9 1 c,.box [pB false,pB false,.fl 2],.ms false f,.box [.it 4],.box [.bad]],s⟩)
theorem OS:Ma (R:=R) Y J Q s (cd [1,1,1,0,1,0,0,1,1,0,0,1,1,1,0] Ab):=by intro k h g a c d b e f;unfold Ih;exact((Av1 [1,1,1,0,1,0,0,1,1,0,0,1,1,1,0] (by kernel_rfl)).trans (by kernel_rfl)).trans (Ki (OT Y J Q s k (Md f) h g a c d b e))
noncomputable def L5{R:Type}(Y n:Nat)(r q:Bool)(b:LL)(p a:Int)(e:LL)(i:MS)(m:Blk->Blk->Blk->Blk->Blk->(List Blk)->Option R)(o:LL->MS->Option R):Option R:=match n with
 | 0=>none
 | n+1=>
  cond (ltI a p)
   (cond (inR a b.length)
   (cond (okE Jc b (k9 a) 0)
    (cond (ltI 4096 (↑(j2 (gX b (k9 a) 0)):Int))
    (m (Blk.arr true 9 1 []) (Blk.arr true 9 1 e) (Blk.box [(PV.s (SV.bool false)),(PV.s (SV.bool false)),(PV.fl 2)]) (Blk.ms false i) (Blk.box [(PV.it 4)]) [])
    (Ih Y r q b p a e i (gX b (k9 a) 0) (λl j c f g d h=>L5 Y n l j c f (A4 (g+1)) d h m o)))
    none)
   none)
   (o e i)
theorem OU(a:Code)(b:Ma (R:=R) Y J Q s a)(n:Nat)(i h:Bool)(c:LL)(f d:Int)(e:LL)(g:MS):G1 6 ((M0 Y).keep 4) (bd (M0 Y) J Q (cd [1,1,1,0,1,0,0] (K3 [1,1,1,0,1,0,0,1,1,0,0,1,1,1,0] a Ab))) n ⟨gp [(2,.ptr 1 0 0),(1,.ptr 3 0 0),(0,.ptr 5 0 0),(4,.s (.sl i h 1 c)),(0,pI f),(0,pI d)] 32,[.arr true 9 1 [],.box [pB false,pB false,.fl 0],.arr true 9 1 e,.box [pB false,pB false,.fl 2],.ms false g,.box [.it 4]],s⟩ k =
 L5 Y n i h c f d e g (λt u v w x y=>k .ret ⟨gp [(2,.ptr 1 0 0),(0,pI (3:Int))] 41,(t::.box [pB false,pB false,.fl 6]::u::v::w::x::.arr true 9 1 []::y),s⟩) (λA B=>k (.exit 0) ⟨gp [(2,.ptr 1 0 0),(1,.ptr 3 0 0)] 40,[.arr true 9 1 [],.box [pB false,pB false,.fl 0],.arr true 9 1 A,.box [pB false,pB false,.fl 2],.ms false B,.box [.it 4]],s⟩):=by
 induction n generalizing i h c f d e g with
 | zero=>rfl
 | succ n z=>rw[L5];exact(j5 (by kernel_rfl) (A0 (A0 (A0 (A0 rfl ((b (I1 2 (I1 1 (J0 (M0 Y) J Q (cd [1,1,1,0,1,0,0,1,1,1] Ab) (lpK 6 ((M0 Y).keep 4) (bd (M0 Y) J Q (cd [1,1,1,0,1,0,0] (K3 [1,1,1,0,1,0,0,1,1,0,0,1,1,1,0] a Ab))) n k)))) i h c f d e g (gX c (k9 d) 0)).trans (congr rfl (fx7 λr q j m o l p=>(j5 (by kernel_rfl) (z r q j m (A4 (o+1)) l p)))))) rfl) rfl) rfl))
noncomputable def CV{R:Type}(Y:Nat)(d c:Bool)(b:LL)(m:Blk->Blk->Blk->Blk->Blk->Blk->(List Blk)->Option R)(n:Bool->Bool->Blk->Blk->LL->(List Blk)->Option R):Option R:=
 L5 Y Y d c b (b.length:Int) 0 [] [] (λj l e f g h=>m j (Blk.box [(PV.s (SV.bool false)),(PV.s (SV.bool false)),(PV.fl 6)]) l e f g h) (λa i=>cond (w7 a isS)
 (cond (A2 a.length)
  (cond (w7 a isS)
  (cond (A2 a.length)
   (n (N5 (j8 elS a) ([117,112,103,114,97,100,101,45,105,110,115,101,99,117,114,101,45,114,101,113,117,101,115,116,115]:List UInt8)) (N5 (j8 elS a) ([98,108,111,99,107,45,97,108,108,45,109,105,120,101,100,45,99,111,110,116,101,110,116]:List UInt8)) (Blk.arr true 9 1 []) (Blk.box [(PV.s (SV.bool (N5 (j8 elS a) ([117,112,103,114,97,100,101,45,105,110,115,101,99,117,114,101,45,114,101,113,117,101,115,116,115]:List UInt8)))),(PV.s (SV.bool (N5 (j8 elS a) ([98,108,111,99,107,45,97,108,108,45,109,105,120,101,100,45,99,111,110,116,101,110,116]:List UInt8)))),(PV.fl 2)]) a [(Blk.box [(PV.s (SV.bool (N5 (j8 elS a) ([117,112,103,114,97,100,101,45,105,110,115,101,99,117,114,101,45,114,101,113,117,101,115,116,115]:List UInt8)))),(PV.s (SV.bool (N5 (j8 elS a) ([98,108,111,99,107,45,97,108,108,45,109,105,120,101,100,45,99,111,110,116,101,110,116]:List UInt8)))),(PV.fl 2)]),(Blk.ms false i),(Blk.box [(PV.it 4)])])
   none)
  none)
  none)
 none)
theorem A18(a:Code)(e:Ma (R:=PV × List Blk × W) Y J Q s a)(c b:Bool)(d:LL):A7 (M0 Y) J Q (cd [] (K3 [1,1,1,0,1,0,0,1,1,0,0,1,1,1,0] a Ab)) ⟨[.s (.sl c b 1 d)]++tps 44,[],s⟩ (I6 (M0 Y) ag6)=CV Y c b d (λh i f g j l n=>some (.tup [.agg [pB false,pB false,.fl 6],pI (3:Int)],(h::i::f::g::j::l::.arr true 9 1 []::n),s)) (λp q f g o m=>some (.tup [.agg [pB p,pB q,.fl 2],pI (0:Int)],(f::g::.arr true 9 1 o::m),s)):=by unfold CV;exact(j5 (by kernel_rfl) ((OU Y J Q s (I1 0 (J0 (M0 Y) J Q (cd [1,1,1,1] Ab) (I6 (M0 Y) ag6))) a e Y c b d (d.length:Int) 0 [] []).trans (by kernel_rfl)))
theorem A19(d:Nat)(values_z0 values_t1 values2):evC (M0 Y) (d+1) W Q 11 [.s (.sl values_z0 values_t1 1 values2)] [] s=CV Y values_z0 values_t1 values2 (λc e a b f g i=>some (.tup [.agg [pB false,pB false,.fl 6],pI (3:Int)],(c::e::a::b::f::g::.arr true 9 1 []::i),s)) (λl m a b j h=>some (.tup [.agg [pB l,pB m,.fl 2],pI (0:Int)],(a::b::.arr true 9 1 j::h),s)):=
 (evE (fn:=ag6) (by kernel_rfl)).trans (j5 (by kernel_rfl) (A18 Y (evC (M0 Y) d) Q s (cd [1,1,1,0,1,0,0,1,1,0,0,1,1,1,0] Ab) (OS Y (evC (M0 Y) d) Q s) values_z0 values_t1 values2))
noncomputable abbrev UU(b a:Bool)(c:LL):Option (PV × List Blk × Unit):=CV LF b a c (λf g d e h i l=>some (.tup [.agg [pB false,pB false,.fl 6],pI (3:Int)],(f::g::d::e::h::i::.arr true 9 1 []::l),())) (λn o d e m j=>some (.tup [.agg [pB n,pB o,.fl 2],pI (0:Int)],(d::e::.arr true 9 1 m::j),()))
noncomputable abbrev Bh6:Code:=E5 ai6
noncomputable def Pj(Y:Nat):Cfg:=D1 Y [4] (A3 [(4,[0,1,0])]) [(8,TE)]
 (A3 [(8,[2]),(5,[0,2]),(7,[2]),(6,[0,2,33]),(4,[0,2,6]),(3,[0,2]),(2,[2]),(1,[0,5]),(0,[0])]) [8] (A3 [(0,[]),(1,[0,2])]) (some [2]) [] [] []
noncomputable def Kf{R:Type}(Y n:Nat)(e d:Bool)(b:LL)(a:Int)(f:Unit->Option R)(h:Unit->Option R):Option R:=match n with
 | 0=>none
 | n+1=>
  cond (ltI a (b.length:Int))
   (cond (inR a b.length)
   (cond (okE Jc b (k9 a) 0)
    (cond (ltI 3000 (↑(j2 (gX b (k9 a) 0)):Int))
    (f ())
    (cond (inR a b.length)
     (cond (okE ⟨true,false,[.sl 1]⟩ b (k9 a) 1)
     (vl (SV.gE (gC b (k9 a) 1)) λg=>
      cond (ltI 6 (g.length:Int))
      (f ())
      (cond (inR a b.length)
       (cond (okE ⟨true,false,[.sl 1]⟩ b (k9 a) 1)
       (vl (SV.gE (gC b (k9 a) 1)) λc=>
        cond (w7 c isS)
        (cond (A2 c.length)
         (cond (not (Hu (5000:Int) (j8 elS c)))
         (f ())
         (Kf Y n e d b (A4 (a+1)) f h))
         none)
        none)
       none)
       none))
     none)
     none))
    none)
   none)
   (h ())
theorem Ah8(n l_z0 l_t1 l2 i3):G1 0 ((Pj Y).keep 4) (bd (Pj Y) J Q (cd [1,1,0,1,0,0] Bh6)) n ⟨gp [(0,.s (.sl l_z0 l_t1 2 l2)),(2,pI i3)] 34,[],s⟩ k =
 Kf Y n l_z0 l_t1 l2 i3 (λ_=>k .ret ⟨gp [(2,pB false)] 35,[],s⟩) (λ_=>k (.exit 0) ⟨gp [] 38,[],s⟩):=by
 induction n generalizing l_z0 l_t1 l2 i3 with
 | zero=>rfl
 | succ n a=>rw[Kf];simp only[<-a];kernel_rfl
noncomputable def B58{R:Type}(Y:Nat)(b a:Bool)(d:LL)(c:Bool->Option R):Option R:=
 cond (ltI 20 (d.length:Int))
 (c false)
 (Kf Y Y b a d 0 (λ_=>c false) (λ_=>c true))
theorem B59(d:Nat)(l_z0 l_t1 l2):evC (Pj Y) (d+1) W Q 4 [.s (.sl l_z0 l_t1 2 l2)] [] s=B58 Y l_z0 l_t1 l2 (λa=>some (pB a,[],s)):=by refine(evE (fn:=ai6) (by kernel_rfl)).trans ?_;generalize evC (Pj Y) d=J;unfold B58;exact(j5 (by kernel_rfl) (A0 rfl ((Ah8 Y J Q s (I1 0 (J0 (Pj Y) J Q (cd [1,1,1] Bh6) (I6 (Pj Y) ai6))) Y l_z0 l_t1 l2 0).trans (by kernel_rfl))))
noncomputable abbrev UA:Code:=E5 ai3
noncomputable def Fc(Y:Nat):Cfg:=D1 Y [17] (A3 [(4,[0,0,2,0])]) []
 (A3 [(8,[4]),(5,[0,0,3]),(7,[4]),(6,[0,0,3,19]),(4,[0,0,3,8]),(3,[0,0,3]),(2,[4]),(1,[0,0,8]),(0,[0,0])]) [] (A3 [(0,[]),(1,[0,0,3])]) (some [4]) [] [] []
noncomputable def Bi{R:Type}(Y n:Nat)(d c:Bool)(b:LL)(f e:Bool)(g:LL)(a:Int)(h:Unit->Option R)(i:Unit->Option R):Option R:=match n with
 | 0=>none
 | n+1=>
  cond (ltI a (b.length:Int))
   (cond (inR a b.length)
   (cond (okE Jc b (k9 a) 0)
    (cond (inR a g.length)
    (cond (okE Jc g (k9 a) 0)
     (cond (not ((gX b (k9 a) 0)==(gX g (k9 a) 0)))
     (h ())
     (Bi Y n d c b f e g (A4 (a+1)) h i))
     none)
    none)
    none)
   none)
   (i ())
theorem PO(n:Nat)(b a:Bool)(e:LL)(d c:Bool)(f:LL)(g:Int):G1 0 ((Fc Y).keep 4) (bd (Fc Y) J Q (cd [1,1,0,1,0,0] UA)) n ⟨gp [(0,.s (.sl b a 1 e)),(0,.s (.sl d c 1 f)),(3,pI g)] 20,[],s⟩ k =
 Bi Y n b a e d c f g (λ_=>k .ret ⟨gp [(4,pB false)] 21,[],s⟩) (λ_=>k (.exit 0) ⟨gp [] 26,[],s⟩):=by
 induction n generalizing b a e d c f g with
 | zero=>rfl
 | succ n h=>rw[Bi];simp only[<-h];kernel_rfl
noncomputable def PN{R:Type}(Y:Nat)(b a:Bool)(f:LL)(d c:Bool)(g:LL)(e:Bool->Option R):Option R:=
 cond ((f.length:Int)!=(g.length:Int))
 (e false)
 (Bi Y Y b a f d c g 0 (λ_=>e false) (λ_=>e true))
theorem A61(d:Nat)(a_z0 a_t1 a2 b_z3 b_t4 b5):evC (Fc Y) (d+1) W Q 17 [.s (.sl a_z0 a_t1 1 a2),.s (.sl b_z3 b_t4 1 b5)] [] s=PN Y a_z0 a_t1 a2 b_z3 b_t4 b5 (λa=>some (pB a,[],s)):=by refine(evE (fn:=ai3) (by kernel_rfl)).trans ?_;generalize evC (Fc Y) d=J;unfold PN;exact(j5 (by kernel_rfl) (A0 rfl ((PO Y J Q s (I1 0 (J0 (Fc Y) J Q (cd [1,1,1] UA) (I6 (Fc Y) ai3))) Y a_z0 a_t1 a2 b_z3 b_t4 b5 0).trans (by kernel_rfl))))
noncomputable def Ad2(Y:Nat):Cfg:=D1 Y [7] (A3 []) [(17,TF)]
 (A3 [(1,[4]),(0,[2,0])]) [17] (A3 []) (some [4]) [] [] [] (nt:=[(29,4,9,1)])
noncomputable def B54{R:Type}(Y:Nat)(h i j l d c:Bool)(g:LL)(m n o f b a:Bool)(e:LL)(p:Bool->(List Blk)->Option R):Option R:=
 cond (h==m)
 (cond (i==n)
  (cond (j==o)
  (cond (l==f)
   (cond (w7 g isS)
   (cond (w7 e isS)
    (cond (A2 g.length)
    (cond (A2 e.length)
     (p ((j8 elS g)==(j8 elS e)) [(bCx h i j l d c g),(bCx m n o f b a e)])
     none)
    none)
    none)
   none)
   (p false [(bCx h i j l d c g),(bCx m n o f b a e)]))
  (p false [(bCx h i j l d c g),(bCx m n o f b a e)]))
  (p false [(bCx h i j l d c g),(bCx m n o f b a e)]))
 (p false [(bCx h i j l d c g),(bCx m n o f b a e)])
theorem B55(d:Nat)(a0 a1 a2 a3 a_z4 a_t5 a6 b7 b8 b9 b10 b_z11 b_t12 b13):evC (Ad2 Y) (d+1) W Q 7 [(gCx a0 a1 a2 a3 a_z4 a_t5 a6),(gCx b7 b8 b9 b10 b_z11 b_t12 b13)] [] s=B54 Y a0 a1 a2 a3 a_z4 a_t5 a6 b7 b8 b9 b10 b_z11 b_t12 b13 (λb a=>some (pB b,a,s)):=by refine(evE (fn:=Tryz.f7) (by kernel_rfl)).trans ?_;generalize evC (Ad2 Y) d=J;unfold B54;kernel_rfl
noncomputable abbrev Bn3(h i j l d c:Bool)(m:LL)(n o p e b a:Bool)(f:LL):Option (PV × List Blk × Unit):=B54 LF h i j l d c m n o p e b a f (λq g=>some (pB q,g,()))
noncomputable abbrev X5:Code:=E5 ag7
noncomputable def R6(Y:Nat):Cfg:=D1 Y [38] (A3 []) [(39,BL),(40,MW),(33,AX)]
 (A3 [(6,[2,22]),(5,[2,2]),(4,[2,1]),(3,[2,7]),(2,[2,0]),(1,[2,4]),(0,[1,0])]) [33] (A3 [(0,[]),(1,[2]),(2,[2]),(3,[2])]) (some []) [] [(101,Ni)] []
noncomputable def Ek{W R:Type}(Q:Yh W)(Y:Nat)(a:By)(xs:List By)(self:By->W->Option R)(e:By)(s:W)(g:By->W->Option R)(f:By->W->Option R):Option R:=
 cond (A2 a.length)
 (cond (ltI 0 (↑(j2 (A6 (Q2 a))):Int))
  (cond (inR 0 (j2 (A6 (Q2 a))))
  (cond (okE Jc (A6 (Q2 a)) 0 0)
   (vl (gX (A6 (Q2 a)) 0 0) λd=>
   cond (A2 d.length)
    (ydK (Q [pS (D0 d)] s) λc b=>
    (cond (not c)
     (f e b)
     (self e b)))
    none)
   none)
  none)
  (self e s))
 none
noncomputable def N4{W R:Type}(Q:Yh W)(Y:Nat)(L:List By)(a:By)(s:W)(c:By->W->Option R)(d:By->W->Option R):Option R:=
 Bq7 (α:=By->W->Option R) c (λb xs self a s=>Ek Q Y b xs self a s c d) L a s
theorem Ae0{W R:Type}(Q:Yh W)(Y:Nat)(a:By)(xs:List By)(b:By)(s:W)(c:By->W->Option R)(d:By->W->Option R):N4 Q Y (a::xs) b s c d=Ek Q Y a xs (λb s=>N4 Q Y xs b s c d) b s c d:=rfl
theorem UR(L:List By)(a:By)(s:W):Q6 #[11] (gp [(2,.ptr 1 0 0),(7,.fnr (s9 101) [] [.bad,.bad,.bad])] 15) (bd (R6 Y) J Q (cd [1,1,0,1,0,1,0,0] X5)) (bd (R6 Y) J Q (cd [1,1,0,1,0,1,0,1] X5)) (L.map (λ(c:By)=>([pS c]:List PV))) [.box [pS a],.box [.yd],.dead,.dead,.dead,.dead,.dead,.dead] s (rgK (gp [(2,.ptr 1 0 0),(7,.fnr (s9 101) [] [.bad,.bad,.bad])] 15) (λH=>S8 H [6,5,7] [.box [.bad],.box [.bad],.box [.bad]]) k) =
 N4 Q Y L a s (λa s=>k .normal ⟨gp [(2,.ptr 1 0 0),(7,.fnr (s9 101) [] [.bad,.bad,.bad])] 15,[.box [pS a],.box [.yd],.dead,.dead,.dead,.box [.bad],.box [.bad],.box [.bad]],s⟩) (λa s=>k .ret ⟨gp [(2,.ptr 1 0 0),(7,.fnr (s9 101) [] [.bad,.bad,.bad])] 15,[.box [pS a],.box [.yd],.dead,.dead,.dead,.box [.bad],.box [.bad],.box [.bad]],s⟩):=by
 induction L generalizing a s with
 | nil=>rfl
 | cons c xs e=>rw[Ae0];unfold Ek;exact(j5 (by kernel_rfl) (A0 (A0 (A0 (A0 (A5 λf=>(A0 (By2 λd b=>(A0 rfl (e a b))) rfl)) rfl) rfl) (e a s)) rfl))
noncomputable def Rj{W R:Type}(Q:Yh W)(Y:Nat)(d a:By)(s:W)(b:By->W->Option R)(c:By->W->Option R):Option R:=
 cond ((A2 a.length)&&((1==1)&&((0:Int)==0))) (N4 Q Y (pcs (ad7 ([59]:List UInt8) 0 0) a) d s b c) none
abbrev Pp(b:Code):Prop:=∀(k:Out->St W->Option R) a s1 s,A7 (R6 Y) J Q b ⟨gp [(2,.ptr 1 0 0),(7,.fnr (s9 101) [] [.ptr 6 0 0,.ptr 5 0 0,.ptr 7 0 0])] 15,[.box [pS a],.box [.yd],.dead,.dead,.dead,.box [pS s1],.box [pS ([59]:List UInt8)],.box [pI (0:Int)]],s⟩ k =
 Rj Q Y a s1 s (λa s=>k .normal ⟨gp [(2,.ptr 1 0 0),(7,.fnr (s9 101) [] [.bad,.bad,.bad])] 15,[.box [pS a],.box [.yd],.dead,.dead,.dead,.box [.bad],.box [.bad],.box [.bad]],s⟩) (λa s=>k .ret ⟨gp [(2,.ptr 1 0 0),(7,.fnr (s9 101) [] [.bad,.bad,.bad])] 15,[.box [pS a],.box [.yd],.dead,.dead,.dead,.box [.bad],.box [.bad],.box [.bad]],s⟩)
theorem UO:Pp (R:=R) Y J Q (cd [1,1,0,1,0,1,0] X5):=by intro k a b s;unfold Rj;exact((Av1 [1,1,0,1,0,1,0] (by kernel_rfl)).trans (by kernel_rfl)).trans (Ki (UR Y J Q k (pcs (ad7 ([59]:List UInt8) 0 0) b) a s))
noncomputable def Ig{W R:Type}(Q:Yh W)(Y:Nat)(a:By)(xs:List By)(self:By->W->Option R)(c:By)(s:W)(d:By->W->Option R)(b:By->W->Option R):Option R:=
 Rj Q Y c a s self b
noncomputable def U7{W R:Type}(Q:Yh W)(Y:Nat)(L:List By)(a:By)(s:W)(c:By->W->Option R)(d:By->W->Option R):Option R:=
 Bq7 (α:=By->W->Option R) c (λb xs self a s=>Ig Q Y b xs self a s c d) L a s
theorem Ae1{W R:Type}(Q:Yh W)(Y:Nat)(a:By)(xs:List By)(b:By)(s:W)(c:By->W->Option R)(d:By->W->Option R):U7 Q Y (a::xs) b s c d=Ig Q Y a xs (λb s=>U7 Q Y xs b s c d) b s c d:=rfl
theorem US(a:Code)(b:Pp (R:=R) Y J Q a)(L:List By)(d:By)(s:W):Q6 #[8] (gp [(2,.ptr 1 0 0),(4,.fnr (s9 101) [] [.bad,.bad,.bad])] 18) (bd (R6 Y) J Q (cd [1,1,0,0] X5)) (bd (R6 Y) J Q (cd [1,1,0,1] (K3 [1,1,0,1,0,1,0] a X5))) (L.map (λ(c:By)=>([pS c]:List PV))) [.box [pS d],.box [.yd],.dead,.dead,.dead] s (rgK (gp [(2,.ptr 1 0 0),(4,.fnr (s9 101) [] [.bad,.bad,.bad])] 18) (λH=>S8 H [3,2,4] [.box [.bad],.box [.bad],.box [.bad]]) k) =
 U7 Q Y L d s (λd s=>k .normal ⟨gp [(2,.ptr 1 0 0),(4,.fnr (s9 101) [] [.bad,.bad,.bad])] 18,[.box [pS d],.box [.yd],.box [.bad],.box [.bad],.box [.bad]],s⟩) (λd s=>k .ret ⟨gp [(2,.ptr 1 0 0),(4,.fnr (s9 101) [] [.bad,.bad,.bad])] 18,[.box [pS d],.box [.yd],.box [.bad],.box [.bad],.box [.bad]],s⟩):=by
 induction L generalizing d s with
 | nil=>rfl
 | cons c xs g=>rw[Ae1];unfold Ig;exact(j5 (by kernel_rfl) ((b (I1 2 (I1 1 (rdB #[8] (gp [(2,.ptr 1 0 0),(4,.fnr (s9 101) [] [.bad,.bad,.bad])] 18) (bd (R6 Y) J Q (cd [1,1,0,0] X5)) (bd (R6 Y) J Q (cd [1,1,0,1] (K3 [1,1,0,1,0,1,0] a X5))) (j8 (λ(c:By)=>([pS c]:List PV)) xs) 5 (rgK (gp [(2,.ptr 1 0 0),(4,.fnr (s9 101) [] [.bad,.bad,.bad])] 18) (λH=>S8 H [3,2,4] [.box [.bad],.box [.bad],.box [.bad]]) k)))) d c s).trans (congr (congr rfl (fx2 λe f=>(j5 (by kernel_rfl) (g e f)))) (by kernel_rfl))))
noncomputable def Rk{W R:Type}(Q:Yh W)(Y:Nat)(a:By)(s:W)(b:By->W->Option R)(c:By->W->Option R):Option R:=
 cond ((A2 a.length)&&((1==1)&&((0:Int)==0))) (U7 Q Y (pcs (ad7 ([44]:List UInt8) 0 0) a) a s b c) none
abbrev Pq(b:Code):Prop:=∀(k:Out->St W->Option R) a s,A7 (R6 Y) J Q b ⟨gp [(2,.ptr 1 0 0),(4,.fnr (s9 101) [] [.ptr 3 0 0,.ptr 2 0 0,.ptr 4 0 0])] 18,[.box [pS a],.box [.yd],.box [pS a],.box [pS ([44]:List UInt8)],.box [pI (0:Int)]],s⟩ k =
 Rk Q Y a s (λa s=>k .normal ⟨gp [(2,.ptr 1 0 0),(4,.fnr (s9 101) [] [.bad,.bad,.bad])] 18,[.box [pS a],.box [.yd],.box [.bad],.box [.bad],.box [.bad]],s⟩) (λa s=>k .ret ⟨gp [(2,.ptr 1 0 0),(4,.fnr (s9 101) [] [.bad,.bad,.bad])] 18,[.box [pS a],.box [.yd],.box [.bad],.box [.bad],.box [.bad]],s⟩)
theorem UP(a:Code)(b:Pp (R:=R) Y J Q a):Pq (R:=R) Y J Q (cd [1,1,0] (K3 [1,1,0,1,0,1,0] a X5)):=by intro k c s;unfold Rk;exact((Av1 [1,1,0] (by kernel_rfl)).trans (by kernel_rfl)).trans (Ki (US Y J Q k a b (pcs (ad7 ([44]:List UInt8) 0 0) c) c s))
theorem UQ:Pq (R:=R) Y J Q (cd [1,1,0] X5):=by intro k a s;exact j5 (by kernel_rfl) (UP Y J Q (cd [1,1,0,1,0,1,0] X5) (UO Y J Q) k a s)
noncomputable def IF{W R:Type}(Q:Yh W)(Y:Nat)(t:By)(s:W)(a:By->W->Option R):Option R:=
 Rk Q Y t s a a
theorem Bj0(b:Code)(a:Pq (R:=PV × List Blk × W) Y J Q b)(t:By)(s:W):A7 (R6 Y) J Q (cd [] (K3 [1,1,0] b X5)) ⟨[.yd,.ptr 0 0 0]++tps 24,[.box [pS t]],s⟩ (I6 (R6 Y) ag7)=IF Q Y t s (λc s=>some (.tup [],[.box [pS c],.box [.yd],.box [.bad],.box [.bad],.box [.bad]],s)):=by unfold IF;exact(j5 (by kernel_rfl) ((a (I1 0 (I6 (R6 Y) ag7)) t s).trans (by kernel_rfl)))
theorem Bj1(d:Nat)(t s):evC (R6 Y) (d+1) W Q 38 [.yd,.ptr 0 0 0] [.box [pS t]] s=IF Q Y t s (λa s=>some (.tup [],[.box [pS a],.box [.yd],.box [.bad],.box [.bad],.box [.bad]],s)):=
 (evE (fn:=ag7) (by kernel_rfl)).trans (j5 (by kernel_rfl) (Bj0 Y (evC (R6 Y) d) Q (cd [1,1,0] X5) (UQ Y (evC (R6 Y) d) Q) t s))
end
end
section
open Go Go.Op
set_option maxRecDepth 100000
theorem A54{R:Type}{a:Bool->Option R}(c:Int):B52 LF c a=a (A51 c):=by unfold B52 A51;cases (c==32)<;>rfl
theorem Ah6{R:Type}{a:Bool->Option R}(c:Int):Aw0 LF c a=a (DW c):=by unfold Aw0 DW;cases A51 c<;>cases (c==10)<;>cases (c==12)<;>rfl
theorem Bj8{s:By}{a b:Nat}(h:a<b)(c:b<=s.length):(cut s (a:Int) (b:Int)).isEmpty=false:=by rw[Gq,List.isEmpty_eq_false_iff];intro e;have:=congrArg j2 e;simp at this;omega
theorem Ar3{R:Type}{k0:LL->Option R}(s:By)(o:s.length<=1000000000):∀(r i fr n:Nat) (l:List By),i+r=s.length->r+1<n->fr<=i->l.length<=i->
  V7 LF n s (fr:Int) (i:Int) (A6 l) k0=k0 (A6 (l++Xd (cut s (fr:Int) (i:Int)) (s.drop i))):=by
 intro r
 induction r with
 | zero=>
  intro i fr n l h k g j;obtain⟨n,rfl⟩:∃m,n=m+1:=⟨n-1,by omega⟩
  obtain⟨n,rfl⟩:∃m,n=m+1:=⟨n-1,by omega⟩
  have c:i=s.length:=by omega
  subst c;rw[V7,I2 (by omega),List.drop_length];unfold Jh;have a:A4 ((s.length:Int)+1)=((s.length+1:Nat):Int):=by rw[C0];rfl
  by_cases b:fr<s.length
  ·rw[F1 (by omega),Fz (by omega) (by omega) (by omega),C2,I7 (by omega),a];simp only[j1,cond_true,cond_false];rw[V7,F1 (by omega),Xd,Bj8 b (ab4 _)];simp only[c9,cond_false,aa0,if_false,Jb];rfl
  ·obtain rfl:fr=s.length:=by omega
   rw[I2 (by omega),a];simp only[j1,cond_true,cond_false];rw[V7,F1 (by omega),Xd,CX];simp
 | succ r e=>
  intro i fr n l h k g j;obtain⟨n,rfl⟩:∃m,n=m+1:=⟨n-1,by omega⟩
  have a:A4 ((i:Int)+1)=((i+1:Nat):Int):=by rw[C0];rfl
  rw[V7,I2 (by omega),F1 (by omega),O8 (by omega) (by omega),L4,N0 s i (by omega),a];simp only[j1,cond_true];unfold Jh;have d:DW ((s.getD i 0).toNat:Int)=spB (s.getD i 0):=rfl;rw[d];cases f:spB (s.getD i 0) with
  | false=>
   rw[j1,cond_true,e (i+1) fr n l (by omega) (by omega) (by omega) (by omega),Cq8 s fr i g (by omega)];rw[Xd,f];rfl
  | true=>
   rw[c9,cond_false,Xd,f,if_pos rfl];by_cases b:fr<i
   ·rw[F1 (by omega),Fz (by omega) (by omega) (by omega),C2,I7 (by omega),a,Bj8 b (by omega)];simp only[cond_true,aa0,if_false];have:=e (i+1) (i+1) n (l++[cut s (fr:Int) (i:Int)]) (by omega) (by omega) (by omega) (by simp;omega);rw[CX,x5] at this;rw[a,show A6 l++[[SV.str (cut s (fr:Int) (i:Int))]]=A6 (l++[cut s (fr:Int) (i:Int)]) by rw[Jb];rfl];exact this
   ·obtain rfl:fr=i:=by omega
    rw[I2 (by omega),a,CX];simp only[cond_false,af2,if_true];have:=e (fr+1) (fr+1) n l (by omega) (by omega) (by omega) (by omega);rw[CX] at this;rw[a];exact this
theorem Bv1(s:By)(a:A2 s.length=true):∃r H,Az2 s=rv r H/\r.stab [1] H = .s (.sl (aa1 (Q2 s)) (aa1 (Q2 s)) 1 (A6 (Q2 s))):=by
 have c:=N7 a;have b:=G3;have:=Ar3 (k0:=λl=>some (PV.fl 0,[Blk.arr true 9 1 l],())) s c s.length 0 0 LF [] (by omega) (by omega) (by omega) (by simp);unfold Az2 ZE;refine⟨_,_,this,?_⟩;rw[CX,x8,o7];show PV.stab [1] [Blk.arr true _ 1 (A6 (Q2 s))] (.fl 0)=_;simp only[PV.stab,Rt,PV.snap,List.headD_cons,ac4,x9];have:(A6 (Q2 s)).isEmpty=(Q2 s).isEmpty:=by cases Q2 s<;>rfl
 rw[this];rfl
abbrev yS(l:List By):List (List PV):=l.map λx=>[.s (.str x)]
theorem Ca5{d:Type}{b:Yh d}{x:By}{l:List By}{s c:d}(h:P0 b (yS (x::l)) s=some c) :
  (∃a,b [.s (.str x)] s=some (true,a)/\P0 b (yS l) a=some c)\/b [.s (.str x)] s=some (false,c):=by
 simp only[yS,w9,P0] at h;split at h
 ·rename_i a e;exact .inl ⟨a,e,h⟩
 ·rename_i a e;simp only[j9] at h;subst h;exact .inr e
 ·cases h
theorem Lz{i R:Type}(e:Yh i)(d:By)(f:List By)(m:i):∀(L:List By) (s:i),(∀x∈L,A2 x.length=true)->P0 e (yS (L.flatMap GQ++f)) s=some m->
  (∃g,(∀(c a:By->i->Option R),N4 e LF L d s c a=c d g)/\P0 e (yS f) g=some m)\/(∀(c a:By->i->Option R),N4 e LF L d s c a=a d m)
 | [],s,_,h=>.inl ⟨s,λc a=>rfl,h⟩
 | x::xs,s,A,h=>by
  have p:=A x (by simp);have l:∀y∈xs,A2 y.length=true:=λy F=>A y (by simp[F])
  have e0:∀c a:By->i->Option R,N4 e LF (x::xs) d s c a=Ek e LF x xs (λd s=>N4 e LF xs d s c a) d s c a:=λ_ _=>rfl
  cases k:Q2 x with
  | nil=>
   have j:∀c a:By->i->Option R,N4 e LF (x::xs) d s c a=N4 e LF xs d s c a:=λc a=>by
    rw[e0];unfold Ek;rw[p,k];rfl
   have n:GQ x=[]:=by unfold GQ;rw[k]
   rw[ab0,n,x8] at h;rcases Lz (R:=R) e d f m xs s l h with⟨g,r,t⟩|q
   ·exact .inl ⟨g,λc a=>(j c a).trans (r c a),t⟩
   ·exact .inr λc a=>(j c a).trans (q c a)
  | cons w B=>
   have o:A2 w.length=true:=by
    have z:=(Bv0 p).2;rw[k,Cb] at z;exact(aa6.1 z) w (by simp)
   have j:∀c a:By->i->Option R,N4 e LF (x::xs) d s c a=ydK (e [pS (D0 w)] s) λb g=>cond (not b) (a d g) (N4 e LF xs d g c a):=λc a=>by
    rw[e0];unfold Ek;rw[p,k,C2,j0,F1 (by omega),O8 (by omega) (by omega)];have C:okE Jc (A6 (w::B)) 0 0=true:=rfl;have D:gX (A6 (w::B)) 0 0=w:=rfl;rw[C,D];simp only[cond_true,vl];rw[o];rfl
   have n:GQ x=[D0 w]:=by unfold GQ;rw[k]
   rw[ab0,n,List.singleton_append,ab3] at h;rcases Ca5 h with⟨g,u,H⟩|u
   ·have v:∀c a:By->i->Option R,N4 e LF (x::xs) d s c a=N4 e LF xs d g c a:=λc a=>by rw[j,u];rfl
    rcases Lz (R:=R) e d f m xs g l H with⟨G,r,t⟩|q
    ·exact .inl ⟨G,λc a=>(v c a).trans (r c a),t⟩
    ·exact .inr λc a=>(v c a).trans (q c a)
   ·exact .inr λc a=>by rw[j,u];rfl
theorem Xm{f R:Type}(d:Yh f)(c:By)(e:List By)(g:f):∀(L:List By) (s:f),(∀x∈L,A2 x.length=true)->P0 d (yS (L.flatMap (λp=>(pcs 59 p).flatMap GQ)++e)) s=some g->
  (∃i,(∀(b a:By->f->Option R),U7 d LF L c s b a=b c i)/\P0 d (yS e) i=some g)\/(∀(b a:By->f->Option R),U7 d LF L c s b a=a c g)
 | [],s,_,h=>.inl ⟨s,λb a=>rfl,h⟩
 | x::xs,s,m,h=>by
  have n:=m x (by simp);have k:∀y∈xs,A2 y.length=true:=λy l=>m y (by simp[l])
  have j:∀b a:By->f->Option R,U7 d LF (x::xs) c s b a=N4 d LF (pcs 59 x) c s (λc s=>U7 d LF xs c s b a) a:=λb a=>by
   have e0:U7 d LF (x::xs) c s b a=Ig d LF x xs (λc s=>U7 d LF xs c s b a) c s b a:=rfl;rw[e0];unfold Ig Rj;rw[n];rfl
  have t:∀y∈pcs 59 x,A2 y.length=true:=λy l=>D9 (by have:=(Gw l).2;have:=N7 n;omega)
  rw[ab0,x5] at h;rcases Lz (R:=R) d c _ g (pcs 59 x) s t h with⟨i,o,u⟩|q
  ·rcases Xm (R:=R) d c e g xs i k u with⟨z,v,w⟩|r
   ·exact .inl ⟨z,λb a=>by rw[j,o,v],w⟩
   ·exact .inr λb a=>by rw[j,o,r]
  ·exact .inr λb a=>by rw[j,q]
theorem Ae2{d R:Type}(b:Yh d)(t:By)(s c:d)(h:A2 t.length=true)(g:P0 b ((Md t).map λx=>([.s (.str x)]:List PV)) s=some c):∀(a:By->d->Option R),IF b LF t s a=a t c:=by
 intro a;have f:∀y∈pcs 44 t,A2 y.length=true:=λy i=>D9 (by have:=(Gw i).2;have:=N7 h;omega)
 have e:IF b LF t s a=U7 b LF (pcs 44 t) t s a a:=by
  unfold IF Rk;rw[h];rfl
 rw[e];rcases Xm (R:=R) b t [] c (pcs 44 t) s f (by rw[aa3];exact g) with⟨l,j,k⟩|q
 ·have:l=c:=by simpa[yS,P0] using k
  rw[j,this]
 ·exact q a a
theorem RT(c:UInt8):∀(s a:By),((M7 c a s).map λx=>x.length+1).sum=a.length+s.length+1
 | [],a=>by simp[M7]
 | b::r,a=>by
  simp only[M7];split
  ·rw[w9,ae1,RT c r []];simp;omega
  ·rw[RT c r (a++[b])];simp;omega
theorem Bk2(d:By):(GQ d).length<=1:=by unfold GQ;split<;>simp
theorem DK{f:By->List By}{g:By->Nat}(h:∀x,(f x).length<=g x):∀l:List By,(l.flatMap f).length<=(l.map g).sum
 | []=>by simp
 | x::l=>by rw[ab0,j4,w9,ae1];have:=h x;have:=DK h l;omega
theorem YT:∀l:List By,(l.map λ_=>1).sum=l.length
 | []=>rfl
 | x::l=>by rw[w9,ae1,YT l,j0];omega
theorem Bk3(t:By):(Md t).length<=t.length+1:=by
 have b:∀p:By,((pcs 59 p).flatMap GQ).length<=p.length+1:=λp=>by
  have:=DK Bk2 (pcs 59 p);have a:((pcs 59 p).map λ_=>1).sum=(pcs 59 p).length:=YT _;have c:=Nz 59 p;have d:=Mb 59 p;rw[a] at this;omega
 have:=DK b (pcs 44 t);have a:=RT 44 t [];unfold pcs at this;rw[a] at this;unfold Md pcs;simpa using this
theorem VT:∀(L a:List By),(L.foldl CA a).length<=a.length+L.length
 | [],a=>by simp
 | x::L,a=>by
  have:=VT L (CA a x);have b:(CA a x).length<=a.length+1:=by unfold CA;cases N5 a x<;>simp
  simp only[ac7,j0];omega
def Iu(l:List By):MS:=l.map λn=>(n,[SV.bool true])
theorem XB(x:By):∀l:List By,V3 (Iu l) x=N5 l x
 | []=>rfl
 | n::l=>by
  have h:=XB x l;unfold Iu at h;simp only[Iu,w9,V3,N5,aa5,h];rw[ah9 (a:=x) (b:=n)];cases n==x<;>rfl
theorem XA(x:By):∀l:List By,N5 l x=true->U1 [] (Iu l) x=[SV.bool true]
 | [],h=>by cases h
 | n::l,h=>by
  simp only[Iu,w9,U1];rw[ah9 (a:=x) (b:=n)];simp only[N5,aa5] at h;cases c:(n==x) with
  | true=>rfl
  | false=>rw[c] at h;exact XA x l h
theorem XC(x:By):∀l:List By,N5 l x=false->Ah (Iu l) x [SV.bool true]=Iu (l++[x])
 | [],h=>rfl
 | n::l,h=>by
  simp only[N5,aa5,ad2] at h;simp only[Iu,w9,Ah,ab3];rw[ah9 (a:=x) (b:=n),h.1,cond_false];have:=XC x l h.2;unfold Iu at this;rw[this]
theorem Jw{R:Type}(z t:Bool)(l:LL)(e f:Int)(d:Bool->Bool->LL->Int->Int->LL->MS->Option R):∀(L a:List By),a.length+L.length<=10000000000->
  Ii LF L z t l e f (A6 a) (Iu a) d=d z t l e f (A6 (L.foldl CA a)) (Iu (L.foldl CA a))
 | [],a,_=>rfl
 | x::L,a,g=>by
  rw[j0] at g;rw[Xn];unfold Jx;rw[XB];have b:CA a x=cond (N5 a x) a (a++[x]):=rfl;cases c:N5 a x with
  | true=>
   rw[c] at b;rw[XA x a c,ac7,b];exact Jw z t l e f d L a (by omega)
  | false=>
   rw[c] at b;simp only[j1,ab7,cond_true,ab9];rw[C2,I7 (by omega),XC x a c,ac7,b];have:=Jw z t l e f d L (a++[x]) (by simp;omega);rw[Jb] at this;exact this
theorem OW{R:Type}(z t:Bool)(l:List By)(v:l.length<=1000):∀(r i n:Nat) (a:List By),i+r=l.length->r<n->a.length<=i*4098->
  ((EL (l.drop i) a).2=0/\(∀(b:Blk->Blk->Blk->Blk->Blk->(List Blk)->Option R) (c:LL->MS->Option R),L5 LF n z t (A6 l) (l.length:Int) (i:Int) (A6 a) (Iu a) b c=c (A6 (EL (l.drop i) a).1) (Iu (EL (l.drop i) a).1))/\(EL (l.drop i) a).1.length<=4098000)\/
  (EL (l.drop i) a=([],3)/\∃w x y A B H,∀(b:Blk->Blk->Blk->Blk->Blk->(List Blk)->Option R) (c:LL->MS->Option R),L5 LF n z t (A6 l) (l.length:Int) (i:Int) (A6 a) (Iu a) b c=b w x y A B H):=by
 intro r
 induction r with
 | zero=>
  intro i n a I K F;obtain⟨n,rfl⟩:∃m,n=m+1:=⟨n-1,by omega⟩
  rw[List.drop_eq_nil_iff.2 (by omega)];exact .inl ⟨rfl,λb c=>by rw[L5,I2 (by omega)];rfl,by simp only[EL];omega⟩
 | succ r L=>
  intro i n a I K F;obtain⟨n,rfl⟩:∃m,n=m+1:=⟨n-1,by omega⟩
  have d:i<l.length:=by omega
  have G:l.drop i=l.getD i []::l.drop (i+1):=by
   rw[List.drop_eq_getElem_cons d,o8,y8 d];rfl
  have C:A4 ((i:Int)+1)=((i+1:Nat):Int):=by rw[C0];rfl
  have u:∀(b:Blk->Blk->Blk->Blk->Blk->(List Blk)->Option R) (c:LL->MS->Option R),L5 LF (n+1) z t (A6 l) (l.length:Int) (i:Int) (A6 a) (Iu a) b c =
    cond (ltI 4096 ((l.getD i []).length:Int)) (b (Blk.arr true 9 1 []) (Blk.arr true 9 1 (A6 a)) (Blk.box [(PV.s (SV.bool false)),(PV.s (SV.bool false)),(PV.fl 2)]) (Blk.ms false (Iu a)) (Blk.box [(PV.it 4)]) [])
     (Ih LF z t (A6 l) (l.length:Int) (i:Int) (A6 a) (Iu a) (l.getD i []) (λq p g j k h o=>L5 LF n q p g j (A4 (k+1)) h o b c)):=λb c=>by
   rw[L5,F1 (by omega),O8 (by omega) (by rw[C2];omega),c8,R0 d,W3];rfl
  have D:EL (l.getD i []::l.drop (i+1)) a=cond (ltI 4096 ((l.getD i []).length:Int)) ([],3) (EL (l.drop (i+1)) ((Md (l.getD i [])).foldl CA a)):=rfl;rw[G,D];cases f:ltI 4096 ((l.getD i []).length:Int) with
  | true=>exact .inr ⟨rfl,_,_,_,_,_,_,λb c=>by rw[u,f];rfl⟩
  | false=>
   have J:(l.getD i []).length<=4096:=by
    rw[V2,decide_eq_false_iff_not] at f;omega
   have M:=Bk3 (l.getD i []);have N:=VT (Md (l.getD i [])) a;have e:∀(b:Blk->Blk->Blk->Blk->Blk->(List Blk)->Option R) (c:LL->MS->Option R),L5 LF (n+1) z t (A6 l) (l.length:Int) (i:Int) (A6 a) (Iu a) b c =
     L5 LF n z t (A6 l) (l.length:Int) ((i+1:Nat):Int) (A6 ((Md (l.getD i [])).foldl CA a)) (Iu ((Md (l.getD i [])).foldl CA a)) b c:=λb c=>by
    rw[u,f,cond_false];unfold Ih;rw[D9 (by omega),cond_true,Jw z t (A6 l) _ _ _ _ a (by omega),C]
   simp only[cond_false,e];exact L (i+1) n _ (by omega) (by omega) (by omega)
theorem A20(z t:Bool)(l:LL)(m:l.all isS=true)(f:o6 l.length 1000=true):∃r H,UU z t l=rv r H/\r.stab [0,0] H = .tup [.agg [.s (.bool (N5 (G0 (l.map elS)).1 GF)),.s (.bool (N5 (G0 (l.map elS)).1 Ra)),.s (.sl (aa1 (G0 (l.map elS)).1) (aa1 (G0 (l.map elS)).1) 1 (A6 (G0 (l.map elS)).1))],.s (.int .i64 (G0 (l.map elS)).2)]:=by
 have n:=G3;obtain⟨E,rfl⟩:∃E,l=A6 E:=⟨_,Dw m⟩
 rw[C2] at f;have p:=ab2 f;rw[Cb];have e0:G0 E=EL (E.drop 0) []:=rfl;have o:(A6 (G0 E).1).isEmpty=(G0 E).1.isEmpty:=by cases (G0 E).1<;>rfl
 unfold UU CV;rw[C2];rcases OW (R:=PV × List Blk × Unit) z t E p E.length 0 LF [] (by omega) (by omega) (by simp) with⟨b,e,q⟩|⟨b,g,h,i,j,k,H,e⟩
 ·rw[<-e0] at b e q;have a:∀c d,L5 LF LF z t (A6 E) (E.length:Int) 0 [] [] c d=d (A6 (G0 E).1) (Iu (G0 E).1):=e;simp only[a,Fy,C2,Cb,D9 (show(G0 E).1.length<=1000000000 by omega),cond_true];rw[b];exact⟨_,_,rfl,by simp only[PV.stab,O2,PV.snap,Pu,Rt,List.getElem?_cons_succ,ac4,x9,o];rfl⟩
 ·rw[<-e0] at b;have a:∀c d,L5 LF LF z t (A6 E) (E.length:Int) 0 [] [] c d=c g h i j k H:=e;rw[a,b];exact⟨_,_,rfl,rfl⟩
end
end Go.Proofs.YtiodfnbjmmdlmaaGreatDoor.E
