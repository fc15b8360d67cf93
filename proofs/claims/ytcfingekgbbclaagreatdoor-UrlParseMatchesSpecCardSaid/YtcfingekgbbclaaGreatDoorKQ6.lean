/-
  UrlParseMatchesSpec, as its tied card says. Conditions: what the card itself names (the package-level variables that are listed, tied to the program's text).
-/
import Derived.Test.YtcfingekgbbclaaGreatDoorKQ5
import Derived.Test.YtcfingekgbbclaaGreatDoorCards
import Derived.Test.YtcfingekgbbclaaGreatDoorTie
open Eq renaming trans->a8
open Int renaming toNat->b8,toNat_natCast->c9,tmod->g9,tdiv->j6,eq_ofNat_of_zero_le->j9,mul->s8,mul_comm->ab5
open Bool renaming not_true->b9,not_false->d7,eq_false_iff->f9,and_eq_true->j8,true_and->p4,eq_iff_iff->v8,and_true->x5,false_or->x6,false_eq_true->x8,or_eq_true->aa6,not_and->ab4
open List renaming drop_of_length_le->d8,length_append->d9,length_drop->f6,length->f7,getD_eq_getElem?_getD->f8,drop_zero->g6,length_map->g8,length_singleton->i6,length_take->j0,append_assoc->j2,getElem?_eq_getElem->j7,length_cons->k9,length_nil->m5,nil_append->m6,length_pos_iff->m7,length_eq_zero_iff->o5,countP_le_length->o7,take->o8,map_append->p6,drop->p9,isPrefixOf_iff_prefix->s7,all_cons->s9,countP_cons_of_neg->t7,map->t8,getElem_cons_drop->v7,append_nil->w6,any_cons->x7,all->y7,getElem_mem->y9,drop_drop->aa8,isEmpty->ab6
open Go.Proofs.Tryz renaming prog->f0,f156->x4,f3->y8,f115->z7,f119->aa0,f120->aa1,f151->aa2,f176->aa3,f63->ab1,func3->ab2,f127->ab3,f85->ab8,f94->ab9
open Nat renaming ble_eq->g7,ble->j4,div_le_self->m9,strongRecOn->w8,blt_eq->x9,zero_le->aa4,mod_lt->aa9,mul_le_mul->ab0,sub_zero->ab7
open Go.Lib renaming decodeL->j1,decodeN->o0,join->x3,cut->y5,joinTail->y6
open Option.some renaming injEq->j5,inj->aa7
open UInt8 renaming ofNat->o6,toNat->aa5
open Option renaming getD_some->o9,isSome->p5,map_some->w9,isSome_some->y4
open Exists renaming intro->p7
namespace Go.Proofs.YtcfingekgbbclaaGreatDoor.E
set_option linter.all false
section
open Go Go.Proofs
set_option maxRecDepth 100000
theorem QD(t:By):P9 t [47,63,35]=J3 t:=by
 unfold P9 J3
 congr 2
 funext b
 simp[U8,List.contains_cons,Bool.or_assoc];rfl
theorem C44(r:By):([47,47]:By).isPrefixOf r=(r.take 2==[47,47]):=by rw[v8,s7,List.prefix_iff_eq_take,beq_iff_eq];exact eq_comm
theorem Bk1(s:By)(i:A3 s.length=true):∃H,∀(R:Type) (d:KU R),Nq LF s d=EW d (C3 s) H:=by
 have P:=L6 i;have M:=C1;have L:∀{R:Type} (d:List Blk->Option R) (y:By->Option R),Dh LF LF s 0 d y=if s.any ctl then d [] else y s:=λd y=>Aw5 s P s.length 0 LF (by omega) (by omega)
 unfold C3;by_cases g:s.any ctl=true
 ·rw[if_pos g];apply p7;intro R d;unfold Nq;rw[L,if_pos g];rfl
 rw[if_neg g];have x:(y5 s [58]).2.1.length<=s.length:=by
  rcases S7 58 s with h|⟨p,r,rfl,h⟩
  ·rw[Ol h];exact aa4 _
  ·rw[Z2 h,d9,k9];show r.length<=_;omega
 have a:Cl s=if (y5 s [58]).2.2&&V2 (y5 s [58]).1 then (B5 (y5 s [58]).1,(y5 s [58]).2.1,true) else ([],[],false):=rfl
 generalize y5 s [58]=q at *;obtain⟨p,r,f⟩:=q;simp only at a x ⊢;cases v:(f&&V2 p) with
 | false=>
  rw[v] at a;rw[if_pos (by rw[<-ab4,v];rfl)];apply p7;intro R d;unfold Nq;rw[L,if_neg g,i,a];rfl
 | true=>
 rw[v] at a;rw[if_neg (by rw[<-ab4,v];simp)];simp only[if_true] at a;cases c:L3 (B5 p) with
 | false=>
  apply p7;intro R d;unfold Nq;rw[L,if_neg g,i,a];simp only[vl,cond_true,b9,cond_false];rw[c];rfl
 | true=>
 rw[if_neg (by simp)];by_cases U:r.length<2
 ·rw[if_pos (by rw[C44];simp only[Bool.not_eq_true',beq_eq_false_iff_ne];intro e;have:=congrArg f7 e;rw[j0] at this;simp at this;omega)];apply p7;intro R d;unfold Nq;rw[L,if_neg g,i,a];simp only[vl,cond_true,b9,cond_false];rw[c,A8];rfl
 have z:cut r (0:Int) (2:Int)=r.take 2:=J5 r 2;have K:cut r (2:Int) (r.length:Int)=r.drop 2:=P8 r 2;rw[C44];cases Rj:(r.take 2==([47,47]:By)) with
 | false=>
  apply p7;intro R d;unfold Nq;rw[L,if_neg g,i,a];simp only[vl,cond_true,b9,cond_false];rw[c,A6,H9];simp only[vl,cond_true,b9,cond_false,z];rw[Rj];rfl
 | true=>
 rw[if_neg (by simp)];generalize S:r.drop 2=t at *;have lt:t.length<=r.length:=by rw[<-S,f6];omega
 have Q:=Vq t;obtain⟨H,e⟩:=YJ (B5 p) (V3 (t.drop (J3 t))) (t.take (J3 t)) (by rw[j0];omega);refine⟨(λq=>bU (uS q) (uU q) (uK q) (uN q) (uV q) (uA q 0) (uA q 1) (uA q 2) (uA q 3) (uA q 4) (uA q 5) (uA q 6) (uA q 7) (uP q) (uR q)::H) (G6 (B5 p) (V3 (t.drop (J3 t))) (t.take (J3 t))),λR d=>?_⟩;refine a8 ?_ (e R λn0 G I A J B C D n8 F j k l m n o w=>d G I A J B C D n8 F j k l m n o n0 (bU G I A J B C D n8 F j k l m n o::w));unfold Nq;rw[L,if_neg g,i,a];simp only[vl,cond_true,b9,cond_false];rw[c,A6,H9];simp only[vl,cond_true,b9,cond_false,z];rw[Rj,H9];simp only[vl,cond_true,b9,cond_false,K];rw[N6,QD,H9,H9,J5,P8,c9];simp only[cond_true];have V:(t.drop (J3 t)).length<=t.length:=by rw[f6];omega
 generalize t.drop (J3 t)=X at *;generalize t.take (J3 t)=T at *;unfold V3;cases X with
 | nil=>rfl
 | cons b X=>
  have N:inR (0:Int) (b::X).length=true:=L5 (by omega) (by simp);have O:((((b::X).getD 0 0).toNat:Int)!=47)=(b !=47):=by rw[bne,bne];exact congrArg _ (Ja b 47)
  rw[show((b::X)==([]:By))=false from rfl,N,Z0,O];simp only[cond_true,cond_false,List.head?_cons,j5];by_cases u:b=47
  ·rw[show(b !=47)=false by simpa using u,if_pos u];rfl
  ·rw[show(b !=47)=true by simpa using u,if_neg u,N3 (by omega)];rfl
theorem B27(s:By)(a:A3 s.length=true):∃r H,Nq LF s rvU=rv r H/\r.stab [0,0] H=pvU (C3 s):=by obtain⟨H,e⟩:=Bk1 s a;exact⟨_,_,e _ _,rfl⟩
theorem Aw4(s:By)(a:A3 s.length=true):∃r H,CD LF s rvU=rv r H/\r.stab [0,0] H=pvU (H8 s):=by
 unfold CD H8;by_cases h:2048<s.length
 ·rw[A8,if_pos h];exact⟨_,_,rfl,rfl⟩
 ·rw[A6,if_neg h,a];exact⟨_,_,rfl,rfl⟩
section
variable {Z R : Type} (L : Nat) (Q : F6) (Y : Yh Z) (s : Z) (k : Out -> St Z -> Option R)
noncomputable def EO(L:Nat):Cfg:=B7 L [148] (A4 []) [] (A4 [(1,[2]),(0,[0])]) [] (A4 []) (some [2]) [] [] []
noncomputable def RY{R:Type}(L:Nat)(n0:Int)(a:Bool->Option R):Option R:=cond (not (ltI n0 0)) (cond (not (ltI 1114111 n0)) (cond (ltI n0 55296) (a true) (a (ltI 57343 n0))) (a false)) (a false)
theorem Bj3(d:Nat)(n0):evC (EO L) (d+1) Z Y 148 [pI n0] [] s=RY L n0 (λa=>some (pB a,[],s)):=by refine(evE (fn:=Tryz.f148) (by kernel_rfl)).trans ?_;generalize evC (EO L) d=Q;unfold RY;kernel_rfl
noncomputable abbrev Mr:Code:=C8 aa2
noncomputable def V6(L:Nat):Cfg:=B7 L [151] (A4 [(6,[0,5,0])]) [] (A4 [(9,[6]),(8,[0,6]),(7,[0,6]),(6,[0,6,11]),(5,[0,6]),(4,[0]),(2,[0,0]),(3,[0,0]),(1,[0,0,6]),(0,[0,0,0])]) [] (A4 [(0,[0,6]),(1,[0,6])]) (some [6]) [] [] []
noncomputable def Ez{R:Type}(L n:Nat)(a b:Int)(e:Int->Int->Option R):Option R:=match n with|0=>none|n+1=>cond (ltI 455 a) (vl (A1 (j6 a (35:Int))) λc=>vl (A1 (b+36)) λd=>Ez L n c d e) (e a b)
theorem RN(n a b):C9 0 ((V6 L).keep 6) (bd (V6 L) Q Y (cd [1,1,1,1,0,0,0] Mr)) n ⟨gp [(0,pI a),(6,pI b)] 23,[],s⟩ k =
 Ez L n a b (λa b=>k (.exit 0) ⟨gp [(0,pI a),(6,pI b)] 23,[],s⟩):=by
 induction n generalizing a b with
 | zero=>rfl
 | succ n c=>rw[Ez];simp only[<-c];kernel_rfl
noncomputable def Ey{R:Type}(L:Nat)(b h:Int)(i:Int->Option R):Option R:=cond (h !=0) (vl (A1 (j6 b h)) λg=>Ez L L (A1 (b+g)) 0 (λa d=>vl (A1 ((36:Int)*a)) λe=>vl (A1 (a+38)) λc=>cond (c !=0) (vl (A1 (j6 e c)) λf=>i (A1 (d+f))) none)) none
abbrev AG(b:Code):Prop:=∀(k:Out->St Z->Option R) delta0 n1,A9 (V6 L) Q Y b ⟨gp [(0,pI delta0),(0,pI n1)] 29,[],s⟩ k=Ey L delta0 n1 (λn0=>k .ret ⟨gp [(6,pI n0)] 24,[],s⟩)
theorem RM:AG (R:=R) L Q Y s (cd [1,1] Mr):=by intro k a c;unfold Ey;exact(a8 (by kernel_rfl) (A0 (A2 λb=>((RN L Q Y s (E3 0 (E2 (V6 L) Q Y (cd [1,1,1,1,1] Mr) k)) L (A1 (a+b)) 0).trans (by kernel_rfl))) rfl))
noncomputable def GY{R:Type}(L:Nat)(a h:Int)(b:Bool)(g:Int->Option R):Option R:=cond b (vl (A1 (j6 a (700:Int))) λe=>Ey L e h (λc=>g c)) (vl (A1 (j6 a (2:Int))) λf=>Ey L f h (λd=>g d))
theorem Bh3(d:Code)(a:AG (R:=PV × List Blk × Z) L Q Y s d)(b e:Int)(c:Bool):A9 (V6 L) Q Y (cd [] (G2 [1,1] d Mr)) ⟨[pI b,pI e,pB c]++tps 28,[],s⟩ (F5 (V6 L) aa2)=GY L b e c (λi=>some (pI i,[],s)):=by unfold GY;exact let h:=(F5 (V6 L) aa2);(a8 (by kernel_rfl) (A0 (A2 λf=>((a h f e).trans (by kernel_rfl))) (A2 λg=>((a h g e).trans (by kernel_rfl)))))
theorem Bh4(d:Nat)(delta0 n1 first2):evC (V6 L) (d+1) Z Y 151 [pI delta0,pI n1,pB first2] [] s=GY L delta0 n1 first2 (λa=>some (pI a,[],s)):=
 (evE (fn:=aa2) (by kernel_rfl)).trans (a8 (by kernel_rfl) (Bh3 L (evC (V6 L) d) Y s (cd [1,1] Mr) (RM L (evC (V6 L) d) Y s) delta0 n1 first2))
noncomputable def Ag4(L:Nat):Cfg:=B7 L [149] (A4 []) [] (A4 [(1,[4]),(0,[0,0])]) [] (A4 []) (some [4]) [] [] []
noncomputable def Ck7{R:Type}(L:Nat)(c a:Int)(e:Int->Option R):Option R:=vl (A1 ((36:Int)*(A1 (c+1)))) λb=>vl (if ((if ((A1 (b-a))<(26:Int)) then (A1 (b-a)) else (26:Int)) > (1:Int)) then (if ((A1 (b-a))<(26:Int)) then (A1 (b-a)) else (26:Int)) else (1:Int)) λd=>e d
theorem Ck8(d:Nat)(kk0 bias1):evC (Ag4 L) (d+1) Z Y 149 [pI kk0,pI bias1] [] s=Ck7 L kk0 bias1 (λa=>some (pI a,[],s)):=by refine(evE (fn:=Tryz.f149) (by kernel_rfl)).trans ?_;generalize evC (Ag4 L) d=Q;unfold Ck7;kernel_rfl
noncomputable def PO(L:Nat):Cfg:=B7 L [150] (A4 []) [] (A4 [(3,[2]),(2,[2]),(1,[0,3]),(0,[0])]) [] (A4 []) (some [2]) [] [] []
noncomputable def A78{R:Type}(L:Nat)(a:Int)(d:Int->Option R):Option R:=cond (ltI a 26) (vl (wu8 (A1 ((97:Int)+a))) λb=>d b) (vl (A1 ((A1 ((48:Int)+a))-26)) λc=>d (wu8 c))
theorem B00(d:Nat)(d0):evC (PO L) (d+1) Z Y 150 [pI d0] [] s=A78 L d0 (λa=>some (p8 a,[],s)):=by refine(evE (fn:=Tryz.f150) (by kernel_rfl)).trans ?_;generalize evC (PO L) d=Q;unfold A78;kernel_rfl
noncomputable abbrev Qv:Code:=C8 aa3
noncomputable def Ht(L:Nat):Cfg:=B7 L [176] (A4 []) [] (A4 [(7,[2]),(2,[2]),(4,[2]),(6,[2]),(5,[0,22]),(3,[0,12]),(1,[0,2]),(0,[0])]) [] (A4 [(0,[])]) (some [2]) [] [] []
noncomputable def Vi{R:Type}(a:Int)(g:Bool)(e:Int->Option R)(f:Int->Bool->Option R):Option R:=cond g (vl (A1 (wu8 (a-65))) λb=>e b) (cond (not (ltI a 48)) (cond (not (ltI 57 a)) (vl (A1 (wu8 (a-48))) λc=>vl (A1 (c+26)) λd=>e d) (f a (not (ltI 57 a)))) (f a false))
abbrev LW(b:Code):Prop:=∀(k:Out->St Z->Option R) a c,A9 (Ht L) Q Y b ⟨gp [(0,p8 a),(12,pB c)] 20,[],s⟩ k=Vi a c (λn0=>k .ret ⟨gp [(2,pI n0)] 31,[],s⟩) (λa c=>k .normal ⟨gp [(0,p8 a),(22,pB c)] 10,[],s⟩)
theorem Ax3:LW (R:=R) L Q Y s (cd [1,0,0,1,1,1] Qv):=by intro k a b;unfold Vi;kernel_rfl
noncomputable def Vj{R:Type}(a:Int)(l:Bool)(f:Int->Option R)(j:Int->Bool->Option R):Option R:=cond l (vl (A1 (wu8 (a-97))) λg=>f g) (cond (not (ltI a 65)) (Vi a (not (ltI 90 a)) (λh=>f h) (λb c=>j b c)) (Vi a false (λi=>f i) (λd e=>j d e)))
abbrev Yy(b:Code):Prop:=∀(k:Out->St Z->Option R) a c,A9 (Ht L) Q Y b ⟨gp [(0,p8 a),(2,pB c)] 30,[],s⟩ k=Vj a c (λn0=>k .ret ⟨gp [(2,pI n0)] 31,[],s⟩) (λa c=>k .normal ⟨gp [(0,p8 a),(22,pB c)] 10,[],s⟩)
theorem Ax4(a:Code)(b:LW (R:=R) L Q Y s a):Yy (R:=R) L Q Y s (cd [1,0,0,1] (G2 [1,0,0,1,1,1] a Qv)):=by intro k c d;unfold Vj;simp only[<-b k];kernel_rfl
theorem Ax5:Yy (R:=R) L Q Y s (cd [1,0,0,1] Qv):=by intro k a b;exact a8 (by kernel_rfl) (Ax4 L Q Y s (cd [1,0,0,1,1,1] Qv) (Ax3 L Q Y s) k a b)
noncomputable def B32{R:Type}(L:Nat)(c:Int)(d:Int->Option R):Option R:=cond (not (ltI c 97)) (Vj c (not (ltI 122 c)) (λa=>d a) (λe f=>d (-1))) (Vj c false (λb=>d b) (λg h=>d (-1)))
theorem Cl3(b:Code)(a:Yy (R:=PV × List Blk × Z) L Q Y s b)(c:Int):A9 (Ht L) Q Y (cd [] (G2 [1,0,0,1] b Qv)) ⟨[p8 c]++tps 33,[],s⟩ (F5 (Ht L) aa3)=B32 L c (λe=>some (pI e,[],s)):=by unfold B32;exact let d:=(E3 0 (E2 (Ht L) Q Y (cd [1,1] Qv) (F5 (Ht L) aa3)));(a8 (by kernel_rfl) (A0 ((a d c (not (ltI 122 c))).trans (by kernel_rfl)) ((a d c false).trans (by kernel_rfl))))
theorem Cl4(d:Nat)(b0):evC (Ht L) (d+1) Z Y 176 [p8 b0] [] s=B32 L b0 (λa=>some (pI a,[],s)):=
 (evE (fn:=aa3) (by kernel_rfl)).trans (a8 (by kernel_rfl) (Cl3 L (evC (Ht L) d) Y s (cd [1,0,0,1] Qv) (Ax5 L (evC (Ht L) d) Y s) b0))
noncomputable abbrev Aw:Code:=C8 aa1
noncomputable def L8(L:Nat):Cfg:=B7 L [120] (A4 [(32,[0,1,0,0,1,0,0,0,0,2,0,0]),(25,[0,1,0,0,1,0,0,0,0,2]),(18,[0,1,0,0,1,0,0,0,0,0,0]),(15,[0,1,0,0,1,0,0,0,0]),(5,[0,1,0,0,0])]) [(148,So),(149,Ad2),(150,A24),(151,DD)] (A4 [(43,[2,0]),(42,[0,3,1,0,0,0,0]),(41,[0,3,1,0,0,0,0]),(26,[0,3,1,0,0,0,0,2]),(40,[0,3,1,0,0,0,0,2]),(39,[0,3,1,0,0,0,0,2]),(38,[0,3,1,0,0,1,2]),(37,[0,3,1,0,0,0,3]),(36,[0,3,1,0,0,0,0,2,0,0]),(35,[0,3,1,0,0,0,0,2,0,0]),(34,[0,3,1,0,0,0,0,2,0,0,0]),(33,[0,3,1,0,0,0,0,2,0,0,0]),(32,[0,3,1,0,0,0,0,2,0,0,94]),(31,[0,3,1,0,0,0,0,2,0,0]),(30,[0,3,1,0,0,0,0,2,0]),(29,[0,3,1,0,0,0,0,2,90]),(28,[0,3,1,0,0,0,0,2]),(27,[0,3,1,0,0,0,0,2,82]),(25,[0,3,1,0,0,0,0,2,74]),(24,[0,3,1,0,0,0,0,2]),(23,[0,3,1,0,0,0,0]),(22,[0,3,1,0,1,0,0]),(19,[0,3,1,0,0,0,0,0,0]),(21,[0,3,1,0,0,0,0,0,0]),(20,[0,3,1,0,0,0,0,0,0,56]),(18,[0,3,1,0,0,0,0,0,0,48]),(17,[0,3,1,0,0,0,0,0,0]),(16,[0,3,1,0,0,0,0,0]),(15,[0,3,1,0,0,0,0,46]),(14,[0,3,1,0,0,0,0]),(13,[0,3,1,0]),(12,[0,3,1,0,42]),(11,[0,3,1,0]),(6,[0,3,0]),(10,[0,3,0]),(9,[0,3,0,30]),(8,[2,0]),(7,[0,3,0,25]),(5,[0,3,0,17]),(4,[0,3,0]),(3,[0,3]),(2,[2,0]),(1,[0,18]),(0,[0])]) [148,149,150,151] (A4 [(2,[4]),(3,[0,3,1,0,0,0,0]),(6,[0,3,1,0,0,0,0]),(7,[0,3,1,0,0,0,0,2]),(8,[0,3,1,0,0,0,3,0]),(9,[0,3,1,0,0,0,0,2,0,0]),(4,[0,3,1,0,0,0,0,0]),(5,[0,3,1,0,0,0,0,0,0]),(0,[0,3]),(1,[0,3,0])]) (some [2,0]) [] [] []
noncomputable def T5{R:Type}(L n:Nat)(c b:Bool)(a:LL)(d:Int)(e:LL)(f:LL->Option R)(g:Bool->Bool->LL->LL->Option R):Option R:=match n with|0=>none|n+1=>cond (ltI d (a.length:Int)) (cond (inR d a.length) (cond (okE Jm a (b8 d) 0) (vl (gE a (b8 d) 0) λh=>cond (not (ptI h)) (f e) (cond (inR d a.length) (cond (okE Jm a (b8 d) 0) (vl (gE a (b8 d) 0) λi=>cond (ltI i 128) (cond (inR d a.length) (cond (okE Jm a (b8 d) 0) (vl (gE a (b8 d) 0) λj=>cond (F2 (e.length+1)) (T5 L n c b a (A1 (d+1)) (e++[[(SV.int .u8 (wu8 j))]]) f g) none) none) none) (T5 L n c b a (A1 (d+1)) e f g)) none) none)) none) none) (g c b a e)
theorem Aq9(n b a c i3 l4):C9 1 ((L8 L).keep 5) (bd (L8 L) Q Y (cd [1,1,1,0,1,0,0] Aw)) n ⟨gp [(0,.s (.sl b a 1 c)),(3,.fl 0),(0,pI i3)] 148,[.arr true 5 1 l4],s⟩ k =
 T5 L n b a c i3 l4 (λe=>k .ret ⟨gp [(2,pS ([]:List UInt8)),(0,pI (2:Int))] 150,[.arr true 5 1 e],s⟩) (λb a c f=>k (.exit 0) ⟨gp [(0,.s (.sl b a 1 c)),(3,.fl 0)] 149,[.arr true 5 1 f],s⟩):=by
 induction n generalizing b a c i3 l4 with
 | zero=>rfl
 | succ n d=>rw[T5];simp only[<-d];kernel_rfl
noncomputable def Hh{R:Type}(L n:Nat)(c b:Bool)(a:LL)(h e o f g d i:Int)(l10:LL)(p:Bool->Bool->LL->Int->Int->Int->Int->Int->Int->LL->Option R):Option R:=match n with|0=>none|n+1=>cond (ltI i (a.length:Int)) (cond (inR i a.length) (cond (okE Jm a (b8 i) 0) (vl (gE a (b8 i) 0) λl=>cond (not (ltI l o)) (cond (inR i a.length) (cond (okE Jm a (b8 i) 0) (vl (gE a (b8 i) 0) λj=>vl (if (j<d) then j else d) λm=>Hh L n c b a h e o f g m (A1 (i+1)) l10 p) none) none) (Hh L n c b a h e o f g d (A1 (i+1)) l10 p)) none) none) (p c b a h e o f g d l10)
theorem Ar0(n b a c h d i e g f i9 l10):C9 1 ((L8 L).keep 18) (bd (L8 L) Q Y (cd [1,1,1,1,1,1,1,0,0,0,1,0,1,0,1,0,0] Aw)) n ⟨gp [(0,.s (.sl b a 1 c)),(3,.fl 0),(1,pI h),(0,pI d),(0,pI i),(0,pI e),(0,pI g),(0,pI f),(0,pI i9)] 141,[.arr true 5 1 l10],s⟩ k =
 Hh L n b a c h d i e g f i9 l10 (λb a c h d i e g f l=>k (.exit 4) ⟨gp [(0,.s (.sl b a 1 c)),(3,.fl 0),(1,pI h),(0,pI d),(0,pI i),(0,pI e),(0,pI g),(0,pI f)] 142,[.arr true 5 1 l],s⟩):=by
 induction n generalizing b a c h d i e g f i9 l10 with
 | zero=>rfl
 | succ n j=>rw[Hh];simp only[<-j];kernel_rfl
noncomputable def Ef{R:Type}(L n:Nat)(c b:Bool)(f:LL)(i g w h a i8 u e:Int)(o:LL)(v:Bool->Bool->LL->Int->Int->Int->Int->Int->Int->LL->Option R):Option R:=match n with|0=>none|n+1=>cond (ltN e 10000000000) (cond (ltN a 1000000) (vl (J9 (s8 (36:Int) e) a) λp=>cond (not (ltI u p)) (cond (ltN e 10000000000) (cond (ltN a 1000000) (vl (J9 (s8 (36:Int) e) a) λd=>vl (A1 ((36:Int)-d)) λj=>cond (j !=0) (vl (g9 (A1 (u-d)) j) λl=>cond (ltN (A1 (d+l)) 36) (vl (↑(aa5 (Z3 (b8 (A1 (d+l))))):Int) λq=>cond (F2 (o.length+1)) (vl (A1 ((36:Int)-d)) λm=>cond (m !=0) (vl (A1 (j6 (A1 (u-d)) m)) λr=>vl (A1 (e+1)) λt=>Ef L n c b f i g w h a i8 r t (o++[[(SV.int .u8 q)]]) v) none) none) none) none) none) none) (v c b f i g w h i8 u o)) none) none
theorem HA(n b a c f d g e bias7 i8 q9 kk10 l11):C9 1 ((L8 L).keep 32) (bd (L8 L) Q Y (cd [1,1,1,1,1,1,1,0,0,0,1,0,1,1,1,1,0,1,0,0,1,0,0,1,1,1,1,0,0,0] Aw)) n ⟨gp [(0,.s (.sl b a 1 c)),(3,.fl 0),(1,pI f),(0,pI d),(0,pI g),(0,pI e),(0,pI bias7),(2,pI i8),(0,pI q9),(0,pI kk10)] 138,[.arr true 5 1 l11],s⟩ k =
 Ef L n b a c f d g e bias7 i8 q9 kk10 l11 (λb a c f d g e h l j=>k (.exit 8) ⟨gp [(0,.s (.sl b a 1 c)),(3,.fl 0),(1,pI f),(0,pI d),(0,pI g),(0,pI e),(3,pI h),(0,pI l)] 139,[.arr true 5 1 j],s⟩):=by
 induction n generalizing b a c f d g e bias7 i8 q9 kk10 l11 with
 | zero=>rfl
 | succ n i=>rw[Ef];simp only[<-i];kernel_rfl
noncomputable def Z9{R:Type}(L n:Nat)(c b:Bool)(a:LL)(i d B e f i8:Int)(I:LL)(H:Bool->Bool->LL->Int->Int->Int->Int->Int->LL->Option R):Option R:=match n with|0=>none|n+1=>cond (ltI i8 (a.length:Int)) (cond (inR i8 a.length) (cond (okE Jm a (b8 i8) 0) (vl (gE a (b8 i8) 0) λJ=>cond (ltI J B) (vl (A1 (e+1)) λw=>cond (inR i8 a.length) (cond (okE Jm a (b8 i8) 0) (vl (gE a (b8 i8) 0) λK=>cond (K !=B) (Z9 L n c b a i d B w f (A1 (i8+1)) I H) (Ef L L c b a i d B w f i8 w 0 I (λr p u g j N m F C z=>cond (ltN C 36) (vl (↑(aa5 (Z3 (b8 C))):Int) λO=>cond (F2 (z.length+1)) (vl (A1 (g+1)) λx=>cond (ltN m 1152921504606846976) (cond (ltN x 1000000) (cond (ltI 0 x) (vl (↑(P4 (b8 m) (b8 x) (g==j)):Int) λP=>vl (A1 (g+1)) λS=>vl (A1 (F+1)) λT=>Z9 L n r p u S j N 0 P T (z++[[(SV.int .u8 O)]]) H) none) none) none) none) none))) none) none) (cond (inR i8 a.length) (cond (okE Jm a (b8 i8) 0) (vl (gE a (b8 i8) 0) λM=>cond (M !=B) (Z9 L n c b a i d B e f (A1 (i8+1)) I H) (Ef L L c b a i d B e f i8 e 0 I (λt q v h l U o G D A=>cond (ltN D 36) (vl (↑(aa5 (Z3 (b8 D))):Int) λV=>cond (F2 (A.length+1)) (vl (A1 (h+1)) λy=>cond (ltN o 1152921504606846976) (cond (ltN y 1000000) (cond (ltI 0 y) (vl (↑(P4 (b8 o) (b8 y) (h==l)):Int) λW=>vl (A1 (h+1)) λX=>vl (A1 (G+1)) λa0=>Z9 L n t q v X l U 0 W a0 (A++[[(SV.int .u8 V)]]) H) none) none) none) none) none))) none) none)) none) none) (H c b a i d B e f I)
theorem Ar1(n b a c g d t e f i8 l9):C9 1 ((L8 L).keep 25) (bd (L8 L) Q Y (cd [1,1,1,1,1,1,1,0,0,0,1,0,1,1,1,1,0,1,0,0] Aw)) n ⟨gp [(0,.s (.sl b a 1 c)),(3,.fl 0),(1,pI g),(0,pI d),(0,pI t),(0,pI e),(0,pI f),(2,pI i8)] 140,[.arr true 5 1 l9],s⟩ k =
 Z9 L n b a c g d t e f i8 l9 (λb a c g d t e f l8=>k (.exit 6) ⟨gp [(0,.s (.sl b a 1 c)),(3,.fl 0),(1,pI g),(0,pI d),(0,pI t),(0,pI e),(0,pI f)] 143,[.arr true 5 1 l8],s⟩):=by
 induction n generalizing b a c g d t e f i8 l9 with
 | zero=>rfl
 | succ n M=>rw[Z9];exact let N:=(E3 8 (E2 (L8 L) Q Y (cd [1,1,1,1,1,1,1,0,0,0,1,0,1,1,1,1,0,1,0,0,1,0,0,1,1,1,1,1] Aw) (E3 7 (E2 (L8 L) Q Y (cd [1,1,1,1,1,1,1,0,0,0,1,0,1,1,1,1,0,1,0,0,1,1] Aw) (lpK 1 ((L8 L).keep 25) (bd (L8 L) Q Y (cd [1,1,1,1,1,1,1,0,0,0,1,0,1,1,1,1,0,1,0,0] Aw)) n k)))));(a8 (by kernel_rfl) (A0 (A0 (A0 (A2 λS=>(A0 (A2 λr=>(A0 (A0 (A2 λT=>(A0 (M b a c g d t r f (A1 (i8+1)) l9) ((HA L Q Y s N L b a c g d t r f i8 r 0 l9).trans (congr rfl (Cd3 λj h m w p A u O X y=>(a8 (by kernel_rfl) (A0 (A2 λB=>(A0 (A2 λV=>(A0 (A0 (A0 (A2 λC=>(A2 λD=>(A2 λF=>(M j h m D p A 0 C F (y++[[(SV.int .u8 B)]]))))) rfl) rfl) rfl)) rfl)) rfl))))))) rfl) rfl)) (A0 (A0 (A2 λU=>(A0 (M b a c g d t e f (A1 (i8+1)) l9) ((HA L Q Y s N L b a c g d t e f i8 e 0 l9).trans (congr rfl (Cd3 λl i o x q G v P a0 z=>(a8 (by kernel_rfl) (A0 (A2 λH=>(A0 (A2 λW=>(A0 (A0 (A0 (A2 λI=>(A2 λJ=>(A2 λK=>(M l i o J q G 0 I K (z++[[(SV.int .u8 H)]]))))) rfl) rfl) rfl)) rfl)) rfl))))))) rfl) rfl))) rfl) rfl) rfl))
noncomputable def Eg{R:Type}(L n:Nat)(l j:Bool)(g:LL)(v w K x y:Int)(J:LL)(I:LL->Option R):Option R:=match n with|0=>none|n+1=>cond (ltI v (g.length:Int)) (Hh L L l j g v w K x y 1073741824 0 J (λd b h f m B p r a z=>vl (A1 (f+1)) λC=>vl (A1 ((A1 (a-B))*C)) λD=>Z9 L L d b h f m a (A1 (p+D)) r 0 z (λe c i u o F q t A=>vl (A1 (q+1)) λG=>vl (A1 (F+1)) λH=>Eg L n e c i u o H G t A I))) (I J)
theorem HB(n points_z0 points_t1 points2 done3 basic4 n5 delta6 bias7 l8):C9 1 ((L8 L).keep 15) (bd (L8 L) Q Y (cd [1,1,1,1,1,1,1,0,0,0] Aw)) n ⟨gp [(0,.s (.sl points_z0 points_t1 1 points2)),(3,.fl 0),(1,pI done3),(0,pI basic4),(0,pI n5),(0,pI delta6),(0,pI bias7)] 143,[.arr true 5 1 l8],s⟩ k =
 Eg L n points_z0 points_t1 points2 done3 basic4 n5 delta6 bias7 l8 (λB=>k (.exit 2) ⟨gp [(4,.fl 0)] 149,[.arr true 5 1 B],s⟩):=by
 induction n generalizing points_z0 points_t1 points2 done3 basic4 n5 delta6 bias7 l8 with
 | zero=>rfl
 | succ n A=>rw[Eg];exact(a8 (by kernel_rfl) (A0 ((Ar0 L Q Y s (E3 4 (E2 (L8 L) Q Y (cd [1,1,1,1,1,1,1,0,0,0,1,0,1,1] Aw) (E3 3 (lpK 1 ((L8 L).keep 15) (bd (L8 L) Q Y (cd [1,1,1,1,1,1,1,0,0,0] Aw)) n k)))) L points_z0 points_t1 points2 done3 basic4 n5 delta6 bias7 1073741824 0 l8).trans (congr rfl (Cd3 λc a e o g x i l j r=>(a8 (by kernel_rfl) (A2 λy=>(A2 λu=>((Ar1 L Q Y s (E3 6 (E2 (L8 L) Q Y (cd [1,1,1,1,1,1,1,0,0,0,1,0,1,1,1,1,1] Aw) (E3 3 (lpK 1 ((L8 L).keep 15) (bd (L8 L) Q Y (cd [1,1,1,1,1,1,1,0,0,0] Aw)) n k)))) L c a e o g j (A1 (i+u)) l 0 r).trans (congr rfl (fx9 λd b f p h z q m t=>(a8 (by kernel_rfl) (A2 λv=>(A2 λw=>(A d b f p h w v m t))))))))))))) rfl))
noncomputable def XK{R:Type}(L:Nat)(f e:Bool)(d:LL)(o:Unit->Option R)(m:By->Int->LL->Option R):Option R:=cond (ltI 256 (d.length:Int)) (o ()) (T5 L L f e d 0 [] (λn=>m ([]:List UInt8) 2 n) (λb a c g=>vl (g.length:Int) λl=>vl (g.length:Int) λj=>cond (ltI 0 j) (cond (F2 (g.length+1)) (Eg L L b a c l j 128 0 72 (g++[[(SV.int .u8 (45:Int))]]) (λh=>cond (y7 h Mb) (m (t8 Kd h) 0 h) none)) none) (Eg L L b a c l j 128 0 72 g (λi=>cond (y7 i Mb) (m (t8 Kd i) 0 i) none))))
theorem Cj3(d:Nat)(points_z0 points_t1 points2):evC (L8 L) (d+1) Z Y 120 [.s (.sl points_z0 points_t1 1 points2)] [] s=XK L points_z0 points_t1 points2 (λ_=>some (.tup [pS ([]:List UInt8),pI (3:Int)],[],s)) (λj l i=>some (.tup [pS j,pI l],[.arr true 5 1 i],s)):=by refine(evE (fn:=aa1) (by kernel_rfl)).trans ?_;generalize evC (L8 L) d=Q;unfold XK;exact let h:=(E3 2 (E2 (L8 L) Q Y (cd [1,1,1,1,1,1,1,1] Aw) (F5 (L8 L) aa1)));(a8 (by kernel_rfl) (A0 rfl ((Aq9 L Q Y s (E3 0 (E2 (L8 L) Q Y (cd [1,1,1,1] Aw) (F5 (L8 L) aa1))) L points_z0 points_t1 points2 0 []).trans (congr (congr rfl (by kernel_rfl)) (fx4 λb a c g=>(a8 (by kernel_rfl) (A2 λe=>(A2 λf=>(A0 (A0 ((HB L Q Y s h L b a c e f 128 0 72 (g++[[(SV.int .u8 (45:Int))]])).trans (by kernel_rfl)) rfl) ((HB L Q Y s h L b a c e f 128 0 72 g).trans (by kernel_rfl)))))))))))
noncomputable abbrev W7:Code:=C8 x4
noncomputable def J1(L:Nat):Cfg:=B7 L [156] (A4 [(27,[0,1,0,2,1,0,0,0,0,0,0,0]),(23,[0,1,0,2,1,0,0,0,0]),(13,[0,1,0,0,1,0]),(5,[0,1,0,0,0])]) [(176,Br2),(149,Ad2),(151,DD),(148,So)] (A4 [(51,[2,0]),(50,[0,5,1,0,0,0,0]),(49,[2,0]),(48,[0,5,1,0,0,0,0,118]),(47,[0,5,1,0,0,0,0]),(46,[2,0]),(45,[0,5,1,0,0,0,0,103]),(44,[0,5,1,0,0,0,0]),(43,[0,5,1,0,0,0,0]),(42,[0,5,1,0,0,0,0]),(41,[0,5,1,0,0,0]),(26,[0,5,1,0,0,0,0,0,0,0]),(40,[2,0]),(39,[0,5,1,0,0,0,0,0,0,0,77]),(38,[0,5,1,0,0,0,0,0,0,0]),(37,[0,5,1,0,0,0,0,0,0,0,1,69]),(36,[0,5,1,0,0,0,0,0,0,0,0,0]),(35,[2,0]),(34,[0,5,1,0,0,0,0,0,0,0,0,64]),(33,[0,5,1,0,0,0,0,0,0,0,0]),(32,[2,0]),(31,[0,5,1,0,0,0,0,0,0,0,0,57]),(30,[0,5,1,0,0,0,0,0,0,0,0]),(29,[0,5,1,0,0,0,0,0,0,0,0]),(28,[2,0]),(27,[0,5,1,0,0,0,0,0,0,0,50]),(25,[0,5,1,0,0,0,0,0,0,0]),(24,[0,5,1,0,0,0,0,0,0]),(23,[0,5,1,0,0,0,0,46]),(22,[0,5,1,0,0,0,0]),(21,[0,5,1,0,0,0]),(20,[0,5,1]),(19,[0,5,1,44]),(18,[0,3,1,1]),(17,[2,0]),(16,[0,3,1,43]),(14,[0,3,1,0]),(15,[0,3,1,0]),(13,[0,3,1,0,30]),(12,[0,3,1,0]),(11,[0,3,1]),(6,[0,3,0]),(10,[0,3,0]),(9,[0,3,0,28]),(8,[2,0]),(7,[0,3,0,24]),(5,[0,3,0,18]),(4,[0,3,0]),(3,[0,3]),(2,[2,0]),(1,[0,19]),(0,[0])]) [176,149,151,148] (A4 [(4,[6]),(5,[0,5,1,0,0,0,0]),(6,[0,5,1,0,0,1,0]),(7,[0,5,1,0,0,0,0,0,0,0]),(2,[0,3,1]),(3,[0,3,1,0]),(0,[0,3]),(1,[0,3,0])]) (some [2,0]) [] [] [] (rw:=[(47,6)])
noncomputable def Df{R:Type}(L n:Nat)(c:By)(a b:Int)(d:Unit->Option R)(e:By->Int->Option R):Option R:=match n with|0=>none|n+1=>cond (ltI b (c.length:Int)) (cond (inR b c.length) (cond (not (ltI (bAt c b) (128:Int))) (d ()) (cond (inR b c.length) (cond ((bAt c b)==45) (Df L n c b (A1 (b+1)) d e) (Df L n c a (A1 (b+1)) d e)) none)) none) (e c a)
theorem XV(n b a i2):C9 0 ((J1 L).keep 5) (bd (J1 L) Q Y (cd [1,1,1,0,1,0,0] W7)) n ⟨gp [(0,pS b),(3,pI a),(0,pI i2)] 129,[],s⟩ k =
 Df L n b a i2 (λ_=>k .ret ⟨gp [(2,.fl 0),(0,pI (4:Int))] 131,[.arr true 3 1 []],s⟩) (λb a=>k (.exit 0) ⟨gp [(0,pS b),(3,pI a)] 130,[],s⟩):=by
 induction n generalizing b a i2 with
 | zero=>rfl
 | succ n c=>rw[Df];simp only[<-c];kernel_rfl
noncomputable def Ga{R:Type}(L n:Nat)(c:By)(a b:Int)(d:LL)(e:By->Int->LL->Option R):Option R:=match n with|0=>none|n+1=>cond (ltI b a) (cond (inR b c.length) (cond (F2 (d.length+1)) (Ga L n c a (A1 (b+1)) (d++[[(SV.int .i64 (A1 (bAt c b)))]]) e) none) none) (e c a d)
theorem XW(n b a i2 l3):C9 1 ((J1 L).keep 13) (bd (J1 L) Q Y (cd [1,1,1,1,1,0,1,0,0] W7)) n ⟨gp [(0,pS b),(3,pI a),(1,.fl 0),(0,pI i2)] 127,[.arr true 3 1 l3],s⟩ k =
 Ga L n b a i2 l3 (λb a d=>k (.exit 2) ⟨gp [(0,pS b),(3,pI a),(1,.fl 0)] 128,[.arr true 3 1 d],s⟩):=by
 induction n generalizing b a i2 l3 with
 | zero=>rfl
 | succ n c=>rw[Ga];simp only[<-c];kernel_rfl
noncomputable def U0{R:Type}(L n:Nat)(l:By)(g:LL)(b q r a f o h:Int)(j:LL)(m:Int->LL->Option R)(p:By->LL->Int->Int->Int->Int->LL->Option R):Option R:=match n with|0=>none|n+1=>cond (not (ltI b (l.length:Int))) (m 4 j) (cond (inR b l.length) (cond (inR (bAt l b) 256) (vl (D8 (u8n (bAt l b))) λi=>cond (ltI i 0) (m 4 j) (vl (A1 (r+(A1 (i*o)))) λc=>cond (ltI 1099511627776 c) (m 19 j) (cond (ltN h 10000000000) (cond (ltN a 1000000) (vl (J9 (s8 (36:Int) h) a) λd=>cond (ltI i d) (p l g (A1 (b+1)) q c f j) (vl (A1 ((36:Int)-d)) λe=>cond (ltI 1099511627776 (A1 (o*e))) (m 19 j) (U0 L n l g (A1 (b+1)) q c a f (A1 (o*e)) (A1 (h+1)) j m p))) none) none))) none) none)
theorem XX(n f a b d c bias5 old6 w7 kk8 l9):C9 1 ((J1 L).keep 27) (bd (J1 L) Q Y (cd [1,1,1,1,1,1,1,1,1,1,1,0,0,0,1,0,1,0,1,0,0] W7)) n ⟨gp [(0,pS f),(5,.s (.sl false false 1 a)),(1,pI b),(0,pI d),(0,pI c),(0,pI bias5),(0,pB false),(0,pI old6),(0,pI w7),(0,pI kk8)] 119,[.arr true 3 1 l9],s⟩ k =
 U0 L n f a b d c bias5 old6 w7 kk8 l9 (λn0 h=>k .ret ⟨gp [(2,.fl 1),(0,pI n0)] 131,[.arr true 3 1 h,.arr true 3 1 []],s⟩) (λf a b d c e i=>k (.exit 6) ⟨gp [(0,pS f),(5,.s (.sl false false 1 a)),(1,pI b),(0,pI d),(0,pI c),(1,pB false),(0,pI e)] 121,[.arr true 3 1 i],s⟩):=by
 induction n generalizing f a b d c bias5 old6 w7 kk8 l9 with
 | zero=>rfl
 | succ n g=>rw[U0];simp only[<-g];kernel_rfl
noncomputable def O0{R:Type}(L n:Nat)(C:By)(m:LL)(q D y p:Int)(B:LL)(x:Int->LL->Option R)(z:LL->LL->Option R)(A:LL->LL->Option R):Option R:=match n with|0=>none|n+1=>cond (ltI q (C.length:Int)) (U0 L L C m q D y p y 1 0 B (λt r=>x t r) (λw a o d b h i=>vl (A1 ((a.length:Int)+1)) λj=>cond (ltN (A1 (b-h)) 1152921504606846976) (cond (ltN j 1000000) (cond (ltI 0 j) (vl (↑(P4 (b8 (A1 (b-h))) (b8 j) false):Int) λu=>vl (A1 ((a.length:Int)+1)) λl=>cond (l !=0) (vl (A1 (j6 b l)) λe=>vl (A1 ((a.length:Int)+1)) λf=>cond (f !=0) (cond (not (ptI (A1 (d+e)))) (x 2 i) (cond (I5 0 (g9 b f) a.length) (vl (cut a 0 (g9 b f)) λc=>cond (I5 (g9 b f) (a.length:Int) a.length) (vl (cut a (g9 b f) (a.length:Int)) λg=>cond (F2 (0+c.length)) (cond (F2 (c.length+1)) (cond (F2 ((f7 (c++[[(SV.int .i64 (A1 (d+e)))]]))+g.length)) (cond (ltI 256 (↑(f7 ((c++[[(SV.int .i64 (A1 (d+e)))]])++g)):Int)) (z i ((c++[[(SV.int .i64 (A1 (d+e)))]])++g)) (vl (A1 ((g9 b f)+1)) λv=>O0 L n w ((c++[[(SV.int .i64 (A1 (d+e)))]])++g) o (A1 (d+e)) v u i x z A)) none) none) none) none) none)) none) none) none) none) none)) (A m B)
theorem XY(n s0 out1 at2 n3 i4 bias5 l6):C9 1 ((J1 L).keep 23) (bd (J1 L) Q Y (cd [1,1,1,1,1,1,1,1,1,1,1,0,0,0] W7)) n ⟨gp [(0,pS s0),(5,.s (.sl false false 1 out1)),(1,pI at2),(0,pI n3),(0,pI i4),(0,pI bias5),(0,pB false)] 122,[.arr true 3 1 l6],s⟩ k =
 O0 L n s0 out1 at2 n3 i4 bias5 l6 (λn0 g=>k .ret ⟨gp [(2,.fl 1),(0,pI n0)] 131,[.arr true 3 1 g,.arr true 3 1 []],s⟩) (λv g=>k .ret ⟨gp [(2,.fl 2),(0,pI (3:Int))] 131,[.arr true 3 1 v,.arr false 3 1 g,.arr true 3 1 []],s⟩) (λj g=>k (.exit 4) ⟨gp [(6,.s (.sl false false 1 j))] 128,[.arr true 3 1 g],s⟩):=by
 induction n generalizing s0 out1 at2 n3 i4 bias5 l6 with
 | zero=>rfl
 | succ n u=>rw[O0];exact(a8 (by kernel_rfl) (A0 ((XX L Q Y s (E3 6 (E2 (J1 L) Q Y (cd [1,1,1,1,1,1,1,1,1,1,1,0,0,0,1,0,1,1] W7) (E3 5 (lpK 1 ((J1 L).keep 23) (bd (J1 L) Q Y (cd [1,1,1,1,1,1,1,1,1,1,1,0,0,0] W7)) n k)))) L s0 out1 at2 n3 i4 bias5 i4 1 0 l6).trans (congr (congr rfl (by kernel_rfl)) (fx7 λl o c a p m d=>(a8 (by kernel_rfl) (A2 λq=>(A0 (A0 (A0 (A2 λh=>(A2 λr=>(A0 (A2 λb=>(A2 λt=>(A0 (A0 rfl (A0 (A2 λe=>(A0 (A2 λf=>(A0 (A0 (A0 (A0 rfl (A2 λi=>(u l ((e++[[(SV.int .i64 (A1 (a+b)))]])++f) c (A1 (a+b)) i h d))) rfl) rfl) rfl)) rfl)) rfl)) rfl))) rfl))) rfl) rfl) rfl)))))) rfl))
noncomputable def U1{R:Type}(L n:Nat)(h:By)(a m j f:Int)(g:LL)(i:Int->LL->Option R)(l:By->Int->Int->LL->Option R):Option R:=match n with|0=>none|n+1=>cond (not (ltI a (h.length:Int))) (i 4 g) (cond (inR a h.length) (cond (inR (bAt h a) 256) (vl (D8 (u8n (bAt h a))) λb=>cond (ltI b 0) (i 4 g) (vl (A1 (m+(A1 (b*j)))) λc=>cond (ltI 1099511627776 c) (i 19 g) (cond (ltN f 10000000000) (cond (ltN 72 1000000) (vl (J9 (s8 (36:Int) f) (72:Int)) λd=>cond (ltI b d) (l h (A1 (a+1)) c g) (vl (A1 ((36:Int)-d)) λe=>cond (ltI 1099511627776 (A1 (j*e))) (i 19 g) (U1 L n h (A1 (a+1)) c (A1 (j*e)) (A1 (f+1)) g i l))) none) none))) none) none)
theorem XZ(n c a b w3 kk4 l5):C9 1 ((J1 L).keep 27) (bd (J1 L) Q Y (cd [1,1,1,1,1,1,1,1,1,1,1,0,0,0,1,0,1,0,1,0,0] W7)) n ⟨gp [(0,pS c),(5,.fl 0),(1,pI a),(0,pI (128:Int)),(0,pI b),(0,pI (72:Int)),(0,pB true),(0,pI (0:Int)),(0,pI w3),(0,pI kk4)] 119,[.arr true 3 1 l5],s⟩ k =
 U1 L n c a b w3 kk4 l5 (λn0 e=>k .ret ⟨gp [(2,.fl 1),(0,pI n0)] 131,[.arr true 3 1 e,.arr true 3 1 []],s⟩) (λc a b f=>k (.exit 6) ⟨gp [(0,pS c),(5,.fl 0),(1,pI a),(0,pI (128:Int)),(0,pI b),(1,pB true),(0,pI (0:Int))] 121,[.arr true 3 1 f],s⟩):=by
 induction n generalizing c a b w3 kk4 l5 with
 | zero=>rfl
 | succ n d=>rw[U1];simp only[<-d];kernel_rfl
noncomputable def J6{R:Type}(L n:Nat)(D:By)(m:Int)(C:LL)(A:Int->LL->Option R)(B:LL->LL->Option R)(F:LL->LL->Option R)(G:LL->Option R):Option R:=match n with|0=>none|n+1=>cond (ltI m (D.length:Int)) (U1 L L D m 0 1 0 C (λu o=>A u o) (λz l b a=>vl (A1 (b-0)) λi=>vl (A1 ((a.length:Int)+1)) λe=>cond (ltN i 1152921504606846976) (cond (ltN e 1000000) (cond (ltI 0 e) (vl (↑(P4 (b8 i) (b8 e) true):Int) λv=>vl (A1 ((a.length:Int)+1)) λj=>cond (j !=0) (vl (A1 (j6 b j)) λw=>vl (A1 ((128:Int)+w)) λf=>vl (A1 ((a.length:Int)+1)) λc=>cond (c !=0) (cond (not (ptI f)) (A 2 a) (cond (I5 0 (g9 b c) a.length) (cond (I5 (g9 b c) (a.length:Int) a.length) (cond (F2 (0+(f7 (o8 ((b8 (g9 b c))-0) (p9 0 a))))) (cond (F2 ((f7 (o8 ((b8 (g9 b c))-0) (p9 0 a)))+1)) (vl ((o8 ((b8 (g9 b c))-0) (p9 0 a))++[[(SV.int .i64 f)]]) λh=>cond (F2 (h.length+(f7 (o8 ((b8 (a.length:Int))-(b8 (g9 b c))) (p9 (b8 (g9 b c)) a))))) (vl (h++(o8 ((b8 (a.length:Int))-(b8 (g9 b c))) (p9 (b8 (g9 b c)) a))) λd=>cond (ltI 256 (d.length:Int)) (B a d) (vl (A1 ((g9 b c)+1)) λx=>O0 L n z d l f x v a (λy p=>A y p) (λq r=>B q r) (λg t=>F g t))) none) none) none) none) none)) none) none) none) none) none)) (G C)
theorem AJ(n s0 at1 l2):C9 1 ((J1 L).keep 23) (bd (J1 L) Q Y (cd [1,1,1,1,1,1,1,1,1,1,1,0,0,0] W7)) n ⟨gp [(0,pS s0),(5,.fl 0),(1,pI at1),(0,pI (128:Int)),(0,pI (0:Int)),(0,pI (72:Int)),(0,pB true)] 122,[.arr true 3 1 l2],s⟩ k =
 J6 L n s0 at1 l2 (λn0 d=>k .ret ⟨gp [(2,.fl 1),(0,pI n0)] 131,[.arr true 3 1 d,.arr true 3 1 []],s⟩) (λl d=>k .ret ⟨gp [(2,.fl 2),(0,pI (3:Int))] 131,[.arr true 3 1 l,.arr false 3 1 d,.arr true 3 1 []],s⟩) (λh d=>k (.exit 4) ⟨gp [(6,.s (.sl false false 1 h))] 128,[.arr true 3 1 d],s⟩) (λl=>k (.exit 4) ⟨gp [(6,.fl 0)] 128,[.arr true 3 1 l],s⟩):=by
 induction n generalizing s0 at1 l2 with
 | zero=>rfl
 | succ n A=>rw[J6];exact(a8 (by kernel_rfl) (A0 ((XZ L Q Y s (E3 6 (E2 (J1 L) Q Y (cd [1,1,1,1,1,1,1,1,1,1,1,0,0,0,1,0,1,1] W7) (E3 5 (lpK 1 ((J1 L).keep 23) (bd (J1 L) Q Y (cd [1,1,1,1,1,1,1,1,1,1,1,0,0,0] W7)) n k)))) L s0 at1 0 1 0 l2).trans (congr (congr rfl (by kernel_rfl)) (fx4 λi a m b=>(a8 (by kernel_rfl) (A2 λu=>(A2 λv=>(A0 (A0 (A0 (A2 λe=>(A2 λw=>(A0 (A2 λx=>(A2 λf=>(A2 λy=>(A0 (A0 rfl (A0 (A0 (A0 (A0 (A2 λo=>(A0 (A2 λc=>(A0 rfl (A2 λg=>((XY L Q Y s k n i c a f g e b).trans (congr (congr (congr rfl (fx2 λz p=>rfl)) (fx2 λq r=>rfl)) (fx2 λj t=>rfl)))))) rfl)) rfl) rfl) rfl) rfl)) rfl)))) rfl))) rfl) rfl) rfl))))))) rfl))
noncomputable def A83{R:Type}(L:Nat)(A:By)(u:Int->LL->Option R)(v:Int->LL->Option R)(y:LL->LL->Option R)(z:LL->LL->Option R):Option R:=cond (ltI 1024 (A.length:Int)) (u 3 []) (Df L L A 0 0 (λ_=>u 4 []) (λx e=>Ga L L x e 0 [] (λt a b=>cond (ltI 256 (b.length:Int)) (v 3 b) (cond (ltI 0 a) (vl (A1 (a+1)) λw=>J6 L L t w b (λq f=>v q f) (λg h=>y g h) (λc i=>z c i) (λj=>u 0 j)) (J6 L L t a b (λr l=>v r l) (λm n=>y m n) (λd o=>z d o) (λp=>u 0 p))))))
theorem B17(d:Nat)(s0):evC (J1 L) (d+1) Z Y 156 [pS s0] [] s=A83 L s0 (λf c=>some (.tup [.fl 0,pI f],[.arr true 3 1 c],s)) (λf c=>some (.tup [.fl 1,pI f],[.arr true 3 1 c,.arr true 3 1 []],s)) (λl c=>some (.tup [.fl 2,pI (3:Int)],[.arr true 3 1 l,.arr false 3 1 c,.arr true 3 1 []],s)) (λf c=>some (.tup [.s (.sl false false 1 f),pI (0:Int)],[.arr true 3 1 c],s)):=by refine(evE (fn:=x4) (by kernel_rfl)).trans ?_;generalize evC (J1 L) d=Q;unfold A83;exact let j:=(E3 4 (E2 (J1 L) Q Y (cd [1,1,1,1,1,1,1,1,1,1,1,1] W7) (F5 (J1 L) x4)));(a8 (by kernel_rfl) (A0 rfl ((XV L Q Y s (E3 0 (E2 (J1 L) Q Y (cd [1,1,1,1] W7) (F5 (J1 L) x4))) L s0 0 0).trans (congr (congr rfl (by kernel_rfl)) (fx2 λi a=>(a8 (by kernel_rfl) ((XW L Q Y s (E3 2 (E2 (J1 L) Q Y (cd [1,1,1,1,1,1] W7) (F5 (J1 L) x4))) L i a 0 []).trans (congr rfl (fx3 λg b e=>(a8 (by kernel_rfl) (A0 rfl (A0 (A2 λh=>((AJ L Q Y s j L g h e).trans (by kernel_rfl))) ((AJ L Q Y s j L g b e).trans (by kernel_rfl))))))))))))))
noncomputable abbrev X9:Code:=C8 aa0
noncomputable def N7(L:Nat):Cfg:=B7 L [119] (A4 [(17,[0,1,0,0,0,1,0,0,0]),(3,[0,1,0,0,0])]) [(148,So)] (A4 [(27,[2,0]),(26,[0,3,0]),(25,[0,3,0,1]),(24,[2,0]),(23,[0,3,0,1,0,77]),(18,[0,3,0,1,0,0,0]),(22,[0,3,0,1,0,0,0]),(21,[2,0]),(20,[0,3,0,1,0,0,0,0,61]),(19,[0,3,0,1,0,0,0,0]),(17,[0,3,0,1,0,0,0,48]),(16,[0,3,0,1,0,0,0]),(15,[2,0]),(14,[0,3,0,1,0,0,46]),(9,[0,3,0,1,0,0]),(11,[0,3,0,1,0,0]),(13,[0,3,0,1,0,0]),(6,[2,0]),(12,[0,3,0,0,35]),(10,[0,3,0,0,26]),(8,[0,3,0,0,17]),(7,[0,3,0,0,0,0,0,11]),(5,[0,3,0,0,0,0,0]),(4,[0,3,0,0]),(3,[0,3,0,9]),(2,[0,3,0]),(1,[0,3]),(0,[0])]) [148] (A4 [(0,[4]),(1,[0,3,0]),(3,[0,3,0,1,0,0]),(4,[0,3,0,1,0,0,0]),(2,[0,3,0,1,0,0])]) (some [2,0]) [] [] []
noncomputable def Vf{R:Type}(L n:Nat)(d:By)(a e:Int)(c:LL)(b:By->Int->Int->LL->Option R):Option R:=match n with|0=>none|n+1=>b d a e c
theorem Av5(n c a d b):C9 1 ((N7 L).keep 17) (bd (N7 L) Q Y (cd [1,1,0,1,0,0,1,0,1,1,1,1,0,1,0,0] X9)) n ⟨gp [(0,pS c),(3,.fl 0),(0,pI a),(1,pI (1:Int)),(0,pI d),(0,pI (0:Int)),(0,pI (1:Int))] 84,[.arr true 3 1 b],s⟩ k =
 Vf L n c a d b (λc a d b=>k (.exit 3) ⟨gp [(0,pS c),(3,.fl 0),(0,pI a),(1,pI (1:Int)),(0,pI d),(0,pI (0:Int))] 85,[.arr true 3 1 b],s⟩):=by
 induction n generalizing c a d b with
 | zero=>rfl
 | succ n e=>rw[Vf];kernel_rfl
noncomputable def Ve{R:Type}(L:Nat)(i:By)(g j:Int)(h:LL)(d:LL->Option R)(l:By->Int->LL->Option R):Option R:=vl (A1 ((i.length:Int)-g)) λe=>cond (ltI e 1) (d h) (Vf L L i g j h (λf c b a=>cond (ltI b 0) (d a) (cond (not (ptI b)) (d a) (cond (F2 (a.length+1)) (l f (A1 (c+1)) (a++[[(SV.int .i64 b)]])) none))))
abbrev Yv(b:Code):Prop:=∀(k:Out->St Z->Option R) c a b2 b3 l4,A9 (N7 L) Q Y b ⟨gp [(0,pS c),(3,.fl 0),(0,pI a),(0,pI b2),(0,pI (1:Int)),(0,pI b2),(0,pI (0:Int)),(11,pB b3)] 73,[.arr true 3 1 l4],s⟩ k=Ve L c a b2 l4 (λd=>k .ret ⟨gp [(2,.fl 1),(0,pB false)] 91,[.arr true 3 1 d,.arr true 3 1 []],s⟩) (λc a e=>k .normal ⟨gp [(0,pS c),(3,.fl 0),(0,pI a)] 89,[.arr true 3 1 e],s⟩)
theorem Au9:Yv (R:=R) L Q Y s (cd [1,1,0,1,0,0,1,0,1,1,1] X9):=by intro k e b a f c;unfold Ve;exact(a8 (by kernel_rfl) (A2 λd=>(A0 rfl ((Av5 L Q Y s (E3 3 (E2 (N7 L) Q Y (cd [1,1,0,1,0,0,1,0,1,1,1,1,1] X9) k)) L e b a c).trans (by kernel_rfl)))))
noncomputable def Kw{R:Type}(h:By)(e c:Int)(i:Bool)(d:LL)(f:By->Int->Int->Int->Int->LL->Option R)(g:LL->Option R):Option R:=cond i (vl (A1 (c-224)) λa=>f h e 3 a 2048 d) (cond (not (ltI c 240)) (cond (ltI c 245) (vl (A1 (c-240)) λb=>f h e 4 b 65536 d) (g d)) (g d))
abbrev LU(b:Code):Prop:=∀(k:Out->St Z->Option R) d c b2 b3 l4,A9 (N7 L) Q Y b ⟨gp [(0,pS d),(3,.fl 0),(0,pI c),(0,pI b2),(26,pB b3)] 61,[.arr true 3 1 l4],s⟩ k=Kw d c b2 b3 l4 (λd c g h a f=>k .normal ⟨gp [(0,pS d),(3,.fl 0),(0,pI c),(1,pI g),(0,pI h),(0,pI a)] 85,[.arr true 3 1 f],s⟩) (λe=>k .ret ⟨gp [(2,.fl 1),(0,pB false)] 91,[.arr true 3 1 e,.arr true 3 1 []],s⟩)
theorem Av1:LU (R:=R) L Q Y s (cd [1,1,0,1,0,0,1,0,1,1,0,0,1,1,1,1,1] X9):=by intro k e c a b d;unfold Kw;kernel_rfl
noncomputable def Kx{R:Type}(v:By)(r c:Int)(x:Bool)(u:LL)(t:By->Int->Int->Int->Int->LL->Option R)(w:LL->Option R):Option R:=cond x (vl (A1 (c-192)) λj=>t v r 2 j 128 u) (cond (not (ltI c 224)) (Kw v r c (ltI c 240) u (λn d l p a f=>t n d l p a f) (λg=>w g)) (Kw v r c false u (λo e m q b h=>t o e m q b h) (λi=>w i)))
abbrev Pf(b:Code):Prop:=∀(k:Out->St Z->Option R) d c b2 b3 l4,A9 (N7 L) Q Y b ⟨gp [(0,pS d),(3,.fl 0),(0,pI c),(0,pI b2),(17,pB b3)] 70,[.arr true 3 1 l4],s⟩ k=Kx d c b2 b3 l4 (λd c g h a f=>k .normal ⟨gp [(0,pS d),(3,.fl 0),(0,pI c),(1,pI g),(0,pI h),(0,pI a)] 85,[.arr true 3 1 f],s⟩) (λe=>k .ret ⟨gp [(2,.fl 1),(0,pB false)] 91,[.arr true 3 1 e,.arr true 3 1 []],s⟩)
theorem Av2(a:Code)(b:LU (R:=R) L Q Y s a):Pf (R:=R) L Q Y s (cd [1,1,0,1,0,0,1,0,1,1,0,0,1,1,1] (G2 [1,1,0,1,0,0,1,0,1,1,0,0,1,1,1,1,1] a X9)):=by intro k g e c d f;unfold Kx;simp only[<-b k];kernel_rfl
theorem Av3:Pf (R:=R) L Q Y s (cd [1,1,0,1,0,0,1,0,1,1,0,0,1,1,1] X9):=by intro k e c a b d;exact a8 (by kernel_rfl) (Av2 L Q Y s (cd [1,1,0,1,0,0,1,0,1,1,0,0,1,1,1,1,1] X9) (Av1 L Q Y s) k e c a b d)
noncomputable def Ek{R:Type}(L n:Nat)(h:By)(f j m a c:Int)(g:LL)(i:LL->Option R)(l:By->Int->Int->Int->Int->LL->Option R):Option R:=match n with|0=>none|n+1=>cond (ltI c j) (cond (inR (A1 (f+c)) h.length) (vl (bAt h (A1 (f+c))) λb=>cond (ltI (A1 b) (128:Int)) (i g) (cond (ltI 191 (A1 b)) (i g) (vl (A1 ((A1 (m*64))+(A1 b))) λd=>vl (A1 (d-128)) λe=>Ek L n h f j e a (A1 (c+1)) g i l))) none) (l h f j m a g)
theorem Av7(n d b c e a kk5 l6):C9 1 ((N7 L).keep 17) (bd (N7 L) Q Y (cd [1,1,0,1,0,0,1,0,1,1,1,1,0,1,0,0] X9)) n ⟨gp [(0,pS d),(3,.fl 0),(0,pI b),(1,pI c),(0,pI e),(0,pI a),(0,pI kk5)] 84,[.arr true 3 1 l6],s⟩ k =
 Ek L n d b c e a kk5 l6 (λg=>k .ret ⟨gp [(2,.fl 1),(0,pB false)] 91,[.arr true 3 1 g,.arr true 3 1 []],s⟩) (λd b c e a h=>k (.exit 3) ⟨gp [(0,pS d),(3,.fl 0),(0,pI b),(1,pI c),(0,pI e),(0,pI a)] 85,[.arr true 3 1 h],s⟩):=by
 induction n generalizing d b c e a kk5 l6 with
 | zero=>rfl
 | succ n f=>rw[Ek];simp only[<-f];kernel_rfl
noncomputable def Cv{R:Type}(L:Nat)(o:By)(l n q d:Int)(m:LL)(j:LL->Option R)(p:By->Int->LL->Option R):Option R:=vl (A1 ((o.length:Int)-l)) λg=>cond (ltI g n) (j m) (Ek L L o l n q d 1 m (λf=>j f) (λi e h c b a=>cond (ltI c b) (j a) (cond (not (ptI c)) (j a) (cond (F2 (a.length+1)) (p i (A1 (e+h)) (a++[[(SV.int .i64 c)]])) none))))
abbrev Yw(b:Code):Prop:=∀(k:Out->St Z->Option R) c a n2 v3 least4 l5,A9 (N7 L) Q Y b ⟨gp [(0,pS c),(3,.fl 0),(0,pI a),(1,pI n2),(0,pI v3),(0,pI least4)] 85,[.arr true 3 1 l5],s⟩ k=Cv L c a n2 v3 least4 l5 (λd=>k .ret ⟨gp [(2,.fl 1),(0,pB false)] 91,[.arr true 3 1 d,.arr true 3 1 []],s⟩) (λc a e=>k .normal ⟨gp [(0,pS c),(3,.fl 0),(0,pI a)] 89,[.arr true 3 1 e],s⟩)
theorem Av4:Yw (R:=R) L Q Y s (cd [1,1,0,1,0,0,1,0,1,1,1] X9):=by intro k f c e g a d;unfold Cv;exact(a8 (by kernel_rfl) (A2 λb=>(A0 rfl ((Av7 L Q Y s (E3 3 (E2 (N7 L) Q Y (cd [1,1,0,1,0,0,1,0,1,1,1,1,1] X9) k)) L f c e g a 1 d).trans (by kernel_rfl)))))
noncomputable def X5{R:Type}(L n:Nat)(d:By)(c:Int)(D:LL)(e:LL->Option R)(C:LL->Option R):Option R:=match n with|0=>none|n+1=>cond (ltI c (d.length:Int)) (cond (inR c d.length) (cond (ltI (A1 (bAt d c)) (128:Int)) (Ve L d c (A1 (bAt d c)) D (λG=>e G) (λI F H=>X5 L n I F H e C)) (cond (not (ltI (A1 (bAt d c)) (194:Int))) (Kx d c (A1 (bAt d c)) (ltI (A1 (bAt d c)) (224:Int)) D (λw f u A a j=>Cv L w f u A a j (λm=>e m) (λx g o=>X5 L n x g o e C)) (λl=>e l)) (Kx d c (A1 (bAt d c)) false D (λy h v B b p=>Cv L y h v B b p (λr=>e r) (λz i t=>X5 L n z i t e C)) (λq=>e q)))) none) (C D)
theorem Av8(a:Code)(e:Yv (R:=R) L Q Y s a)(d:Yw (R:=R) L Q Y s a)(b:Code)(c:Pf (R:=R) L Q Y s b)(n:Nat)(i:By)(h:Int)(j:LL):C9 1 ((N7 L).keep 3) (bd (N7 L) Q Y (cd [1,1,0,1,0,0] (G2 [1,1,0,1,0,0,1,0,1,1,0,0,1,1,1] b (G2 [1,1,0,1,0,0,1,0,1,1,1] a X9)))) n ⟨gp [(0,pS i),(3,.fl 0),(0,pI h)] 89,[.arr true 3 1 j],s⟩ k =
 X5 L n i h j (λI=>k .ret ⟨gp [(2,.fl 1),(0,pB false)] 91,[.arr true 3 1 I,.arr true 3 1 []],s⟩) (λI=>k (.exit 0) ⟨gp [(4,.fl 0)] 90,[.arr true 3 1 I],s⟩):=by
 induction n generalizing i h j with
 | zero=>rfl
 | succ n G=>rw[X5];exact let D:=(E3 1 (lpK 1 ((N7 L).keep 3) (bd (N7 L) Q Y (cd [1,1,0,1,0,0] (G2 [1,1,0,1,0,0,1,0,1,1,0,0,1,1,1] b (G2 [1,1,0,1,0,0,1,0,1,1,1] a X9)))) n k));let K:=(E3 2 (E2 (N7 L) Q Y a D));(a8 (by kernel_rfl) (A0 (A0 (A0 ((e D i h (A1 (bAt i h)) (ltI (A1 (bAt i h)) (128:Int)) j).trans (congr (congr rfl (by kernel_rfl)) (fx3 λJ F H=>(a8 (by kernel_rfl) (G J F H))))) (A0 ((c K i h (A1 (bAt i h)) (ltI (A1 (bAt i h)) (224:Int)) j).trans (congr (congr rfl (fx6 λx l v B f q=>(a8 (by kernel_rfl) ((d D x l v B f q).trans (congr (congr rfl (by kernel_rfl)) (fx3 λy m r=>(a8 (by kernel_rfl) (G y m r)))))))) (by kernel_rfl))) ((c K i h (A1 (bAt i h)) false j).trans (congr (congr rfl (fx6 λz o w C g t=>(a8 (by kernel_rfl) ((d D z o w C g t).trans (congr (congr rfl (by kernel_rfl)) (fx3 λA p u=>(a8 (by kernel_rfl) (G A p u)))))))) (by kernel_rfl))))) rfl) rfl))
noncomputable def Ck3{R:Type}(L:Nat)(e:By)(c:LL->Option R)(d:LL->Option R):Option R:=X5 L L e 0 [] (λa=>c a) (λb=>d b)
theorem Ck4(b:Code)(c:Yv (R:=PV × List Blk × Z) L Q Y s b)(e:Yw (R:=PV × List Blk × Z) L Q Y s b)(a:Code)(d:Pf (R:=PV × List Blk × Z) L Q Y s a)(g:By):A9 (N7 L) Q Y (cd [] (G2 [1,1,0,1,0,0,1,0,1,1,0,0,1,1,1] a (G2 [1,1,0,1,0,0,1,0,1,1,1] b X9))) ⟨[pS g]++tps 94,[],s⟩ (F5 (N7 L) aa0)=Ck3 L g (λf=>some (.tup [.fl 1,pB false],[.arr true 3 1 f,.arr true 3 1 []],s)) (λf=>some (.tup [.fl 0,pB true],[.arr true 3 1 f],s)):=by unfold Ck3;exact(a8 (by kernel_rfl) ((Av8 L Q Y s (E3 0 (E2 (N7 L) Q Y (cd [1,1,1] X9) (F5 (N7 L) aa0))) b c e a d L g 0 []).trans (by kernel_rfl)))
theorem Ck5(d:Nat)(s0):evC (N7 L) (d+1) Z Y 119 [pS s0] [] s=Ck3 L s0 (λa=>some (.tup [.fl 1,pB false],[.arr true 3 1 a,.arr true 3 1 []],s)) (λa=>some (.tup [.fl 0,pB true],[.arr true 3 1 a],s)):=
 (evE (fn:=aa0) (by kernel_rfl)).trans (a8 (by kernel_rfl) (Ck4 L (evC (N7 L) d) Y s (cd [1,1,0,1,0,0,1,0,1,1,1] X9) (Au9 L (evC (N7 L) d) Y s) (Av4 L (evC (N7 L) d) Y s) (cd [1,1,0,1,0,0,1,0,1,1,0,0,1,1,1] X9) (Av3 L (evC (N7 L) d) Y s) s0))
noncomputable abbrev A45:Code:=C8 ab3
noncomputable def Kc(L:Nat):Cfg:=B7 L [127] (A4 [(6,[0,1,0,1,0])]) [(156,A29),(120,Ac8)] (A4 [(12,[2]),(11,[0,4,1,0]),(7,[0,2,1,0]),(10,[2]),(9,[0,2,1,0,34]),(8,[0,2,1,0]),(6,[0,2,1,0,12]),(5,[0,2,1,0]),(4,[0,2,1]),(3,[2]),(2,[0,2,11]),(1,[0,2,0]),(0,[0])]) [120] (A4 [(0,[0,2,1]),(1,[0,2,1,0])]) (some [2]) [] [] []
noncomputable def W3{R:Type}(L n:Nat)(a:By)(d:Bool)(b:LL)(e:Bool)(c:Int)(f:Unit->Option R)(g:By->Bool->LL->Bool->Option R):Option R:=match n with|0=>none|n+1=>cond (ltI c (b.length:Int)) (cond e (cond (inR c b.length) (cond (okE Jm b (b8 c) 0) (cond (not (ltI (gE b (b8 c) 0) (65:Int))) (cond (inR c b.length) (cond (okE Jm b (b8 c) 0) (cond (not (ltI 90 (gE b (b8 c) 0))) (f ()) (W3 L n a d b true (A1 (c+1)) f g)) none) none) (W3 L n a d b true (A1 (c+1)) f g)) none) none) (cond (inR c b.length) (cond (okE Jm b (b8 c) 0) (cond (inR c b.length) (cond (okE Jm b (b8 c) 0) (cond (not (ltI (gE b (b8 c) 0) (65:Int))) (cond (inR c b.length) (cond (okE Jm b (b8 c) 0) (cond (not (ltI 90 (gE b (b8 c) 0))) (f ()) (W3 L n a d b (not (ltI (gE b (b8 c) 0) (128:Int))) (A1 (c+1)) f g)) none) none) (W3 L n a d b (not (ltI (gE b (b8 c) 0) (128:Int))) (A1 (c+1)) f g)) none) none) none) none)) (g a d b e)
theorem YC(n c b d a i4):C9 0 ((Kc L).keep 6) (bd (Kc L) Q Y (cd [1,1,1,1,0,1,0,0] A45)) n ⟨gp [(0,pS c),(2,.s (.sl b b 1 d)),(1,pB a),(0,pI i4)] 50,[],s⟩ k =
 W3 L n c b d a i4 (λ_=>k .ret ⟨gp [(2,pB false)] 54,[],s⟩) (λc b d a=>k (.exit 0) ⟨gp [(0,pS c),(2,.s (.sl b b 1 d)),(1,pB a)] 51,[],s⟩):=by
 induction n generalizing c b d a i4 with
 | zero=>rfl
 | succ n e=>rw[W3];simp only[<-e];kernel_rfl
noncomputable def A85{R:Type}(L:Nat)(a:By)(e:Bool->Option R):Option R:=cond (A3 a.length) (vl (↑((M6 a)).2:Int) λf=>cond (f !=0) (e false) (W3 L L a (ab6 ((M6 a)).1) (Ko ((M6 a)).1) false 0 (λ_=>e false) (λc h d b=>cond (y7 d Lt) (vl ((U7 (t8 elI d))).1 λi=>vl (↑((U7 (t8 elI d))).2:Int) λg=>cond (g==0) (cond (i==c) (e b) (e false)) (e false)) none))) none
theorem B20(d:Nat)(rest0):evC (Kc L) (d+1) Z Y 127 [pS rest0] [] s=A85 L rest0 (λb=>some (pB b,[],s)):=by refine(evE (fn:=ab3) (by kernel_rfl)).trans ?_;generalize evC (Kc L) d=Q;unfold A85;exact(a8 (by kernel_rfl) (A0 (A2 λa=>(A0 rfl ((YC L Q Y s (E3 0 (E2 (Kc L) Q Y (cd [1,1,1,1,1] A45) (F5 (Kc L) ab3))) L rest0 (ab6 ((M6 rest0)).1) (Ko ((M6 rest0)).1) false 0).trans (by kernel_rfl)))) rfl))
noncomputable abbrev A43:Code:=C8 ab9
noncomputable def Ka(L:Nat):Cfg:=B7 L [94] (A4 [(4,[0,1,0])]) [(127,A31)] (A4 [(9,[2]),(5,[0,2]),(8,[2]),(7,[0,2,52]),(6,[0,2,0]),(4,[0,2,24]),(3,[0,2]),(2,[2]),(1,[0,23]),(0,[0])]) [127] (A4 [(0,[0]),(1,[0,2])]) (some [2]) [] [] []
noncomputable def N0{R:Type}(L n:Nat)(a:By)(b:Int)(c:Unit->Option R)(d:By->Option R):Option R:=match n with|0=>none|n+1=>cond (ltI b (a.length:Int)) (cond (inR b a.length) (cond (not (ltI (bAt a b) (97:Int))) (cond (not (ltI 122 (bAt a b))) (N0 L n a (A1 (b+1)) c d) (cond (not (ltI (bAt a b) (48:Int))) (cond (not (ltI 57 (bAt a b))) (N0 L n a (A1 (b+1)) c d) (cond ((bAt a b)==45) (N0 L n a (A1 (b+1)) c d) (cond (not ((bAt a b)==95)) (c ()) (N0 L n a (A1 (b+1)) c d)))) (cond ((bAt a b)==45) (N0 L n a (A1 (b+1)) c d) (cond (not ((bAt a b)==95)) (c ()) (N0 L n a (A1 (b+1)) c d))))) (cond (not (ltI (bAt a b) (48:Int))) (cond (not (ltI 57 (bAt a b))) (N0 L n a (A1 (b+1)) c d) (cond ((bAt a b)==45) (N0 L n a (A1 (b+1)) c d) (cond (not ((bAt a b)==95)) (c ()) (N0 L n a (A1 (b+1)) c d)))) (cond ((bAt a b)==45) (N0 L n a (A1 (b+1)) c d) (cond (not ((bAt a b)==95)) (c ()) (N0 L n a (A1 (b+1)) c d))))) none) (d a)
theorem XR(n a i1):C9 0 ((Ka L).keep 4) (bd (Ka L) Q Y (cd [1,1,0,1,0,0] A43)) n ⟨gp [(0,pS a),(2,pI i1)] 66,[],s⟩ k =
 N0 L n a i1 (λ_=>k .ret ⟨gp [(2,pB false)] 67,[],s⟩) (λa=>k (.exit 0) ⟨gp [(0,pS a)] 69,[],s⟩):=by
 induction n generalizing a i1 with
 | zero=>rfl
 | succ n b=>rw[N0];simp only[<-b];kernel_rfl
noncomputable def A81{R:Type}(L:Nat)(c:By)(b:Bool->Option R):Option R:=cond (c==[]) (b false) (cond (ltI 63 (c.length:Int)) (b false) (cond (inR 0 c.length) (cond ((bAt c (0:Int))==45) (b false) (vl (A1 ((c.length:Int)-1)) λd=>cond (inR d c.length) (cond ((bAt c d)==45) (b false) (N0 L L c 0 (λ_=>b false) (λa=>cond (ltI (a.length:Int) (4:Int)) (b true) (cond (I5 0 (4:Int) a.length) (vl (cut a 0 (4:Int)) λf=>cond (not (f==[120,110,45,45])) (b true) (cond (I5 4 (a.length:Int) a.length) (vl (cut a 4 (a.length:Int)) λe=>cond (A3 e.length) (b (Ct e)) none) none)) none)))) none)) none))
theorem B14(d:Nat)(s0):evC (Ka L) (d+1) Z Y 94 [pS s0] [] s=A81 L s0 (λb=>some (pB b,[],s)):=by refine(evE (fn:=ab9) (by kernel_rfl)).trans ?_;generalize evC (Ka L) d=Q;unfold A81;exact(a8 (by kernel_rfl) (A0 rfl (A0 rfl (A0 (A0 rfl (A2 λa=>(A0 (A0 rfl ((XR L Q Y s (E3 0 (E2 (Ka L) Q Y (cd [1,1,1] A43) (F5 (Ka L) ab9))) L s0 0).trans (by kernel_rfl))) rfl))) rfl))))
noncomputable def PP(L:Nat):Cfg:=B7 L [89] (A4 []) [(119,Bq9),(17,Ad0),(120,Ac8),(94,A28)] (A4 [(15,[2,0]),(14,[2,0]),(13,[6,37]),(12,[6]),(11,[2,0]),(10,[9,29]),(9,[9,0]),(8,[7]),(7,[6,20]),(6,[0,3,1]),(5,[2,0]),(4,[0,3,15]),(3,[2,0]),(2,[0,3,12]),(1,[0,3,0]),(0,[0])]) [17,120,94] (A4 []) (some [2,0]) [] [] []
noncomputable def A80{R:Type}(L:Nat)(a:By)(b:By->Int->Option R):Option R:=cond (A3 a.length) (cond (not (p5 (Ci a))) (b ([]:List UInt8) 4) (cond (ltI 256 (↑(f7 (Ko (Pp a))):Int)) (b ([]:List UInt8) 3) (cond (A3 a.length) (cond (ltI (↑(f7 (Ko (Pp a))):Int) (a.length:Int)) (cond (A3 (f7 (B5 a))) (cond (y7 (Ko (Pp (B5 a))) Lt) (vl ((U7 (t8 elI (Ko (Pp (B5 a)))))).1 λd=>vl (↑((U7 (t8 elI (Ko (Pp (B5 a)))))).2:Int) λe=>cond (e !=0) (b ([]:List UInt8) 14) (cond (K8 4 d.length) (vl (([120,110,45,45]:List UInt8)++d) λc=>cond (A3 c.length) (cond (not (K2 c)) (b ([]:List UInt8) 14) (b c 0)) none) none)) none) none) (cond (A3 (f7 (B5 a))) (cond (not (K2 (B5 a))) (b ([]:List UInt8) 14) (b (B5 a) 0)) none)) none))) none
theorem B13(d:Nat)(s0):evC (PP L) (d+1) Z Y 89 [pS s0] [] s=A80 L s0 (λa b=>some (.tup [pS a,pI b],[],s)):=by refine(evE (fn:=Tryz.f89) (by kernel_rfl)).trans ?_;generalize evC (PP L) d=Q;unfold A80;kernel_rfl
end
theorem YB{R:Type}{a:Bool->Option R}(n:Int):RY LF n a=a (ptI n):=by
 unfold RY;by_cases h:n<0
 ·rw[B4 h];have:ptI n=false:=by
   cases n with
   | ofNat m=>exact absurd h (by simp)
   | negSucc m=>rfl
  grind
 ·obtain⟨m,rfl⟩:=j9 (show 0<=n by omega);rw[A6,Kr];unfold T9;by_cases b:1114111<m
  ·rw[A8];have:j4 m 1114111=false:=by rw[f9,ne_eq,g7];omega
   grind
  ·rw[A6];have:j4 m 1114111=true:=by rw[g7];omega
   rw[this];by_cases c:m<55296
   ·rw[A8];have:Nat.blt m 55296=true:=by rw[x9];omega
    grind
   ·rw[A6];have e:Nat.blt m 55296=false:=by rw[f9,ne_eq,x9];omega
    rw[e];simp only[d7,cond_true,cond_false,x6,p4]
    congr 1
theorem XG{R:Type}{k0:Int->Int->Option R}:∀(d n k:Nat),d<2305843009213693952->d<n->k+d<=4611686018427387904->
  ∃a b,a<=455/\b<=k+d/\Xc d k=b+36*a / (a+38)/\Ez LF n (d:Int) (k:Int) k0=k0 (a:Int) (b:Int):=by
 intro d
 induction d using w8 with
 | _ d l=>
  intro n k p r q;obtain⟨n,rfl⟩:∃m,n=m+1:=⟨n-1,by omega⟩
  rw[Ez];by_cases h:455<d
  ·obtain⟨a,b,g,o,i,j⟩:=l (d / 35) (by omega) n (k+36) (by omega) (by omega) (by omega);refine⟨a,b,g,by omega,by rw[ED h];exact i,?_⟩;have e:j6 (d:Int) 35=((d / 35:Nat):Int):=L7 d 35;have c:A1 ((d / 35:Nat):Int)=((d / 35:Nat):Int):=A7;have f:A1 ((k:Int)+36)=((k+36:Nat):Int):=by rw[A7];rfl
   rw[A8];simp only[cond_true,vl,e,c,f];exact j
  ·refine⟨d,k,by omega,by omega,Qo h,?_⟩;rw[A6];rfl
theorem XH{R:Type}{k0:Int->Option R}(d c:Int)(f:Bool)(z:ltN d 1152921504606846976=true)(A:ltN c 1000000=true)(B:ltI 0 c=true):GY LF d c f k0=k0 (P4 d.toNat c.toNat f:Nat):=by
 obtain⟨k,F⟩:=E6.1 z;obtain⟨j,D⟩:=E6.1 A;obtain⟨d,rfl⟩:=j9 k;obtain⟨c,rfl⟩:=j9 j;have J:=Km.1 B;have C:=C1;have key:∀x:Nat,x<1152921504606846976->Ey LF (x:Int) (c:Int) k0=k0 ((Xc (x+x / c) 0:Nat):Int):=by
  intro x L;have G:x / c<=x:=m9 _ _;unfold Ey;have g:j6 (x:Int) (c:Int)=((x / c:Nat):Int):=L7 x c;generalize x / c=q at *;have h:A1 (q:Int)=(q:Int):=A7;have o:A1 ((x:Int)+(q:Int))=((x+q:Nat):Int):=by rw[A7];rfl
  rw[show((c:Int)!=0)=true by simp;omega];simp only[cond_true,vl,g,h,o];obtain⟨a,n,H,I,w,y⟩:=XG (R:=R) (k0:=λb l=>vl (A1 ((36)*b)) λm=>vl (A1 (b+(38))) λe=>cond (e !=(0)) (vl (A1 (j6 m e)) λi=>k0 (A1 (l+i))) none) (x+q) LF 0 (by omega) (by omega) (by omega);refine a8 y ?_;have K:36*a / (a+38)<=36*a:=m9 _ _;have p:A1 (36*(a:Int))=((36*a:Nat):Int):=by rw[A7];rfl
  have r:A1 ((a:Int)+38)=((a+38:Nat):Int):=by rw[A7];rfl
  have t:j6 ((36*a:Nat):Int) ((a+38:Nat):Int)=((36*a / (a+38):Nat):Int):=L7 _ _;have u:A1 ((36*a / (a+38):Nat):Int)=((36*a / (a+38):Nat):Int):=A7;have v:A1 ((n:Int)+((36*a / (a+38):Nat):Int))=((n+36*a / (a+38):Nat):Int):=by rw[A7];rfl
  simp only[vl,p,r,t,u,v];rw[show(((a+38:Nat):Int)!=0)=true by simp;omega,w];rfl
 unfold GY P4;rw[c9,c9];cases f with
 | true=>
  have g:j6 (d:Int) 700=((d / 700:Nat):Int):=L7 d 700;have h:A1 ((d / 700:Nat):Int)=((d / 700:Nat):Int):=A7;simp only[cond_true,vl,g,h,if_true];exact key _ (by omega)
 | false=>
  have g:j6 (d:Int) 2=((d / 2:Nat):Int):=L7 d 2;have h:A1 ((d / 2:Nat):Int)=((d / 2:Nat):Int):=A7;simp only[cond_false,vl,g,h,x8,if_false];exact key _ (by omega)
theorem Ap7{R:Type}{b:Int->Option R}(d:Int)(c:ltN d 36=true):A78 LF d b=b ((Z3 d.toNat).toNat:Nat):=by
 obtain⟨a,e⟩:=E6.1 c;obtain⟨d,rfl⟩:=j9 a;unfold A78;rw[c9,KC (by omega)];by_cases h:d<26
 ·rw[A8,if_pos h];simp only[cond_true,vl]
  congr 1
  rw[A7,L0];rfl
 ·rw[A6,if_neg h];simp only[cond_false,vl]
  congr 1
  rw[C4 (n:=48+(d:Int)) (by omega) (by omega),A7,L0];omega
theorem Bk6{R:Type}{g:Int->Option R}(b:Int)(h:inR b 256=true):B32 LF b g=g (D8 (u8n b)):=by
 simp only[inR,j8,decide_eq_true_eq] at h;have j:b=((u8n b).toNat:Int):=by
  unfold u8n;simp;omega
 generalize u8n b=c at *;subst j;have i:=c.toNat_lt;unfold B32 D8;simp only[Vj,Vi,vl];rcases BA c with⟨d,f,e⟩|⟨d,f,e⟩|⟨d,f,e⟩|⟨d,f,o,e⟩
 ·have a:A1 (wu8 ((c.toNat:Int)-97))=((c.toNat-97:Nat):Int):=by
   rw[L0,A7];omega
  simp (disch:=omega) only[B4,E1,b9,d7,cond_false,cond_true,a,e]
 ·have a:A1 (wu8 ((c.toNat:Int)-65))=((c.toNat-65:Nat):Int):=by
   rw[L0,A7];omega
  simp (disch:=omega) only[B4,E1,b9,d7,cond_false,cond_true,a,e]
 ·have a:A1 (A1 (wu8 ((c.toNat:Int)-48))+26)=((c.toNat-22:Nat):Int):=by
   rw[L0,C4 (n:=(c.toNat:Int)-48) (by omega) (by omega),A7];omega
  simp (disch:=omega) only[B4,E1,b9,d7,cond_false,cond_true,a,e]
 ·rw[e];by_cases k:c.toNat<48
  ·simp (disch:=omega) only[B4,E1,b9,d7,cond_false,cond_true]
  ·by_cases l:c.toNat<65
   ·simp (disch:=omega) only[B4,E1,b9,d7,cond_false,cond_true]
   ·by_cases m:c.toNat<97
    ·simp (disch:=omega) only[B4,E1,b9,d7,cond_false,cond_true]
    ·simp (disch:=omega) only[B4,E1,b9,d7,cond_false,cond_true]
theorem Bj9{R:Type}{a:Int->Option R}(k b:Int)(c:ltN k 10000000000=true)(d:ltN b 1000000=true):Ck7 LF k b a=a (J9 (s8 36 k) b):=by obtain⟨j,l⟩:=E6.1 c;obtain⟨e,f⟩:=E6.1 d;unfold Ck7 J9;have g:A1 (k+1)=k+1:=A7;have h:A1 ((36:Int)*(k+1))=36*(k+1):=A7;have i:A1 (36*(k+1)-b)=36*(k+1)-b:=A7;grind
theorem B05(z t:Bool)(c:LL)(done a u delta i:Int)(b:Nat)(T:b<1000000):∀(r q k n:Nat) (l:LL),q<10 ^ r->q<1152921504606846976->k+r<=1000->r<n->l.length+r<=200000->
  ∃(d:Nat) (pre:By),d<36/\O4 q k b=pre++[Z3 d]/\∀(R:Type) (g:Bool->Bool->LL->Int->Int->Int->Int->Int->Int->LL->Option R),Ef LF n z t c done a u delta (b:Int) i (q:Int) (k:Int) l g=g z t c done a u delta i (d:Int) (l++pre.map D7):=by
 have f:∀k:Nat,J9 (s8 36 (k:Int)) (b:Int)=(thr k b:Int):=λk=>by
  rw[show s8 36 (k:Int)=((36*k:Nat):Int) from rfl,Vv]
 have j:∀(q k n:Nat) (l:LL),q<thr k b->k<=1000->∃(d:Nat) (pre:By),d<36/\O4 q k b=pre++[Z3 d]/\∀(R:Type) (g:Bool->Bool->LL->Int->Int->Int->Int->Int->Int->LL->Option R),Ef LF (n+1) z t c done a u delta (b:Int) i (q:Int) (k:Int) l g=g z t c done a u delta i (d:Int) (l++pre.map D7):=by
  intro q k n l p v;have x:=U3 k b;refine⟨q,[],by omega,by rw[Oo p];rfl,λR g=>?_⟩;rw[Ef];have o:ltI (q:Int) (thr k b:Int)=true:=A8;rw[M8,M8,f];grind
 intro r
 induction r with
 | zero=>
  intro q k n l h _ v P N;have x:=U3 k b;obtain⟨n,rfl⟩:∃m,n=m+1:=⟨n-1,by omega⟩
  exact j q k n l (by simp at h;omega) (by omega)
 | succ r Q=>
  intro q k n l h w v P N;have x:=U3 k b;obtain⟨n,rfl⟩:∃m,n=m+1:=⟨n-1,by omega⟩
  by_cases p:q<thr k b
  ·exact j q k n l p (by omega)
  ·have L:(q-thr k b) / (36-thr k b)<10 ^ r:=QA (by omega) (by rw[Nat.pow_succ] at h;omega);have M:(q-thr k b) / (36-thr k b)<=q:=Nat.le_trans (m9 _ _) (by omega);have O:(q-thr k b) % (36-thr k b)<36-thr k b:=aa9 _ (by omega);obtain⟨d,pre,e0,K,e⟩:=Q ((q-thr k b) / (36-thr k b)) (k+1) n (l++[D7 (Z3 (thr k b+(q-thr k b) % (36-thr k b)))]) L (by omega) (by omega) (by omega) (by rw[d9,i6];omega);refine⟨d,Z3 (thr k b+(q-thr k b) % (36-thr k b))::pre,e0,by rw[Xs p,K];rfl,λR g=>?_⟩;rw[Ef];have y:A1 ((q:Int)-(thr k b:Int))=((q-thr k b:Nat):Int):=by rw[A7];omega
   have C:A1 ((36:Int)-(thr k b:Int))=((36-thr k b:Nat):Int):=by rw[A7];omega
   have D:g9 ((q-thr k b:Nat):Int) ((36-thr k b:Nat):Int)=(((q-thr k b) % (36-thr k b):Nat):Int):=Gn _ _;have F:j6 ((q-thr k b:Nat):Int) ((36-thr k b:Nat):Int)=(((q-thr k b) / (36-thr k b):Nat):Int):=L7 _ _;have I:((((36-thr k b:Nat):Int))!=0)=true:=by rw[bne_iff_ne];omega
   have J:A1 ((k:Int)+1)=((k+1:Nat):Int):=by rw[A7];rfl
   have o:ltI (q:Int) (thr k b:Int)=false:=A6;rw[M8,M8,f];simp only[vl,o,y,C,D,F,I,J,cond_true,cond_false,d7];generalize hA:(q-thr k b) / (36-thr k b)=A at *;generalize S:(q-thr k b) % (36-thr k b)=B at *;have G:A1 ((thr k b:Int)+(B:Int))=((thr k b+B:Nat):Int):=by rw[A7];rfl
   have H:A1 (A:Int)=(A:Int):=A7;rw[G,H,M8,E9 (by omega),c9];refine a8 (e R g) ?_;simp[j2,D7]
theorem Cj4(z t:Bool)(c:List Nat)(a m:Nat)(Z:m<=1114112)(Y:c.length<=256):∀(r i n:Nat) (s:MH),i+r=c.length->r<n->s.delta+r<=1000000000000->s.bias<=500->s.out.length+20*r<=90000->s.done+r<=1000->a<=256->
  (∀(R:Type) (d:Bool->Bool->LL->Int->Int->Int->Int->Int->LL->Option R),Z9 LF n z t (B3 c) (s.done:Int) (a:Int) (m:Int) (s.delta:Int) (s.bias:Int) (i:Int) (s.out.map D7) d =
   d z t (B3 c) ((G8 m a (c.drop i) s).done:Int) (a:Int) (m:Int) ((G8 m a (c.drop i) s).delta:Int) ((G8 m a (c.drop i) s).bias:Int) ((G8 m a (c.drop i) s).out.map D7))/\
  (G8 m a (c.drop i) s).bias<=500/\(G8 m a (c.drop i) s).out.length<=s.out.length+20*(c.drop i).countP (· == m)/\(G8 m a (c.drop i) s).done=s.done+(c.drop i).countP (· == m)/\
  (G8 m a (c.drop i) s).delta<=(if 0<(c.drop i).countP (· == m) then r else s.delta+r):=by
 have S:=C1;intro r
 induction r with
 | zero=>
  intro i n s T U O B P Q C;obtain⟨n,rfl⟩:∃m,n=m+1:=⟨n-1,by omega⟩
  rw[d8 (by omega)];refine⟨λR d=>?_,B,by simp[G8],by simp[G8],by simp[G8]⟩;rw[Z9];rw[C7,A6];rfl
 | succ r H=>
  intro i n s T U O B P Q C;obtain⟨n,rfl⟩:∃m,n=m+1:=⟨n-1,by omega⟩
  rw[Tf c i (by omega)];have F:=Xy c i (by omega);have ok:=Ox (l:=c) (i:=i) (by omega);have e:inR (i:Int) (B3 c).length=true:=L5 (by omega) (by rw[C7];omega);have f:ltI (i:Int) ((B3 c).length:Int)=true:=B4 (by rw[C7];omega);generalize c.getD i 0=p at *;have A:A1 ((i:Int)+1)=((i+1:Nat):Int):=by rw[A7];rfl
  have M:A1 ((s.delta:Int)+1)=((s.delta+1:Nat):Int):=by rw[A7];rfl
  have I:A1 ((s.done:Int)+1)=((s.done+1:Nat):Int):=by rw[A7];rfl
  by_cases G:p<m
  ·have g:(p==m)=false:=by rw[beq_eq_false_iff_ne];omega
   have u:G8 m a (p::c.drop (i+1)) s=G8 m a (c.drop (i+1)) { s with delta:=s.delta+1 }:=by rw[G8,if_pos G]
   obtain⟨v,w,x,y,h⟩:=H (i+1) n { s with delta:=s.delta+1 } (by omega) (by omega) (by simp only;omega) B (by simp only;omega) (by simp only;omega) C;rw[u,t7 (by rw[g];simp)];refine⟨λR d=>?_,w,x,y,?_⟩
   ·rw[Z9];rw[c9];simp only[e,f,ok,cond_true,vl,F,A,M];rw[A8,cond_true,show((p:Int)!=(m:Int))=true by rw[bne_iff_ne];omega,cond_true];exact v R d
   ·simp only at h;split at h<;>split<;>omega
  ·by_cases L:p=m
   ·subst L;have K:=KG (q:=s.delta) (k:=0) (b:=s.bias) (by omega);have D:=Mp s.delta (s.done+1) (s.done==a) (by omega);have u:G8 p a (p::c.drop (i+1)) s=G8 p a (c.drop (i+1)) { delta:=0,bias:=P4 s.delta (s.done+1) (s.done==a),done:=s.done+1,out:=s.out++O4 s.delta 0 s.bias }:=by rw[G8,if_neg G,if_pos rfl]
    obtain⟨v,w,x,y,h⟩:=H (i+1) n { delta:=0,bias:=P4 s.delta (s.done+1) (s.done==a),done:=s.done+1,out:=s.out++O4 s.delta 0 s.bias } (by omega) (by omega) (by simp only;omega) D (by simp only[d9];omega) (by simp only;omega) C;obtain⟨W,pre,X,J,N⟩:=B05 z t (B3 c) (s.done:Int) (a:Int) (p:Int) (s.delta:Int) (i:Int) s.bias (by omega) 19 s.delta 0 LF (s.out.map D7) (by omega) (by omega) (by omega) (by omega) (by rw[g8];omega);rw[u,List.countP_cons_of_pos (by simp)];refine⟨λR d=>?_,w,?_,?_,?_⟩
    ·rw[Z9];have j:((s.done:Int)==(a:Int))=(s.done==a):=by
      rw[v8,beq_iff_eq,beq_iff_eq];omega
     rw[c9];simp only[e,f,ok,cond_true,vl,F,A,I];rw[A6,cond_false,bne_self_eq_false,cond_false];refine a8 (N R _) ?_;have V:pre.length+1=(O4 s.delta 0 s.bias).length:=by rw[J];simp
     rw[M8,c9,E9 (by rw[d9,g8,g8];omega)];simp only[vl,cond_true,A,I];rw[M8,M8,A8,j];simp only[cond_true,c9];have o:s.out.map D7++pre.map D7++[[SV.int .u8 (((Z3 W).toNat:Nat):Int)]]=(s.out++O4 s.delta 0 s.bias).map D7:=by
      rw[J,p6,p6,j2];rfl
     rw[o];exact v R d
    ·simp only[d9] at x;omega
    ·simp only at y;omega
    ·simp only at h;rw[R7];split at h<;>omega
   ·have g:(p==m)=false:=by rw[beq_eq_false_iff_ne];omega
    have u:G8 m a (p::c.drop (i+1)) s=G8 m a (c.drop (i+1)) s:=by rw[G8,if_neg G,if_neg L]
    obtain⟨v,w,x,y,h⟩:=H (i+1) n s (by omega) (by omega) (by omega) B (by omega) (by omega) C;rw[u,t7 (by rw[g];simp)];refine⟨λR d=>?_,w,x,y,?_⟩
    ·rw[Z9];rw[c9];simp only[e,f,ok,cond_true,vl,F,A];rw[A6,cond_false,show((p:Int)!=(m:Int))=true by rw[bne_iff_ne];omega,cond_true];exact v R d
    ·split at h<;>split<;>omega
theorem Ar2{R:Type}{k0:Bool->Bool->LL->Int->Int->Int->Int->Int->Int->LL->Option R}(z t:Bool)(a:List Nat)(q:a.length<=256)(n0:Nat)(b delta c done:Int)(l:LL):∀(r i n m:Nat),i+r=a.length->r<n->
  Hh LF n z t (B3 a) done b (n0:Int) delta c (m:Int) (i:Int) l k0=k0 z t (B3 a) done b (n0:Int) delta c ((G5 n0 (a.drop i) m:Nat):Int) l:=by
 intro r
 induction r with
 | zero=>
  intro i n m k o;obtain⟨n,rfl⟩:∃m,n=m+1:=⟨n-1,by omega⟩
  rw[Hh];rw[C7,A6,d8 (by omega)];rfl
 | succ r f=>
  intro i n m k o;obtain⟨n,rfl⟩:∃m,n=m+1:=⟨n-1,by omega⟩
  have j:=Xy a i (by omega);have ok:=Ox (l:=a) (i:=i) (by omega);have d:inR (i:Int) (B3 a).length=true:=L5 (by omega) (by rw[C7];omega);have e:ltI (i:Int) ((B3 a).length:Int)=true:=B4 (by rw[C7];omega);rw[Hh,Tf a i (by omega)];generalize a.getD i 0=p at *;have g:A1 ((i:Int)+1)=((i+1:Nat):Int):=by rw[A7];rfl
  rw[c9];simp only[d,e,ok,cond_true,vl,j,g,G5];by_cases h:n0<=p
  ·rw[if_pos h,A6,d7,cond_true];have:(if (p:Int)<(m:Int) then (p:Int) else (m:Int))=((min m p:Nat):Int):=by split<;>omega
   rw[this];exact f (i+1) n (min m p) (by omega) (by omega)
  ·rw[if_neg h,A8,b9,cond_false];exact f (i+1) n m (by omega) (by omega)
theorem B06(z t:Bool)(a:List Nat)(b:Nat)(B:a.length<=256)(T:b<=256)(i:∀p∈a,p<=1114111):∀(f n d:Nat) (s:MH),s.done=a.countP (λp=>decide (p<n))->a.length<=s.done+f->f<d->s.delta<=300->s.bias<=500->s.out.length+20*(a.length-s.done)<=80000->n<=1114112->
  ∀(R:Type) (k0:LL->Option R),Eg LF d z t (B3 a) (s.done:Int) (b:Int) (n:Int) (s.delta:Int) (s.bias:Int) (s.out.map D7) k0=k0 ((Q2 a b f n s).out.map D7):=by
 intro f;have S:=C1
 induction f with
 | zero=>
  intro n d s V X Y O y P Q R k0;obtain⟨d,rfl⟩:∃m,d=m+1:=⟨d-1,by omega⟩
  rw[Eg];rw[C7,A6];rfl
 | succ f Z=>
  intro n d s V X Y O y P Q R k0;obtain⟨d,rfl⟩:∃m,d=m+1:=⟨d-1,by omega⟩
  rw[Eg];rw[C7];have U:a.countP (λp=>decide (p<n))<=a.length:=o7;by_cases o:s.done<a.length
  ·obtain⟨v,g,q⟩:=Ah1 (n:=n) (l:=a) (by omega);obtain⟨g1,g2,x⟩:=De n a 1114112;obtain⟨D,F,w⟩:=De n a 1073741824;have g4:=x v g q;have G:=w v g q;have g5:=i v g;have e:G5 n a 1114112∈a/\n<=G5 n a 1114112:=by grind
   have h:G5 n a 1073741824∈a/\n<=G5 n a 1073741824:=by grind
   have heq:G5 n a 1073741824=G5 n a 1114112:=by grind
   have W:Q2 a b (f+1) n s=Q2 a b f (G5 n a 1114112+1) { G8 (G5 n a 1114112) b a { s with delta:=s.delta+(G5 n a 1114112-n)*(s.done+1) } with delta:=(G8 (G5 n a 1114112) b a { s with delta:=s.delta+(G5 n a 1114112-n)*(s.done+1) }).delta+1 }:=by
    rw[Q2,if_pos o]
   rw[W,A8,cond_true];have c:=λ(K:Bool->Bool->LL->Int->Int->Int->Int->Int->Int->LL->Option R)=>Ar2 (k0:=K) z t a B n (b:Int) (s.delta:Int) (s.bias:Int) (s.done:Int) (s.out.map D7) a.length 0 LF 1073741824 (by omega) (by omega)
   rw[g6,heq] at c;refine a8 (c _) ?_;clear c heq D F w G h;generalize G5 n a 1114112=m at *;have C:(m-n)*(s.done+1)<=1114112*256:=ab0 (by omega) (by omega);have H:A1 ((s.done:Int)+1)=((s.done+1:Nat):Int):=by rw[A7];rfl
   have I:A1 ((m:Int)-(n:Int))=((m-n:Nat):Int):=by rw[A7];omega
   have J:A1 (((m-n:Nat):Int)*((s.done+1:Nat):Int))=(((m-n)*(s.done+1):Nat):Int):=by
    rw[<-Int.natCast_mul];exact A7
   have L:A1 ((s.delta:Int)+(((m-n)*(s.done+1):Nat):Int))=((s.delta+(m-n)*(s.done+1):Nat):Int):=by
    rw[A7];rfl
   simp only[vl,H,I,J,L];have k:=Cj4 z t a b m (by omega) B a.length 0 LF { s with delta:=s.delta+(m-n)*(s.done+1) } (by omega) (by omega) (by simp only;omega) y (by simp only;omega) (by simp only;omega) T;rw[g6] at k;obtain⟨q1,q2,q3,q4,q5⟩:=k;refine a8 (q1 R _) ?_;have j:0<a.countP (· == m):=List.countP_pos_iff.2 ⟨m,e.1,by simp⟩;rw[if_pos j] at q5;have u:=Sz e.2 a x;generalize G8 m b a { s with delta:=s.delta+(m-n)*(s.done+1) } = r at *;simp only at q3 q4;have M:A1 ((r.delta:Int)+1)=((r.delta+1:Nat):Int):=by rw[A7];rfl
   have N:A1 ((m:Int)+1)=((m+1:Nat):Int):=by rw[A7];rfl
   have A:a.countP (λp=>decide (p<m+1))<=a.length:=o7;simp only[M,N];exact Z (m+1) d { r with delta:=r.delta+1 } (by simp only;omega) (by simp only;omega) (by omega) (by simp only;omega) q2 (by simp only;omega) (by omega) R k0
  ·rw[A6];rw[Q2,if_neg o];rfl
theorem Aq7(z t:Bool)(P:List Int)(C:P.length<=256):∀(r i n:Nat) (out:By),i+r=P.length->r<n->out.length+r<=1000->
  ((P.drop i).all ptI=true->∀(R:Type) (a:LL->Option R) (b:Bool->Bool->LL->LL->Option R),T5 LF n z t (Ab P) (i:Int) (out.map D7) a b=b z t (Ab P) ((out++U5 (P.drop i)).map D7))/\
  ((P.drop i).all ptI=false->∃l,∀(R:Type) (a:LL->Option R) (b:Bool->Bool->LL->LL->Option R),T5 LF n z t (Ab P) (i:Int) (out.map D7) a b=a l):=by
 intro r
 induction r with
 | zero=>
  intro i n out w y A;obtain⟨n,rfl⟩:∃m,n=m+1:=⟨n-1,by omega⟩
  rw[d8 (by omega)];refine⟨λ_ R a b=>?_,λh=>(by cases h)⟩;rw[T5];rw[T7,A6];simp[U5]
 | succ r v=>
  intro i n out w y A;obtain⟨n,rfl⟩:∃m,n=m+1:=⟨n-1,by omega⟩
  have o:=Aj0 P i (by omega);have ok:=RC (l:=P) (i:=i) (by omega);have f:inR (i:Int) (Ab P).length=true:=L5 (by omega) (by rw[T7];omega);have g:ltI (i:Int) ((Ab P).length:Int)=true:=B4 (by rw[T7];omega);rw[VD P i (by omega)];generalize P.getD i 0=x at *;have u:A1 ((i:Int)+1)=((i+1:Nat):Int):=by rw[A7];rfl
  cases j:ptI x with
  | false=>
   refine⟨λh=>?_,λ_=>⟨out.map D7,λR a b=>?_⟩⟩
   ·rw[s9,j] at h;cases h
   ·rw[T5];rw[c9];simp only[f,g,ok,cond_true,vl,o,j,d7]
  | true=>
   obtain⟨B,D⟩:=Rp j;rw[s9,j,p4];by_cases c:x<128
   ·have d:U5 (x::P.drop (i+1))=o6 x.toNat::U5 (P.drop (i+1)):=by
     unfold U5;rw[List.filter_cons_of_pos (by simpa using c)];rfl
    have k:out.map D7++[[SV.int .u8 (wu8 x)]]=(out++[o6 x.toNat]).map D7:=by rw[B53 x B c];simp
    obtain⟨p,q⟩:=v (i+1) n (out++[o6 x.toNat]) (by omega) (by omega) (by simp;omega);have step:∀(R:Type) (a:LL->Option R) (b:Bool->Bool->LL->LL->Option R),T5 LF (n+1) z t (Ab P) (i:Int) (out.map D7) a b=T5 LF n z t (Ab P) ((i+1:Nat):Int) ((out++[o6 x.toNat]).map D7) a b:=by
     intro R a b;rw[T5];rw[c9];simp only[f,g,ok,cond_true,vl,o,j,b9,cond_false,u];rw[B4 c,g8,E9 (by omega),k];rfl
    refine⟨λh R a b=>?_,λh=>?_⟩
    ·rw[step,p h,d];simp
    ·obtain⟨l,e⟩:=q h;exact⟨l,λR a b=>by rw[step];exact e R a b⟩
   ·have d:U5 (x::P.drop (i+1))=U5 (P.drop (i+1)):=by
     unfold U5;rw[List.filter_cons_of_neg (by simpa using c)]
    obtain⟨p,q⟩:=v (i+1) n out (by omega) (by omega) (by omega);have step:∀(R:Type) (a:LL->Option R) (b:Bool->Bool->LL->LL->Option R),T5 LF (n+1) z t (Ab P) (i:Int) (out.map D7) a b=T5 LF n z t (Ab P) ((i+1:Nat):Int) (out.map D7) a b:=by
     intro R a b;rw[T5];rw[c9];simp only[f,g,ok,cond_true,vl,o,j,b9,cond_false,u];rw[A6];rfl
    refine⟨λh R a b=>?_,λh=>?_⟩
    ·rw[step,p h,d]
    ·obtain⟨l,e⟩:=q h;exact⟨l,λR a b=>by rw[step];exact e R a b⟩
theorem Aq8(z t:Bool)(P:List Int):(U7 P=([],3)/\∀(R:Type) (b:Unit->Option R) (f:By->Int->LL->Option R),XK LF z t (Ab P) b f=b ())\/
  (∃l,∀(R:Type) (b:Unit->Option R) (f:By->Int->LL->Option R),XK LF z t (Ab P) b f=f (U7 P).1 ((U7 P).2:Nat) l):=by
 have x:=C1;by_cases i:256<P.length
 ·refine .inl ⟨by unfold U7;rw[if_pos i],λR b f=>?_⟩;unfold XK;rw[T7,A8];rfl
 ·right
  obtain⟨v,w⟩:=Aq7 z t P (by omega) P.length 0 LF [] (by omega) (by omega) (by simp;omega);rw[g6] at v w;cases g:P.all ptI with
  | false=>
   obtain⟨l,e⟩:=w g;refine⟨l,λR b f=>?_⟩;unfold XK;rw[T7,A6,cond_false];refine a8 (e R _ _) ?_;unfold U7;rw[if_neg i,g];rfl
  | true=>
   obtain⟨a,rfl,A,m⟩:=A77 g;rw[g8] at i;have k:U7 (a.map λn:Nat=>(n:Int))=Bz a:=by
    unfold U7;rw[g8,if_neg i,g];simp[Function.comp_def]
   have j:=Qw a;have y:a.countP (λp=>decide (p<128))<=a.length:=o7;have main:∀(o:By),o.length<=300->∀(R:Type) (b:LL->Option R),Eg LF LF z t (B3 a) ((H6 a).length:Int) ((H6 a).length:Int) 128 0 72 (o.map D7) b=b ((Q2 a (H6 a).length 256 128 { delta:=0,bias:=72,done:=(H6 a).length,out:=o }).out.map D7):=by
    intro o B R b;exact B06 z t a (H6 a).length (by omega) (by omega) m 256 128 LF { delta:=0,bias:=72,done:=(H6 a).length,out:=o } j (by simp only;omega) (by omega) (by simp) (by simp) (by simp only;omega) (by omega) R b
   have d:Bz a=((Q2 a (H6 a).length 256 128 { delta:=0,bias:=72,done:=(H6 a).length,out:=if (H6 a).isEmpty then [] else H6 a++[45] }).out,0):=by
    unfold Bz;grind
   refine⟨(Bz a).1.map D7,λR b f=>?_⟩;unfold XK;rw[T7,g8,A6,cond_false,k];have r:=v g R;refine a8 (r _ _) ?_;rw[m6,EI,Ow];simp only[vl,g8];by_cases c:H6 a=[]
   ·rw[c,m5,A6,cond_false];have q:=main [] (by simp) R;rw[c,m5] at q;rw[List.map_nil] at q;refine a8 (q _) ?_;rw[c] at d;rw[d];simp only[List.isEmpty_nil,if_true,m5];rw[V4,V9];rfl
   ·have u:0<(H6 a).length:=m7.2 c;rw[A8,cond_true,E9 (by omega),cond_true];have h:(H6 a).map D7++[[SV.int .u8 (45:Int)]]=(H6 a++[45]).map D7:=by rw[p6];rfl
    rw[h];refine a8 (main (H6 a++[45]) (by simp;omega) R _) ?_;rw[d,if_neg (by simpa using c)];rw[V4,V9];rfl
theorem Cj5(z t:Bool)(p:LL)(b:p.all Lt=true):∃r H,XK LF z t p (λ_=>rv (.tup [.s (.str []),.s (.int .i64 3)]) []) (λd e l=>rv (.tup [.s (.str d),.s (.int .i64 e)]) [.arr true 5 1 l])=rv r H/\
  r.stab [0,0] H = .tup [.s (.str (U7 (p.map elI)).1),.s (.int .i64 ((U7 (p.map elI)).2:Nat))]:=by
 obtain⟨P,rfl⟩:=A56 b;rw[VE];rcases Aq8 z t P with⟨c,a⟩|⟨l,a⟩
 ·exact⟨_,_,a _ _ _,by rw[c];rfl⟩
 ·exact⟨_,_,a _ _ _,rfl⟩
theorem Au4{R:Type}{k0:Unit->Option R}{k1:By->Int->Option R}(s:By)(k:s.length<=1000000):∀(r i n cut:Nat),i+r=s.length->r<n->
  Df LF n s (cut:Int) (i:Int) k0 k1=if (s.drop i).any (λb=>j4 128 b.toNat) then k0 () else k1 s ((if 45∈s.drop i then i+F9 (s.drop i) else cut:Nat):Int):=by
 intro r
 induction r with
 | zero=>
  intro i n cut g j;obtain⟨n,rfl⟩:∃m,n=m+1:=⟨n-1,by omega⟩
  rw[Df];rw[A6,d8 (by omega)];rfl
 | succ r d=>
  intro i n cut g j;obtain⟨n,rfl⟩:∃m,n=m+1:=⟨n-1,by omega⟩
  rw[Df];have e:A1 ((i:Int)+1)=((i+1:Nat):Int):=by rw[A7];rfl
  rw[A8,E4,D0,D1 s i (by omega),e,x7];simp only[cond_true];generalize s.getD i 0=b;by_cases h:128<=b.toNat
  ·rw[A6,Nat.ble_eq_true_of_le h];rfl
  ·have:j4 128 b.toNat=false:=by rw[f9,ne_eq,g7];exact h
   rw[A8,this,x6,b9,cond_false];have f:((b.toNat:Int)==45)=(b==45):=P7 b 45 (by omega);rw[f];by_cases a:b=45
   ·subst a;rw[show((45:UInt8)==45)=true from rfl,cond_true];refine(d (i+1) n i (by omega) (by omega)).trans ?_;have c:(45:UInt8)∈45::s.drop (i+1):=by simp
    rw[if_pos c];have:(if (45:UInt8)∈s.drop (i+1) then i+1+F9 (s.drop (i+1)) else i)=i+F9 (45::s.drop (i+1)):=by
     rw[F9];grind
    rw[this]
   ·rw[show(b==45)=false from beq_eq_false_iff_ne.2 a,cond_false];refine(d (i+1) n cut (by omega) (by omega)).trans ?_;have c:((45:UInt8)∈b::s.drop (i+1))↔((45:UInt8)∈s.drop (i+1)):=by simp[Ne.symm a]
    have:(if (45:UInt8)∈s.drop (i+1) then i+1+F9 (s.drop (i+1)) else cut)=(if (45:UInt8)∈b::s.drop (i+1) then i+F9 (b::s.drop (i+1)) else cut):=by
     by_cases q:(45:UInt8)∈s.drop (i+1)
     ·rw[if_pos q,if_pos (c.2 q),F9,if_pos q];omega
     grind
    rw[this]
theorem At9{R:Type}{k0:By->Int->LL->Option R}(s:By)(q:s.length<=1000000)(k:Nat)(p:k<=s.length):∀(r i n:Nat) (l:List Nat),i+r=k->r<n->l.length=i->
  Ga LF n s (k:Int) (i:Int) (B3 l) k0=k0 s (k:Int) (B3 (l++((s.take k).drop i).map (·.toNat))):=by
 intro r
 induction r with
 | zero=>
  intro i n l f h g;obtain⟨n,rfl⟩:∃m,n=m+1:=⟨n-1,by omega⟩
  rw[Ga];rw[A6,d8 (by rw[j0];omega)];simp
 | succ r j=>
  intro i n l f h g;obtain⟨n,rfl⟩:∃m,n=m+1:=⟨n-1,by omega⟩
  rw[Ga];have c:A1 ((i:Int)+1)=((i+1:Nat):Int):=by rw[A7];rfl
  have e:(s.take k).drop i=s.getD i 0::(s.take k).drop (i+1):=by
   rw[D1 (s.take k) i (by rw[j0];omega)]
   congr 1
   rw[f8,f8,List.getElem?_take_of_lt (by omega)]
  rw[A8,E4,D0,e,C7,E9 (by omega),c];simp only[cond_true];generalize s.getD i 0=b;have o:=b.toNat_lt;have d:A1 (b.toNat:Int)=(b.toNat:Int):=A7;have a:B3 l++[[SV.int .i64 (A1 (b.toNat:Int))]]=B3 (l++[b.toNat]):=by rw[d,Iz];rfl
  rw[a];refine(j (i+1) n _ (by omega) (by omega) (by simp;omega)).trans ?_;simp
theorem Au2(s:By)(hs:s.length<=1000000)(out:LL)(f b e:Int)(l:LL)(P:0<=b)(Q:b<1000000):∀(r p n k:Nat) (i w:Int),p+r=s.length->r<n->0<=i->i<=1099511627776->0<=w->w<=1099511627776->k+r<=10000000->
  ((S6 b (s.drop p) i w ((36*k:Nat):Int)).1=0->∃o,p<o/\o<=s.length/\(S6 b (s.drop p) i w ((36*k:Nat):Int)).2.1=s.drop o/\∀(R:Type) (a:Int->LL->Option R) (d:By->LL->Int->Int->Int->Int->LL->Option R),U0 LF n s out (p:Int) f i b e w (k:Int) l a d=d s out (o:Int) f (S6 b (s.drop p) i w ((36*k:Nat):Int)).2.2 e l)/\
  ((S6 b (s.drop p) i w ((36*k:Nat):Int)).1≠0->∀(R:Type) (a:Int->LL->Option R) (d:By->LL->Int->Int->Int->Int->LL->Option R),U0 LF n s out (p:Int) f i b e w (k:Int) l a d=a (S6 b (s.drop p) i w ((36*k:Nat):Int)).1 l):=by
 intro r
 induction r with
 | zero=>
  intro p n k i w X W U D G g V;obtain⟨n,rfl⟩:∃m,n=m+1:=⟨n-1,by omega⟩
  rw[d8 (by omega)];refine⟨λh=>by simp[S6] at h,λ_ R a d=>?_⟩;rw[U0];rw[A6];rfl
 | succ r Z=>
  intro p n k i w X W U D G g V;obtain⟨n,rfl⟩:∃m,n=m+1:=⟨n-1,by omega⟩
  have S:=D1 s p (by omega);have C:=D0 s p;rw[S];generalize s.getD p 0=c at *;have Y:=En c;have ht:=Lg ((36*k:Nat):Int) b;have e0:s8 36 (k:Int)=((36*k:Nat):Int):=rfl;have J:A1 ((p:Int)+1)=((p+1:Nat):Int):=by rw[A7];rfl
  have K:A1 ((k:Int)+1)=((k+1:Nat):Int):=by rw[A7];rfl
  have start:∀(R:Type) (a:Int->LL->Option R) (d:By->LL->Int->Int->Int->Int->LL->Option R),U0 LF (n+1) s out (p:Int) f i b e w (k:Int) l a d =
    cond (ltI (D8 c) 0) (a 4 l)
     (vl (A1 (i+(A1 (D8 c*w)))) λj=>cond (ltI 1099511627776 j) (a 19 l)
      (cond (ltI (D8 c) (J9 ((36*k:Nat):Int) b)) (d s out ((p+1:Nat):Int) f j e l)
       (vl (A1 (36-(J9 ((36*k:Nat):Int) b))) λq=>cond (ltI 1099511627776 (A1 (w*q))) (a 19 l) (U0 LF n s out ((p+1:Nat):Int) f j b e (A1 (w*q)) ((k+1:Nat):Int) l a d)))):=by
   intro R a d;rw[U0];have T:=c.toNat_lt;rw[A8,E4,C,E4,Ho,M8,M8,e0,J,K];rfl
  unfold S6;by_cases y:D8 c<0
  ·rw[if_pos y];refine⟨λh=>by simp at h,λ_ R a d=>?_⟩;rw[start,B4 y];rfl
  ·rw[if_neg y];have hm:=Cf (by omega) Y.2 G g;have u:A1 (D8 c*w)=D8 c*w:=A7;have v:A1 (i+D8 c*w)=i+D8 c*w:=A7;by_cases z:1099511627776<i+D8 c*w
   ·rw[if_pos z];refine⟨λh=>by simp at h,λ_ R a d=>?_⟩;rw[start,A6,u,v];simp only[vl,cond_false];rw[B4 z];rfl
   ·rw[if_neg z];by_cases A:D8 c<J9 ((36*k:Nat):Int) b
    ·rw[if_pos A];refine⟨λ_=>⟨p+1,by omega,by omega,rfl,λR a d=>?_⟩,λh=>absurd rfl h⟩;rw[start,A6,u,v];simp only[vl,cond_false];rw[A6,B4 A];rfl
    ·rw[if_neg A];have H:A1 (36-J9 ((36*k:Nat):Int) b)=36-J9 ((36*k:Nat):Int) b:=A7;have F:=Cf (x:=36-J9 ((36*k:Nat):Int) b) (by omega) (by omega) G g;rw[ab5] at F;have I:A1 (w*(36-J9 ((36*k:Nat):Int) b))=w*(36-J9 ((36*k:Nat):Int) b):=A7;by_cases B:1099511627776<w*(36-J9 ((36*k:Nat):Int) b)
     ·rw[if_pos B];refine⟨λh=>by simp at h,λ_ R a d=>?_⟩;rw[start,A6,u,v];simp only[vl,cond_false];rw[A6,A6,H,I,B4 B];rfl
     ·rw[if_neg B];have L:((36*k:Nat):Int)+36=((36*(k+1):Nat):Int):=by omega
      rw[L];obtain⟨q1,q2⟩:=Z (p+1) n (k+1) (i+D8 c*w) (w*(36-J9 ((36*k:Nat):Int) b)) (by omega) (by omega) (by omega) (by omega) (by omega) (by omega) (by omega);have t:∀(R:Type) (a:Int->LL->Option R) (d:By->LL->Int->Int->Int->Int->LL->Option R),U0 LF (n+1) s out (p:Int) f i b e w (k:Int) l a d=U0 LF n s out ((p+1:Nat):Int) f (i+D8 c*w) b e (w*(36-J9 ((36*k:Nat):Int) b)) ((k+1:Nat):Int) l a d:=by simp_all
      refine⟨λh=>?_,λh R a d=>by rw[t];exact q2 h R a d⟩;obtain⟨o,g1,M,N,O⟩:=q1 h;exact⟨o,by omega,M,N,λR a d=>by rw[t];exact O R a d⟩
theorem Au3(s:By)(Z:s.length<=1000000)(l:LL):∀(r p n k:Nat) (i w:Int),p+r=s.length->r<n->0<=i->i<=1099511627776->0<=w->w<=1099511627776->k+r<=10000000->
  ((S6 72 (s.drop p) i w ((36*k:Nat):Int)).1=0->∃f,p<f/\f<=s.length/\(S6 72 (s.drop p) i w ((36*k:Nat):Int)).2.1=s.drop f/\∀(R:Type) (a:Int->LL->Option R) (b:By->Int->Int->LL->Option R),U1 LF n s (p:Int) i w (k:Int) l a b=b s (f:Int) (S6 72 (s.drop p) i w ((36*k:Nat):Int)).2.2 l)/\
  ((S6 72 (s.drop p) i w ((36*k:Nat):Int)).1≠0->∀(R:Type) (a:Int->LL->Option R) (b:By->Int->Int->LL->Option R),U1 LF n s (p:Int) i w (k:Int) l a b=a (S6 72 (s.drop p) i w ((36*k:Nat):Int)).1 l):=by
 intro r
 induction r with
 | zero=>
  intro p n k i w S Q O A C d P;obtain⟨n,rfl⟩:∃m,n=m+1:=⟨n-1,by omega⟩
  rw[d8 (by omega)];refine⟨λh=>by simp[S6] at h,λ_ R a b=>?_⟩;rw[U1];rw[A6];rfl
 | succ r U=>
  intro p n k i w S Q O A C d P;obtain⟨n,rfl⟩:∃m,n=m+1:=⟨n-1,by omega⟩
  have M:=D1 s p (by omega);have z:=D0 s p;rw[M];generalize s.getD p 0=c at *;have T:=En c;have ht:=Lg ((36*k:Nat):Int) 72;have e0:s8 36 (k:Int)=((36*k:Nat):Int):=rfl;have G:A1 ((p:Int)+1)=((p+1:Nat):Int):=by rw[A7];rfl
  have H:A1 ((k:Int)+1)=((k+1:Nat):Int):=by rw[A7];rfl
  have start:∀(R:Type) (a:Int->LL->Option R) (b:By->Int->Int->LL->Option R),U1 LF (n+1) s (p:Int) i w (k:Int) l a b =
    cond (ltI (D8 c) 0) (a 4 l)
     (vl (A1 (i+(A1 (D8 c*w)))) λe=>cond (ltI 1099511627776 e) (a 19 l)
      (cond (ltI (D8 c) (J9 ((36*k:Nat):Int) 72)) (b s ((p+1:Nat):Int) e l)
       (vl (A1 (36-(J9 ((36*k:Nat):Int) 72))) λg=>cond (ltI 1099511627776 (A1 (w*g))) (a 19 l) (U1 LF n s ((p+1:Nat):Int) e (A1 (w*g)) ((k+1:Nat):Int) l a b)))):=by
   intro R a b;rw[U1];have N:=c.toNat_lt;rw[A8,E4,z,E4,Ho,M8,M8,e0,G,H];rfl
  unfold S6;by_cases t:D8 c<0
  ·rw[if_pos t];refine⟨λh=>by simp at h,λ_ R a b=>?_⟩;rw[start,B4 t];rfl
  ·rw[if_neg t];have Y:=Cf (by omega) T.2 C d;have o:A1 (D8 c*w)=D8 c*w:=A7;have q:A1 (i+D8 c*w)=i+D8 c*w:=A7;by_cases u:1099511627776<i+D8 c*w
   ·rw[if_pos u];refine⟨λh=>by simp at h,λ_ R a b=>?_⟩;rw[start,A6,o,q];simp only[vl,cond_false];rw[B4 u];rfl
   ·rw[if_neg u];by_cases v:D8 c<J9 ((36*k:Nat):Int) 72
    ·rw[if_pos v];refine⟨λ_=>⟨p+1,by omega,by omega,rfl,λR a b=>?_⟩,λh=>absurd rfl h⟩;rw[start,A6,o,q];simp only[vl,cond_false];rw[A6,B4 v];rfl
    ·rw[if_neg v];have D:A1 (36-J9 ((36*k:Nat):Int) 72)=36-J9 ((36*k:Nat):Int) 72:=A7;have B:=Cf (x:=36-J9 ((36*k:Nat):Int) 72) (by omega) (by omega) C d;rw[ab5] at B;have F:A1 (w*(36-J9 ((36*k:Nat):Int) 72))=w*(36-J9 ((36*k:Nat):Int) 72):=A7;by_cases y:1099511627776<w*(36-J9 ((36*k:Nat):Int) 72)
     ·rw[if_pos y];refine⟨λh=>by simp at h,λ_ R a b=>?_⟩;rw[start,A6,o,q];simp only[vl,cond_false];rw[A6,A6,D,F,B4 y];rfl
     ·rw[if_neg y];have I:((36*k:Nat):Int)+36=((36*(k+1):Nat):Int):=by omega
      rw[I];obtain⟨V,W⟩:=U (p+1) n (k+1) (i+D8 c*w) (w*(36-J9 ((36*k:Nat):Int) 72)) (by omega) (by omega) (by omega) (by omega) (by omega) (by omega) (by omega);have j:∀(R:Type) (a:Int->LL->Option R) (b:By->Int->Int->LL->Option R),U1 LF (n+1) s (p:Int) i w (k:Int) l a b=U1 LF n s ((p+1:Nat):Int) (i+D8 c*w) (w*(36-J9 ((36*k:Nat):Int) 72)) ((k+1:Nat):Int) l a b:=by simp_all
      refine⟨λh=>?_,λh R a b=>by rw[j];exact W h R a b⟩;obtain⟨f,X,J,K,L⟩:=V h;exact⟨f,by omega,J,K,λR a b=>by rw[j];exact L R a b⟩
theorem LA(l:List Nat)(k:Nat):(B3 l).take k=B3 (l.take k):=by unfold B3;rw[List.map_take]
theorem KZ(l:List Nat)(k:Nat):(B3 l).drop k=B3 (l.drop k):=by unfold B3;rw[List.map_drop]
theorem Au1(s:By)(hs:s.length<=1000000)(l:LL):∀(r p f:Nat) (a:List Nat) (n i b:Nat),p+r=s.length->r<f->a.length<=256->n<=1114111->i<=1000->b<=500->
  ((G4 (s.drop p) a n i b false).2=0->∀(R:Type) (c:Int->LL->Option R) (d e:LL->LL->Option R),O0 LF f s (B3 a) (p:Int) (n:Int) (i:Int) (b:Int) l c d e=e (B3 (G4 (s.drop p) a n i b false).1) l)/\
  ((G4 (s.drop p) a n i b false).2≠0->(G4 (s.drop p) a n i b false).1=[]/\((∀(R:Type) (c:Int->LL->Option R) (d e:LL->LL->Option R),O0 LF f s (B3 a) (p:Int) (n:Int) (i:Int) (b:Int) l c d e=c ((G4 (s.drop p) a n i b false).2:Nat) l)\/
   ((G4 (s.drop p) a n i b false).2=3/\∃D,∀(R:Type) (c:Int->LL->Option R) (d e:LL->LL->Option R),O0 LF f s (B3 a) (p:Int) (n:Int) (i:Int) (b:Int) l c d e=d l D))):=by
 have a0:=C1;intro r
 induction r using w8 with
 | _ r ih=>
  intro p f a n i b hp hf h2 h3 h4 h5;obtain⟨f,rfl⟩:∃m,f=m+1:=⟨f-1,by omega⟩
  by_cases hr:r=0
  ·rw[d8 (by omega),Bw];refine⟨λ_ R c d e=>?_,λh=>absurd rfl h⟩;rw[O0];rw[A6];rfl
  ·have q:s.drop p≠[]:=λh=>by
    have:=congrArg f7 h;rw[f6] at this;simp at this;omega
   obtain⟨z,H⟩:=Au2 s hs (B3 a) (n:Int) (b:Int) (i:Int) l (by omega) (by omega) r p LF 0 (i:Int) 1 hp (by omega) (by omega) (by omega) (by omega) (by omega) (by omega);obtain⟨F,G⟩:=Te b (s.drop p) i 1 0;have y:S6 (b:Int) (s.drop p) (i:Int) 1 ((36*0:Nat):Int)=S6 (b:Int) (s.drop p) (i:Int) ((1:Nat):Int) ((36*0:Nat):Int):=rfl;rw[y] at z H;by_cases o:(D5 b (s.drop p) i 1 0).2.2=0
   ·rw[Cy q a n i b false o];have T:=G o;have K:(S6 (b:Int) (s.drop p) (i:Int) ((1:Nat):Int) ((36*0:Nat):Int)).1=0:=by rw[F,o];rfl
    obtain⟨v,a1,a2,w,x⟩:=z K;obtain⟨L,O,_⟩:=Td (b:Int) (s.drop p) (i:Int) ((1:Nat):Int) ((36*0:Nat):Int) (by omega) (by omega) (by omega) K;rw[T] at L O w x;simp only at L O w x;rw[w];generalize (D5 b (s.drop p) i 1 0).1=X at *;have el:A1 (((B3 a).length:Int)+1)=((a.length+1:Nat):Int):=by rw[C7,A7];rfl
    have U:A1 ((X:Int)-(i:Int))=((X-i:Nat):Int):=by rw[A7];omega
    have Z:j6 (X:Int) ((a.length+1:Nat):Int)=((X / (a.length+1):Nat):Int):=L7 _ _;have em:g9 (X:Int) ((a.length+1:Nat):Int)=((X % (a.length+1):Nat):Int):=Gn _ _;have a5:X / (a.length+1)<=X:=m9 _ _;have J:=aa9 X (show 0<a.length+1 by omega);have A:=Mp (X-i) (a.length+1) false (by omega);generalize hQ:X / (a.length+1)=Q at *;generalize hM:X % (a.length+1)=M at *;have V:A1 (Q:Int)=(Q:Int):=A7;have W:A1 ((n:Int)+(Q:Int))=((n+Q:Nat):Int):=by rw[A7];rfl
    have Y:A1 ((M:Int)+1)=((M+1:Nat):Int):=by rw[A7];rfl
    have C:(((a.length+1:Nat):Int)!=0)=true:=by rw[bne_iff_ne];omega
    have P:cut (B3 a) 0 (M:Int)=B3 (a.take M):=by rw[J5,c9,LA]
    have S:cut (B3 a) (M:Int) ((B3 a).length:Int)=B3 (a.drop M):=by rw[P8,c9,KZ]
    have t:∀N:Nat,B3 (a.take M)++[[SV.int .i64 (N:Int)]]++B3 (a.drop M)=B3 (T8 a M N):=λN=>by
     unfold T8;rw[Iz,j2];rfl
    have start:∀(R:Type) (c:Int->LL->Option R) (d e:LL->LL->Option R),O0 LF (f+1) s (B3 a) (p:Int) (n:Int) (i:Int) (b:Int) l c d e =
      cond (not (T9 (n+Q))) (c 2 l) (cond (ltI 256 ((a.length+1:Nat):Int)) (d l (B3 (T8 a M (n+Q))))
       (O0 LF f s (B3 (T8 a M (n+Q))) (v:Int) ((n+Q:Nat):Int) ((M+1:Nat):Int) ((P4 (X-i) (a.length+1) false:Nat):Int) l c d e)):=by
     intro R c d e;rw[O0];rw[A8,cond_true];refine(x R _ _).trans ?_;have s1:I5 (0:Int) (M:Int) (B3 a).length=true:=Y6 (by omega) (by omega) (by rw[C7];omega);have s2:I5 (M:Int) ((B3 a).length:Int) (B3 a).length=true:=Y6 (by omega) (by rw[C7];omega) (by omega);have t1:ltN ((X-i:Nat):Int) 1152921504606846976=true:=M8;have t2:ltN ((a.length+1:Nat):Int) 1000000=true:=M8;have t3:ltI 0 ((a.length+1:Nat):Int)=true:=A8;have l1:(B3 (a.take M)).length=M:=by rw[C7,j0];omega
     have l2:(B3 (a.drop M)).length=a.length-M:=by rw[C7,f6]
     have r1:F2 (0+(B3 (a.take M)).length)=true:=E9 (by omega);have r2:F2 ((B3 (a.take M)).length+1)=true:=E9 (by omega);have r3:F2 ((B3 (a.take M)++[[SV.int .i64 ((n+Q:Nat):Int)]]).length+(B3 (a.drop M)).length)=true:=E9 (by rw[d9,i6];omega);have l3:(B3 (T8 a M (n+Q))).length=a.length+1:=by rw[C7,Al]
     simp only[vl,el,U,Z,em,V,W,Y,C,s1,s2,t1,t2,t3,P,S,r1,r2,r3,t,l3,cond_true,c9,Kr]
    cases g:T9 (n+Q) with
    | false=>
     rw[if_neg (by simp)];refine⟨λh=>by simp at h,λ_=>⟨rfl,.inl λR c d e=>?_⟩⟩;rw[start,g];rfl
    | true=>
     rw[if_pos rfl];by_cases I:256<a.length+1
     ·rw[if_pos I];refine⟨λh=>by simp at h,λ_=>⟨rfl,.inr ⟨rfl,B3 (T8 a M (n+Q)),λR c d e=>?_⟩⟩⟩;rw[start,g,A8];rfl
     ·rw[if_neg I];have B:n+Q<=1114111:=by
       unfold T9 at g;simp only[j8,g7] at g;exact g.1
      have k:∀(R:Type) (c:Int->LL->Option R) (d e:LL->LL->Option R),O0 LF (f+1) s (B3 a) (p:Int) (n:Int) (i:Int) (b:Int) l c d e=O0 LF f s (B3 (T8 a M (n+Q))) (v:Int) ((n+Q:Nat):Int) ((M+1:Nat):Int) ((P4 (X-i) (a.length+1) false:Nat):Int) l c d e:=by
       intro R c d e;rw[start,g,A6];rfl
      obtain⟨z1,z2⟩:=ih (s.length-v) (by omega) v f (T8 a M (n+Q)) (n+Q) (M+1) (P4 (X-i) (a.length+1) false) (by omega) (by omega) (by rw[Al];omega) B (by omega) A;refine⟨λh R c d e=>by rw[k];exact z1 h R c d e,λh=>?_⟩;obtain⟨y1,u⟩:=z2 h;refine⟨y1,?_⟩;rcases u with u|⟨u,D,y3⟩
      ·exact .inl λR c d e=>by rw[k];exact u R c d e
      ·exact .inr ⟨u,D,λR c d e=>by rw[k];exact y3 R c d e⟩
   ·rw[Fm q a n i b false o];clear z G;refine⟨λh=>absurd h o,λ_=>⟨rfl,.inl λR c d e=>?_⟩⟩;rw[O0];rw[A8,cond_true];have j:=congrArg Prod.fst F;simp only at j;refine(H (by rw[j];omega) R _ _).trans ?_;rw[j]
theorem Bb3:∀(r:Nat) (s:By) (a:List Nat) (n i b:Nat) (f:Bool),s.length<=r->0<a.length->(G4 s a n i b f).2=0->(G4 s a n i b f).1≠[]:=by
 intro r
 induction r with
 | zero=>
  intro s a n i b f d l h;obtain rfl:=o5.1 (Nat.le_zero.1 d);rw[Bw];grind
 | succ r m=>
  intro s a n i b f d l h;by_cases e:s=[]
  ·grind
  ·by_cases c:(D5 b s i 1 0).2.2=0
   ·rw[Cy e a n i b f c] at h ⊢;split at h
    ·rename_i g;rw[if_pos g];split at h
     ·omega
     ·rename_i j;rw[if_neg j];have k:=Om b s i 1 0 c;exact m _ _ _ _ _ _ (by omega) (by rw[Al];omega) h
    omega
   ·rw[Fm e a n i b f c] at h;omega
theorem Au0(s:By)(K:s.length<=1000000)(p:Nat)(a:List Nat)(h2:a.length<=256)(hp:p<=s.length) :
  (s.drop p=[]/\∀(R:Type) (b:Int->LL->Option R) (c d:LL->LL->Option R) (g:LL->Option R),J6 LF LF s (p:Int) (B3 a) b c d g=g (B3 a))\/
  ((G4 (s.drop p) a 128 0 72 true).2=0/\(G4 (s.drop p) a 128 0 72 true).1≠[]/\∀(R:Type) (b:Int->LL->Option R) (c d:LL->LL->Option R) (g:LL->Option R),J6 LF LF s (p:Int) (B3 a) b c d g=d (B3 (G4 (s.drop p) a 128 0 72 true).1) (B3 a))\/
  ((G4 (s.drop p) a 128 0 72 true).1=[]/\((∀(R:Type) (b:Int->LL->Option R) (c d:LL->LL->Option R) (g:LL->Option R),J6 LF LF s (p:Int) (B3 a) b c d g=b ((G4 (s.drop p) a 128 0 72 true).2:Nat) (B3 a))\/
   ((G4 (s.drop p) a 128 0 72 true).2=3/\∃F,∀(R:Type) (b:Int->LL->Option R) (c d:LL->LL->Option R) (g:LL->Option R),J6 LF LF s (p:Int) (B3 a) b c d g=c (B3 a) F))):=by
 have a0:=C1;obtain⟨f,B⟩:∃m,LF=m+1:=⟨LF-1,by omega⟩
 by_cases hr:s.length<=p
 ·refine .inl ⟨d8 hr,λR b c d g=>?_⟩;have e:J6 LF LF s (p:Int) (B3 a) b c d g=J6 LF (f+1) s (p:Int) (B3 a) b c d g:=by rw[<-B]
  rw[e,J6];rw[A6];rfl
 ·right
  have o:s.drop p≠[]:=λh=>by
   have:=congrArg f7 h;grind
  obtain⟨u,y⟩:=Au3 s K (B3 a) (s.length-p) p LF 0 0 1 (by omega) (by omega) (by omega) (by omega) (by omega) (by omega) (by omega);obtain⟨G,x⟩:=Te 72 (s.drop p) 0 1 0;have n:S6 72 (s.drop p) 0 1 ((36*0:Nat):Int)=S6 ((72:Nat):Int) (s.drop p) ((0:Nat):Int) ((1:Nat):Int) ((36*0:Nat):Int):=rfl;rw[n] at u y;by_cases A:(D5 72 (s.drop p) 0 1 0).2.2=0
  ·rw[Cy o a 128 0 72 true A];have H:=x A;have k:(S6 ((72:Nat):Int) (s.drop p) ((0:Nat):Int) ((1:Nat):Int) ((36*0:Nat):Int)).1=0:=by grind
   obtain⟨r,a1,a2,v,w⟩:=u k;obtain⟨L,O,_⟩:=Td ((72:Nat):Int) (s.drop p) ((0:Nat):Int) ((1:Nat):Int) ((36*0:Nat):Int) (by omega) (by omega) (by omega) k;rw[H] at L O v w;simp only at L O v w;clear u y G x H k n;rw[v];generalize (D5 72 (s.drop p) 0 1 0).1=X at *;have Z:A1 (((B3 a).length:Int)+1)=((a.length+1:Nat):Int):=by rw[C7,A7];rfl
   have T:A1 ((X:Int)-0)=(X:Int):=by rw[A7];omega
   have Y:j6 (X:Int) ((a.length+1:Nat):Int)=((X / (a.length+1):Nat):Int):=L7 _ _;have em:g9 (X:Int) ((a.length+1:Nat):Int)=((X % (a.length+1):Nat):Int):=Gn _ _;have a5:X / (a.length+1)<=X:=m9 _ _;have J:=aa9 X (show 0<a.length+1 by omega);have z:=Mp X (a.length+1) true (by omega);generalize hQ:X / (a.length+1)=Q at *;generalize hM:X % (a.length+1)=M at *;have U:A1 (Q:Int)=(Q:Int):=A7;have V:A1 ((128:Int)+(Q:Int))=((128+Q:Nat):Int):=by rw[A7];rfl
   have W:A1 ((M:Int)+1)=((M+1:Nat):Int):=by rw[A7];rfl
   have D:(((a.length+1:Nat):Int)!=0)=true:=by rw[bne_iff_ne];omega
   have P:o8 (M-0) (p9 0 (B3 a))=B3 (a.take M):=by rw[ab7,g6,LA]
   have S:o8 ((B3 a).length-M) (p9 M (B3 a))=B3 (a.drop M):=by
    rw[List.take_of_length_le (by rw[f6];omega),KZ]
   have q:∀N:Nat,B3 (a.take M)++[[SV.int .i64 (N:Int)]]++B3 (a.drop M)=B3 (T8 a M N):=λN=>by
    unfold T8;rw[Iz,j2];rfl
   have start:∀(R:Type) (b:Int->LL->Option R) (c d:LL->LL->Option R) (g:LL->Option R),J6 LF LF s (p:Int) (B3 a) b c d g =
     cond (not (T9 (128+Q))) (b 2 (B3 a)) (cond (ltI 256 ((a.length+1:Nat):Int)) (c (B3 a) (B3 (T8 a M (128+Q))))
      (O0 LF f s (B3 (T8 a M (128+Q))) (r:Int) ((128+Q:Nat):Int) ((M+1:Nat):Int) ((P4 X (a.length+1) true:Nat):Int) (B3 a) b c d)):=by
    intro R b c d g;have e:J6 LF LF s (p:Int) (B3 a) b c d g=J6 LF (f+1) s (p:Int) (B3 a) b c d g:=by rw[<-B]
    rw[e,J6];rw[A8,cond_true];refine(w R _ _).trans ?_;have s1:I5 (0:Int) (M:Int) (B3 a).length=true:=Y6 (by omega) (by omega) (by rw[C7];omega);have s2:I5 (M:Int) ((B3 a).length:Int) (B3 a).length=true:=Y6 (by omega) (by rw[C7];omega) (by omega);have t1:ltN (X:Int) 1152921504606846976=true:=M8;have t2:ltN ((a.length+1:Nat):Int) 1000000=true:=M8;have t3:ltI 0 ((a.length+1:Nat):Int)=true:=A8;have l1:(B3 (a.take M)).length=M:=by rw[C7,j0];omega
    have l2:(B3 (a.drop M)).length=a.length-M:=by rw[C7,f6]
    have r1:F2 (0+(B3 (a.take M)).length)=true:=E9 (by omega);have r2:F2 ((B3 (a.take M)).length+1)=true:=E9 (by omega);have r3:F2 ((B3 (a.take M)++[[SV.int .i64 ((128+Q:Nat):Int)]]).length+(B3 (a.drop M)).length)=true:=E9 (by rw[d9,i6];omega);have l3:(B3 (T8 a M (128+Q))).length=a.length+1:=by rw[C7,Al]
    simp only[vl,Z,T,Y,em,U,V,W,D,s1,s2,t1,t2,t3,c9,P,S,r1,r2,r3,q,l3,cond_true,Kr]
   cases j:T9 (128+Q) with
   | false=>
    rw[if_neg (by simp)];refine .inr ⟨rfl,.inl λR b c d g=>?_⟩;rw[start,j];rfl
   | true=>
    rw[if_pos rfl];by_cases I:256<a.length+1
    ·rw[if_pos I];refine .inr ⟨rfl,.inr ⟨rfl,B3 (T8 a M (128+Q)),λR b c d g=>?_⟩⟩;rw[start,j,A8];rfl
    ·rw[if_neg I];have C:128+Q<=1114111:=by
      unfold T9 at j;simp_all
     have l:∀(R:Type) (b:Int->LL->Option R) (c d:LL->LL->Option R) (g:LL->Option R),J6 LF LF s (p:Int) (B3 a) b c d g=O0 LF f s (B3 (T8 a M (128+Q))) (r:Int) ((128+Q:Nat):Int) ((M+1:Nat):Int) ((P4 X (a.length+1) true:Nat):Int) (B3 a) b c d:=by
      intro R b c d g;rw[start,j,A6];rfl
     obtain⟨z1,z2⟩:=Au1 s K (B3 a) (s.length-r) r f (T8 a M (128+Q)) (128+Q) (M+1) (P4 X (a.length+1) true) (by omega) (by omega) (by rw[Al];omega) C (by omega) z;have hX:X-0=X:=ab7 X;rw[hX];by_cases k:(G4 (s.drop r) (T8 a M (128+Q)) (128+Q) (M+1) (P4 X (a.length+1) true) false).2=0
     ·refine .inl ⟨k,?_,λR b c d g=>by rw[l];exact z1 k R b c d⟩;exact Bb3 _ _ _ _ _ _ _ (Nat.le_refl _) (by rw[Al];omega) k
     ·obtain⟨y1,t⟩:=z2 k;refine .inr ⟨y1,?_⟩;rcases t with t|⟨t,F,y3⟩
      ·exact .inl λR b c d g=>by rw[l];exact t R b c d
      ·exact .inr ⟨t,F,λR b c d g=>by rw[l];exact y3 R b c d⟩
  ·rw[Fm o a 128 0 72 true A];clear u x;refine .inr ⟨rfl,.inl λR b c d g=>?_⟩;have e:J6 LF LF s (p:Int) (B3 a) b c d g=J6 LF (f+1) s (p:Int) (B3 a) b c d g:=by rw[<-B]
   rw[e,J6];rw[A8,cond_true];have i:=congrArg Prod.fst G;simp only at i;refine(y (by rw[i];omega) R _ _).trans ?_;rw[i]
theorem B18(s:By)(M:A3 s.length=true):∃r H,A83 LF s (λi f=>rv (.tup [.fl 0,.s (.int .i64 i)]) [.arr true 3 1 f]) (λi f=>rv (.tup [.fl 1,.s (.int .i64 i)]) [.arr true 3 1 f,.arr true 3 1 []]) (λx f=>rv (.tup [.fl 2,.s (.int .i64 (3:Int))]) [.arr true 3 1 x,.arr false 3 1 f,.arr true 3 1 []]) (λi f=>rv (.tup [.s (.sl false false 1 i),.s (.int .i64 (0:Int))]) [.arr true 3 1 f])=rv r H/\
  r.stab [1,0] H = .tup [.s (.sl (M6 s).1.isEmpty (M6 s).1.isEmpty 1 (Ko (M6 s).1)),.s (.int .i64 ((M6 s).2:Nat))]:=by
 have G:=C1;unfold A83 M6;by_cases z:1024<s.length
 ·rw[if_pos z,A8];exact⟨_,_,rfl,rfl⟩
 ·rw[if_neg z,A6,cond_false];have e:=λ(R:Type) (C:Unit->Option R) (D:By->Int->Option R)=>Au4 (k0:=C) (k1:=D) s (by omega) s.length 0 LF 0 (by omega) (by omega)
  rw[g6] at e;cases y:s.any (λb=>j4 128 b.toNat) with
  | true=>
   rw[if_pos rfl];refine⟨.tup [.fl 0,.s (.int .i64 4)],[.arr true 3 1 []],(e _ _ _).trans ?_,rfl⟩;rw[y,if_pos rfl]
  | false=>
   rw[if_neg (by simp)];obtain⟨L,F⟩:=Nd s;have I:=Nf s;have q:(if (45:UInt8)∈s then 0+F9 s else 0)=F9 s:=by
    split
    ·omega
    ·rename_i h;exact(F h).2.symm
   rw[y,q] at e;have c:=λ(R:Type) (K:By->Int->LL->Option R)=>At9 (k0:=K) s (by omega) (F9 s) (by omega) (F9 s) 0 LF [] (by omega) (by omega) rfl
   rw[g6] at c;have g:((s.take (F9 s)).map (·.toNat)).length=F9 s:=by rw[g8,j0];omega
   generalize N:F9 s=m at *;generalize A:(s.take m).map (·.toNat)=d at *;by_cases k:256<m
   ·rw[if_pos k];refine⟨.tup [.fl 1,.s (.int .i64 3)],[.arr true 3 1 (B3 d),.arr true 3 1 []],(e _ _ _).trans ?_,rfl⟩;rw[if_neg (by simp)];refine(c _ _).trans ?_;rw[m6,C7,g,A8];rfl
   ·rw[if_neg k];have o:∀p:Nat,p<=s.length->∀(X:Option (PV × List Blk × Unit)),X=J6 LF LF s (p:Int) (B3 d) (λi f=>rv (.tup [.fl 1,.s (.int .i64 i)]) [.arr true 3 1 f,.arr true 3 1 []]) (λx f=>rv (.tup [.fl 2,.s (.int .i64 (3:Int))]) [.arr true 3 1 x,.arr false 3 1 f,.arr true 3 1 []]) (λi f=>rv (.tup [.s (.sl false false 1 i),.s (.int .i64 (0:Int))]) [.arr true 3 1 f]) (λl=>rv (.tup [.fl 0,.s (.int .i64 0)]) [.arr true 3 1 l])->
      ∃r H,X=rv r H/\r.stab [1,0] H = .tup [.s (.sl (G4 (s.drop p) d 128 0 72 true).1.isEmpty (G4 (s.drop p) d 128 0 72 true).1.isEmpty 1 (Ko (G4 (s.drop p) d 128 0 72 true).1)),.s (.int .i64 ((G4 (s.drop p) d 128 0 72 true).2:Nat))]:=by
     intro p J X t;rcases Au0 s (by omega) p d (by omega) J with⟨j,n⟩|⟨j,u,n⟩|⟨j,n|⟨u,O,n⟩⟩
     ·refine⟨_,_,t.trans (n _ _ _ _ _),?_⟩;rw[j,Bw,Cg];simp[PV.stab,Mz,Pm,PV.snap,K9,Uf]
     ·refine⟨_,_,t.trans (n _ _ _ _ _),?_⟩;rw[j,Cg];have:(G4 (s.drop p) d 128 0 72 true).1.isEmpty=false:=by
       cases h:(G4 (s.drop p) d 128 0 72 true).1 with
       | nil=>exact absurd h u
       | cons a r=>rfl
      rw[this];rfl
     ·refine⟨_,_,t.trans (n _ _ _ _ _),?_⟩;rw[j];rfl
     ·refine⟨_,_,t.trans (n _ _ _ _ _),?_⟩;rw[j,u];rfl
    by_cases B:m=0
    ·subst B;rw[if_pos rfl];have:=o 0 (by omega) _ rfl;rw[g6] at this;obtain⟨r,H,v,w⟩:=this;refine⟨r,H,(e _ _ _).trans ?_,w⟩;rw[if_neg (by simp)];refine(c _ _).trans ?_;rw[m6,C7,g,A6,cond_false,A6,cond_false];exact v
    ·rw[if_neg B];obtain⟨r,H,v,w⟩:=o (m+1) (by omega) _ rfl;refine⟨r,H,(e _ _ _).trans ?_,w⟩;rw[if_neg (by simp)];refine(c _ _).trans ?_;have j:A1 ((m:Int)+1)=((m+1:Nat):Int):=by rw[A7];rfl
     rw[m6,C7,g,A6,cond_false,A8,cond_true,j];exact v
theorem X4{R:Type}{d:LL->Option R}{e:By->Int->Int->Int->Int->LL->Option R}(s:By)(u:s.length<=1000000000)(n i m v c a:Nat)(l:LL)(q:a<m)(r:m<=4)(p:i+a<s.length)(w:v<=100000)(t:0<n) :
  Ek LF n s i m v c a l d e=if 128<=(s.getD (i+a) 0).toNat/\(s.getD (i+a) 0).toNat<=191 then Ek LF (n-1) s i m ((v*64+(s.getD (i+a) 0).toNat-128:Nat):Int) c ((a+1:Nat):Int) l d e else d l:=by
 have o:=(s.getD (i+a) 0).toNat_lt;obtain⟨n,rfl⟩:∃m,n=m+1:=⟨n-1,by omega⟩
 rw[Ek];have f:A1 ((i:Int)+a)=((i+a:Nat):Int):=by rw[A7];rfl
 have g:A1 ((a:Int)+1)=((a+1:Nat):Int):=by rw[A7];rfl
 rw[A8,f,g,E4,D0];generalize (s.getD (i+a) 0).toNat=b at *;simp only[cond_true,vl];rw[C4 (n:=(b:Int)) (by omega) (by omega),Nat.add_sub_cancel];by_cases j:b<128
 ·rw[A8,F8];rfl
 ·rw[A6,cond_false];by_cases k:191<b
  ·rw[A8,F8];rfl
  ·rw[A6,cond_false,R7];have h:A1 (A1 (A1 ((v:Int)*64)+(b:Int))-128)=((v*64+b-128:Nat):Int):=by
    rw[C4 (n:=(v:Int)*64) (by omega) (by omega),C4 (n:=(v:Int)*64+b) (by omega) (by omega),A7];omega
   rw[h]
theorem No{R:Type}{c:LL->Option R}{b:By->Int->Int->Int->Int->LL->Option R}(s:By)(n i m v a:Nat)(l:LL)(d:0<n) :
  Ek LF n s i m v a m l c b=b s i m v a l:=by
 obtain⟨n,rfl⟩:∃m,n=m+1:=⟨n-1,by omega⟩
 rw[Ek];rw[A6];rfl
theorem Ph{R:Type}{b:LL->Option R}{c:By->Int->LL->Option R}(s:By)(k:s.length<=1000000000)(i m v a:Nat)(P:List Nat)(e:P.length<=1000000000)(f:i+m<=s.length)(l:v<=10000000)(g:m<=4) :
  cond (ltI (v:Int) (a:Int)) (b (B3 P)) (cond (not (ptI v)) (b (B3 P)) (cond (F2 ((B3 P).length+1)) (c s (A1 ((i:Int)+m)) (B3 P++[[SV.int .i64 (v:Int)]])) none)) =
   if a<=v/\T9 v=true then c s ((i+m:Nat):Int) (B3 (P++[v])) else b (B3 P):=by
 have d:A1 ((i:Int)+m)=((i+m:Nat):Int):=by rw[A7];rfl
 rw[d,C7,E9 (by omega),Iz,show ptI (v:Int)=T9 v from rfl];by_cases h:v<a
 ·rw[A8,F8];rfl
 ·rw[A6,cond_false];cases j:T9 v with
  | false=>rw[if_neg (by simp)];rfl
  | true=>rw[if_pos ⟨by omega,rfl⟩];rfl
theorem Bj4{R:Type}{d:LL->Option R}{f:By->Int->LL->Option R}(s:By)(e:s.length<=1000000000)(i v a:Nat)(P:List Nat)(k:P.length<=1000000000)(m:i<s.length)(n:v<=32) :
  Cv LF s i 2 v a (B3 P) d f=if 2<=s.length-i/\128<=(s.getD (i+1) 0).toNat/\(s.getD (i+1) 0).toNat<=191 then
   (if a<=v*64+(s.getD (i+1) 0).toNat-128/\T9 (v*64+(s.getD (i+1) 0).toNat-128)=true then f s ((i+2:Nat):Int) (B3 (P++[v*64+(s.getD (i+1) 0).toNat-128])) else d (B3 P)) else d (B3 P):=by
 have l:=(s.getD (i+1) 0).toNat_lt;have j:=C1;unfold Cv;have g:A1 ((s.length:Int)-i)=((s.length-i:Nat):Int):=by rw[A7];omega
 rw[g];simp only[vl];by_cases h:s.length-i<2
 ·rw[A8,F8];rfl
 ·rw[A6,cond_false];refine a8 (X4 s e LF i 2 v a 1 (B3 P) (by omega) (by omega) (by omega) (by omega) (by omega)) ?_;generalize (s.getD (i+1) 0).toNat=b at *;by_cases c:128<=b/\b<=191
  ·rw[if_pos c,if_pos ⟨by omega,c⟩];refine a8 (No s (LF-1) i 2 _ a (B3 P) (by omega)) ?_;exact Ph s e i 2 _ a P k (by omega) (by omega) (by omega)
  ·rw[if_neg c,if_neg (λh=>c h.2)]
theorem Bj5{R:Type}{e:LL->Option R}{f:By->Int->LL->Option R}(s:By)(d:s.length<=1000000000)(i v a:Nat)(P:List Nat)(k:P.length<=1000000000)(n:i<s.length)(o:v<=32) :
  Cv LF s i 3 v a (B3 P) e f=if 3<=s.length-i/\(128<=(s.getD (i+1) 0).toNat/\(s.getD (i+1) 0).toNat<=191)/\(128<=(s.getD (i+2) 0).toNat/\(s.getD (i+2) 0).toNat<=191) then
   (if a<=(v*64+(s.getD (i+1) 0).toNat-128)*64+(s.getD (i+2) 0).toNat-128/\T9 ((v*64+(s.getD (i+1) 0).toNat-128)*64+(s.getD (i+2) 0).toNat-128)=true then f s ((i+3:Nat):Int) (B3 (P++[(v*64+(s.getD (i+1) 0).toNat-128)*64+(s.getD (i+2) 0).toNat-128])) else e (B3 P)) else e (B3 P):=by
 have m:=(s.getD (i+1) 0).toNat_lt;have l:=(s.getD (i+2) 0).toNat_lt;have j:=C1;unfold Cv;have g:A1 ((s.length:Int)-i)=((s.length-i:Nat):Int):=by rw[A7];omega
 rw[g];simp only[vl];by_cases h:s.length-i<3
 ·rw[A8,F8];rfl
 ·rw[A6,cond_false];refine a8 (X4 s d LF i 3 v a 1 (B3 P) (by omega) (by omega) (by omega) (by omega) (by omega)) ?_;by_cases b:128<=(s.getD (i+1) 0).toNat/\(s.getD (i+1) 0).toNat<=191
  ·rw[if_pos b];refine a8 (X4 s d (LF-1) i 3 _ a 2 (B3 P) (by omega) (by omega) (by omega) (by omega) (by omega)) ?_;by_cases c:128<=(s.getD (i+2) 0).toNat/\(s.getD (i+2) 0).toNat<=191
   ·rw[if_pos c,if_pos ⟨by omega,b,c⟩];refine a8 (No s (LF-2) i 3 _ a (B3 P) (by omega)) ?_;exact Ph s d i 3 _ a P k (by omega) (by omega) (by omega)
   ·rw[if_neg c,if_neg (λh=>c h.2.2)]
  ·rw[if_neg b,if_neg (λh=>b h.2.1)]
theorem Bj6{R:Type}{f:LL->Option R}{g:By->Int->LL->Option R}(s:By)(e:s.length<=1000000000)(i v a:Nat)(P:List Nat)(l:P.length<=1000000000)(p:i<s.length)(q:v<=20) :
  Cv LF s i 4 v a (B3 P) f g=if 4<=s.length-i/\(128<=(s.getD (i+1) 0).toNat/\(s.getD (i+1) 0).toNat<=191)/\(128<=(s.getD (i+2) 0).toNat/\(s.getD (i+2) 0).toNat<=191)/\(128<=(s.getD (i+3) 0).toNat/\(s.getD (i+3) 0).toNat<=191) then
   (if a<=((v*64+(s.getD (i+1) 0).toNat-128)*64+(s.getD (i+2) 0).toNat-128)*64+(s.getD (i+3) 0).toNat-128/\T9 (((v*64+(s.getD (i+1) 0).toNat-128)*64+(s.getD (i+2) 0).toNat-128)*64+(s.getD (i+3) 0).toNat-128)=true then g s ((i+4:Nat):Int) (B3 (P++[((v*64+(s.getD (i+1) 0).toNat-128)*64+(s.getD (i+2) 0).toNat-128)*64+(s.getD (i+3) 0).toNat-128])) else f (B3 P)) else f (B3 P):=by
 have o:=(s.getD (i+1) 0).toNat_lt;have m:=(s.getD (i+2) 0).toNat_lt;have n:=(s.getD (i+3) 0).toNat_lt;have k:=C1;unfold Cv;have j:A1 ((s.length:Int)-i)=((s.length-i:Nat):Int):=by rw[A7];omega
 rw[j];simp only[vl];by_cases h:s.length-i<4
 ·rw[A8,F8];rfl
 ·rw[A6,cond_false];refine a8 (X4 s e LF i 4 v a 1 (B3 P) (by omega) (by omega) (by omega) (by omega) (by omega)) ?_;by_cases b:128<=(s.getD (i+1) 0).toNat/\(s.getD (i+1) 0).toNat<=191
  ·rw[if_pos b];refine a8 (X4 s e (LF-1) i 4 _ a 2 (B3 P) (by omega) (by omega) (by omega) (by omega) (by omega)) ?_;by_cases c:128<=(s.getD (i+2) 0).toNat/\(s.getD (i+2) 0).toNat<=191
   ·rw[if_pos c];refine a8 (X4 s e (LF-2) i 4 _ a 3 (B3 P) (by omega) (by omega) (by omega) (by omega) (by omega)) ?_;by_cases d:128<=(s.getD (i+3) 0).toNat/\(s.getD (i+3) 0).toNat<=191
    ·rw[if_pos d,if_pos ⟨by omega,b,c,d⟩];refine a8 (No s (LF-3) i 4 _ a (B3 P) (by omega)) ?_;exact Ph s e i 4 _ a P l (by omega) (by omega) (by omega)
    ·rw[if_neg d,if_neg (λh=>d h.2.2.2)]
   ·rw[if_neg c,if_neg (λh=>c h.2.2.1)]
  ·rw[if_neg b,if_neg (λh=>b h.2.1)]
theorem Av6{R:Type}{a:By->Int->Int->LL->Option R}(n:Nat)(b:0<n)(s:By)(i v:Int)(l:LL):Vf LF n s i v l a=a s i v l:=by
 obtain⟨n,rfl⟩:∃m,n=m+1:=⟨n-1,by omega⟩
 rw[Vf]
theorem Av0{R:Type}{a:LL->Option R}{b:By->Int->LL->Option R}(s:By)(e:s.length<=1000000000)(i v:Nat)(P:List Nat)(d:P.length<=1000000000)(f:i<s.length)(g:v<128) :
  Ve LF s i v (B3 P) a b=b s ((i+1:Nat):Int) (B3 (P++[v])):=by
 unfold Ve;have c:A1 ((s.length:Int)-i)=((s.length-i:Nat):Int):=by rw[A7];omega
 rw[c];simp only[vl];rw[A6,cond_false];refine a8 (show _=cond (ltI (v:Int) ((0:Nat):Int)) (a (B3 P)) (cond (not (ptI v)) (a (B3 P)) (cond (F2 ((B3 P).length+1)) (b s (A1 ((i:Int)+(1:Nat))) (B3 P++[[SV.int .i64 (v:Int)]])) none)) from Av6 LF (by have:=C1;omega) _ _ _ _) ?_;rw[Ph s e i 1 v 0 P d (by omega) (by omega) (by omega),if_pos];refine⟨aa4 _,?_⟩;simp only[T9,j8,aa6,g7,x9];omega
theorem Bw7{v:Nat}(h:v<2048):T9 v=true:=by simp only[T9,j8,aa6,g7,x9];omega
theorem Av9{R:Type}{k0 k1:LL->Option R}(s:By)(h:s.length<=1000000000)(n i:Nat)(P:List Nat)(d:P.length<=1000000000)(f:i<s.length) :
  X5 LF (n+1) s i (B3 P) k0 k1=if (j1 (s.drop i)).1=65533/\(j1 (s.drop i)).2=1 then k0 (B3 P) else X5 LF n s ((i+(j1 (s.drop i)).2:Nat):Int) (B3 (P++[(j1 (s.drop i)).1])) k0 k1:=by
 have g:∀k,(s.drop i).getD k 0=s.getD (i+k) 0:=λk=>by grind
 have r:j1 (s.drop i)=o0 (s.length-i) (s.getD i 0).toNat (s.getD (i+1) 0).toNat (s.getD (i+2) 0).toNat (s.getD (i+3) 0).toNat:=by
  rw[Lib.decodeL_N,g,g,g,g,f6];rfl
 have v:=(s.getD i 0).toNat_lt;have j:=(s.getD (i+1) 0).toNat_lt;have m:=(s.getD (i+2) 0).toNat_lt;have t:=(s.getD (i+3) 0).toNat_lt;rw[r];rw[X5,A8,E4,D0,C4 (n:=((s.getD i 0).toNat:Int)) (by omega) (by omega)];simp only[cond_true];generalize (s.getD i 0).toNat=b at *;by_cases l:b<128
 ·rw[A8,cond_true];have e:o0 (s.length-i) b (s.getD (i+1) 0).toNat (s.getD (i+2) 0).toNat (s.getD (i+3) 0).toNat=(b,1):=by unfold o0;rw[if_pos l]
  rw[e];simp only;rw[F8];exact Av0 s h i b P d f l
 ·rw[E1 (show(128:Int)<=b by omega),cond_false];by_cases u:b<194
  ·rw[B4 (show(b:Int)<194 by omega)];have e:o0 (s.length-i) b (s.getD (i+1) 0).toNat (s.getD (i+2) 0).toNat (s.getD (i+3) 0).toNat=(65533,1):=by
    unfold o0;grind
   rw[e,if_pos ⟨rfl,rfl⟩];simp only[b9,cond_false];unfold Kx;unfold Kw;rw[cond_false,B4 (show(b:Int)<224 by omega),B4 (show(b:Int)<240 by omega)];rfl
  ·rw[E1 (show(194:Int)<=b by omega)];simp only[d7,cond_true];by_cases o:b<224
   ·rw[B4 (show(b:Int)<224 by omega)];unfold Kx;have c:A1 ((b:Int)-192)=((b-192:Nat):Int):=by rw[A7];omega
    rw[cond_true,c,C61 _ _ _ _ _ ⟨by omega,o⟩ j];simp only[vl];refine a8 (Bj4 s h i (b-192) 128 P d f (by omega)) ?_;by_cases a:2<=s.length-i/\128<=(s.getD (i+1) 0).toNat/\(s.getD (i+1) 0).toNat<=191
    ·rw[if_pos a,if_pos a];simp only;rw[if_pos ⟨by omega,Bw7 (by omega)⟩,F8]
    ·rw[if_neg a,if_neg a,if_pos ⟨rfl,rfl⟩]
   ·rw[E1 (show(224:Int)<=b by omega)];unfold Kx;rw[cond_false,E1 (show(224:Int)<=b by omega)];simp only[d7,cond_true];by_cases p:b<240
    ·rw[B4 (show(b:Int)<240 by omega)];unfold Kw;have c:A1 ((b:Int)-224)=((b-224:Nat):Int):=by rw[A7];omega
     rw[cond_true,c,C62 _ _ _ _ _ ⟨by omega,p⟩ j m];simp only[vl];refine a8 (Bj5 s h i (b-224) 2048 P d f (by omega)) ?_;by_cases a:3<=s.length-i/\(128<=(s.getD (i+1) 0).toNat/\(s.getD (i+1) 0).toNat<=191)/\(128<=(s.getD (i+2) 0).toNat/\(s.getD (i+2) 0).toNat<=191)
     ·rw[if_pos a,if_pos a];split
      ·simp only;rw[F8]
      ·rw[if_pos ⟨rfl,rfl⟩]
     ·rw[if_neg a,if_neg a,if_pos ⟨rfl,rfl⟩]
    ·rw[E1 (show(240:Int)<=b by omega)];unfold Kw;rw[cond_false,E1 (show(240:Int)<=b by omega)];simp only[d7,cond_true];by_cases q:b<245
     ·rw[B4 (show(b:Int)<245 by omega),cond_true];have c:A1 ((b:Int)-240)=((b-240:Nat):Int):=by rw[A7];omega
      rw[c,C63 _ _ _ _ _ ⟨by omega,q⟩ j m t];simp only[vl];refine a8 (Bj6 s h i (b-240) 65536 P d f (by omega)) ?_;by_cases a:4<=s.length-i/\(128<=(s.getD (i+1) 0).toNat/\(s.getD (i+1) 0).toNat<=191)/\(128<=(s.getD (i+2) 0).toNat/\(s.getD (i+2) 0).toNat<=191)/\(128<=(s.getD (i+3) 0).toNat/\(s.getD (i+3) 0).toNat<=191)
      ·rw[if_pos a,if_pos a];split
       ·simp only;rw[F8]
       ·rw[if_pos ⟨rfl,rfl⟩]
      ·rw[if_neg a,if_neg a,if_pos ⟨rfl,rfl⟩]
     ·rw[E1 (show(245:Int)<=b by omega),cond_false];have e:o0 (s.length-i) b (s.getD (i+1) 0).toNat (s.getD (i+2) 0).toNat (s.getD (i+3) 0).toNat=(65533,1):=by
       unfold o0;grind
      rw[e,if_pos ⟨rfl,rfl⟩]
theorem Bj7(s:By)(k:s.length<=1000000000):∀(r i n:Nat) (P:List Nat),i+r=s.length->r<n->P.length<=i->
  (Ci (s.drop i)=none->∃l,∀(R:Type) (k0 k1:LL->Option R),X5 LF n s i (B3 P) k0 k1=k0 l)/\
  (∀q,Ci (s.drop i)=some q->∀(R:Type) (k0 k1:LL->Option R),X5 LF n s i (B3 P) k0 k1=k1 (B3 (P++q))):=by
 intro r
 induction r using w8 with
 | _ r o=>
  intro i n P v w u;obtain⟨n,rfl⟩:∃m,n=m+1:=⟨n-1,by omega⟩
  by_cases j:i<s.length
  ·have d:s.drop i≠[]:=by rw[ne_eq,<-o5,f6];omega
   have c:=λ(R:Type) (k0 k1:LL->Option R)=>Av9 (k0:=k0) (k1:=k1) s k n i P (by omega) j
   have x:=Lib.decodeL_width (s.drop i);have g:=Lib.decodeL_le (s.drop i) d;rw[f6] at g;rw[Bh1 _ d];by_cases a:(j1 (s.drop i)).1=65533/\(j1 (s.drop i)).2=1
   ·rw[if_pos a];refine⟨λ_=>⟨B3 P,λR k0 k1=>?_⟩,λq b=>by cases b⟩;refine(c R k0 k1).trans ?_;rw[if_pos a]
   ·rw[if_neg a,aa8];obtain⟨w1,t⟩:=o (r-(j1 (s.drop i)).2) (by omega) (i+(j1 (s.drop i)).2) n (P++[(j1 (s.drop i)).1]) (by omega) (by omega) (by rw[d9,i6];omega);constructor
    ·intro h;cases b:Ci (s.drop (i+(j1 (s.drop i)).2)) with
     | some q=>rw[b] at h;cases h
     | none=>
      obtain⟨l,e⟩:=w1 b;refine⟨l,λR k0 k1=>?_⟩;refine(c R k0 k1).trans ?_;rw[if_neg a];exact e R k0 k1
    ·intro q h R k0 k1;cases b:Ci (s.drop (i+(j1 (s.drop i)).2)) with
     | none=>rw[b] at h;cases h
     | some p=>
      rw[b] at h;simp only[w9,j5] at h;subst h;refine(c R k0 k1).trans ?_;rw[if_neg a];refine(t p b R k0 k1).trans ?_;rw[j2];rfl
  ·have f:s.drop i=[]:=by rw[<-o5,f6];omega
   have e:∀(R:Type) (k0 k1:LL->Option R),X5 LF (n+1) s i (B3 P) k0 k1=k1 (B3 P):=λR k0 k1=>by
    rw[X5];rw[A6];rfl
   rw[f,show Ci []=some [] from rfl];refine⟨λh=>(by cases h),λq b R k0 k1=>?_⟩;simp only[j5] at b;subst b;rw[w6];exact e R k0 k1
theorem Ck6(s:By)(d:A3 s.length=true):∃r H,Ck3 LF s (λa=>rv (.tup [.fl 1,.s (.bool false)]) [.arr true 3 1 a,.arr true 3 1 []]) (λa=>rv (.tup [.fl 0,.s (.bool true)]) [.arr true 3 1 a])=rv r H/\
  r.stab [1,0] H = .tup [.s (.sl (Pp s).isEmpty (Pp s).isEmpty 1 (Ko (Pp s))),.s (.bool (Ci s).isSome)]:=by
 have f:=L6 d;obtain⟨w1,c⟩:=Bj7 s f s.length 0 LF [] (by omega) (by have:=C1;omega) (aa4 _);rw[g6] at w1 c;unfold Pp;cases b:Ci s with
 | none=>
  obtain⟨l,e⟩:=w1 b;exact⟨_,_,e _ _ _,rfl⟩
 | some q=>
  refine⟨_,_,c q b _ _ _,?_⟩;cases q<;>rfl
theorem Au7{R:Type}{a:Unit->Option R}{d:By->Bool->LL->Bool->Option R}(s:By)(z:Bool)(p:List Nat)(t:p.length<=1000000000):∀(r i n:Nat) (b:Bool),i+r=p.length->r<n->
  W3 LF n s z (B3 p) b (i:Int) a d=if (p.drop i).any (λp=>j4 65 p&&j4 p 90) then a () else d s z (B3 p) (b||((p.drop i).any λp=>j4 128 p)):=by
 intro r
 induction r with
 | zero=>
  intro i n b h j;obtain⟨n,rfl⟩:∃m,n=m+1:=⟨n-1,by omega⟩
  rw[W3];rw[C7,A6,d8 (by omega)];simp
 | succ r k=>
  intro i n b h j;obtain⟨n,rfl⟩:∃m,n=m+1:=⟨n-1,by omega⟩
  rw[W3];have f:A1 ((i:Int)+1)=((i+1:Nat):Int):=by rw[A7];rfl
  have g:p.drop i=p.getD i 0::p.drop (i+1):=by
   rw[f8,j7 (by omega),o9,v7]
  rw[C7,A8,E4,c9,Ox (by omega),Xy _ _ (by omega),g,x7,x7,f];simp only[cond_true];generalize p.getD i 0=q;have go:∀c:Bool,W3 LF n s z (B3 p) c ((i+1:Nat):Int) a d=_:=λc=>k (i+1) n c (by omega) (by omega)
  simp only[go];by_cases l:q<65
  ·rw[show ltI (q:Int) (65:Int)=true from A8,show j4 65 q=false by rw[f9,ne_eq,g7];omega];have e:j4 128 q=false:=by rw[f9,ne_eq,g7];omega
   rw[show ltI (q:Int) (128:Int)=true from A8,e];cases b<;>simp
  ·rw[show ltI (q:Int) (65:Int)=false from A6,show j4 65 q=true by rw[g7];omega];by_cases e:90<q
   ·rw[show ltI (90:Int) (q:Int)=true from A8,show j4 q 90=false by rw[f9,ne_eq,g7];omega];by_cases o:q<128
    ·rw[show ltI (q:Int) (128:Int)=true from A8,show j4 128 q=false by rw[f9,ne_eq,g7];omega];cases b<;>simp
    ·rw[show ltI (q:Int) (128:Int)=false from A6,show j4 128 q=true by rw[g7];omega];cases b<;>simp
   ·rw[show ltI (90:Int) (q:Int)=false from A6,show j4 q 90=true by rw[g7];omega];cases b<;>simp
theorem Au8{R:Type}{a:Bool->Option R}(s:By)(b:A3 s.length=true):A85 LF s a=a (Ct s):=by
 have c:=C1;unfold A85 Ct;rw[b,cond_true];simp only[vl];by_cases h:(M6 s).2=0
 ·have e:(((M6 s).2:Int)!=(0:Int))=false:=by rw[h];rfl
  rw[e,cond_false,Cg,h];have g:=UZ s;refine a8 (Au7 s _ (M6 s).1 (by omega) (M6 s).1.length 0 LF false (by omega) (by omega)) ?_;rw[g6];cases d:(M6 s).1.any (λp=>j4 65 p&&j4 p 90) with
  | true=>simp
  | false=>
   rw[if_neg (by simp),Cq,Tg,Ti];simp only[cond_true,vl,x6,d7];by_cases f:(Bz (M6 s).1).2=0;all_goals grind
 grind
theorem As8{R:Type}{g:Unit->Option R}{j:By->Option R}(s:By)(v:s.length<=1000000000):∀(r i n:Nat),i+r=s.length->r<n->
  N0 LF n s (i:Int) g j=if (s.drop i).all S9 then j s else g ():=by
 intro r
 induction r with
 | zero=>
  intro i n l c;obtain⟨n,rfl⟩:∃m,n=m+1:=⟨n-1,by omega⟩
  rw[N0];rw[A6,d8 (by omega)];rfl
 | succ r o=>
  intro i n l c;obtain⟨n,rfl⟩:∃m,n=m+1:=⟨n-1,by omega⟩
  rw[N0];have k:A1 ((i:Int)+1)=((i+1:Nat):Int):=by rw[A7];rfl
  rw[A8,E4,D0,D1 s i (by omega),k,s9];simp only[cond_true];rw[o (i+1) n (by omega) (by omega)];generalize s.getD i 0=b;have f:=Ng b;have t:((b.toNat:Int)==45)=(b==45):=P7 b 45 (by omega);have u:((b.toNat:Int)==95)=(b==95):=P7 b 95 (by omega);rw[t,u];cases a:S9 b with
  | true=>
   rw[f] at a;simp only[p4];by_cases d:b=45
   ·subst d;simp (disch:=decide) [ltI]
   ·by_cases e:b=95
    ·subst e;simp (disch:=decide) [ltI]
    ·rcases a with a|a|a|a
     ·rw[show ltI (b.toNat:Int) 97=false from A6,show ltI (122:Int) b.toNat=false from A6];rfl
     ·rw[show ltI (b.toNat:Int) 97=true from A8,show ltI (b.toNat:Int) 48=false from A6,show ltI (57:Int) b.toNat=false from A6];rfl
     ·exact absurd a d
     ·exact absurd a e
  | false=>
   have c:¬((97<=b.toNat/\b.toNat<=122)\/(48<=b.toNat/\b.toNat<=57)\/b=45\/b=95):=λh=>by rw[f.2 h] at a;cases a
   have p:(b==45)=false:=by simpa using λh=>c (.inr (.inr (.inl h)))
   have q:(b==95)=false:=by simpa using λh=>c (.inr (.inr (.inr h)))
   rw[p,q];simp only[d7,cond_true,cond_false,Bool.false_and,x8,if_false];by_cases d:b.toNat<48
   ·rw[show ltI (b.toNat:Int) 97=true from A8,show ltI (b.toNat:Int) 48=true from A8];rfl
   ·by_cases e:b.toNat<97
    ·rw[show ltI (b.toNat:Int) 97=true from A8,show ltI (b.toNat:Int) 48=false from A6,show ltI (57:Int) b.toNat=true from A8];rfl
    ·rw[show ltI (b.toNat:Int) 97=false from A6,show ltI (122:Int) b.toNat=true from A8,show ltI (b.toNat:Int) 48=false from A6,show ltI (57:Int) b.toNat=true from A8];rfl
theorem B42(s:By)(h:4<=s.length):(s.take 4==([120,110,45,45]:List UInt8))=xnB.isPrefixOf s:=by
 match s,h with
 | a::b::c::d::t,_=>
  simp only[List.take_succ_cons,List.take_zero,xnB,List.isPrefixOf,x5];rw[show((a::b::c::d::[])==([120,110,45,45]:List UInt8))=(a==120&&(b==110&&(c==45&&(d==45&&true)))) from rfl,x5];rw[v8];simp only[j8,beq_iff_eq];exact⟨λh=>⟨h.1.symm,h.2.1.symm,h.2.2.1.symm,h.2.2.2.symm⟩,λh=>⟨h.1.symm,h.2.1.symm,h.2.2.1.symm,h.2.2.2.symm⟩⟩
theorem As9{R:Type}{c:Bool->Option R}(s:By)(e:A3 s.length=true):A81 LF s c=c (K2 s):=by
 have k:=L6 e;have i:=C1;unfold A81 K2;by_cases a:s=[]
 ·grind
 ·have r:0<s.length:=m7.2 a;have j:s.isEmpty=false:=by simpa using a
  have b:(s==([]:List UInt8))=false:=by simpa using a
  rw[b,cond_false,j];by_cases n:63<s.length
  ·rw[A8,show j4 s.length 63=false by rw[f9,ne_eq,g7];omega];rfl
  ·rw[A6,cond_false,show j4 s.length 63=true by rw[g7];omega,E4];have m:(bAt s 0==(45:Int))=(s.getD 0 0==45):=by rw[Z0];exact P7 _ 45 (by omega)
   have d:A1 ((s.length:Int)-1)=((s.length-1:Nat):Int):=by rw[A7];omega
   rw[m,d];simp only[cond_true,vl];rw[E4,D0,show((((s.getD (s.length-1) 0).toNat:Nat):Int)==45)=(s.getD (s.length-1) 0==45) from P7 _ 45 (by omega)];cases f:(s.getD 0 0==45) with
   | true=>
    grind
   | false=>
    rw[show(s.getD 0 0 !=45)=true by unfold bne;rw[f];rfl];simp only[cond_true,cond_false];cases g:(s.getD (s.length-1) 0==45) with
    | true=>
     grind
    | false=>
     rw[show(s.getD (s.length-1) 0 !=45)=true by unfold bne;rw[g];rfl];simp only[cond_false];refine a8 (As8 s k s.length 0 LF (by omega) (by omega)) ?_;rw[g6];cases o:s.all S9 with
     | false=>simp
     | true=>
      rw[if_pos rfl];simp only[d7,p4,x5];by_cases p:s.length<4
      ·rw[A8];have:xnB.isPrefixOf s=false:=by
        rw[f9,ne_eq,s7];intro h;have:=h.length_le;simp only[xnB,k9,m5] at this;omega
       grind
      ·rw[A6,cond_false,H9,cond_true,J5];have l:(o8 (b8 4) s==([120,110,45,45]:List UInt8))=xnB.isPrefixOf s:=B42 s (by omega);rw[l];cases q:xnB.isPrefixOf s with
       | false=>rfl
       | true=>
        rw[H9,P8];simp only[b9,cond_false,cond_true];rw[D9 (by rw[f6];omega)];rfl
theorem As6{R:Type}{h:By->Int->Option R}(s:By)(c:A3 s.length=true):A80 LF s h=h (I1 s).1 ((I1 s).2:Nat):=by
 have m:=L6 c;have j:=C1;unfold A80 I1;rw[c,cond_true];cases f:Ci s with
 | none=>rfl
 | some p=>
  have hN:(Pp s)=p:=by unfold Pp;rw[f];rfl
  rw[hN,Cg,C7];simp only[y4,b9,cond_false,cond_true];by_cases d:256<p.length
  ·rw[if_pos d,A8];rfl
  ·rw[if_neg d,A6,cond_false,D9 (by rw[Ev];exact m)];by_cases e:p.length<s.length
   ·rw[if_pos e,A8];have a:=XE (l:=s) (by rw[f];rfl);cases g:Ci (B5 s) with
    | none=>rw[g] at a;cases a
    | some q=>
     have b:Pp (B5 s)=q:=by unfold Pp;rw[g];rfl
     have k:=VG q;rw[b,Cg,Cq,Tg,Ti];simp only[cond_true,vl];rw[N3 (by omega),cond_true,D9 (by rw[d9];simp only[k9,m5];omega),cond_true];by_cases i:(Bz q).2=0
     ·rw[i,if_pos rfl];show cond (not (K2 (xnB++(Bz q).1))) _ _=_;cases n:K2 (xnB++(Bz q).1) with
      | true=>rfl
      | false=>rfl
     grind
   ·rw[if_neg e,A6];grind
section
variable {Z R : Type} (L : Nat) (Q : F6) (Y : Yh Z) (s : Z) (k : Out -> St Z -> Option R)
noncomputable abbrev EH:Code:=C8 z7
noncomputable def Pt(L:Nat):Cfg:=B7 L [115] (A4 []) [] (A4 [(7,[2]),(2,[2]),(4,[2]),(6,[2]),(5,[0,23]),(3,[0,12]),(1,[0,2]),(0,[0])]) [] (A4 [(0,[])]) (some [2]) [] [] []
noncomputable def HC{R:Type}(a:Int)(h:Bool)(f:Int->Option R)(g:Int->Bool->Option R):Option R:=cond h (vl (A1 (wu8 (a-97))) λb=>vl (A1 (b+10)) λc=>f c) (cond (not (ltI a 65)) (cond (not (ltI 70 a)) (vl (A1 (wu8 (a-65))) λd=>vl (A1 (d+10)) λe=>f e) (g a (not (ltI 70 a)))) (g a false))
abbrev XQ(b:Code):Prop:=∀(k:Out->St Z->Option R) a c,A9 (Pt L) Q Y b ⟨gp [(0,p8 a),(12,pB c)] 21,[],s⟩ k=HC a c (λn0=>k .ret ⟨gp [(2,pI n0)] 32,[],s⟩) (λa c=>k .normal ⟨gp [(0,p8 a),(23,pB c)] 10,[],s⟩)
theorem Bi4:XQ (R:=R) L Q Y s (cd [1,0,0,1,1,1] EH):=by intro k a b;unfold HC;kernel_rfl
noncomputable def HD{R:Type}(b:Int)(l:Bool)(f:Int->Option R)(j:Int->Bool->Option R):Option R:=cond l (vl (A1 (wu8 (b-48))) λg=>f g) (cond (not (ltI b 97)) (HC b (not (ltI 102 b)) (λh=>f h) (λc d=>j c d)) (HC b false (λi=>f i) (λe a=>j e a)))
abbrev HE(b:Code):Prop:=∀(k:Out->St Z->Option R) a c,A9 (Pt L) Q Y b ⟨gp [(0,p8 a),(2,pB c)] 31,[],s⟩ k=HD a c (λn0=>k .ret ⟨gp [(2,pI n0)] 32,[],s⟩) (λa c=>k .normal ⟨gp [(0,p8 a),(23,pB c)] 10,[],s⟩)
theorem Bi5(a:Code)(b:XQ (R:=R) L Q Y s a):HE (R:=R) L Q Y s (cd [1,0,0,1] (G2 [1,0,0,1,1,1] a EH)):=by intro k c d;unfold HD;simp only[<-b k];kernel_rfl
theorem Bi6:HE (R:=R) L Q Y s (cd [1,0,0,1] EH):=by intro k a b;exact a8 (by kernel_rfl) (Bi5 L Q Y s (cd [1,0,0,1,1,1] EH) (Bi4 L Q Y s) k a b)
noncomputable def rhx{R:Type}(L:Nat)(c:Int)(d:Int->Option R):Option R:=cond (not (ltI c 48)) (HD c (not (ltI 57 c)) (λa=>d a) (λe f=>d (-1))) (HD c false (λb=>d b) (λg h=>d (-1)))
theorem Cw9(b:Code)(a:HE (R:=PV × List Blk × Z) L Q Y s b)(c:Int):A9 (Pt L) Q Y (cd [] (G2 [1,0,0,1] b EH)) ⟨[p8 c]++tps 34,[],s⟩ (F5 (Pt L) z7)=rhx L c (λe=>some (pI e,[],s)):=by unfold rhx;exact let d:=(E3 0 (E2 (Pt L) Q Y (cd [1,1] EH) (F5 (Pt L) z7)));(a8 (by kernel_rfl) (A0 ((a d c (not (ltI 57 c))).trans (by kernel_rfl)) ((a d c false).trans (by kernel_rfl))))
theorem Cx0(d:Nat)(b0):evC (Pt L) (d+1) Z Y 115 [p8 b0] [] s=rhx L b0 (λa=>some (pI a,[],s)):=
 (evE (fn:=z7) (by kernel_rfl)).trans (a8 (by kernel_rfl) (Cw9 L (evC (Pt L) d) Y s (cd [1,0,0,1] EH) (Bi6 L (evC (Pt L) d) Y s) b0))
noncomputable abbrev A42:Code:=C8 ab8
noncomputable def Jz(L:Nat):Cfg:=B7 L [85] (A4 [(3,[0,1,0,0,0])]) [(115,Cr5)] (A4 [(11,[2,0]),(4,[0,3,0]),(10,[0,3,0]),(9,[0,3,0]),(8,[2,0]),(7,[0,3,0,36]),(6,[0,3,0]),(5,[0,3,0,9]),(3,[0,3,0,3]),(2,[0,3,0]),(1,[0,3]),(0,[0])]) [115] (A4 [(0,[4]),(1,[0,3,0])]) (some [2,0]) [] [] []
noncomputable def N9{R:Type}(L n:Nat)(b:By)(a:Int)(c:LL)(d:LL->Option R)(j:LL->Option R):Option R:=match n with|0=>none|n+1=>cond (ltI a (b.length:Int)) (cond (inR a b.length) (cond ((bAt b a)!=37) (cond (inR a b.length) (cond (F2 (c.length+1)) (N9 L n b (A1 (a+1)) (c++[[(SV.int .u8 (bAt b a))]]) d j) none) none) (vl (A1 ((b.length:Int)-a)) λl=>cond (ltI l 3) (d c) (cond (inR (A1 (a+1)) b.length) (vl (bAt b (A1 (a+1))) λf=>cond (inR f 256) (cond (ltI (Dw (u8n f)) (0:Int)) (d c) (cond (inR (A1 (a+2)) b.length) (vl (bAt b (A1 (a+2))) λg=>cond (inR g 256) (cond (ltI (Dw (u8n g)) (0:Int)) (d c) (cond (inR (A1 (a+1)) b.length) (vl (bAt b (A1 (a+1))) λh=>cond (inR h 256) (vl (A1 ((16:Int)*(Dw (u8n h)))) λm=>cond (inR (A1 (a+2)) b.length) (vl (bAt b (A1 (a+2))) λi=>cond (inR i 256) (vl (A1 (m+(Dw (u8n i)))) λo=>cond (F2 (c.length+1)) (vl (A1 ((A1 (a+2))+1)) λe=>N9 L n b e (c++[[(SV.int .u8 (wu8 o))]]) d j) none) none) none) none) none)) none) none)) none) none))) none) (j c)
theorem XP(n s0 i1 l2):C9 1 ((Jz L).keep 3) (bd (Jz L) Q Y (cd [1,1,0,1,0,0] A42)) n ⟨gp [(0,pS s0),(3,.fl 0),(0,pI i1)] 57,[.arr true 5 1 l2],s⟩ k =
 N9 L n s0 i1 l2 (λa=>k .ret ⟨gp [(2,pS ([]:List UInt8)),(0,pB false)] 59,[.arr true 5 1 a],s⟩) (λa=>k (.exit 0) ⟨gp [(4,.fl 0)] 58,[.arr true 5 1 a],s⟩):=by
 induction n generalizing s0 i1 l2 with
 | zero=>rfl
 | succ n b=>rw[N9];simp only[<-b];kernel_rfl
noncomputable def A79{R:Type}(L:Nat)(d:By)(c:By->Bool->LL->Option R):Option R:=N9 L L d 0 [] (λb=>c ([]:List UInt8) false b) (λa=>cond (y7 a Mb) (c (t8 Kd a) true a) none)
theorem B10(d:Nat)(s0):evC (Jz L) (d+1) Z Y 85 [pS s0] [] s=A79 L s0 (λb c a=>some (.tup [pS b,pB c],[.arr true 5 1 a],s)):=by refine(evE (fn:=ab8) (by kernel_rfl)).trans ?_;generalize evC (Jz L) d=Q;unfold A79;exact(a8 (by kernel_rfl) ((XP L Q Y s (E3 0 (E2 (Jz L) Q Y (cd [1,1,1] A42) (F5 (Jz L) ab8))) L s0 0 []).trans (by kernel_rfl)))
noncomputable def Va{R:Type}(L n:Nat)(b:LL)(a:Int)(c:Unit->Option R)(d:Unit->Option R):Option R:=match n with|0=>none|n+1=>cond (ltI a (b.length:Int)) (cond (inR a b.length) (cond (okE Ps b (b8 a) 0) (cond (A3 (f7 (gX b (b8 a) 0))) (cond (not (K2 (gX b (b8 a) 0))) (c ()) (Va L n b (A1 (a+1)) c d)) none) none) none) (d ())
noncomputable def C47{R:Type}(L:Nat)(a:By)(b:Bool->Option R):Option R:=cond (a==[]) (b false) (cond (ltI 253 (a.length:Int)) (b false) (cond (A3 a.length) (cond (F4 a) (b false) (cond (A3 a.length) (vl (D4 (pcs (u8n (46:Int)) a)) λc=>Va L L c 0 (λ_=>b false) (λ_=>b true)) none)) none))
end
section
variable {Z R : Type} (L : Nat) (Q : F6) (Y : Yh Z) (s : Z) (k : Out -> St Z -> Option R)
noncomputable abbrev Q4:Code:=C8 ab1
noncomputable def J4(L:Nat):Cfg:=B7 L [63] (A4 [(23,[2,0,6,0,0])]) [(84,Br1),(85,A26),(86,DJ),(87,A30),(88,Ml),(89,A27)] (A4 [(35,[2,0]),(34,[2,0]),(33,[2,7,108]),(32,[2,0]),(31,[2,7,105]),(24,[2,7,0,0]),(30,[2,7,0,0]),(29,[2,7,0,0,0]),(28,[2,7,0,0,0,94]),(27,[2,0]),(26,[2,7,0,0,0,0,89]),(25,[2,7,0,0,0,0]),(23,[2,7,0,0,79]),(22,[2,7,0,0]),(21,[2,7,0]),(20,[2,3,3]),(19,[2,0]),(18,[2,0]),(17,[2,5,74]),(16,[2,5,0]),(15,[2,3,69]),(14,[2,3]),(13,[2,3,62]),(12,[2,0]),(11,[2,3,51]),(10,[2,3,0]),(9,[2,0]),(8,[2,0]),(7,[2,1,43]),(6,[2,1,0]),(5,[2,0]),(4,[0,1,33]),(3,[0,1,22]),(2,[2,0]),(1,[0,1,14]),(0,[0,1])]) [85,86,87,89] (A4 [(0,[2,7]),(1,[2,7,0,0])]) (some [2,0]) [] [] []
noncomputable def Fx{R:Type}(b:By)(e:Bool)(f:Unit->Option R)(g:Int->Int->Int->Int->Int->Int->Int->Int->Int->Int->LL->Option R)(h:By->Bool->Option R):Option R:=cond e (vl (A1 ((b.length:Int)-1)) λd=>cond (inR d b.length) (cond ((bAt b d)!=93) (f ()) (cond (ltI (b.length:Int) (2:Int)) (f ()) (vl (A1 ((b.length:Int)-1)) λc=>cond (I5 1 c b.length) (vl (cut b 1 c) λa=>cond (A3 a.length) (cond (not (p5 (v6B a))) (g 14 0 0 0 0 0 0 0 0 0 [[(SV.int .u16 (↑(v6c 0 a):Int))],[(SV.int .u16 (↑(v6c 1 a):Int))],[(SV.int .u16 (↑(v6c 2 a):Int))],[(SV.int .u16 (↑(v6c 3 a):Int))],[(SV.int .u16 (↑(v6c 4 a):Int))],[(SV.int .u16 (↑(v6c 5 a):Int))],[(SV.int .u16 (↑(v6c 6 a):Int))],[(SV.int .u16 (↑(v6c 7 a):Int))]]) (g 0 3 (↑(v6c 0 a):Int) (↑(v6c 1 a):Int) (↑(v6c 2 a):Int) (↑(v6c 3 a):Int) (↑(v6c 4 a):Int) (↑(v6c 5 a):Int) (↑(v6c 6 a):Int) (↑(v6c 7 a):Int) [[(SV.int .u16 (↑(v6c 0 a):Int))],[(SV.int .u16 (↑(v6c 1 a):Int))],[(SV.int .u16 (↑(v6c 2 a):Int))],[(SV.int .u16 (↑(v6c 3 a):Int))],[(SV.int .u16 (↑(v6c 4 a):Int))],[(SV.int .u16 (↑(v6c 5 a):Int))],[(SV.int .u16 (↑(v6c 6 a):Int))],[(SV.int .u16 (↑(v6c 7 a):Int))]])) none) none))) none) (h b e)
abbrev Ux(b:Code):Prop:=∀(k:Out->St Z->Option R) a c,A9 (J4 L) Q Y b ⟨gp [(0,pS a),(1,.ptr 0 0 0),(22,pB c)] 97,[.box [pI (0:Int),pS ([]:List UInt8),p32 (0:Int),p16 (0:Int),p16 (0:Int),p16 (0:Int),p16 (0:Int),p16 (0:Int),p16 (0:Int),p16 (0:Int),p16 (0:Int)]],s⟩ k=Fx a c (λ_=>k .ret ⟨gp [(2,.ptr 0 0 0),(0,pI (14:Int))] 119,[.box [pI (0:Int),pS ([]:List UInt8),p32 (0:Int),p16 (0:Int),p16 (0:Int),p16 (0:Int),p16 (0:Int),p16 (0:Int),p16 (0:Int),p16 (0:Int),p16 (0:Int)]],s⟩) (λn0 d e f g h i j n8 l l10=>k .ret ⟨gp [(2,.ptr 0 0 0),(0,pI n0)] 119,[.box [pI d,pS ([]:List UInt8),p32 (0:Int),p16 e,p16 f,p16 g,p16 h,p16 i,p16 j,p16 n8,p16 l],.arr false 25 1 l10],s⟩) (λa c=>k .normal ⟨gp [(0,pS a),(1,.ptr 0 0 0),(22,pB c)] 97,[.box [pI (0:Int),pS ([]:List UInt8),p32 (0:Int),p16 (0:Int),p16 (0:Int),p16 (0:Int),p16 (0:Int),p16 (0:Int),p16 (0:Int),p16 (0:Int),p16 (0:Int)]],s⟩)
theorem IR:Ux (R:=R) L Q Y s (cd [1,1,0,1] Q4):=by intro k a b;unfold Fx;kernel_rfl
noncomputable def I9{R:Type}(L n:Nat)(a:By)(e:LL)(c:Int)(g:Int->Option R)(h:By->Option R):Option R:=match n with|0=>none|n+1=>cond (ltI c (e.length:Int)) (cond (inR c e.length) (cond (okE Ps e (b8 c) 0) (cond (A3 (f7 (gX e (b8 c) 0))) (vl ((I1 (gX e (b8 c) 0))).1 λb=>vl (↑((I1 (gX e (b8 c) 0))).2:Int) λd=>cond (d !=0) (g d) (cond (ltI 0 c) (cond (K8 a.length 1) (vl (a++[46]) λf=>cond (K8 f.length b.length) (I9 L n (f++b) e (A1 (c+1)) g h) none) none) (cond (K8 a.length b.length) (I9 L n (a++b) e (A1 (c+1)) g h) none))) none) none) none) (h a)
theorem Py(n a p1 i2):C9 1 ((J4 L).keep 23) (bd (J4 L) Q Y (cd [1,1,1,1,1,1,1,1,1,0,1,0,0] Q4)) n ⟨gp [(2,.ptr 0 0 0),(7,pS a),(0,.s (.sl false false 1 p1)),(0,pI i2)] 110,[.box [pI (0:Int),pS ([]:List UInt8),p32 (0:Int),p16 (0:Int),p16 (0:Int),p16 (0:Int),p16 (0:Int),p16 (0:Int),p16 (0:Int),p16 (0:Int),p16 (0:Int)]],s⟩ k =
 I9 L n a p1 i2 (λn0=>k .ret ⟨gp [(2,.ptr 0 0 0),(0,pI n0)] 119,[.box [pI (0:Int),pS ([]:List UInt8),p32 (0:Int),p16 (0:Int),p16 (0:Int),p16 (0:Int),p16 (0:Int),p16 (0:Int),p16 (0:Int),p16 (0:Int),p16 (0:Int)]],s⟩) (λa=>k (.exit 0) ⟨gp [(2,.ptr 0 0 0),(7,pS a)] 112,[.box [pI (0:Int),pS ([]:List UInt8),p32 (0:Int),p16 (0:Int),p16 (0:Int),p16 (0:Int),p16 (0:Int),p16 (0:Int),p16 (0:Int),p16 (0:Int),p16 (0:Int)]],s⟩):=by
 induction n generalizing a p1 i2 with
 | zero=>rfl
 | succ n b=>rw[I9];simp only[<-b];kernel_rfl
noncomputable def Cj{R:Type}(L:Nat)(b:By)(c:Int->Int->By->Int->Option R):Option R:=cond (A3 b.length) (cond (F4 b) (cond (A3 b.length) (cond (not (p5 (pnB b))) (c 14 0 ([]:List UInt8) 0) (c 0 2 ([]:List UInt8) (↑(L9 (pnB b)):Int))) none) (cond (A3 b.length) (vl (D4 (pcs (u8n (46:Int)) b)) λd=>I9 L L ([]:List UInt8) d 0 (λe=>c e 0 ([]:List UInt8) 0) (λa=>cond (ltI 253 (a.length:Int)) (c 3 0 ([]:List UInt8) 0) (cond (A3 a.length) (cond (F4 a) (c 14 0 ([]:List UInt8) 0) (c 0 1 a 0)) none))) none)) none
abbrev Uy(b:Code):Prop:=∀(k:Out->St Z->Option R) s0,A9 (J4 L) Q Y b ⟨gp [(2,.ptr 0 0 0),(3,pS s0)] 116,[.box [pI (0:Int),pS ([]:List UInt8),p32 (0:Int),p16 (0:Int),p16 (0:Int),p16 (0:Int),p16 (0:Int),p16 (0:Int),p16 (0:Int),p16 (0:Int),p16 (0:Int)]],s⟩ k=Cj L s0 (λn0 a d c=>k .ret ⟨gp [(2,.ptr 0 0 0),(0,pI n0)] 119,[.box [pI a,pS d,p32 c,p16 (0:Int),p16 (0:Int),p16 (0:Int),p16 (0:Int),p16 (0:Int),p16 (0:Int),p16 (0:Int),p16 (0:Int)]],s⟩)
theorem IS:Uy (R:=R) L Q Y s (cd [1,1,1,1,1,1] Q4):=by intro k b;unfold Cj;exact(a8 (by kernel_rfl) (A0 (A0 (A0 (A0 rfl rfl) rfl) (A0 (A2 λa=>((Py L Q Y s (E3 0 (E2 (J4 L) Q Y (cd [1,1,1,1,1,1,1,1,1,1] Q4) k)) L ([]:List UInt8) a 0).trans (by kernel_rfl))) rfl)) rfl))
noncomputable def Ku{R:Type}(L:Nat)(b:By)(c:Int->Int->By->Int->Option R):Option R:=cond (A3 b.length) (cond (F4 b) (cond (A3 b.length) (cond (not (p5 (pnB b))) (c 14 0 ([]:List UInt8) 0) (c 0 2 ([]:List UInt8) (↑(L9 (pnB b)):Int))) none) (cond (A3 b.length) (vl (D4 (pcs (u8n (46:Int)) b)) λd=>I9 L L ([]:List UInt8) d 0 (λe=>c e 0 ([]:List UInt8) 0) (λa=>cond (ltI 253 (a.length:Int)) (c 3 0 ([]:List UInt8) 0) (cond (A3 a.length) (cond (F4 a) (c 14 0 ([]:List UInt8) 0) (c 0 1 a 0)) none))) none)) none
abbrev Uz(b:Code):Prop:=∀(k:Out->St Z->Option R) s0 b1,A9 (J4 L) Q Y b ⟨gp [(2,.ptr 0 0 0),(3,pS s0),(62,pB b1)] 53,[.box [pI (0:Int),pS ([]:List UInt8),p32 (0:Int),p16 (0:Int),p16 (0:Int),p16 (0:Int),p16 (0:Int),p16 (0:Int),p16 (0:Int),p16 (0:Int),p16 (0:Int)]],s⟩ k=Ku L s0 (λn0 a d c=>k .ret ⟨gp [(2,.ptr 0 0 0),(0,pI n0)] 119,[.box [pI a,pS d,p32 c,p16 (0:Int),p16 (0:Int),p16 (0:Int),p16 (0:Int),p16 (0:Int),p16 (0:Int),p16 (0:Int),p16 (0:Int)]],s⟩)
theorem IU:Uz (R:=R) L Q Y s (cd [1,1,1,1,1,1] Q4):=by intro k c b;unfold Ku;exact(a8 (by kernel_rfl) (A0 (A0 (A0 (A0 rfl rfl) rfl) (A0 (A2 λa=>((Py L Q Y s (E3 0 (E2 (J4 L) Q Y (cd [1,1,1,1,1,1,1,1,1,1] Q4) k)) L ([]:List UInt8) a 0).trans (by kernel_rfl))) rfl)) rfl))
noncomputable def Ck{R:Type}(L:Nat)(a:By)(r:Int->Int->By->Int->Option R):Option R:=cond (A3 a.length) (cond (not (p5 (R1 a))) (r 14 0 ([]:List UInt8) 0) (cond (not ((Ed a)==[])) (vl (A1 ((↑(f7 (Ed a)):Int)-1)) λb=>cond (inR b (f7 (Ed a))) (cond ((bAt (Ed a) b)==46) (vl (A1 ((↑(f7 (Ed a)):Int)-1)) λc=>cond (I5 0 c (f7 (Ed a))) (vl (cut (Ed a) (0:Int) c) λn=>Cj L n (λd e o f=>r d e o f)) none) (Ku L (Ed a) (λg h p i=>r g h p i))) none) (Ku L (Ed a) (λj l q m=>r j l q m)))) none
abbrev Kv(b:Code):Prop:=∀(k:Out->St Z->Option R) raw0 b1,A9 (J4 L) Q Y b ⟨gp [(0,pS raw0),(1,.ptr 0 0 0),(22,pB b1)] 97,[.box [pI (0:Int),pS ([]:List UInt8),p32 (0:Int),p16 (0:Int),p16 (0:Int),p16 (0:Int),p16 (0:Int),p16 (0:Int),p16 (0:Int),p16 (0:Int),p16 (0:Int)]],s⟩ k=Ck L raw0 (λn0 a d c=>k .ret ⟨gp [(2,.ptr 0 0 0),(0,pI n0)] 119,[.box [pI a,pS d,p32 c,p16 (0:Int),p16 (0:Int),p16 (0:Int),p16 (0:Int),p16 (0:Int),p16 (0:Int),p16 (0:Int),p16 (0:Int)]],s⟩)
theorem IV(b:Code)(c:Uy (R:=R) L Q Y s b)(a:Uz (R:=R) L Q Y s b):Kv (R:=R) L Q Y s (cd [1,1,1] (G2 [1,1,1,1,1,1] b Q4)):=by intro k d h;unfold Ck;exact(a8 (by kernel_rfl) (A0 (A0 rfl (A0 (A2 λe=>(A0 (A0 (A2 λg=>(A0 (A2 λf=>((c k f).trans (by kernel_rfl))) rfl)) ((a k (Ed d) ((bAt (Ed d) e)==46)).trans (by kernel_rfl))) rfl)) ((a k (Ed d) false).trans (by kernel_rfl)))) rfl))
theorem IW:Kv (R:=R) L Q Y s (cd [1,1,1] Q4):=by intro k a b;exact a8 (by kernel_rfl) (IV L Q Y s (cd [1,1,1,1,1,1] Q4) (IS L Q Y s) (IU L Q Y s) k a b)
noncomputable def Uw{R:Type}(L:Nat)(a:By)(j:Int->By->Int->Int->Int->By->Int->Option R)(O:Int->Int->Int->Int->Int->Int->Int->Int->Int->Int->LL->Option R):Option R:=cond (ltI 1024 (a.length:Int)) (j 0 ([]:List UInt8) 0 3 0 ([]:List UInt8) 0) (cond (not (a==[])) (cond (inR 0 a.length) (Fx a ((bAt a (0:Int))==91) (λ_=>j 0 ([]:List UInt8) 0 14 0 ([]:List UInt8) 0) (λn o p q r t u v w x l=>O o p q r t u v w x n l) (λb M=>Ck L b (λy d h e=>j d h e y d h e))) none) (Fx a false (λ_=>j 0 ([]:List UInt8) 0 14 0 ([]:List UInt8) 0) (λz A B C D F G H I J m=>O A B C D F G H I J z m) (λc N=>Ck L c (λK f i g=>j f i g K f i g))))
theorem As3(e:Code)(a:Ux (R:=PV × List Blk × Z) L Q Y s e)(d:Code)(b:Kv (R:=PV × List Blk × Z) L Q Y s d)(c:By):A9 (J4 L) Q Y (cd [] (G2 [1,1,1] d (G2 [1,1,0,1] e Q4))) ⟨[pS c]++tps 122,[],s⟩ (F5 (J4 L) ab1)=Uw L c (λj l m n v y w=>some (.tup [.agg [pI j,pS l,p32 m,p16 (0:Int),p16 (0:Int),p16 (0:Int),p16 (0:Int),p16 (0:Int),p16 (0:Int),p16 (0:Int),p16 (0:Int)],pI n],[.box [pI v,pS y,p32 w,p16 (0:Int),p16 (0:Int),p16 (0:Int),p16 (0:Int),p16 (0:Int),p16 (0:Int),p16 (0:Int),p16 (0:Int)]],s)) (λj l m n q r t u r8 x l10=>some (.tup [.agg [pI j,pS ([]:List UInt8),p32 (0:Int),p16 l,p16 m,p16 n,p16 q,p16 r,p16 t,p16 u,p16 r8],pI x],[.box [pI j,pS ([]:List UInt8),p32 (0:Int),p16 l,p16 m,p16 n,p16 q,p16 r,p16 t,p16 u,p16 r8],.arr false 25 1 l10],s)):=by unfold Uw;exact let o:=(F5 (J4 L) ab1);let p:=(E2 (J4 L) Q Y d o);(a8 (by kernel_rfl) (A0 rfl (A0 (A0 ((a p c ((bAt c (0:Int))==91)).trans (congr (congr (congr rfl (by kernel_rfl)) (by kernel_rfl)) (fx2 λf h=>(a8 (by kernel_rfl) ((b o f h).trans (by kernel_rfl)))))) rfl) ((a p c false).trans (congr (congr (congr rfl (by kernel_rfl)) (by kernel_rfl)) (fx2 λg i=>(a8 (by kernel_rfl) ((b o g i).trans (by kernel_rfl)))))))))
theorem As4(d:Nat)(raw0):evC (J4 L) (d+1) Z Y 63 [pS raw0] [] s=Uw L raw0 (λa b c e j n l=>some (.tup [.agg [pI a,pS b,p32 c,p16 (0:Int),p16 (0:Int),p16 (0:Int),p16 (0:Int),p16 (0:Int),p16 (0:Int),p16 (0:Int),p16 (0:Int)],pI e],[.box [pI j,pS n,p32 l,p16 (0:Int),p16 (0:Int),p16 (0:Int),p16 (0:Int),p16 (0:Int),p16 (0:Int),p16 (0:Int),p16 (0:Int)]],s)) (λa b c e f g h i r8 m l10=>some (.tup [.agg [pI a,pS ([]:List UInt8),p32 (0:Int),p16 b,p16 c,p16 e,p16 f,p16 g,p16 h,p16 i,p16 r8],pI m],[.box [pI a,pS ([]:List UInt8),p32 (0:Int),p16 b,p16 c,p16 e,p16 f,p16 g,p16 h,p16 i,p16 r8],.arr false 25 1 l10],s)):=
 (evE (fn:=ab1) (by kernel_rfl)).trans (a8 (by kernel_rfl) (As3 L (evC (J4 L) d) Y s (cd [1,1,0,1] Q4) (IR L (evC (J4 L) d) Y s) (cd [1,1,1] Q4) (IW L (evC (J4 L) d) Y s) raw0))
end
theorem B12{R:Type}{g:Int->Option R}(b:Int)(h:inR b 256=true):rhx LF b g=g (Dw (u8n b)):=by
 simp only[inR,j8,decide_eq_true_eq] at h;have j:b=((u8n b).toNat:Int):=by
  unfold u8n;simp;omega
 generalize u8n b=c at *;subst j;have i:=c.toNat_lt;unfold rhx;simp only[HD,HC,vl,Dw];rcases Bx c with⟨d,f,e⟩|⟨d,f,e⟩|⟨d,f,e⟩|⟨d,f,o,e⟩
 ·have a:A1 (wu8 ((c.toNat:Int)-48))=((dig c:Nat):Int):=by
   rw[L0,A7];omega
  rw[R7];simp (disch:=omega) only[B4,E1,b9,d7,cond_false,cond_true,a]
 ·have a:A1 (A1 (wu8 ((c.toNat:Int)-97))+10)=((dig c:Nat):Int):=by
   rw[L0,C4 (n:=(c.toNat:Int)-97) (by omega) (by omega),A7];omega
  rw[R7];simp (disch:=omega) only[B4,E1,b9,d7,cond_false,cond_true,a]
 ·have a:A1 (A1 (wu8 ((c.toNat:Int)-65))+10)=((dig c:Nat):Int):=by
   rw[L0,C4 (n:=(c.toNat:Int)-65) (by omega) (by omega),A7];omega
  rw[R7];simp (disch:=omega) only[B4,E1,b9,d7,cond_false,cond_true,a]
 ·rw[e,if_neg (by decide)];by_cases k:c.toNat<48
  ·simp (disch:=omega) only[B4,E1,b9,d7,cond_false,cond_true]
  ·by_cases l:c.toNat<65
   ·simp (disch:=omega) only[B4,E1,b9,d7,cond_false,cond_true]
   ·by_cases m:c.toNat<97
    ·simp (disch:=omega) only[B4,E1,b9,d7,cond_false,cond_true]
    ·simp (disch:=omega) only[B4,E1,b9,d7,cond_false,cond_true]
theorem As2(s:By)(Q:s.length<=1000000000):∀(m i n:Nat) (a:By),i<=s.length->s.length-i<=m->m<n->a.length<=i->
  (∀t,R1 (s.drop i)=some t->∀(R:Type) (c:LL->Option R) (d:LL->Option R),N9 LF n s (i:Int) (a.map D7) c d=d ((a++t).map D7))/\
  (R1 (s.drop i)=none->∃l,∀(R:Type) (c:LL->Option R) (d:LL->Option R),N9 LF n s (i:Int) (a.map D7) c d=c l):=by
 intro m
 induction m with
 | zero=>
  intro i n a K L M J;obtain⟨n,rfl⟩:∃m,n=m+1:=⟨n-1,by omega⟩
  rw[d8 (by omega)];refine⟨λt f R c d=>?_,λh=>(by cases h)⟩;simp only[R1,j5] at f;subst f;rw[N9];rw[A6,w6];rfl
 | succ m G=>
  intro i n a K L M J;obtain⟨n,rfl⟩:∃m,n=m+1:=⟨n-1,by omega⟩
  by_cases z:i<s.length
  ·have D:A1 ((i:Int)+1)=((i+1:Nat):Int):=by rw[A7];rfl
   have H:A1 ((i:Int)+2)=((i+2:Nat):Int):=by rw[A7];rfl
   have I:A1 (((i+2:Nat):Int)+1)=((i+3:Nat):Int):=by rw[A7];omega
   have F:A1 ((s.length:Int)-i)=((s.length-i:Nat):Int):=by rw[A7];omega
   have p:(a.map D7).length=a.length:=g8 _;have v:∀b:UInt8,a.map D7++[[SV.int .u8 (b.toNat:Int)]]=(a++[b]).map D7:=λb=>by rw[p6];rfl
   have C:(((s.getD i 0).toNat:Int)!=37) = !(s.getD i 0==37):=congrArg _ (P7 _ 37 (by omega));rw[D1 s i z];by_cases g:s.getD i 0=37
   ·by_cases P:i+2<s.length
    ·rw[D1 s (i+1) (by omega),D1 s (i+1+1) (by omega),g,GR];obtain⟨A,B⟩:=G (i+3) n (a++[o6 (16*dig (s.getD (i+1) 0)+dig (s.getD (i+2) 0))]) (by omega) (by omega) (by omega) (by simp;omega);have top:∀(R:Type) (c:LL->Option R) (d:LL->Option R),N9 LF (n+1) s (i:Int) (a.map D7) c d=cond (decide (dig (s.getD (i+1) 0)<16)&&decide (dig (s.getD (i+2) 0)<16)) (N9 LF n s ((i+3:Nat):Int) ((a++[o6 (16*dig (s.getD (i+1) 0)+dig (s.getD (i+2) 0))]).map D7) c d) (c (a.map D7)):=by
      intro R c d;rw[N9];rw[A8,E4,D0,C,g,p,H,F,D,E4,E4,D0,D0];simp only[vl];rw[E1 (show(3:Int)<=((s.length-i:Nat):Int) by omega)];simp only[cond_true,b9,cond_false,beq_self_eq_true,TD,Ho,VB,E9 (show a.length+1<=68719476736 by omega),I];generalize s.getD (i+1) 0=x at *;generalize s.getD (i+2) 0=y at *;by_cases N:dig x<16
      ·by_cases O:dig y<16
       ·have w1:Dw x=(dig x:Int):=by unfold Dw;rw[if_pos N]
        have T:Dw y=(dig y:Int):=by unfold Dw;rw[if_pos O]
        have U:A1 ((16:Int)*(dig x:Int))=((16*dig x:Nat):Int):=by rw[A7];omega
        have V:A1 (((16*dig x:Nat):Int)+(dig y:Int))=((16*dig x+dig y:Nat):Int):=by rw[A7];omega
        have W:wu8 ((16*dig x+dig y:Nat):Int)=((o6 (16*dig x+dig y)).toNat:Int):=by
         rw[L0];simp;omega
        grind
       grind
      grind
     by_cases o:dig (s.getD (i+1) 0)<16/\dig (s.getD (i+2) 0)<16
     ·rw[if_pos o];have w:(decide (dig (s.getD (i+1) 0)<16)&&decide (dig (s.getD (i+2) 0)<16))=true:=by rw[decide_eq_true o.1,decide_eq_true o.2];rfl
      refine⟨λt f R c d=>?_,λh=>?_⟩
      ·cases j:R1 (s.drop (i+3)) with
       | none=>rw[j] at f;cases f
       | some q=>
        rw[j] at f;simp only[w9,j5] at f;subst f;rw[top,w,cond_true,A q j,j2];rfl
      ·cases j:R1 (s.drop (i+3)) with
       | some q=>rw[j] at h;cases h
       | none=>
        obtain⟨l,e⟩:=B j;exact⟨l,λR c d=>by rw[top,w,cond_true,e]⟩
     ·rw[if_neg o];have w:(decide (dig (s.getD (i+1) 0)<16)&&decide (dig (s.getD (i+2) 0)<16))=false:=by grind
      exact⟨λt h=>(by cases h),λ_=>⟨_,λR c d=>by rw[top,w,cond_false]⟩⟩
    ·have k:R1 (s.getD i 0::s.drop (i+1))=none:=by
      rw[g];cases o:s.drop (i+1) with
      | nil=>rfl
      | cons x r=>
       cases r with
       | nil=>rfl
       | cons y S=>
        exfalso;have:=congrArg f7 o;rw[f6,k9,k9] at this;omega
     rw[k];refine⟨λt h=>(by cases h),λ_=>⟨a.map D7,λR c d=>?_⟩⟩;rw[N9];rw[A8,E4,D0,C,g,F];simp only[vl];rw[B4 (show((s.length-i:Nat):Int)<3 by omega)];rfl
   ·rw[RJ _ g];obtain⟨A,B⟩:=G (i+1) n (a++[s.getD i 0]) (by omega) (by omega) (by omega) (by simp;omega);have u:(s.getD i 0==37)=false:=by simpa using g
    have top:∀(R:Type) (c:LL->Option R) (d:LL->Option R),N9 LF (n+1) s (i:Int) (a.map D7) c d=N9 LF n s ((i+1:Nat):Int) ((a++[s.getD i 0]).map D7) c d:=by
     intro R c d;rw[N9];rw[A8,E4,D0,C,u,p,E9 (by omega),D,v];rfl
    refine⟨λt f R c d=>?_,λh=>?_⟩
    ·cases j:R1 (s.drop (i+1)) with
     | none=>rw[j] at f;cases f
     | some q=>
      rw[j] at f;simp only[w9,j5] at f;subst f;rw[top,A q j,j2];rfl
    ·cases j:R1 (s.drop (i+1)) with
     | some q=>rw[j] at h;cases h
     | none=>
      obtain⟨l,e⟩:=B j;exact⟨l,λR c d=>by rw[top,e]⟩
  ·rw[d8 (by omega)];refine⟨λt f R c d=>?_,λh=>(by cases h)⟩;simp only[R1,j5] at f;subst f;rw[N9];rw[A6,w6];rfl
theorem B11(s:By)(d:A3 s.length=true):∃r H,A79 LF s (λi j h=>rv (.tup [.s (.str i),.s (.bool j)]) [.arr true 5 1 h])=rv r H/\
  r.stab [0,0] H = .tup [.s (.str (Ed s)),.s (.bool (R1 s).isSome)]:=by
 have g:=L6 d;have f:=C1;obtain⟨b,c⟩:=As2 s g s.length 0 LF [] (by omega) (by omega) (by omega) (by simp);rw[g6] at b c;unfold Ed;cases a:R1 s with
 | none=>
  obtain⟨l,e⟩:=c a;exact⟨.tup [.s (.str []),.s (.bool false)],[.arr true 5 1 l],e _ _ _,rfl⟩
 | some t=>
  refine⟨.tup [.s (.str t),.s (.bool true)],[.arr true 5 1 (t.map D7)],?_,rfl⟩;unfold A79;refine a8 (b t a _ _ _) ?_;rw[m6,V4,V9];rfl
theorem Bi3{R:Type}{a b:Unit->Option R}(l:List By)(k:l.length<=1000000001)(h:∀x∈l,x.length<=1000000000):∀(r i n:Nat),i+r=l.length->r<n->
  Va LF n (D4 l) (i:Int) a b=if (l.drop i).all K2 then b () else a ():=by
 intro r
 induction r with
 | zero=>
  intro i n e f;obtain⟨n,rfl⟩:∃m,n=m+1:=⟨n-1,by omega⟩
  rw[Va];rw[G1,A6,d8 (by omega)];rfl
 | succ r j=>
  intro i n e f;obtain⟨n,rfl⟩:∃m,n=m+1:=⟨n-1,by omega⟩
  rw[Va];have c:A1 ((i:Int)+1)=((i+1:Nat):Int):=by rw[A7];rfl
  have d:l.drop i=l.getD i []::l.drop (i+1):=by
   rw[f8,j7 (by omega),o9,v7]
  have g:(l.getD i []).length<=1000000000:=h _ (by
   rw[f8,j7 (by omega),o9];exact y9 _)
  rw[G1,A8,E4,c9,R8 (by omega),X1,D9 g,d,s9,c];simp only[cond_true];rw[j (i+1) n (by omega) (by omega)];cases K2 (l.getD i []) with
  | true=>rw[p4];rfl
  | false=>rfl
theorem C24{R:Type}{c:Bool->Option R}(s:By)(b:A3 s.length=true):C47 LF s c=c (Ij s):=by
 have k:=L6 b;have d:=C1;unfold C47;by_cases a:s=[]
 ·subst a;rfl
 ·have f:(s==([]:By))=false:=by simpa using a
  rw[f,cond_false];unfold Ij;by_cases i:253<s.length
  ·rw[A8,show j4 s.length 253=false by rw[f9,ne_eq,g7];omega];rfl
  ·rw[A6,cond_false,b,cond_true,show j4 s.length 253=true by rw[g7];omega];cases j:F4 s with
   | true=>rfl
   | false=>
    rw[cond_false,cond_true];have g:=Hd 46 s;have e:=Fk 46 s;refine a8 (Bi3 (pcs 46 s) (by omega) (λx h=>by have:=(Cs h).2;omega) (pcs 46 s).length 0 LF (by omega) (by omega)) ?_;grind
def jn:Nat->By->List By->By
 | _,name,[]=>name
 | 0,name,x::r=>jn 1 (name++x) r
 | i+1,name,x::r=>jn (i+2) (name++[46]++x) r
theorem A59:∀(l:List By) (i:Nat) (name:By),jn (i+1) name l=name++y6 [46] l
 | [],i,name=>by simp[jn,y6]
 | x::r,i,name=>by
  rw[jn,A59 r];simp[y6]
theorem Cf1(l:List By):jn 0 [] l=x3 l [46]:=by
 cases l with
 | nil=>rfl
 | cons x r=>rw[jn,A59,Lib.join_cons,m6]
theorem B45{x:By}(h:(I1 x).2=0):(I1 x).1.length<=63:=by
 have a:F1 [x]=([(I1 x).1],0):=by simp[F1,h]
 have:=(Im [x] (by rw[a])).1 (I1 x).1 (by rw[a];simp);exact(Pl this).le
theorem RV(e:List By)(C:e.length<=1000000)(D:∀x∈e,x.length<=1000000000):∀(c:List By) (i n:Nat) (name:By),e.drop i=c->i+c.length=e.length->c.length<n->name.length<=64*i->
  ((F1 c).2=0->∀(R:Type) (a:Int->Option R) (b:By->Option R),I9 LF n name (D4 e) (i:Int) a b=b (jn i name (F1 c).1))/\
  ((F1 c).2≠0->∀(R:Type) (a:Int->Option R) (b:By->Option R),I9 LF n name (D4 e) (i:Int) a b=a ((F1 c).2:Nat)):=by
 intro c
 induction c with
 | nil=>
  intro i n name p q y t;obtain⟨n,rfl⟩:∃m,n=m+1:=⟨n-1,by omega⟩
  simp only[m5] at q;refine⟨λ_ R a b=>?_,λh=>absurd rfl h⟩;rw[I9];rw[G1,A6];simp only[F1,jn];rfl
 | cons x r z=>
  intro i n name p q y t;simp only[k9] at q y;obtain⟨n,rfl⟩:∃m,n=m+1:=⟨n-1,by omega⟩
  have A:A1 ((i:Int)+1)=((i+1:Nat):Int):=by rw[A7];rfl
  have k:e.getD i []=x:=by
   have:=congrArg (λl=>l.getD 0 []) p;simpa[f8,List.getElem?_drop] using this
  have g:e.drop (i+1)=r:=by
   rw[<-aa8,p];rfl
  have u:x.length<=1000000000:=D x (by
   rw[<-k,f8,j7 (by omega),o9];exact y9 _)
  have top:∀(R:Type) (a:Int->Option R) (b:By->Option R),I9 LF (n+1) name (D4 e) (i:Int) a b=cond (((I1 x).2:Int)!=0) (a ((I1 x).2:Nat)) (cond (ltI 0 (i:Int)) (cond (K8 name.length 1) (cond (K8 (name++[46]).length (I1 x).1.length) (I9 LF n (name++[46]++(I1 x).1) (D4 e) ((i+1:Nat):Int) a b) none) none) (cond (K8 name.length (I1 x).1.length) (I9 LF n (name++(I1 x).1) (D4 e) ((i+1:Nat):Int) a b) none)):=by
   intro R a b;rw[I9];rw[G1,A8,E4,c9,R8 (by omega),X1,k,D9 u,A];rfl
  unfold F1;by_cases h:(I1 x).2=0
  ·rw[if_pos h];have B:=B45 h;have o:(((I1 x).2:Int)!=0)=false:=by rw[h];rfl
   cases i with
   | zero=>
    obtain⟨v,w⟩:=z 1 n (name++(I1 x).1) g (by omega) (by omega) (by rw[d9];omega);have d:∀(R:Type) (a:Int->Option R) (b:By->Option R),I9 LF (n+1) name (D4 e) ((0:Nat):Int) a b=I9 LF n (name++(I1 x).1) (D4 e) ((1:Nat):Int) a b:=by
     intro R a b;rw[top,o,A6,N3 (m:=name.length) (n:=(I1 x).1.length) (by omega)];rfl
    exact⟨λf R a b=>(d R a b).trans (v f R a b),λf R a b=>(d R a b).trans (w f R a b)⟩
   | succ j=>
    obtain⟨v,w⟩:=z (j+2) n (name++[46]++(I1 x).1) g (by omega) (by omega) (by rw[d9,d9,i6];omega);have d:∀(R:Type) (a:Int->Option R) (b:By->Option R),I9 LF (n+1) name (D4 e) ((j+1:Nat):Int) a b=I9 LF n (name++[46]++(I1 x).1) (D4 e) ((j+2:Nat):Int) a b:=by
     intro R a b;rw[top,o,A8,N3 (by omega),N3 (by rw[d9,i6];omega)];rfl
    exact⟨λf R a b=>(d R a b).trans (v f R a b),λf R a b=>(d R a b).trans (w f R a b)⟩
  ·rw[if_neg h];have o:(((I1 x).2:Int)!=0)=true:=by simpa using h
   exact⟨λf=>absurd f h,λ_ R a b=>by rw[top,o,cond_true]⟩
theorem IT{R:Type}{b:Int->Int->By->Int->Option R}(u:By)(q:u.length<=1024):Cj LF u b =
  if F4 u then (match pnB u with
   | some v=>b 0 2 [] (v:Nat)
   | none=>b 14 0 [] 0)
  else if (F1 (pcs 46 u)).2=0 then (
   if 253<(x3 (F1 (pcs 46 u)).1 [46]).length then b 3 0 [] 0 else if F4 (x3 (F1 (pcs 46 u)).1 [46]) then b 14 0 [] 0 else b 0 1 (x3 (F1 (pcs 46 u)).1 [46]) 0)
  else b ((F1 (pcs 46 u)).2:Nat) 0 [] 0:=by
 have h:=C1;unfold Cj;rw[N6,cond_true];cases o:F4 u with
 | true=>
  rw[if_pos rfl,cond_true,cond_true];cases p:pnB u with
  | none=>rfl
  | some v=>rfl
 | false=>
  rw[if_neg (by simp),cond_false,cond_true];have l:=Hd 46 u;have i:=Fk 46 u;obtain⟨f,m⟩:=RV (pcs 46 u) (by omega) (λx d=>by have:=(Cs d).2;omega) (pcs 46 u) 0 LF [] (g6) (by omega) (by omega) (by simp);rw[Cf1] at f;by_cases c:(F1 (pcs 46 u)).2=0
  ·rw[if_pos c];refine a8 (f c _ _ _) ?_;obtain⟨g,n⟩:=Im _ c;have j:=QO [46] 63 (F1 (pcs 46 u)).1 (λx d=>(Pl (g x d)).le);have e:(63+([46]:By).length)*(F1 (pcs 46 u)).1.length<=64*1025:=ab0 (by simp) (by omega);generalize x3 (F1 (pcs 46 u)).1 [46]=name at *;by_cases a:253<name.length
   ·rw[if_pos a,A8,cond_true]
   ·rw[if_neg a,A6,cond_false,N6,cond_true];cases k:F4 name with
    | true=>rfl
    | false=>rfl
  ·rw[if_neg c];exact m c _ _ _
abbrev Cx1:Int->By->Int->Int->Int->By->Int->Option (PV × List Blk × Unit):=λc d e f a g b=>rv (.tup [.agg (Ss c d e 0 0 0 0 0 0 0 0),.s (.int .i64 f)]) [.box (Ss a g b 0 0 0 0 0 0 0 0)]
abbrev C66:Int->Int->Int->Int->Int->Int->Int->Int->Int->Int->LL->Option (PV × List Blk × Unit):=λa b c d e f g h r8 i l10=>rv (.tup [.agg (Ss a [] 0 b c d e f g h r8),.s (.int .i64 i)]) [.box (Ss a [] 0 b c d e f g h r8),.arr false 25 1 l10]
theorem SZ{t:By}(h:t≠[])(a:t.getD (t.length-1) 0=46):H5 t=t.take (t.length-1):=by unfold H5;rw[if_pos ((BQ t 46 h).2 a),List.dropLast_eq_take]
theorem ZY{t:By}(h:t≠[])(a:¬t.getD (t.length-1) 0=46):H5 t=t:=by unfold H5;grind
theorem Px(s:By)(x:s.length<=1024)(j:s.head?≠some 91):∃r H,Ck LF s (λh b d c=>Cx1 b d c h b d c)=rv r H/\r.stab [0,0] H = .tup [Zy (C5 s).1,.s (.int .i64 ((C5 s).2:Nat))]:=by
 have l:=C1;unfold Ck;rw[N6,cond_true];cases i:R1 s with
 | none=>
  have e:C5 s=(J8,14):=by unfold C5;rw[F8,if_neg j,i]
  rw[e];exact⟨_,_,rfl,rfl⟩
 | some t=>
  have p:t.length<=s.length:=BW s t i;have q:Ed s=t:=by unfold Ed;rw[i];rfl
  have o:(H5 t).length<=t.length:=by unfold H5;split<;>simp
  have m:C5 s=if F4 (H5 t) then (match pnB (H5 t) with
      | some v=>(⟨2,[],v,z8⟩,0)
      | none=>(J8,14))
     else if (F1 (pcs 46 (H5 t))).2=0 then (
      let name:=x3 (F1 (pcs 46 (H5 t))).1 [46]
      if 253<name.length then (J8,3) else if F4 name then (J8,14) else (⟨1,name,0,z8⟩,0))
     else (J8,(F1 (pcs 46 (H5 t))).2):=by
   unfold C5;rw[F8,if_neg j,i];rfl
  have f:∃r H,Cj LF (H5 t) (λh b d c=>Cx1 b d c h b d c)=rv r H/\r.stab [0,0] H = .tup [Zy (C5 s).1,.s (.int .i64 ((C5 s).2:Nat))]:=by
   rw[IT _ (by omega),m];split
   ·split<;>exact⟨_,_,rfl,rfl⟩
   ·split
    ·simp only;split
     ·exact⟨_,_,rfl,rfl⟩
     ·split<;>exact⟨_,_,rfl,rfl⟩
    ·exact⟨_,_,rfl,rfl⟩
  rw[q];simp only[y4,b9,cond_false];by_cases a:t=[]
  ·subst a;exact f
  ·have w:0<t.length:=m7.2 a;have n:(t==([]:By))=false:=by simpa using a
   have k:A1 ((t.length:Int)-1)=((t.length-1:Nat):Int):=by rw[A7];omega
   have u:(((t.getD (t.length-1) 0).toNat:Int)==46)=(t.getD (t.length-1) 0==46):=P7 _ 46 (by omega);rw[n,k];simp only[d7,cond_true,vl];rw[E4,D0,u,cond_true];by_cases g:t.getD (t.length-1) 0=46
   ·rw[g,beq_self_eq_true,cond_true,H9,cond_true,J5,c9,<-SZ a g];exact f
   ·rw[show(t.getD (t.length-1) 0==46)=false by simpa using g,cond_false];rw[ZY a g] at f;exact f
theorem As5(s:By)(k:A3 s.length=true):∃r H,Uw LF s Cx1 C66=rv r H/\r.stab [0,0] H = .tup [Zy (C5 s).1,.s (.int .i64 ((C5 s).2:Nat))]:=by
 have u:=L6 k;have l:=C1;unfold Uw;by_cases i:1024<s.length
 ·have e:C5 s=(J8,3):=by unfold C5;rw[if_pos i]
  rw[e,A8,cond_true];exact⟨_,_,rfl,rfl⟩
 ·rw[A6,cond_false];by_cases c:s=[]
  ·subst c;exact Px [] (by simp) (by simp)
  ·have q:0<s.length:=m7.2 c;have m:(s==([]:By))=false:=by simpa using c
   have o:(bAt s 0==(91:Int))=(s.getD 0 0==91):=by rw[Z0];exact P7 _ 91 (by omega)
   have g:s.head? = some (s.getD 0 0):=by
    cases s with
    | nil=>exact absurd rfl c
    | cons b t=>rfl
   rw[m,d7,cond_true,E4,cond_true,o];by_cases f:s.getD 0 0=91
   ·have e:C5 s=O9 s:=by unfold C5 O9;rw[if_neg i,if_pos (by rw[g,f])]<;>rfl
    have j:A1 ((s.length:Int)-1)=((s.length-1:Nat):Int):=by rw[A7];omega
    have p:(((s.getD (s.length-1) 0).toNat:Int)!=93) = !(s.getD (s.length-1) 0==93):=congrArg _ (P7 _ 93 (by omega));rw[e,f,beq_self_eq_true];unfold Fx O9;simp only[vl,j,cond_true];rw[E4,D0,p,cond_true];by_cases d:s.getD (s.length-1) 0=93
    ·have f:2<=s.length:=by grind
     rw[if_pos ⟨(BQ s 93 c).2 d,f⟩,d,beq_self_eq_true,b9,cond_false,A6,cond_false,show(1:Int)=((1:Nat):Int) from rfl,H9,cond_true,Gv];have n:((s.take (s.length-1)).drop 1).length<=s.length:=by rw[f6,j0];omega
     rw[N6,cond_true];unfold v6c;cases v:v6B ((s.take (s.length-1)).drop 1) with
     | none=>exact⟨_,_,rfl,rfl⟩
     | some a=>exact⟨_,_,rfl,rfl⟩
    ·rw[if_neg (λh=>d ((BQ s 93 c).1 h.1)),show(s.getD (s.length-1) 0==93)=false by simpa using d];exact⟨_,_,rfl,rfl⟩
   ·rw[show(s.getD 0 0==91)=false by simpa using f];exact Px s (by omega) (by rw[g];simpa using f)
section
theorem ID:B0 f0 GX 148 So:=xf [] (EO LF) Wp rfl trivial rfl (by kernel_rfl) follows λargs=>by
 unfold Wp;split
 ·rename_i n;exact⟨rfl,rfl,rfl,_,_,(Bj3 LF noY () 0 n).trans (YB n ),rfl⟩
 ·trivial
theorem Ab2:B0 f0 GX 151 DD:=xf [] (V6 LF) Wn rfl trivial rfl (by kernel_rfl) follows λargs=>by
 unfold Wn;split
 ·rename_i d c f;exact λa=>λb=>λe=>⟨rfl,rfl,rfl,_,_,(Bh4 LF noY () 0 d c f).trans (XH d c f a b e),rfl⟩
 ·trivial
theorem B85:B0 f0 GX 149 Ad2:=xf [] (Ag4 LF) NW rfl trivial rfl (by kernel_rfl) follows λargs=>by
 unfold NW;split
 ·rename_i k b;exact λa=>λc=>⟨rfl,rfl,rfl,_,_,(Ck8 LF noY () 0 k b).trans (Bj9 k b a c),rfl⟩
 ·trivial
theorem Cp5:B0 f0 GX 150 A24:=xf [] (PO LF) DE rfl trivial rfl (by kernel_rfl) follows λargs=>by
 unfold DE;split
 ·rename_i d;exact λa=>⟨rfl,rfl,rfl,_,_,(B00 LF noY () 0 d).trans (Ap7 d a),rfl⟩
 ·trivial
theorem C12:B0 f0 GX 176 Br2:=xf [] (Ht LF) NZ rfl trivial rfl (by kernel_rfl) follows λargs=>by
 unfold NZ;split
 ·rename_i b;exact λa=>⟨rfl,rfl,rfl,_,_,(Cl4 LF noY () 0 b).trans (Bk6 b a),rfl⟩
 ·trivial
theorem B82:B0 f0 GX 120 Ac8:=xf [0,0] (L8 LF) NR rfl ⟨ID,B85,Cp5,Ab2,trivial⟩ rfl (by kernel_rfl) follows λargs=>by
 unfold NR;split
 ·rename_i b a p;exact λc=>(let⟨r,H,e,q⟩:=Cj5 b a p c;⟨rfl,rfl,rfl,r,H,(Cj3 LF noY () 0 b a p).trans e,q⟩)
 ·trivial
theorem Cq0:B0 f0 GX 156 A29:=xf [1,0] (J1 LF) DL rfl ⟨C12,B85,Ab2,ID,trivial⟩ rfl (by kernel_rfl) follows λargs=>by
 unfold DL;split
 ·rename_i s;exact λa=>(let⟨r,H,e,q⟩:=B18 s a;⟨rfl,rfl,rfl,r,H,(B17 LF noY () 0 s).trans e,q⟩)
 ·trivial
theorem C09:B0 f0 GX 119 Bq9:=xf [1,0] (N7 LF) NV rfl ⟨ID,trivial⟩ rfl (by kernel_rfl) follows λargs=>by
 unfold NV;split
 ·rename_i s;exact λa=>(let⟨r,H,e,q⟩:=Ck6 s a;⟨rfl,rfl,rfl,r,H,(Ck5 LF noY () 0 s).trans e,q⟩)
 ·trivial
theorem Cq2:B0 f0 GX 127 A31:=xf [] (Kc LF) DN rfl ⟨Cq0,B82,trivial⟩ rfl (by kernel_rfl) follows λargs=>by
 unfold DN;split
 ·rename_i s;exact λa=>⟨rfl,rfl,rfl,_,_,(B20 LF noY () 0 s).trans (Au8 s a),rfl⟩
 ·trivial
theorem Cp9:B0 f0 GX 94 A28:=xf [] (Ka LF) DI rfl ⟨Cq2,trivial⟩ rfl (by kernel_rfl) follows λargs=>by
 unfold DI;split
 ·rename_i s;exact λa=>⟨rfl,rfl,rfl,_,_,(B14 LF noY () 0 s).trans (As9 s a),rfl⟩
 ·trivial
theorem Cp8:B0 f0 GX 89 A27:=xf [0,0] (PP LF) DH rfl ⟨C09,B83,B82,Cp9,trivial⟩ rfl (by kernel_rfl) follows λargs=>by
 unfold DH;split
 ·rename_i s;exact λa=>⟨rfl,rfl,rfl,_,_,(B13 LF noY () 0 s).trans (As6 s a),rfl⟩
 ·trivial
theorem C54:B0 f0 GX 115 Cr5:=xf [] (Pt LF) Ac9 rfl trivial rfl (by kernel_rfl) follows λargs=>by
 unfold Ac9;split
 ·rename_i b;exact λa=>⟨rfl,rfl,rfl,_,_,(Cx0 LF noY () 0 b).trans (B12 b a),rfl⟩
 ·trivial
theorem Cp7:B0 f0 GX 85 A26:=xf [0,0] (Jz LF) DG rfl ⟨C54,trivial⟩ rfl (by kernel_rfl) follows λargs=>by
 unfold DG;split
 ·rename_i s;exact λa=>(let⟨r,H,e,q⟩:=B11 s a;⟨rfl,rfl,rfl,r,H,(B10 LF noY () 0 s).trans e,q⟩)
 ·trivial
theorem Bo6:B0 f0 GX 63 JH:=xf [0,0] (J4 LF) Qi rfl ⟨C11,Cp7,A10,Cq1,Wd,Cp8,trivial⟩ rfl (by kernel_rfl) follows λargs=>by
 unfold Qi;split
 ·rename_i s;exact λa=>(let⟨r,H,e,q⟩:=As5 s a;⟨rfl,rfl,rfl,r,H,(As4 LF noY () 0 s).trans e,q⟩)
 ·trivial
end
section
theorem B86:B0 f0 GX 23 TY:=xf [] (EP LF) Ws rfl trivial rfl (by kernel_rfl) follows λargs=>by
 unfold Ws;split
 ·rename_i s;exact⟨rfl,rfl,rfl,_,_,(Bk2 LF noY () 0 s).trans (ZC s ),rfl⟩
 ·trivial
theorem Cq6:B0 f0 GX 45 A35:=xf [] (PQ LF) DR rfl trivial rfl (by kernel_rfl) follows λargs=>by
 unfold DR;split
 ·rename_i s;exact⟨rfl,rfl,rfl,_,_,(B30 LF noY () 0 s).trans (Aw8 s ),rfl⟩
 ·trivial
theorem Cq3:B0 f0 GX 62 A32:=xf [] (Z6 LF) DO rfl trivial rfl (by kernel_rfl) follows λargs=>by
 unfold DO;split
 ·rename_i s t;exact λa=>λb=>⟨rfl,rfl,rfl,_,_,(B22 LF noY () 0 s t).trans (Aw1 s t a b),rfl⟩
 ·trivial
theorem Cq5:B0 f0 GX 61 A34:=xf [0,0,0] (K4 LF) DQ rfl ⟨B83,trivial⟩ rfl (by kernel_rfl) follows λargs=>by
 unfold DQ;split
 ·rename_i s;exact λa=>⟨rfl,rfl,rfl,_,_,(B29 LF noY () 0 s).trans (Aw7 s a),rfl⟩
 ·trivial
theorem Cq4:B0 f0 GX 41 A33:=xf [0,0] (I8 LF) DP rfl ⟨Cq5,B86,Cq3,Bo6,Cq6,trivial⟩ rfl (by kernel_rfl) follows λargs=>by
 unfold DP;split
 ·rename_i s;exact λa=>(let⟨r,H,e,q⟩:=B27 s a;⟨rfl,rfl,rfl,r,H,(B26 LF noY () 0 s).trans e,q⟩)
 ·trivial
theorem Bo7:B0 f0 GX 14 Wr:=xf [0,0] (Xm LF) Qj rfl ⟨Cq4,trivial⟩ rfl (by kernel_rfl) follows λargs=>by
 unfold Qj;split
 ·rename_i s;exact λa=>(let⟨r,H,e,q⟩:=Aw4 s a;⟨rfl,rfl,rfl,r,H,(Aw3 LF noY () 0 s).trans e,q⟩)
 ·trivial
end
end
section
open Go Go.ChangeAt Go.ChangeShapes Go.Proofs Go.RowKit Go.WideShapes
set_option maxRecDepth 100000
section
theorem Am3(os:Os)(a:os.Started)(H:Type)(enc:TypeId × Value->H) :
  ReturnsInHanded {} Tryz.checked os 3 .any (λw args=>(Rows.urlParseMatchesSpecSpec.pre enc f0 y8 Rows.urlParseMatchesSpecRow.domain false w args/\laidMetH f0 Dr w)/\sizedMet enc f0 y8 (OpenSpec.ofChange Rows.urlParseMatchesSpecSpec) false w args) (Rows.urlParseMatchesSpecSpec.post enc f0 y8 false true false false):=
 Ak9 a (C:=UR LF) (tb:=4) rfl rfl (L1.ok (l:=[(12,Wg),(13,Mn),(14,Wr)]) rfl ⟨Bo1,Ab4,Bo7,trivial⟩) (H7 rfl (by kernel_rfl)) (by kernel_rfl) ab2 (c:=C8 y8) rfl (by kernel_rfl)
  (by
   intro t d;obtain rfl:t=9:=by simpa using(show t∈[9] from d)
   exact⟨⟨by kernel_rfl,of_decide_eq_true (by kernel_rfl)⟩,by kernel_rfl⟩) rfl (by kernel_rfl) rfl
  (λds b=>by
   match ds,b with
   | [e],_=>rfl)
  #[(.string ⟨#[]⟩)] 8 (by kernel_rfl) (by kernel_rfl) (by kernel_rfl)
  (λargs h=>Cg4 args h)
theorem Bf1:Rows.UrlParseMatchesSpecSaid:=
 OpenClaim.holds_of_wide 3 y8 rfl rfl rfl rfl rfl rfl rfl ⟨rfl,rfl,rfl,rfl,rfl⟩ rfl rfl rfl rfl rfl (by kernel_rfl) ab2 (by kernel_rfl)
  (of_decide_eq_true (by kernel_rfl)) (by unfold Func.isWrapper;first|(rw[if_pos (by decide +kernel)];kernel_rfl)|(rw[if_neg (by decide +kernel)];exact⟨rfl,rfl⟩))
  (λos a H enc _=>Am3 os a H enc)
theorem lup_card:Rows.UrlParseMatchesSpecCardSaid:=
 Claim7.holds_tied_plain_at .later [] [.data,.data,.data,.data,.pinned] true (true, "0163afbbd4bdcc0cb024432ec76efa84c49da410dbc3a82ef375aee9434dc149") false Bf1 (λ_ h=>by cases h) (by kernel_rfl) (λ_ h=>by cases h) urlParseMatchesSpec_row_tie rfl ⟨rfl,rfl⟩ (by kernel_rfl) rfl
  (λf fn c b=>by
   obtain rfl:f=3:=aa7 ((show f0.funcNamed "hstsstore/hstsstorelaw15.UrlParseMatchesSpec" = some 3 by kernel_rfl).symm.trans c) |>.symm
   obtain rfl:fn=y8:=(aa7 (ab2.symm.trans b)).symm;exact⟨by kernel_rfl,λj t e=>by
    have d:t∈[9]:=Array.mem_toList_iff.2 (Array.mem_of_getElem? e);have a:([9].all λu=>!f0.wantsStandIn u)=true:=by kernel_rfl
    exact(show f0.wantsStandIn t=false by simpa using List.all_eq_true.1 a t d)⟩)
  (by kernel_rfl)
end
end
#print axioms lup_card
end Go.Proofs.YtcfingekgbbclaaGreatDoor.E
