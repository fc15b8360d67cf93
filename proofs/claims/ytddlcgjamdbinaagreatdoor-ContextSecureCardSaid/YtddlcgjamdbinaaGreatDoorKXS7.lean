/-
  ContextSecure, as its tied card says. Conditions: what the card itself names (the package-level variables that are listed, tied to the program's text).
-/
import Derived.Test.YtddlcgjamdbinaaGreatDoorKXS6
import Derived.Test.YtddlcgjamdbinaaGreatDoorCards
import Derived.Test.YtddlcgjamdbinaaGreatDoorTie
open Eq renaming trans->c9
open Int renaming toNat->j0,toNat_natCast->j1,tmod->o8,tdiv->s8,eq_ofNat_of_zero_le->v8,mul->aa3,mul_comm->ad5
open Bool renaming not_false->j2,not_true->j5,eq_false_iff->o5,and_eq_true->s9,true_and->z7,and_true->ab3,false_or->ab4,false_eq_true->ab6,eq_iff_iff->ac3,or_eq_true->ac4
open List renaming drop_of_length_le->j4,getD_eq_getElem?_getD->j7,length_append->j8,length->j9,drop_zero->k9,length_drop->o0,length_map->o7,length_singleton->o9,getElem?_eq_getElem->p4,append_assoc->p6,replicate->v7,length_take->w6,length_nil->w8,nil_append->w9,length_cons->x3,length_pos_iff->x5,length_eq_zero_iff->x8,getElem_cons_drop->y5,map->y7,countP_le_length->y8,take->y9,map_append->aa1,drop->aa2,all_cons->aa4,all->aa5,countP_cons_of_neg->aa6,getElem_mem->aa7,append_nil->aa8,any_cons->ab5,drop_drop->ac6,isEmpty->ad6
open Go.Proofs.Tryz renaming prog->j6,f124->ab2,f5->ac0,f151->ac1,f13->ac9,f48->ad0,f52->ad1,f54->ad2,f92->ad3,func5->ad4,f27->ad9,f35->ae0,f38->ae1,f55->ae2,f93->ae3
open Nat renaming ble_eq->o6,ble->p7,div_le_self->x6,strongRecOn->aa9,blt_eq->ab7,mod_lt->ac7,mul_le_mul->ac8,sub_zero->ad7
open Go.Lib renaming decodeL->p5,decodeN->x7,join->ab1,joinTail->ab9
open Option.some renaming injEq->p9,inj->ac5
open Option renaming getD_some->x4,isSome->aa0,map_some->ab0,isSome_some->ab8
open UInt8 renaming ofNat->x9,toNat->ac2
set_option maxRecDepth 100000
variable{R:Type}
namespace Go.Proofs.YtddlcgjamdbinaaGreatDoor.E
set_option linter.all false
section
open Go Go.Proofs
section
variable {Y R : Type} (L : Nat) (W : G4) (Q : Yh Y) (s : Y) (k : Out -> St Y -> Option R)
noncomputable abbrev Bw5:Code:=D4 ae0
noncomputable def Nt(L:Nat):Cfg:=D0 L [35] (A4 [(2,[0,0,2,2,0])]) [] (A4 [(7,[4]),(6,[0,0,5,0]),(5,[4]),(4,[0,0,3,1,0,7]),(3,[0,0,3,1,0]),(2,[0,0,5,0,0]),(1,[0,0,5,0]),(0,[0,0])]) [] (A4 [(0,[]),(1,[0,0,5,0])]) (some [4]) [] [] []
noncomputable def Jq(L n:Nat)(c b:Bool)(d:LL)(h:By)(g a:Int)(e:Int->Option R)(f:Unit->Option R):Option R:=match n with|0=>none|n+1=>cond (ltI a g) (cond (inR a d.length) (cond (okE Dr d (j0 a) 0) (cond (h==(gX d (j0 a) 0)) (e a) (Jq L n c b d h g (A1 (a+1)) e f)) none) none) (f ())
def Ay5(n s_z0 s_t1 s2 v3 n4 n5):E0 0 ((Nt L).keep 2) (bd (Nt L) W Q (cd [1,0,1,0,0] Bw5)) n ⟨gp [(0,.s (.sl s_z0 s_t1 1 s2)),(0,pS v3),(5,pI n4),(0,pI n5)] 10,[],s⟩ k =
 Jq L n s_z0 s_t1 s2 v3 n4 n5 (λn0=>k .ret ⟨gp [(4,pI n0)] 14,[],s⟩) (λ_=>k (.exit 0) ⟨gp [] 19,[],s⟩):=by
 induction n generalizing s_z0 s_t1 s2 v3 n4 n5 with
 | zero=>rfl
 | succ n a=>rw[Jq];simp only[<-a];kernel_rfl
noncomputable def B20(L:Nat)(b a:Bool)(d:LL)(e:By)(c:Int->Option R):Option R:=Jq L L b a d e (d.length:Int) 0 c (λ_=>c (-1))
def C21(d:Nat)(s_z0 s_t1 s2 v3):evC (Nt L) (d+1) Y Q 35 [.s (.sl s_z0 s_t1 1 s2),pS v3] [] s=B20 L s_z0 s_t1 s2 v3 (λa=>some (pI a,[],s)):=by refine(evE (fn:=ae0) (by kernel_rfl)).trans ?_;generalize evC (Nt L) d=W;unfold B20;exact(c9 (by kernel_rfl) ((Ay5 L W Q s (F0 0 (F5 (Nt L) W Q (cd [1,1] Bw5) (G1 (Nt L) ae0))) L s_z0 s_t1 s2 v3 (s2.length:Int) 0).trans (by kernel_rfl)))
noncomputable def YN(L:Nat):Cfg:=D0 L [16] (A4 []) [(35,Bv2)] (A4 [(1,[4]),(0,[0,0])]) [35] (A4 []) (some [4]) [] [] []
noncomputable def B19(L:Nat)(d c:Bool)(b:LL)(f:By)(e:Bool->Option R):Option R:=cond (aa5 b isS) (cond (A2 b.length) (vl (B85 (y7 elS b) f) λa=>e (not (ltI a 0))) none) none
def C19(d:Nat)(s_z0 s_t1 s2 v3):evC (YN L) (d+1) Y Q 16 [.s (.sl s_z0 s_t1 1 s2),pS v3] [] s=B19 L s_z0 s_t1 s2 v3 (λa=>some (pB a,[],s)):=by refine(evE (fn:=Tryz.f16) (by kernel_rfl)).trans ?_;generalize evC (YN L) d=W;unfold B19;kernel_rfl
noncomputable def A48(L:Nat):Cfg:=D0 L [8] (A4 []) [(15,VG),(17,IF),(16,GR)] (A4 [(1,[4]),(0,[2,0])]) [15,17,16] (A4 []) (some [4]) [] [] [] (nt:=[(24,4,9,1)])
noncomputable def Da9(L:Nat)(q r t u j i:Bool)(n:LL)(o:Int)(l:By)(m a b c d e f g h:Int)(v:Bool->(List Blk)->Option R):Option R:=cond (A2 l.length) (cond (ltN m 4294967296) (cond (ok8 a b c d e f g h) (cond (N7 (mkH o l m (n8 a b c d e f g h))) (cond (A2 l.length) (cond (ltN m 4294967296) (cond (ok8 a b c d e f g h) (vl (Y4 (mkH o l m (n8 a b c d e f g h))) λp=>cond (aa5 n isS) (cond (A2 n.length) (v (R7 (y7 elS n) p) [(bCx q r t u j i n),(bH o l m a b c d e f g h)]) none) none) none) none) none) (v false [(bCx q r t u j i n),(bH o l m a b c d e f g h)])) none) none) none
def Db0(d:Nat)(c0 c1 c2 c3 c_z4 c_t5 c6 h7 h8 h9 h10 h11 h12 h13 h14 h15 h16 h17):evC (A48 L) (d+1) Y Q 8 [(gCx c0 c1 c2 c3 c_z4 c_t5 c6),(gH h7 h8 h9 h10 h11 h12 h13 h14 h15 h16 h17)] [] s=Da9 L c0 c1 c2 c3 c_z4 c_t5 c6 h7 h8 h9 h10 h11 h12 h13 h14 h15 h16 h17 (λb a=>some (pB b,a,s)):=by refine(evE (fn:=Tryz.f8) (by kernel_rfl)).trans ?_;generalize evC (A48 L) d=W;unfold Da9;kernel_rfl
end
def Bp3(z t:Bool)(l:List By)(v:By)(a:Int->Option R)(b:Unit->Option R)(k:l.length<=1000000000):∀(r i m:Nat),i+r=l.length->r<m->
  Jq LF m z t (C2 l) v (l.length:Int) (i:Int) a b=match (l.drop i).findIdx? (· == v) with|some j=>a ((i+j:Nat):Int)|none=>b ():=by
 intro r
 induction r with
 | zero=>
  intro i m e f;rcases m with _|m;omega
  rw[Jq,A7,j4 (by omega)];rfl
 | succ r g=>
  intro i m e f;rcases m with _|m;omega
  have c:A1 ((i:Int)+1)=((i+1:Nat):Int):=by rw[A6];rfl
  have d:l.drop i=l.getD i []::l.drop (i+1):=by
   rw[j7,p4 (by omega),x4,y5]
  rw[Jq,A8,K6 (by omega) (by rw[C3];omega),j1,O0 (by omega),S8,c,d,List.findIdx?_cons];simp only[aa];by_cases h:l.getD i []=v
  ·rw[h,beq_self_eq_true];simp
  ·rw[show(v==l.getD i [])=false by simpa using λq=>h q.symm,show(l.getD i []==v)=false by simpa using h,ab,g (i+1) m (by omega) (by omega)];cases (l.drop (i+1)).findIdx? (· == v) with
   | none=>rfl
   | some j=>simp[Nat.add_assoc,Nat.add_comm 1 j]
def Bp4{b:Int->Option R}(z t:Bool)(l:LL)(v:By)(c:l.all isS=true)(d:A2 l.length=true):B20 LF z t l v b=b (B85 (l.map elS) v):=by
 have f:=D6;have a:=M5 d;rw[Pi c] at a ⊢;generalize l.map elS=q at a ⊢;rw[C3] at a;have e:y7 elS (C2 q)=q:=by
  unfold C2;rw[List.map_map];exact List.map_id'' (λ_=>rfl) q
 unfold B20 B85;rw[C3,e];refine(Bp3 z t q v _ _ a q.length 0 LF (by omega) (by omega)).trans ?_;rw[k9];cases q.findIdx? (· == v) with
 | none=>rfl
 | some j=>
  show b ((0+j:Nat):Int)=b (j:Int);rw[Nat.zero_add]
def Df4(l:List By)(v:By):(!ltI (B85 l v) 0)=R7 l v:=by
 unfold B85 R7;cases h:l.findIdx? (· == v) with
 | none=>
  rw[List.findIdx?_eq_none_iff] at h;show(!ltI (-1) 0)=_;rw[A8];exact(List.any_eq_false.2 λx c=>by rw[h x c];simp).symm
 | some j=>
  show(!ltI (j:Int) 0)=_;rw[A7];exact(List.any_eq_true.2 (by
   obtain⟨a,b,_⟩:=List.findIdx?_eq_some_iff_getElem.1 h;exact⟨_,aa7 a,b⟩)).symm
def Bo9{a:Bool->Option R}(z t:Bool)(l:LL)(v:By)(b:l.all isS=true)(c:A2 l.length=true):B19 LF z t l v a=a (R7 (l.map elS) v):=by unfold B19;rw[b,c,<-Df4];rfl
def Db1(x v up m z t:Bool)(l:LL)(j:Int)(i:By)(v4 a b c d e f g h:Int)(n:l.all isS=true)(o:A2 l.length=true)(p:A2 i.length=true)(q:ltN v4 4294967296=true)(u:ok8 a b c d e f g h=true) :
  ∃r H,Da9 LF x v up m z t l j i v4 a b c d e f g h (λw k=>rv (.s (.bool w)) k)=rv r H/\r.stab [] H = .s (.bool (Bd2 (l.map elS) (mkH j i v4 (n8 a b c d e f g h)))):=by
 unfold Da9 Bd2;rw[n,o,p,q,u];cases N7 (mkH j i v4 (n8 a b c d e f g h))<;>exact⟨_,_,rfl,rfl⟩
section
variable {W R : Type} (L : Nat) (Q : G4) (Y : Yh W) (s : W) (k : Out -> St W -> Option R)
noncomputable def KO(L:Nat):Cfg:=D0 L [89] (A4 []) [] (A4 [(1,[2]),(0,[0])]) [] (A4 []) (some [2]) [] [] []
noncomputable def Af0(L:Nat)(n0:Int)(a:Bool->Option R):Option R:=cond (not (ltI n0 0)) (cond (not (ltI 1114111 n0)) (cond (ltI n0 55296) (a true) (a (ltI 57343 n0))) (a false)) (a false)
def Cf4(d:Nat)(n0):evC (KO L) (d+1) W Y 89 [pI n0] [] s=Af0 L n0 (λa=>some (pB a,[],s)):=by refine(evE (fn:=Tryz.f89) (by kernel_rfl)).trans ?_;generalize evC (KO L) d=Q;unfold Af0;kernel_rfl
noncomputable abbrev Qt:Code:=D4 ad3
noncomputable def Z6(L:Nat):Cfg:=D0 L [92] (A4 [(6,[0,5,0])]) [] (A4 [(9,[6]),(8,[0,6]),(7,[0,6]),(6,[0,6,11]),(5,[0,6]),(4,[0]),(2,[0,0]),(3,[0,0]),(1,[0,0,6]),(0,[0,0,0])]) [] (A4 [(0,[0,6]),(1,[0,6])]) (some [6]) [] [] []
noncomputable def Ik(L n:Nat)(a b:Int)(e:Int->Int->Option R):Option R:=match n with|0=>none|n+1=>cond (ltI 455 a) (vl (A1 (s8 a (35:Int))) λc=>vl (A1 (b+36)) λd=>Ik L n c d e) (e a b)
def Ae0(n a b):E0 0 ((Z6 L).keep 6) (bd (Z6 L) Q Y (cd [1,1,1,1,0,0,0] Qt)) n ⟨gp [(0,pI a),(6,pI b)] 23,[],s⟩ k =
 Ik L n a b (λa b=>k (.exit 0) ⟨gp [(0,pI a),(6,pI b)] 23,[],s⟩):=by
 induction n generalizing a b with
 | zero=>rfl
 | succ n c=>rw[Ik];simp only[<-c];kernel_rfl
noncomputable def Ij(L:Nat)(b h:Int)(i:Int->Option R):Option R:=cond (h !=0) (vl (A1 (s8 b h)) λg=>Ik L L (A1 (b+g)) 0 (λa d=>vl (A1 ((36:Int)*a)) λe=>vl (A1 (a+38)) λc=>cond (c !=0) (vl (A1 (s8 e c)) λf=>i (A1 (d+f))) none)) none
abbrev FS(b:Code):Prop:=∀(k:Out->St W->Option R) delta0 n1,A9 (Z6 L) Q Y b ⟨gp [(0,pI delta0),(0,pI n1)] 29,[],s⟩ k=Ij L delta0 n1 (λn0=>k .ret ⟨gp [(6,pI n0)] 24,[],s⟩)
def Ad9:FS (R:=R) L Q Y s (cd [1,1] Qt):=by intro k a c;unfold Ij;exact(c9 (by kernel_rfl) (A0 (A5 λb=>((Ae0 L Q Y s (F0 0 (F5 (Z6 L) Q Y (cd [1,1,1,1,1] Qt) k)) L (A1 (a+b)) 0).trans (by kernel_rfl))) rfl))
noncomputable def NN(L:Nat)(a h:Int)(b:Bool)(g:Int->Option R):Option R:=cond b (vl (A1 (s8 a (700:Int))) λe=>Ij L e h (λc=>g c)) (vl (A1 (s8 a (2:Int))) λf=>Ij L f h (λd=>g d))
def Cd3(d:Code)(a:FS (R:=PV × List Blk × W) L Q Y s d)(b e:Int)(c:Bool):A9 (Z6 L) Q Y (cd [] (I2 [1,1] d Qt)) ⟨[pI b,pI e,pB c]++tps 28,[],s⟩ (G1 (Z6 L) ad3)=NN L b e c (λi=>some (pI i,[],s)):=by unfold NN;exact let h:=(G1 (Z6 L) ad3);(c9 (by kernel_rfl) (A0 (A5 λf=>((a h f e).trans (by kernel_rfl))) (A5 λg=>((a h g e).trans (by kernel_rfl)))))
def Cd4(d:Nat)(delta0 n1 first2):evC (Z6 L) (d+1) W Y 92 [pI delta0,pI n1,pB first2] [] s=NN L delta0 n1 first2 (λa=>some (pI a,[],s)):=
 (evE (fn:=ad3) (by kernel_rfl)).trans (c9 (by kernel_rfl) (Cd3 L (evC (Z6 L) d) Y s (cd [1,1] Qt) (Ad9 L (evC (Z6 L) d) Y s) delta0 n1 first2))
noncomputable def A62(L:Nat):Cfg:=D0 L [90] (A4 []) [] (A4 [(1,[4]),(0,[0,0])]) [] (A4 []) (some [4]) [] [] []
noncomputable def Dm3(L:Nat)(c a:Int)(e:Int->Option R):Option R:=vl (A1 ((36:Int)*(A1 (c+1)))) λb=>vl (if ((if ((A1 (b-a))<(26:Int)) then (A1 (b-a)) else (26:Int)) > (1:Int)) then (if ((A1 (b-a))<(26:Int)) then (A1 (b-a)) else (26:Int)) else (1:Int)) λd=>e d
def Dm4(d:Nat)(kk0 bias1):evC (A62 L) (d+1) W Y 90 [pI kk0,pI bias1] [] s=Dm3 L kk0 bias1 (λa=>some (pI a,[],s)):=by refine(evE (fn:=Tryz.f90) (by kernel_rfl)).trans ?_;generalize evC (A62 L) d=Q;unfold Dm3;kernel_rfl
noncomputable def YJ(L:Nat):Cfg:=D0 L [91] (A4 []) [] (A4 [(3,[2]),(2,[2]),(1,[0,3]),(0,[0])]) [] (A4 []) (some [2]) [] [] []
noncomputable def B04(L:Nat)(a:Int)(d:Int->Option R):Option R:=cond (ltI a 26) (vl (wu8 (A1 ((97:Int)+a))) λb=>d b) (vl (A1 ((A1 ((48:Int)+a))-26)) λc=>d (wu8 c))
def Cy0(d:Nat)(d0):evC (YJ L) (d+1) W Y 91 [pI d0] [] s=B04 L d0 (λa=>some (p8 a,[],s)):=by refine(evE (fn:=Tryz.f91) (by kernel_rfl)).trans ?_;generalize evC (YJ L) d=Q;unfold B04;kernel_rfl
noncomputable abbrev Vi:Code:=D4 ac1
noncomputable def La(L:Nat):Cfg:=D0 L [151] (A4 []) [] (A4 [(7,[2]),(2,[2]),(4,[2]),(6,[2]),(5,[0,22]),(3,[0,12]),(1,[0,2]),(0,[0])]) [] (A4 [(0,[])]) (some [2]) [] [] []
noncomputable def AE(a:Int)(g:Bool)(e:Int->Option R)(f:Int->Bool->Option R):Option R:=cond g (vl (A1 (wu8 (a-65))) λb=>e b) (cond (not (ltI a 48)) (cond (not (ltI 57 a)) (vl (A1 (wu8 (a-48))) λc=>vl (A1 (c+26)) λd=>e d) (f a (not (ltI 57 a)))) (f a false))
abbrev UB(b:Code):Prop:=∀(k:Out->St W->Option R) a c,A9 (La L) Q Y b ⟨gp [(0,p8 a),(12,pB c)] 20,[],s⟩ k=AE a c (λn0=>k .ret ⟨gp [(2,pI n0)] 31,[],s⟩) (λa c=>k .normal ⟨gp [(0,p8 a),(22,pB c)] 10,[],s⟩)
def Bo0:UB (R:=R) L Q Y s (cd [1,0,0,1,1,1] Vi):=by intro k a b;unfold AE;kernel_rfl
noncomputable def AF(a:Int)(l:Bool)(f:Int->Option R)(j:Int->Bool->Option R):Option R:=cond l (vl (A1 (wu8 (a-97))) λg=>f g) (cond (not (ltI a 65)) (AE a (not (ltI 90 a)) (λh=>f h) (λb c=>j b c)) (AE a false (λi=>f i) (λd e=>j d e)))
abbrev EC(b:Code):Prop:=∀(k:Out->St W->Option R) a c,A9 (La L) Q Y b ⟨gp [(0,p8 a),(2,pB c)] 30,[],s⟩ k=AF a c (λn0=>k .ret ⟨gp [(2,pI n0)] 31,[],s⟩) (λa c=>k .normal ⟨gp [(0,p8 a),(22,pB c)] 10,[],s⟩)
def Bo1(a:Code)(b:UB (R:=R) L Q Y s a):EC (R:=R) L Q Y s (cd [1,0,0,1] (I2 [1,0,0,1,1,1] a Vi)):=by intro k c d;unfold AF;simp only[<-b k];kernel_rfl
def Bo2:EC (R:=R) L Q Y s (cd [1,0,0,1] Vi):=by intro k a b;exact c9 (by kernel_rfl) (Bo1 L Q Y s (cd [1,0,0,1,1,1] Vi) (Bo0 L Q Y s) k a b)
noncomputable def C12(L:Nat)(c:Int)(d:Int->Option R):Option R:=cond (not (ltI c 97)) (AF c (not (ltI 122 c)) (λa=>d a) (λe f=>d (-1))) (AF c false (λb=>d b) (λg h=>d (-1)))
def Dn4(b:Code)(a:EC (R:=PV × List Blk × W) L Q Y s b)(c:Int):A9 (La L) Q Y (cd [] (I2 [1,0,0,1] b Vi)) ⟨[p8 c]++tps 33,[],s⟩ (G1 (La L) ac1)=C12 L c (λe=>some (pI e,[],s)):=by unfold C12;exact let d:=(F0 0 (F5 (La L) Q Y (cd [1,1] Vi) (G1 (La L) ac1)));(c9 (by kernel_rfl) (A0 ((a d c (not (ltI 122 c))).trans (by kernel_rfl)) ((a d c false).trans (by kernel_rfl))))
def Dn5(d:Nat)(b0):evC (La L) (d+1) W Y 151 [p8 b0] [] s=C12 L b0 (λa=>some (pI a,[],s)):=
 (evE (fn:=ac1) (by kernel_rfl)).trans (c9 (by kernel_rfl) (Dn4 L (evC (La L) d) Y s (cd [1,0,0,1] Vi) (Bo2 L (evC (La L) d) Y s) b0))
noncomputable abbrev Cy:Code:=D4 ad2
noncomputable def O5(L:Nat):Cfg:=D0 L [54] (A4 [(32,[0,1,0,0,1,0,0,0,0,2,0,0]),(25,[0,1,0,0,1,0,0,0,0,2]),(18,[0,1,0,0,1,0,0,0,0,0,0]),(15,[0,1,0,0,1,0,0,0,0]),(5,[0,1,0,0,0])]) [(89,Xd),(90,A28),(91,Bu3),(92,IW)] (A4 [(43,[2,0]),(42,[0,3,1,0,0,0,0]),(41,[0,3,1,0,0,0,0]),(26,[0,3,1,0,0,0,0,2]),(40,[0,3,1,0,0,0,0,2]),(39,[0,3,1,0,0,0,0,2]),(38,[0,3,1,0,0,1,2]),(37,[0,3,1,0,0,0,3]),(36,[0,3,1,0,0,0,0,2,0,0]),(35,[0,3,1,0,0,0,0,2,0,0]),(34,[0,3,1,0,0,0,0,2,0,0,0]),(33,[0,3,1,0,0,0,0,2,0,0,0]),(32,[0,3,1,0,0,0,0,2,0,0,94]),(31,[0,3,1,0,0,0,0,2,0,0]),(30,[0,3,1,0,0,0,0,2,0]),(29,[0,3,1,0,0,0,0,2,90]),(28,[0,3,1,0,0,0,0,2]),(27,[0,3,1,0,0,0,0,2,82]),(25,[0,3,1,0,0,0,0,2,74]),(24,[0,3,1,0,0,0,0,2]),(23,[0,3,1,0,0,0,0]),(22,[0,3,1,0,1,0,0]),(19,[0,3,1,0,0,0,0,0,0]),(21,[0,3,1,0,0,0,0,0,0]),(20,[0,3,1,0,0,0,0,0,0,56]),(18,[0,3,1,0,0,0,0,0,0,48]),(17,[0,3,1,0,0,0,0,0,0]),(16,[0,3,1,0,0,0,0,0]),(15,[0,3,1,0,0,0,0,46]),(14,[0,3,1,0,0,0,0]),(13,[0,3,1,0]),(12,[0,3,1,0,42]),(11,[0,3,1,0]),(6,[0,3,0]),(10,[0,3,0]),(9,[0,3,0,30]),(8,[2,0]),(7,[0,3,0,25]),(5,[0,3,0,17]),(4,[0,3,0]),(3,[0,3]),(2,[2,0]),(1,[0,18]),(0,[0])]) [89,90,91,92] (A4 [(2,[4]),(3,[0,3,1,0,0,0,0]),(6,[0,3,1,0,0,0,0]),(7,[0,3,1,0,0,0,0,2]),(8,[0,3,1,0,0,0,3,0]),(9,[0,3,1,0,0,0,0,2,0,0]),(4,[0,3,1,0,0,0,0,0]),(5,[0,3,1,0,0,0,0,0,0]),(0,[0,3]),(1,[0,3,0])]) (some [2,0]) [] [] []
noncomputable def W3(L n:Nat)(c b:Bool)(a:LL)(d:Int)(e:LL)(f:LL->Option R)(g:Kaj R):Option R:=match n with|0=>none|n+1=>cond (ltI d (a.length:Int)) (cond (inR d a.length) (cond (okE Mv a (j0 d) 0) (vl (gE a (j0 d) 0) λh=>cond (not (ptI h)) (f e) (cond (inR d a.length) (cond (okE Mv a (j0 d) 0) (vl (gE a (j0 d) 0) λi=>cond (ltI i 128) (cond (inR d a.length) (cond (okE Mv a (j0 d) 0) (vl (gE a (j0 d) 0) λj=>cond (G0 (e.length+1)) (W3 L n c b a (A1 (d+1)) (e++[[(SV.int .u8 (wu8 j))]]) f g) none) none) none) (W3 L n c b a (A1 (d+1)) e f g)) none) none)) none) none) (g c b a e)
def Bh7(n b a c i3 l4):E0 1 ((O5 L).keep 5) (bd (O5 L) Q Y (cd [1,1,1,0,1,0,0] Cy)) n ⟨gp [(0,.s (.sl b a 1 c)),(3,.fl 0),(0,pI i3)] 148,[.arr true 5 1 l4],s⟩ k =
 W3 L n b a c i3 l4 (λe=>k .ret ⟨gp [(2,pS ([]:By)),(0,pI (2:Int))] 150,[.arr true 5 1 e],s⟩) (λb a c f=>k (.exit 0) ⟨gp [(0,.s (.sl b a 1 c)),(3,.fl 0)] 149,[.arr true 5 1 f],s⟩):=by
 induction n generalizing b a c i3 l4 with
 | zero=>rfl
 | succ n d=>rw[W3];simp only[<-d];kernel_rfl
noncomputable def Km(L n:Nat)(c b:Bool)(a:LL)(h e o f g d i:Int)(l10:LL)(p:Kae R):Option R:=match n with|0=>none|n+1=>cond (ltI i (a.length:Int)) (cond (inR i a.length) (cond (okE Mv a (j0 i) 0) (vl (gE a (j0 i) 0) λl=>cond (not (ltI l o)) (cond (inR i a.length) (cond (okE Mv a (j0 i) 0) (vl (gE a (j0 i) 0) λj=>vl (if (j<d) then j else d) λm=>Km L n c b a h e o f g m (A1 (i+1)) l10 p) none) none) (Km L n c b a h e o f g d (A1 (i+1)) l10 p)) none) none) (p c b a h e o f g d l10)
def Bh8(n b a c h d i e g f i9 l10):E0 1 ((O5 L).keep 18) (bd (O5 L) Q Y (cd [1,1,1,1,1,1,1,0,0,0,1,0,1,0,1,0,0] Cy)) n ⟨gp [(0,.s (.sl b a 1 c)),(3,.fl 0),(1,pI h),(0,pI d),(0,pI i),(0,pI e),(0,pI g),(0,pI f),(0,pI i9)] 141,[.arr true 5 1 l10],s⟩ k =
 Km L n b a c h d i e g f i9 l10 (λb a c h d i e g f l=>k (.exit 4) ⟨gp [(0,.s (.sl b a 1 c)),(3,.fl 0),(1,pI h),(0,pI d),(0,pI i),(0,pI e),(0,pI g),(0,pI f)] 142,[.arr true 5 1 l],s⟩):=by
 induction n generalizing b a c h d i e g f i9 l10 with
 | zero=>rfl
 | succ n j=>rw[Km];simp only[<-j];kernel_rfl
noncomputable def Hd(L n:Nat)(c b:Bool)(f:LL)(i g w h a i8 u e:Int)(o:LL)(v:Kae R):Option R:=match n with|0=>none|n+1=>cond (ltN e 10000000000) (cond (ltN a 1000000) (vl (N0 (aa3 (36:Int) e) a) λp=>cond (not (ltI u p)) (cond (ltN e 10000000000) (cond (ltN a 1000000) (vl (N0 (aa3 (36:Int) e) a) λd=>vl (A1 ((36:Int)-d)) λj=>cond (j !=0) (vl (o8 (A1 (u-d)) j) λl=>cond (ltN (A1 (d+l)) 36) (vl (↑(ac2 (Bn (j0 (A1 (d+l))))):Int) λq=>cond (G0 (o.length+1)) (vl (A1 ((36:Int)-d)) λm=>cond (m !=0) (vl (A1 (s8 (A1 (u-d)) m)) λr=>vl (A1 (e+1)) λt=>Hd L n c b f i g w h a i8 r t (o++[[(SV.int .u8 q)]]) v) none) none) none) none) none) none) (v c b f i g w h i8 u o)) none) none
def NQ(n b a c f d g e bias7 i8 q9 kk10 l11):E0 1 ((O5 L).keep 32) (bd (O5 L) Q Y (cd [1,1,1,1,1,1,1,0,0,0,1,0,1,1,1,1,0,1,0,0,1,0,0,1,1,1,1,0,0,0] Cy)) n ⟨gp [(0,.s (.sl b a 1 c)),(3,.fl 0),(1,pI f),(0,pI d),(0,pI g),(0,pI e),(0,pI bias7),(2,pI i8),(0,pI q9),(0,pI kk10)] 138,[.arr true 5 1 l11],s⟩ k =
 Hd L n b a c f d g e bias7 i8 q9 kk10 l11 (λb a c f d g e h l j=>k (.exit 8) ⟨gp [(0,.s (.sl b a 1 c)),(3,.fl 0),(1,pI f),(0,pI d),(0,pI g),(0,pI e),(3,pI h),(0,pI l)] 139,[.arr true 5 1 j],s⟩):=by
 induction n generalizing b a c f d g e bias7 i8 q9 kk10 l11 with
 | zero=>rfl
 | succ n i=>rw[Hd];simp only[<-i];kernel_rfl
noncomputable def Bv(L n:Nat)(c b:Bool)(a:LL)(i d B e f i8:Int)(I:LL)(H:Kbd R):Option R:=match n with|0=>none|n+1=>cond (ltI i8 (a.length:Int)) (cond (inR i8 a.length) (cond (okE Mv a (j0 i8) 0) (vl (gE a (j0 i8) 0) λJ=>cond (ltI J B) (vl (A1 (e+1)) λw=>cond (inR i8 a.length) (cond (okE Mv a (j0 i8) 0) (vl (gE a (j0 i8) 0) λK=>cond (K !=B) (Bv L n c b a i d B w f (A1 (i8+1)) I H) (Hd L L c b a i d B w f i8 w 0 I (λr p u g j N m F C z=>cond (ltN C 36) (vl (↑(ac2 (Bn (j0 C))):Int) λO=>cond (G0 (z.length+1)) (vl (A1 (g+1)) λx=>cond (ltN m 1152921504606846976) (cond (ltN x 1000000) (cond (ltI 0 x) (vl (↑(R4 (j0 m) (j0 x) (g==j)):Int) λP=>vl (A1 (g+1)) λS=>vl (A1 (F+1)) λT=>Bv L n r p u S j N 0 P T (z++[[(SV.int .u8 O)]]) H) none) none) none) none) none))) none) none) (cond (inR i8 a.length) (cond (okE Mv a (j0 i8) 0) (vl (gE a (j0 i8) 0) λM=>cond (M !=B) (Bv L n c b a i d B e f (A1 (i8+1)) I H) (Hd L L c b a i d B e f i8 e 0 I (λt q v h l U o G D A=>cond (ltN D 36) (vl (↑(ac2 (Bn (j0 D))):Int) λV=>cond (G0 (A.length+1)) (vl (A1 (h+1)) λy=>cond (ltN o 1152921504606846976) (cond (ltN y 1000000) (cond (ltI 0 y) (vl (↑(R4 (j0 o) (j0 y) (h==l)):Int) λX=>vl (A1 (h+1)) λZ=>vl (A1 (G+1)) λa0=>Bv L n t q v Z l U 0 X a0 (A++[[(SV.int .u8 V)]]) H) none) none) none) none) none))) none) none)) none) none) (H c b a i d B e f I)
def Bh9(n b a c g d t e f i8 l9):E0 1 ((O5 L).keep 25) (bd (O5 L) Q Y (cd [1,1,1,1,1,1,1,0,0,0,1,0,1,1,1,1,0,1,0,0] Cy)) n ⟨gp [(0,.s (.sl b a 1 c)),(3,.fl 0),(1,pI g),(0,pI d),(0,pI t),(0,pI e),(0,pI f),(2,pI i8)] 140,[.arr true 5 1 l9],s⟩ k =
 Bv L n b a c g d t e f i8 l9 (λb a c g d t e f l8=>k (.exit 6) ⟨gp [(0,.s (.sl b a 1 c)),(3,.fl 0),(1,pI g),(0,pI d),(0,pI t),(0,pI e),(0,pI f)] 143,[.arr true 5 1 l8],s⟩):=by
 induction n generalizing b a c g d t e f i8 l9 with
 | zero=>rfl
 | succ n M=>rw[Bv];exact let N:=(F0 8 (F5 (O5 L) Q Y (cd [1,1,1,1,1,1,1,0,0,0,1,0,1,1,1,1,0,1,0,0,1,0,0,1,1,1,1,1] Cy) (F0 7 (F5 (O5 L) Q Y (cd [1,1,1,1,1,1,1,0,0,0,1,0,1,1,1,1,0,1,0,0,1,1] Cy) (lpK 1 ((O5 L).keep 25) (bd (O5 L) Q Y (cd [1,1,1,1,1,1,1,0,0,0,1,0,1,1,1,1,0,1,0,0] Cy)) n k)))));(c9 (by kernel_rfl) (A0 (A0 (A0 (A5 λS=>(A0 (A5 λr=>(A0 (A0 (A5 λT=>(A0 (M b a c g d t r f (A1 (i8+1)) l9) ((NQ L Q Y s N L b a c g d t r f i8 r 0 l9).trans (congr rfl (Dd5 λj h m w p A u O Z y=>(c9 (by kernel_rfl) (A0 (A5 λB=>(A0 (A5 λV=>(A0 (A0 (A0 (A5 λC=>(A5 λD=>(A5 λF=>(M j h m D p A 0 C F (y++[[(SV.int .u8 B)]]))))) rfl) rfl) rfl)) rfl)) rfl))))))) rfl) rfl)) (A0 (A0 (A5 λU=>(A0 (M b a c g d t e f (A1 (i8+1)) l9) ((NQ L Q Y s N L b a c g d t e f i8 e 0 l9).trans (congr rfl (Dd5 λl i o x q G v P a0 z=>(c9 (by kernel_rfl) (A0 (A5 λH=>(A0 (A5 λX=>(A0 (A0 (A0 (A5 λI=>(A5 λJ=>(A5 λK=>(M l i o J q G 0 I K (z++[[(SV.int .u8 H)]]))))) rfl) rfl) rfl)) rfl)) rfl))))))) rfl) rfl))) rfl) rfl) rfl))
noncomputable def He(L n:Nat)(l j:Bool)(g:LL)(v w K x y:Int)(J:LL)(I:LL->Option R):Option R:=match n with|0=>none|n+1=>cond (ltI v (g.length:Int)) (Km L L l j g v w K x y 1073741824 0 J (λd b h f m B p r a z=>vl (A1 (f+1)) λC=>vl (A1 ((A1 (a-B))*C)) λD=>Bv L L d b h f m a (A1 (p+D)) r 0 z (λe c i u o F q t A=>vl (A1 (q+1)) λG=>vl (A1 (F+1)) λH=>He L n e c i u o H G t A I))) (I J)
def NR(n points_z0 points_t1 points2 done3 basic4 n5 delta6 bias7 l8):E0 1 ((O5 L).keep 15) (bd (O5 L) Q Y (cd [1,1,1,1,1,1,1,0,0,0] Cy)) n ⟨gp [(0,.s (.sl points_z0 points_t1 1 points2)),(3,.fl 0),(1,pI done3),(0,pI basic4),(0,pI n5),(0,pI delta6),(0,pI bias7)] 143,[.arr true 5 1 l8],s⟩ k =
 He L n points_z0 points_t1 points2 done3 basic4 n5 delta6 bias7 l8 (λB=>k (.exit 2) ⟨gp [(4,.fl 0)] 149,[.arr true 5 1 B],s⟩):=by
 induction n generalizing points_z0 points_t1 points2 done3 basic4 n5 delta6 bias7 l8 with
 | zero=>rfl
 | succ n A=>rw[He];exact(c9 (by kernel_rfl) (A0 ((Bh8 L Q Y s (F0 4 (F5 (O5 L) Q Y (cd [1,1,1,1,1,1,1,0,0,0,1,0,1,1] Cy) (F0 3 (lpK 1 ((O5 L).keep 15) (bd (O5 L) Q Y (cd [1,1,1,1,1,1,1,0,0,0] Cy)) n k)))) L points_z0 points_t1 points2 done3 basic4 n5 delta6 bias7 1073741824 0 l8).trans (congr rfl (Dd5 λc a e o g x i l j r=>(c9 (by kernel_rfl) (A5 λy=>(A5 λu=>((Bh9 L Q Y s (F0 6 (F5 (O5 L) Q Y (cd [1,1,1,1,1,1,1,0,0,0,1,0,1,1,1,1,1] Cy) (F0 3 (lpK 1 ((O5 L).keep 15) (bd (O5 L) Q Y (cd [1,1,1,1,1,1,1,0,0,0] Cy)) n k)))) L c a e o g j (A1 (i+u)) l 0 r).trans (congr rfl (fx9 λd b f p h z q m t=>(c9 (by kernel_rfl) (A5 λv=>(A5 λw=>(A d b f p h w v m t))))))))))))) rfl))
noncomputable def Au6(L:Nat)(f e:Bool)(d:LL)(o:Unit->Option R)(m:By->Int->LL->Option R):Option R:=cond (ltI 256 (d.length:Int)) (o ()) (W3 L L f e d 0 [] (λn=>m ([]:By) 2 n) (λb a c g=>vl (g.length:Int) λl=>vl (g.length:Int) λj=>cond (ltI 0 j) (cond (G0 (g.length+1)) (He L L b a c l j 128 0 72 (g++[[(SV.int .u8 (45:Int))]]) (λh=>cond (aa5 h Qg) (m (y7 Nx h) 0 h) none)) none) (He L L b a c l j 128 0 72 g (λi=>cond (aa5 i Qg) (m (y7 Nx i) 0 i) none))))
def Dk7(d:Nat)(points_z0 points_t1 points2):evC (O5 L) (d+1) W Y 54 [.s (.sl points_z0 points_t1 1 points2)] [] s=Au6 L points_z0 points_t1 points2 (λ_=>some (.tup [pS ([]:By),pI (3:Int)],[],s)) (λj l i=>some (.tup [pS j,pI l],[.arr true 5 1 i],s)):=by refine(evE (fn:=ad2) (by kernel_rfl)).trans ?_;generalize evC (O5 L) d=Q;unfold Au6;exact let h:=(F0 2 (F5 (O5 L) Q Y (cd [1,1,1,1,1,1,1,1] Cy) (G1 (O5 L) ad2)));(c9 (by kernel_rfl) (A0 rfl ((Bh7 L Q Y s (F0 0 (F5 (O5 L) Q Y (cd [1,1,1,1] Cy) (G1 (O5 L) ad2))) L points_z0 points_t1 points2 0 []).trans (congr (congr rfl (by kernel_rfl)) (fx4 λb a c g=>(c9 (by kernel_rfl) (A5 λe=>(A5 λf=>(A0 (A0 ((NR L Q Y s h L b a c e f 128 0 72 (g++[[(SV.int .u8 (45:Int))]])).trans (by kernel_rfl)) rfl) ((NR L Q Y s h L b a c e f 128 0 72 g).trans (by kernel_rfl)))))))))))
noncomputable abbrev An:Code:=D4 ab2
noncomputable def L2(L:Nat):Cfg:=D0 L [124] (A4 [(27,[0,1,0,2,1,0,0,0,0,0,0,0]),(23,[0,1,0,2,1,0,0,0,0]),(13,[0,1,0,0,1,0]),(5,[0,1,0,0,0])]) [(151,Co0),(90,A28),(92,IW),(89,Xd)] (A4 [(51,[2,0]),(50,[0,5,1,0,0,0,0]),(49,[2,0]),(48,[0,5,1,0,0,0,0,118]),(47,[0,5,1,0,0,0,0]),(46,[2,0]),(45,[0,5,1,0,0,0,0,103]),(44,[0,5,1,0,0,0,0]),(43,[0,5,1,0,0,0,0]),(42,[0,5,1,0,0,0,0]),(41,[0,5,1,0,0,0]),(26,[0,5,1,0,0,0,0,0,0,0]),(40,[2,0]),(39,[0,5,1,0,0,0,0,0,0,0,77]),(38,[0,5,1,0,0,0,0,0,0,0]),(37,[0,5,1,0,0,0,0,0,0,0,1,69]),(36,[0,5,1,0,0,0,0,0,0,0,0,0]),(35,[2,0]),(34,[0,5,1,0,0,0,0,0,0,0,0,64]),(33,[0,5,1,0,0,0,0,0,0,0,0]),(32,[2,0]),(31,[0,5,1,0,0,0,0,0,0,0,0,57]),(30,[0,5,1,0,0,0,0,0,0,0,0]),(29,[0,5,1,0,0,0,0,0,0,0,0]),(28,[2,0]),(27,[0,5,1,0,0,0,0,0,0,0,50]),(25,[0,5,1,0,0,0,0,0,0,0]),(24,[0,5,1,0,0,0,0,0,0]),(23,[0,5,1,0,0,0,0,46]),(22,[0,5,1,0,0,0,0]),(21,[0,5,1,0,0,0]),(20,[0,5,1]),(19,[0,5,1,44]),(18,[0,3,1,1]),(17,[2,0]),(16,[0,3,1,43]),(14,[0,3,1,0]),(15,[0,3,1,0]),(13,[0,3,1,0,30]),(12,[0,3,1,0]),(11,[0,3,1]),(6,[0,3,0]),(10,[0,3,0]),(9,[0,3,0,28]),(8,[2,0]),(7,[0,3,0,24]),(5,[0,3,0,18]),(4,[0,3,0]),(3,[0,3]),(2,[2,0]),(1,[0,19]),(0,[0])]) [151,90,92,89] (A4 [(4,[6]),(5,[0,5,1,0,0,0,0]),(6,[0,5,1,0,0,1,0]),(7,[0,5,1,0,0,0,0,0,0,0]),(2,[0,3,1]),(3,[0,3,1,0]),(0,[0,3]),(1,[0,3,0])]) (some [2,0]) [] [] [] (rw:=[(47,6)])
noncomputable def Fu(L n:Nat)(c:By)(a b:Int)(d:Unit->Option R)(e:By->Int->Option R):Option R:=match n with|0=>none|n+1=>cond (ltI b (c.length:Int)) (cond (inR b c.length) (cond (not (ltI (bAt c b) (128:Int))) (d ()) (cond (inR b c.length) (cond ((bAt c b)==45) (Fu L n c b (A1 (b+1)) d e) (Fu L n c a (A1 (b+1)) d e)) none)) none) (e c a)
def Av8(n b a i2):E0 0 ((L2 L).keep 5) (bd (L2 L) Q Y (cd [1,1,1,0,1,0,0] An)) n ⟨gp [(0,pS b),(3,pI a),(0,pI i2)] 129,[],s⟩ k =
 Fu L n b a i2 (λ_=>k .ret ⟨gp [(2,.fl 0),(0,pI (4:Int))] 131,[.arr true 3 1 []],s⟩) (λb a=>k (.exit 0) ⟨gp [(0,pS b),(3,pI a)] 130,[],s⟩):=by
 induction n generalizing b a i2 with
 | zero=>rfl
 | succ n c=>rw[Fu];simp only[<-c];kernel_rfl
noncomputable def Jm(L n:Nat)(c:By)(a b:Int)(d:LL)(e:By->Int->LL->Option R):Option R:=match n with|0=>none|n+1=>cond (ltI b a) (cond (inR b c.length) (cond (G0 (d.length+1)) (Jm L n c a (A1 (b+1)) (d++[[(SV.int .i64 (A1 (bAt c b)))]]) e) none) none) (e c a d)
def Av9(n b a i2 l3):E0 1 ((L2 L).keep 13) (bd (L2 L) Q Y (cd [1,1,1,1,1,0,1,0,0] An)) n ⟨gp [(0,pS b),(3,pI a),(1,.fl 0),(0,pI i2)] 127,[.arr true 3 1 l3],s⟩ k =
 Jm L n b a i2 l3 (λb a d=>k (.exit 2) ⟨gp [(0,pS b),(3,pI a),(1,.fl 0)] 128,[.arr true 3 1 d],s⟩):=by
 induction n generalizing b a i2 l3 with
 | zero=>rfl
 | succ n c=>rw[Jm];simp only[<-c];kernel_rfl
abbrev Kbf(R:Type):=By->LL->Int->Int->Int->Int->LL->Option R
noncomputable def X1(L n:Nat)(l:By)(g:LL)(b q r a f o h:Int)(j:LL)(m:Int->LL->Option R)(p:Kbf R):Option R:=match n with|0=>none|n+1=>cond (not (ltI b (l.length:Int))) (m 4 j) (cond (inR b l.length) (cond (inR (bAt l b) 256) (vl (F2 (u8n (bAt l b))) λi=>cond (ltI i 0) (m 4 j) (vl (A1 (r+(A1 (i*o)))) λc=>cond (ltI 1099511627776 c) (m 19 j) (cond (ltN h 10000000000) (cond (ltN a 1000000) (vl (N0 (aa3 (36:Int) h) a) λd=>cond (ltI i d) (p l g (A1 (b+1)) q c f j) (vl (A1 ((36:Int)-d)) λe=>cond (ltI 1099511627776 (A1 (o*e))) (m 19 j) (X1 L n l g (A1 (b+1)) q c a f (A1 (o*e)) (A1 (h+1)) j m p))) none) none))) none) none)
def Aw0(n f a b d c bias5 old6 w7 kk8 l9):E0 1 ((L2 L).keep 27) (bd (L2 L) Q Y (cd [1,1,1,1,1,1,1,1,1,1,1,0,0,0,1,0,1,0,1,0,0] An)) n ⟨gp [(0,pS f),(5,.s (.sl false false 1 a)),(1,pI b),(0,pI d),(0,pI c),(0,pI bias5),(0,pB false),(0,pI old6),(0,pI w7),(0,pI kk8)] 119,[.arr true 3 1 l9],s⟩ k =
 X1 L n f a b d c bias5 old6 w7 kk8 l9 (λn0 h=>k .ret ⟨gp [(2,.fl 1),(0,pI n0)] 131,[.arr true 3 1 h,.arr true 3 1 []],s⟩) (λf a b d c e i=>k (.exit 6) ⟨gp [(0,pS f),(5,.s (.sl false false 1 a)),(1,pI b),(0,pI d),(0,pI c),(1,pB false),(0,pI e)] 121,[.arr true 3 1 i],s⟩):=by
 induction n generalizing f a b d c bias5 old6 w7 kk8 l9 with
 | zero=>rfl
 | succ n g=>rw[X1];simp only[<-g];kernel_rfl
noncomputable def Q5(L n:Nat)(C:By)(m:LL)(q D y p:Int)(B:LL)(x:Int->LL->Option R)(z:LL->LL->Option R)(A:LL->LL->Option R):Option R:=match n with|0=>none|n+1=>cond (ltI q (C.length:Int)) (X1 L L C m q D y p y 1 0 B (λt r=>x t r) (λw a o d b h i=>vl (A1 ((a.length:Int)+1)) λj=>cond (ltN (A1 (b-h)) 1152921504606846976) (cond (ltN j 1000000) (cond (ltI 0 j) (vl (↑(R4 (j0 (A1 (b-h))) (j0 j) false):Int) λu=>vl (A1 ((a.length:Int)+1)) λl=>cond (l !=0) (vl (A1 (s8 b l)) λe=>vl (A1 ((a.length:Int)+1)) λf=>cond (f !=0) (cond (not (ptI (A1 (d+e)))) (x 2 i) (cond (L3 0 (o8 b f) a.length) (vl (cut a 0 (o8 b f)) λc=>cond (L3 (o8 b f) (a.length:Int) a.length) (vl (cut a (o8 b f) (a.length:Int)) λg=>cond (G0 (0+c.length)) (cond (G0 (c.length+1)) (cond (G0 ((j9 (c++[[(SV.int .i64 (A1 (d+e)))]]))+g.length)) (cond (ltI 256 (↑(j9 ((c++[[(SV.int .i64 (A1 (d+e)))]])++g)):Int)) (z i ((c++[[(SV.int .i64 (A1 (d+e)))]])++g)) (vl (A1 ((o8 b f)+1)) λv=>Q5 L n w ((c++[[(SV.int .i64 (A1 (d+e)))]])++g) o (A1 (d+e)) v u i x z A)) none) none) none) none) none)) none) none) none) none) none)) (A m B)
def Aw1(n s0 out1 at2 n3 i4 bias5 l6):E0 1 ((L2 L).keep 23) (bd (L2 L) Q Y (cd [1,1,1,1,1,1,1,1,1,1,1,0,0,0] An)) n ⟨gp [(0,pS s0),(5,.s (.sl false false 1 out1)),(1,pI at2),(0,pI n3),(0,pI i4),(0,pI bias5),(0,pB false)] 122,[.arr true 3 1 l6],s⟩ k =
 Q5 L n s0 out1 at2 n3 i4 bias5 l6 (λn0 g=>k .ret ⟨gp [(2,.fl 1),(0,pI n0)] 131,[.arr true 3 1 g,.arr true 3 1 []],s⟩) (λv g=>k .ret ⟨gp [(2,.fl 2),(0,pI (3:Int))] 131,[.arr true 3 1 v,.arr false 3 1 g,.arr true 3 1 []],s⟩) (λj g=>k (.exit 4) ⟨gp [(6,.s (.sl false false 1 j))] 128,[.arr true 3 1 g],s⟩):=by
 induction n generalizing s0 out1 at2 n3 i4 bias5 l6 with
 | zero=>rfl
 | succ n u=>rw[Q5];exact(c9 (by kernel_rfl) (A0 ((Aw0 L Q Y s (F0 6 (F5 (L2 L) Q Y (cd [1,1,1,1,1,1,1,1,1,1,1,0,0,0,1,0,1,1] An) (F0 5 (lpK 1 ((L2 L).keep 23) (bd (L2 L) Q Y (cd [1,1,1,1,1,1,1,1,1,1,1,0,0,0] An)) n k)))) L s0 out1 at2 n3 i4 bias5 i4 1 0 l6).trans (congr (congr rfl (by kernel_rfl)) (fx7 λl o c a p m d=>(c9 (by kernel_rfl) (A5 λq=>(A0 (A0 (A0 (A5 λh=>(A5 λr=>(A0 (A5 λb=>(A5 λt=>(A0 (A0 rfl (A0 (A5 λe=>(A0 (A5 λf=>(A0 (A0 (A0 (A0 rfl (A5 λi=>(u l ((e++[[(SV.int .i64 (A1 (a+b)))]])++f) c (A1 (a+b)) i h d))) rfl) rfl) rfl)) rfl)) rfl)) rfl))) rfl))) rfl) rfl) rfl)))))) rfl))
noncomputable def X2(L n:Nat)(h:By)(a m j f:Int)(g:LL)(i:Int->LL->Option R)(l:Kbe R):Option R:=match n with|0=>none|n+1=>cond (not (ltI a (h.length:Int))) (i 4 g) (cond (inR a h.length) (cond (inR (bAt h a) 256) (vl (F2 (u8n (bAt h a))) λb=>cond (ltI b 0) (i 4 g) (vl (A1 (m+(A1 (b*j)))) λc=>cond (ltI 1099511627776 c) (i 19 g) (cond (ltN f 10000000000) (cond (ltN 72 1000000) (vl (N0 (aa3 (36:Int) f) (72:Int)) λd=>cond (ltI b d) (l h (A1 (a+1)) c g) (vl (A1 ((36:Int)-d)) λe=>cond (ltI 1099511627776 (A1 (j*e))) (i 19 g) (X2 L n h (A1 (a+1)) c (A1 (j*e)) (A1 (f+1)) g i l))) none) none))) none) none)
def Aw2(n c a b w3 kk4 l5):E0 1 ((L2 L).keep 27) (bd (L2 L) Q Y (cd [1,1,1,1,1,1,1,1,1,1,1,0,0,0,1,0,1,0,1,0,0] An)) n ⟨gp [(0,pS c),(5,.fl 0),(1,pI a),(0,pI (128:Int)),(0,pI b),(0,pI (72:Int)),(0,pB true),(0,pI (0:Int)),(0,pI w3),(0,pI kk4)] 119,[.arr true 3 1 l5],s⟩ k =
 X2 L n c a b w3 kk4 l5 (λn0 e=>k .ret ⟨gp [(2,.fl 1),(0,pI n0)] 131,[.arr true 3 1 e,.arr true 3 1 []],s⟩) (λc a b f=>k (.exit 6) ⟨gp [(0,pS c),(5,.fl 0),(1,pI a),(0,pI (128:Int)),(0,pI b),(1,pB true),(0,pI (0:Int))] 121,[.arr true 3 1 f],s⟩):=by
 induction n generalizing c a b w3 kk4 l5 with
 | zero=>rfl
 | succ n d=>rw[X2];simp only[<-d];kernel_rfl
noncomputable def M6(L n:Nat)(D:By)(m:Int)(C:LL)(A:Int->LL->Option R)(B:LL->LL->Option R)(F:LL->LL->Option R)(G:LL->Option R):Option R:=match n with|0=>none|n+1=>cond (ltI m (D.length:Int)) (X2 L L D m 0 1 0 C (λu o=>A u o) (λz l b a=>vl (A1 (b-0)) λi=>vl (A1 ((a.length:Int)+1)) λe=>cond (ltN i 1152921504606846976) (cond (ltN e 1000000) (cond (ltI 0 e) (vl (↑(R4 (j0 i) (j0 e) true):Int) λv=>vl (A1 ((a.length:Int)+1)) λj=>cond (j !=0) (vl (A1 (s8 b j)) λw=>vl (A1 ((128:Int)+w)) λf=>vl (A1 ((a.length:Int)+1)) λc=>cond (c !=0) (cond (not (ptI f)) (A 2 a) (cond (L3 0 (o8 b c) a.length) (cond (L3 (o8 b c) (a.length:Int) a.length) (cond (G0 (0+(j9 (y9 ((j0 (o8 b c))-0) (aa2 0 a))))) (cond (G0 ((j9 (y9 ((j0 (o8 b c))-0) (aa2 0 a)))+1)) (vl ((y9 ((j0 (o8 b c))-0) (aa2 0 a))++[[(SV.int .i64 f)]]) λh=>cond (G0 (h.length+(j9 (y9 ((j0 (a.length:Int))-(j0 (o8 b c))) (aa2 (j0 (o8 b c)) a))))) (vl (h++(y9 ((j0 (a.length:Int))-(j0 (o8 b c))) (aa2 (j0 (o8 b c)) a))) λd=>cond (ltI 256 (d.length:Int)) (B a d) (vl (A1 ((o8 b c)+1)) λx=>Q5 L n z d l f x v a (λy p=>A y p) (λq r=>B q r) (λg t=>F g t))) none) none) none) none) none)) none) none) none) none) none)) (G C)
def FW(n s0 at1 l2):E0 1 ((L2 L).keep 23) (bd (L2 L) Q Y (cd [1,1,1,1,1,1,1,1,1,1,1,0,0,0] An)) n ⟨gp [(0,pS s0),(5,.fl 0),(1,pI at1),(0,pI (128:Int)),(0,pI (0:Int)),(0,pI (72:Int)),(0,pB true)] 122,[.arr true 3 1 l2],s⟩ k =
 M6 L n s0 at1 l2 (λn0 d=>k .ret ⟨gp [(2,.fl 1),(0,pI n0)] 131,[.arr true 3 1 d,.arr true 3 1 []],s⟩) (λl d=>k .ret ⟨gp [(2,.fl 2),(0,pI (3:Int))] 131,[.arr true 3 1 l,.arr false 3 1 d,.arr true 3 1 []],s⟩) (λh d=>k (.exit 4) ⟨gp [(6,.s (.sl false false 1 h))] 128,[.arr true 3 1 d],s⟩) (λl=>k (.exit 4) ⟨gp [(6,.fl 0)] 128,[.arr true 3 1 l],s⟩):=by
 induction n generalizing s0 at1 l2 with
 | zero=>rfl
 | succ n A=>rw[M6];exact(c9 (by kernel_rfl) (A0 ((Aw2 L Q Y s (F0 6 (F5 (L2 L) Q Y (cd [1,1,1,1,1,1,1,1,1,1,1,0,0,0,1,0,1,1] An) (F0 5 (lpK 1 ((L2 L).keep 23) (bd (L2 L) Q Y (cd [1,1,1,1,1,1,1,1,1,1,1,0,0,0] An)) n k)))) L s0 at1 0 1 0 l2).trans (congr (congr rfl (by kernel_rfl)) (fx4 λi a m b=>(c9 (by kernel_rfl) (A5 λu=>(A5 λv=>(A0 (A0 (A0 (A5 λe=>(A5 λw=>(A0 (A5 λx=>(A5 λf=>(A5 λy=>(A0 (A0 rfl (A0 (A0 (A0 (A0 (A5 λo=>(A0 (A5 λc=>(A0 rfl (A5 λg=>((Aw1 L Q Y s k n i c a f g e b).trans (congr (congr (congr rfl (fx2 λz p=>rfl)) (fx2 λq r=>rfl)) (fx2 λj t=>rfl)))))) rfl)) rfl) rfl) rfl) rfl)) rfl)))) rfl))) rfl) rfl) rfl))))))) rfl))
noncomputable def B15(L:Nat)(A:By)(u:Int->LL->Option R)(v:Int->LL->Option R)(y:LL->LL->Option R)(z:LL->LL->Option R):Option R:=cond (ltI 1024 (A.length:Int)) (u 3 []) (Fu L L A 0 0 (λ_=>u 4 []) (λx e=>Jm L L x e 0 [] (λt a b=>cond (ltI 256 (b.length:Int)) (v 3 b) (cond (ltI 0 a) (vl (A1 (a+1)) λw=>M6 L L t w b (λq f=>v q f) (λg h=>y g h) (λc i=>z c i) (λj=>u 0 j)) (M6 L L t a b (λr l=>v r l) (λm n=>y m n) (λd o=>z d o) (λp=>u 0 p))))))
def C06(d:Nat)(s0):evC (L2 L) (d+1) W Y 124 [pS s0] [] s=B15 L s0 (λf c=>some (.tup [.fl 0,pI f],[.arr true 3 1 c],s)) (λf c=>some (.tup [.fl 1,pI f],[.arr true 3 1 c,.arr true 3 1 []],s)) (λl c=>some (.tup [.fl 2,pI (3:Int)],[.arr true 3 1 l,.arr false 3 1 c,.arr true 3 1 []],s)) (λf c=>some (.tup [.s (.sl false false 1 f),pI (0:Int)],[.arr true 3 1 c],s)):=by refine(evE (fn:=ab2) (by kernel_rfl)).trans ?_;generalize evC (L2 L) d=Q;unfold B15;exact let j:=(F0 4 (F5 (L2 L) Q Y (cd [1,1,1,1,1,1,1,1,1,1,1,1] An) (G1 (L2 L) ab2)));(c9 (by kernel_rfl) (A0 rfl ((Av8 L Q Y s (F0 0 (F5 (L2 L) Q Y (cd [1,1,1,1] An) (G1 (L2 L) ab2))) L s0 0 0).trans (congr (congr rfl (by kernel_rfl)) (fx2 λi a=>(c9 (by kernel_rfl) ((Av9 L Q Y s (F0 2 (F5 (L2 L) Q Y (cd [1,1,1,1,1,1] An) (G1 (L2 L) ab2))) L i a 0 []).trans (congr rfl (fx3 λg b e=>(c9 (by kernel_rfl) (A0 rfl (A0 (A5 λh=>((FW L Q Y s j L g h e).trans (by kernel_rfl))) ((FW L Q Y s j L g b e).trans (by kernel_rfl))))))))))))))
noncomputable abbrev Bd:Code:=D4 ad1
noncomputable def Q0(L:Nat):Cfg:=D0 L [52] (A4 [(17,[0,1,0,0,0,1,0,0,0]),(3,[0,1,0,0,0])]) [(89,Xd)] (A4 [(27,[2,0]),(26,[0,3,0]),(25,[0,3,0,1]),(24,[2,0]),(23,[0,3,0,1,0,77]),(18,[0,3,0,1,0,0,0]),(22,[0,3,0,1,0,0,0]),(21,[2,0]),(20,[0,3,0,1,0,0,0,0,61]),(19,[0,3,0,1,0,0,0,0]),(17,[0,3,0,1,0,0,0,48]),(16,[0,3,0,1,0,0,0]),(15,[2,0]),(14,[0,3,0,1,0,0,46]),(9,[0,3,0,1,0,0]),(11,[0,3,0,1,0,0]),(13,[0,3,0,1,0,0]),(6,[2,0]),(12,[0,3,0,0,35]),(10,[0,3,0,0,26]),(8,[0,3,0,0,17]),(7,[0,3,0,0,0,0,0,11]),(5,[0,3,0,0,0,0,0]),(4,[0,3,0,0]),(3,[0,3,0,9]),(2,[0,3,0]),(1,[0,3]),(0,[0])]) [89] (A4 [(0,[4]),(1,[0,3,0]),(3,[0,3,0,1,0,0]),(4,[0,3,0,1,0,0,0]),(2,[0,3,0,1,0,0])]) (some [2,0]) [] [] []
noncomputable def AC(L n:Nat)(d:By)(a e:Int)(c:LL)(b:Kbe R):Option R:=match n with|0=>none|n+1=>b d a e c
def Bm6(n c a d b):E0 1 ((Q0 L).keep 17) (bd (Q0 L) Q Y (cd [1,1,0,1,0,0,1,0,1,1,1,1,0,1,0,0] Bd)) n ⟨gp [(0,pS c),(3,.fl 0),(0,pI a),(1,pI (1:Int)),(0,pI d),(0,pI (0:Int)),(0,pI (1:Int))] 84,[.arr true 3 1 b],s⟩ k =
 AC L n c a d b (λc a d b=>k (.exit 3) ⟨gp [(0,pS c),(3,.fl 0),(0,pI a),(1,pI (1:Int)),(0,pI d),(0,pI (0:Int))] 85,[.arr true 3 1 b],s⟩):=by
 induction n generalizing c a d b with
 | zero=>rfl
 | succ n e=>rw[AC];kernel_rfl
noncomputable def AB(L:Nat)(i:By)(g j:Int)(h:LL)(d:LL->Option R)(l:By->Int->LL->Option R):Option R:=vl (A1 ((i.length:Int)-g)) λe=>cond (ltI e 1) (d h) (AC L L i g j h (λf c b a=>cond (ltI b 0) (d a) (cond (not (ptI b)) (d a) (cond (G0 (a.length+1)) (l f (A1 (c+1)) (a++[[(SV.int .i64 b)]])) none))))
abbrev EA(b:Code):Prop:=∀(k:Out->St W->Option R) c a b2 b3 l4,A9 (Q0 L) Q Y b ⟨gp [(0,pS c),(3,.fl 0),(0,pI a),(0,pI b2),(0,pI (1:Int)),(0,pI b2),(0,pI (0:Int)),(11,pB b3)] 73,[.arr true 3 1 l4],s⟩ k=AB L c a b2 l4 (λd=>k .ret ⟨gp [(2,.fl 1),(0,pB false)] 91,[.arr true 3 1 d,.arr true 3 1 []],s⟩) (λc a e=>k .normal ⟨gp [(0,pS c),(3,.fl 0),(0,pI a)] 89,[.arr true 3 1 e],s⟩)
def Bm0:EA (R:=R) L Q Y s (cd [1,1,0,1,0,0,1,0,1,1,1] Bd):=by intro k e b a f c;unfold AB;exact(c9 (by kernel_rfl) (A5 λd=>(A0 rfl ((Bm6 L Q Y s (F0 3 (F5 (Q0 L) Q Y (cd [1,1,0,1,0,0,1,0,1,1,1,1,1] Bd) k)) L e b a c).trans (by kernel_rfl)))))
abbrev Kbg(R:Type):=By->Int->Int->Int->Int->LL->Option R
noncomputable def Ov(h:By)(e c:Int)(i:Bool)(d:LL)(f:Kbg R)(g:LL->Option R):Option R:=cond i (vl (A1 (c-224)) λa=>f h e 3 a 2048 d) (cond (not (ltI c 240)) (cond (ltI c 245) (vl (A1 (c-240)) λb=>f h e 4 b 65536 d) (g d)) (g d))
abbrev TY(b:Code):Prop:=∀(k:Out->St W->Option R) d c b2 b3 l4,A9 (Q0 L) Q Y b ⟨gp [(0,pS d),(3,.fl 0),(0,pI c),(0,pI b2),(26,pB b3)] 61,[.arr true 3 1 l4],s⟩ k=Ov d c b2 b3 l4 (λd c g h a f=>k .normal ⟨gp [(0,pS d),(3,.fl 0),(0,pI c),(1,pI g),(0,pI h),(0,pI a)] 85,[.arr true 3 1 f],s⟩) (λe=>k .ret ⟨gp [(2,.fl 1),(0,pB false)] 91,[.arr true 3 1 e,.arr true 3 1 []],s⟩)
def Bm2:TY (R:=R) L Q Y s (cd [1,1,0,1,0,0,1,0,1,1,0,0,1,1,1,1,1] Bd):=by intro k e c a b d;unfold Ov;kernel_rfl
noncomputable def Ow(v:By)(r c:Int)(x:Bool)(u:LL)(t:Kbg R)(w:LL->Option R):Option R:=cond x (vl (A1 (c-192)) λj=>t v r 2 j 128 u) (cond (not (ltI c 224)) (Ov v r c (ltI c 240) u (λn d l p a f=>t n d l p a f) (λg=>w g)) (Ov v r c false u (λo e m q b h=>t o e m q b h) (λi=>w i)))
abbrev Ts(b:Code):Prop:=∀(k:Out->St W->Option R) d c b2 b3 l4,A9 (Q0 L) Q Y b ⟨gp [(0,pS d),(3,.fl 0),(0,pI c),(0,pI b2),(17,pB b3)] 70,[.arr true 3 1 l4],s⟩ k=Ow d c b2 b3 l4 (λd c g h a f=>k .normal ⟨gp [(0,pS d),(3,.fl 0),(0,pI c),(1,pI g),(0,pI h),(0,pI a)] 85,[.arr true 3 1 f],s⟩) (λe=>k .ret ⟨gp [(2,.fl 1),(0,pB false)] 91,[.arr true 3 1 e,.arr true 3 1 []],s⟩)
def Bm3(a:Code)(b:TY (R:=R) L Q Y s a):Ts (R:=R) L Q Y s (cd [1,1,0,1,0,0,1,0,1,1,0,0,1,1,1] (I2 [1,1,0,1,0,0,1,0,1,1,0,0,1,1,1,1,1] a Bd)):=by intro k g e c d f;unfold Ow;simp only[<-b k];kernel_rfl
def Bm4:Ts (R:=R) L Q Y s (cd [1,1,0,1,0,0,1,0,1,1,0,0,1,1,1] Bd):=by intro k e c a b d;exact c9 (by kernel_rfl) (Bm3 L Q Y s (cd [1,1,0,1,0,0,1,0,1,1,0,0,1,1,1,1,1] Bd) (Bm2 L Q Y s) k e c a b d)
noncomputable def Hi(L n:Nat)(h:By)(f j m a c:Int)(g:LL)(i:LL->Option R)(l:Kbg R):Option R:=match n with|0=>none|n+1=>cond (ltI c j) (cond (inR (A1 (f+c)) h.length) (vl (bAt h (A1 (f+c))) λb=>cond (ltI (A1 b) (128:Int)) (i g) (cond (ltI 191 (A1 b)) (i g) (vl (A1 ((A1 (m*64))+(A1 b))) λd=>vl (A1 (d-128)) λe=>Hi L n h f j e a (A1 (c+1)) g i l))) none) (l h f j m a g)
def Bm8(n d b c e a kk5 l6):E0 1 ((Q0 L).keep 17) (bd (Q0 L) Q Y (cd [1,1,0,1,0,0,1,0,1,1,1,1,0,1,0,0] Bd)) n ⟨gp [(0,pS d),(3,.fl 0),(0,pI b),(1,pI c),(0,pI e),(0,pI a),(0,pI kk5)] 84,[.arr true 3 1 l6],s⟩ k =
 Hi L n d b c e a kk5 l6 (λg=>k .ret ⟨gp [(2,.fl 1),(0,pB false)] 91,[.arr true 3 1 g,.arr true 3 1 []],s⟩) (λd b c e a h=>k (.exit 3) ⟨gp [(0,pS d),(3,.fl 0),(0,pI b),(1,pI c),(0,pI e),(0,pI a)] 85,[.arr true 3 1 h],s⟩):=by
 induction n generalizing d b c e a kk5 l6 with
 | zero=>rfl
 | succ n f=>rw[Hi];simp only[<-f];kernel_rfl
noncomputable def Fg(L:Nat)(o:By)(l n q d:Int)(m:LL)(j:LL->Option R)(p:By->Int->LL->Option R):Option R:=vl (A1 ((o.length:Int)-l)) λg=>cond (ltI g n) (j m) (Hi L L o l n q d 1 m (λf=>j f) (λi e h c b a=>cond (ltI c b) (j a) (cond (not (ptI c)) (j a) (cond (G0 (a.length+1)) (p i (A1 (e+h)) (a++[[(SV.int .i64 c)]])) none))))
abbrev EB(b:Code):Prop:=∀(k:Out->St W->Option R) c a n2 v3 least4 l5,A9 (Q0 L) Q Y b ⟨gp [(0,pS c),(3,.fl 0),(0,pI a),(1,pI n2),(0,pI v3),(0,pI least4)] 85,[.arr true 3 1 l5],s⟩ k=Fg L c a n2 v3 least4 l5 (λd=>k .ret ⟨gp [(2,.fl 1),(0,pB false)] 91,[.arr true 3 1 d,.arr true 3 1 []],s⟩) (λc a e=>k .normal ⟨gp [(0,pS c),(3,.fl 0),(0,pI a)] 89,[.arr true 3 1 e],s⟩)
def Bm5:EB (R:=R) L Q Y s (cd [1,1,0,1,0,0,1,0,1,1,1] Bd):=by intro k f c e g a d;unfold Fg;exact(c9 (by kernel_rfl) (A5 λb=>(A0 rfl ((Bm8 L Q Y s (F0 3 (F5 (Q0 L) Q Y (cd [1,1,0,1,0,0,1,0,1,1,1,1,1] Bd) k)) L f c e g a 1 d).trans (by kernel_rfl)))))
noncomputable def Ax(L n:Nat)(d:By)(c:Int)(D:LL)(e:LL->Option R)(C:LL->Option R):Option R:=match n with|0=>none|n+1=>cond (ltI c (d.length:Int)) (cond (inR c d.length) (cond (ltI (A1 (bAt d c)) (128:Int)) (AB L d c (A1 (bAt d c)) D (λG=>e G) (λI F H=>Ax L n I F H e C)) (cond (not (ltI (A1 (bAt d c)) (194:Int))) (Ow d c (A1 (bAt d c)) (ltI (A1 (bAt d c)) (224:Int)) D (λw f u A a j=>Fg L w f u A a j (λm=>e m) (λx g o=>Ax L n x g o e C)) (λl=>e l)) (Ow d c (A1 (bAt d c)) false D (λy h v B b p=>Fg L y h v B b p (λr=>e r) (λz i t=>Ax L n z i t e C)) (λq=>e q)))) none) (C D)
def Bm9(a:Code)(e:EA (R:=R) L Q Y s a)(d:EB (R:=R) L Q Y s a)(b:Code)(c:Ts (R:=R) L Q Y s b)(n:Nat)(i:By)(h:Int)(j:LL):E0 1 ((Q0 L).keep 3) (bd (Q0 L) Q Y (cd [1,1,0,1,0,0] (I2 [1,1,0,1,0,0,1,0,1,1,0,0,1,1,1] b (I2 [1,1,0,1,0,0,1,0,1,1,1] a Bd)))) n ⟨gp [(0,pS i),(3,.fl 0),(0,pI h)] 89,[.arr true 3 1 j],s⟩ k =
 Ax L n i h j (λI=>k .ret ⟨gp [(2,.fl 1),(0,pB false)] 91,[.arr true 3 1 I,.arr true 3 1 []],s⟩) (λI=>k (.exit 0) ⟨gp [(4,.fl 0)] 90,[.arr true 3 1 I],s⟩):=by
 induction n generalizing i h j with
 | zero=>rfl
 | succ n G=>rw[Ax];exact let D:=(F0 1 (lpK 1 ((Q0 L).keep 3) (bd (Q0 L) Q Y (cd [1,1,0,1,0,0] (I2 [1,1,0,1,0,0,1,0,1,1,0,0,1,1,1] b (I2 [1,1,0,1,0,0,1,0,1,1,1] a Bd)))) n k));let K:=(F0 2 (F5 (Q0 L) Q Y a D));(c9 (by kernel_rfl) (A0 (A0 (A0 ((e D i h (A1 (bAt i h)) (ltI (A1 (bAt i h)) (128:Int)) j).trans (congr (congr rfl (by kernel_rfl)) (fx3 λJ F H=>(c9 (by kernel_rfl) (G J F H))))) (A0 ((c K i h (A1 (bAt i h)) (ltI (A1 (bAt i h)) (224:Int)) j).trans (congr (congr rfl (fx6 λx l v B f q=>(c9 (by kernel_rfl) ((d D x l v B f q).trans (congr (congr rfl (by kernel_rfl)) (fx3 λy m r=>(c9 (by kernel_rfl) (G y m r)))))))) (by kernel_rfl))) ((c K i h (A1 (bAt i h)) false j).trans (congr (congr rfl (fx6 λz o w C g t=>(c9 (by kernel_rfl) ((d D z o w C g t).trans (congr (congr rfl (by kernel_rfl)) (fx3 λA p u=>(c9 (by kernel_rfl) (G A p u)))))))) (by kernel_rfl))))) rfl) rfl))
noncomputable def Dl9(L:Nat)(e:By)(c:LL->Option R)(d:LL->Option R):Option R:=Ax L L e 0 [] (λa=>c a) (λb=>d b)
def Dm0(b:Code)(c:EA (R:=PV × List Blk × W) L Q Y s b)(e:EB (R:=PV × List Blk × W) L Q Y s b)(a:Code)(d:Ts (R:=PV × List Blk × W) L Q Y s a)(g:By):A9 (Q0 L) Q Y (cd [] (I2 [1,1,0,1,0,0,1,0,1,1,0,0,1,1,1] a (I2 [1,1,0,1,0,0,1,0,1,1,1] b Bd))) ⟨[pS g]++tps 94,[],s⟩ (G1 (Q0 L) ad1)=Dl9 L g (λf=>some (.tup [.fl 1,pB false],[.arr true 3 1 f,.arr true 3 1 []],s)) (λf=>some (.tup [.fl 0,pB true],[.arr true 3 1 f],s)):=by unfold Dl9;exact(c9 (by kernel_rfl) ((Bm9 L Q Y s (F0 0 (F5 (Q0 L) Q Y (cd [1,1,1] Bd) (G1 (Q0 L) ad1))) b c e a d L g 0 []).trans (by kernel_rfl)))
def Dm1(d:Nat)(s0):evC (Q0 L) (d+1) W Y 52 [pS s0] [] s=Dl9 L s0 (λa=>some (.tup [.fl 1,pB false],[.arr true 3 1 a,.arr true 3 1 []],s)) (λa=>some (.tup [.fl 0,pB true],[.arr true 3 1 a],s)):=
 (evE (fn:=ad1) (by kernel_rfl)).trans (c9 (by kernel_rfl) (Dm0 L (evC (Q0 L) d) Y s (cd [1,1,0,1,0,0,1,0,1,1,1] Bd) (Bm0 L (evC (Q0 L) d) Y s) (Bm5 L (evC (Q0 L) d) Y s) (cd [1,1,0,1,0,0,1,0,1,1,0,0,1,1,1] Bd) (Bm4 L (evC (Q0 L) d) Y s) s0))
noncomputable abbrev Bw4:Code:=D4 ae3
noncomputable def Ns(L:Nat):Cfg:=D0 L [93] (A4 [(6,[0,1,0,1,0])]) [(124,Bu9),(54,A25)] (A4 [(12,[2]),(11,[0,4,1,0]),(7,[0,2,1,0]),(10,[2]),(9,[0,2,1,0,34]),(8,[0,2,1,0]),(6,[0,2,1,0,12]),(5,[0,2,1,0]),(4,[0,2,1]),(3,[2]),(2,[0,2,11]),(1,[0,2,0]),(0,[0])]) [54] (A4 [(0,[0,2,1]),(1,[0,2,1,0])]) (some [2]) [] [] []
noncomputable def Ag(L n:Nat)(a:By)(d:Bool)(b:LL)(e:Bool)(c:Int)(f:Unit->Option R)(g:Kce R):Option R:=match n with|0=>none|n+1=>cond (ltI c (b.length:Int)) (cond e (cond (inR c b.length) (cond (okE Mv b (j0 c) 0) (cond (not (ltI (gE b (j0 c) 0) (65:Int))) (cond (inR c b.length) (cond (okE Mv b (j0 c) 0) (cond (not (ltI 90 (gE b (j0 c) 0))) (f ()) (Ag L n a d b true (A1 (c+1)) f g)) none) none) (Ag L n a d b true (A1 (c+1)) f g)) none) none) (cond (inR c b.length) (cond (okE Mv b (j0 c) 0) (cond (inR c b.length) (cond (okE Mv b (j0 c) 0) (cond (not (ltI (gE b (j0 c) 0) (65:Int))) (cond (inR c b.length) (cond (okE Mv b (j0 c) 0) (cond (not (ltI 90 (gE b (j0 c) 0))) (f ()) (Ag L n a d b (not (ltI (gE b (j0 c) 0) (128:Int))) (A1 (c+1)) f g)) none) none) (Ag L n a d b (not (ltI (gE b (j0 c) 0) (128:Int))) (A1 (c+1)) f g)) none) none) none) none)) (g a d b e)
def Aw5(n c b d a i4):E0 0 ((Ns L).keep 6) (bd (Ns L) Q Y (cd [1,1,1,1,0,1,0,0] Bw4)) n ⟨gp [(0,pS c),(2,.s (.sl b b 1 d)),(1,pB a),(0,pI i4)] 50,[],s⟩ k =
 Ag L n c b d a i4 (λ_=>k .ret ⟨gp [(2,pB false)] 54,[],s⟩) (λc b d a=>k (.exit 0) ⟨gp [(0,pS c),(2,.s (.sl b b 1 d)),(1,pB a)] 51,[],s⟩):=by
 induction n generalizing c b d a i4 with
 | zero=>rfl
 | succ n e=>rw[Ag];simp only[<-e];kernel_rfl
noncomputable def B17(L:Nat)(a:By)(e:Bool->Option R):Option R:=cond (A2 a.length) (vl (↑((P2 a)).2:Int) λf=>cond (f !=0) (e false) (Ag L L a (ad6 ((P2 a)).1) (Og ((P2 a)).1) false 0 (λ_=>e false) (λc h d b=>cond (aa5 d Pt) (vl ((Y3 (y7 elI d))).1 λi=>vl (↑((Y3 (y7 elI d))).2:Int) λg=>cond (g==0) (cond (i==c) (e b) (e false)) (e false)) none))) none
def C09(d:Nat)(rest0):evC (Ns L) (d+1) W Y 93 [pS rest0] [] s=B17 L rest0 (λb=>some (pB b,[],s)):=by refine(evE (fn:=ae3) (by kernel_rfl)).trans ?_;generalize evC (Ns L) d=Q;unfold B17;exact(c9 (by kernel_rfl) (A0 (A5 λa=>(A0 rfl ((Aw5 L Q Y s (F0 0 (F5 (Ns L) Q Y (cd [1,1,1,1,1] Bw4) (G1 (Ns L) ae3))) L rest0 (ad6 ((P2 rest0)).1) (Og ((P2 rest0)).1) false 0).trans (by kernel_rfl)))) rfl))
noncomputable abbrev Bw2:Code:=D4 ae2
noncomputable def Nq(L:Nat):Cfg:=D0 L [55] (A4 [(4,[0,1,0])]) [(93,Bv1)] (A4 [(9,[2]),(5,[0,2]),(8,[2]),(7,[0,2,52]),(6,[0,2,0]),(4,[0,2,24]),(3,[0,2]),(2,[2]),(1,[0,23]),(0,[0])]) [93] (A4 [(0,[0]),(1,[0,2])]) (some [2]) [] [] []
noncomputable def P5(L n:Nat)(a:By)(b:Int)(c:Unit->Option R)(d:By->Option R):Option R:=match n with|0=>none|n+1=>cond (ltI b (a.length:Int)) (cond (inR b a.length) (cond (not (ltI (bAt a b) (97:Int))) (cond (not (ltI 122 (bAt a b))) (P5 L n a (A1 (b+1)) c d) (cond (not (ltI (bAt a b) (48:Int))) (cond (not (ltI 57 (bAt a b))) (P5 L n a (A1 (b+1)) c d) (cond ((bAt a b)==45) (P5 L n a (A1 (b+1)) c d) (cond (not ((bAt a b)==95)) (c ()) (P5 L n a (A1 (b+1)) c d)))) (cond ((bAt a b)==45) (P5 L n a (A1 (b+1)) c d) (cond (not ((bAt a b)==95)) (c ()) (P5 L n a (A1 (b+1)) c d))))) (cond (not (ltI (bAt a b) (48:Int))) (cond (not (ltI 57 (bAt a b))) (P5 L n a (A1 (b+1)) c d) (cond ((bAt a b)==45) (P5 L n a (A1 (b+1)) c d) (cond (not ((bAt a b)==95)) (c ()) (P5 L n a (A1 (b+1)) c d)))) (cond ((bAt a b)==45) (P5 L n a (A1 (b+1)) c d) (cond (not ((bAt a b)==95)) (c ()) (P5 L n a (A1 (b+1)) c d))))) none) (d a)
def Av4(n a i1):E0 0 ((Nq L).keep 4) (bd (Nq L) Q Y (cd [1,1,0,1,0,0] Bw2)) n ⟨gp [(0,pS a),(2,pI i1)] 66,[],s⟩ k =
 P5 L n a i1 (λ_=>k .ret ⟨gp [(2,pB false)] 67,[],s⟩) (λa=>k (.exit 0) ⟨gp [(0,pS a)] 69,[],s⟩):=by
 induction n generalizing a i1 with
 | zero=>rfl
 | succ n b=>rw[P5];simp only[<-b];kernel_rfl
noncomputable def B08(L:Nat)(c:By)(b:Bool->Option R):Option R:=cond (c==[]) (b false) (cond (ltI 63 (c.length:Int)) (b false) (cond (inR 0 c.length) (cond ((bAt c (0:Int))==45) (b false) (vl (A1 ((c.length:Int)-1)) λd=>cond (inR d c.length) (cond ((bAt c d)==45) (b false) (P5 L L c 0 (λ_=>b false) (λa=>cond (ltI (a.length:Int) (4:Int)) (b true) (cond (L3 0 (4:Int) a.length) (vl (cut a 0 (4:Int)) λf=>cond (not (f==[120,110,45,45])) (b true) (cond (L3 4 (a.length:Int) a.length) (vl (cut a 4 (a.length:Int)) λe=>cond (A2 e.length) (b (Fe e)) none) none)) none)))) none)) none))
def C02(d:Nat)(s0):evC (Nq L) (d+1) W Y 55 [pS s0] [] s=B08 L s0 (λb=>some (pB b,[],s)):=by refine(evE (fn:=ae2) (by kernel_rfl)).trans ?_;generalize evC (Nq L) d=Q;unfold B08;exact(c9 (by kernel_rfl) (A0 rfl (A0 rfl (A0 (A0 rfl (A5 λa=>(A0 (A0 rfl ((Av4 L Q Y s (F0 0 (F5 (Nq L) Q Y (cd [1,1,1] Bw2) (G1 (Nq L) ae2))) L s0 0).trans (by kernel_rfl))) rfl))) rfl))))
noncomputable def YM(L:Nat):Cfg:=D0 L [31] (A4 []) [(52,Cn5),(53,Cn4),(54,A25),(55,WO)] (A4 [(15,[2,0]),(14,[2,0]),(13,[6,37]),(12,[6]),(11,[2,0]),(10,[9,29]),(9,[9,0]),(8,[7]),(7,[6,20]),(6,[0,3,1]),(5,[2,0]),(4,[0,3,15]),(3,[2,0]),(2,[0,3,12]),(1,[0,3,0]),(0,[0])]) [53,54,55] (A4 []) (some [2,0]) [] [] []
noncomputable def B07(L:Nat)(a:By)(b:By->Int->Option R):Option R:=cond (A2 a.length) (cond (not (aa0 (Dq a))) (b ([]:By) 4) (cond (ltI 256 (↑(j9 (Og (Ua a))):Int)) (b ([]:By) 3) (cond (A2 a.length) (cond (ltI (↑(j9 (Og (Ua a))):Int) (a.length:Int)) (cond (A2 (j9 (C5 a))) (cond (aa5 (Og (Ua (C5 a))) Pt) (vl ((Y3 (y7 elI (Og (Ua (C5 a)))))).1 λd=>vl (↑((Y3 (y7 elI (Og (Ua (C5 a)))))).2:Int) λe=>cond (e !=0) (b ([]:By) 14) (cond (J1 4 d.length) (vl (([120,110,45,45]:By)++d) λc=>cond (A2 c.length) (cond (not (L4 c)) (b ([]:By) 14) (b c 0)) none) none)) none) none) (cond (A2 (j9 (C5 a))) (cond (not (L4 (C5 a))) (b ([]:By) 14) (b (C5 a) 0)) none)) none))) none
def C01(d:Nat)(s0):evC (YM L) (d+1) W Y 31 [pS s0] [] s=B07 L s0 (λa b=>some (.tup [pS a,pI b],[],s)):=by refine(evE (fn:=Tryz.f31) (by kernel_rfl)).trans ?_;generalize evC (YM L) d=Q;unfold B07;kernel_rfl
end
def Aw4{a:Bool->Option R}(n:Int):Af0 LF n a=a (ptI n):=by
 unfold Af0;by_cases h:n<0
 ·rw[C6 h];have:ptI n=false:=by
   cases n with
   | ofNat m=>exact absurd h (by simp)
   | negSucc m=>rfl
  grind
 ·obtain⟨m,rfl⟩:=v8 (show 0<=n by omega);rw[A7,Om];unfold W8;by_cases b:1114111<m
  ·rw[A8];have:p7 m 1114111=false:=by rw[o5,ne_eq,o6];omega
   grind
  ·rw[A7];have:p7 m 1114111=true:=by rw[o6];omega
   rw[this];by_cases c:m<55296
   ·rw[A8];have:Nat.blt m 55296=true:=by rw[ab7];omega
    grind
   ·rw[A7];have e:Nat.blt m 55296=false:=by rw[o5,ne_eq,ab7];omega
    rw[e];simp only[j2,aa,ab,ab4,z7]
    congr 1
def Au3{k0:Int->Int->Option R}:∀(d n k:Nat),d<2305843009213693952->d<n->k+d<=4611686018427387904->
  ∃a b,a<=455/\b<=k+d/\CB d k=b+36*a / (a+38)/\Ik LF n (d:Int) (k:Int) k0=k0 (a:Int) (b:Int):=by
 intro d
 induction d using aa9 with
 | _ d l=>
  intro n k p r q;rcases n with _|n;omega
  rw[Ik];by_cases h:455<d
  ·obtain⟨a,b,g,o,i,j⟩:=l (d / 35) (by omega) n (k+36) (by omega) (by omega) (by omega);refine⟨a,b,g,by omega,by rw[JZ h];exact i,?_⟩;have e:s8 (d:Int) 35=((d / 35:Nat):Int):=N6 d 35;have c:A1 ((d / 35:Nat):Int)=((d / 35:Nat):Int):=A6;have f:A1 ((k:Int)+36)=((k+36:Nat):Int):=by rw[A6];rfl
   rw[A8];simp only[aa,vl,e,c,f];exact j
  ·refine⟨d,k,by omega,by omega,Va h,?_⟩;rw[A7];rfl
def Au4{k0:Int->Option R}(d c:Int)(f:Bool)(z:ltN d 1152921504606846976=true)(A:ltN c 1000000=true)(B:ltI 0 c=true):NN LF d c f k0=k0 (R4 d.toNat c.toNat f:Nat):=by
 obtain⟨k,F⟩:=E7.1 z;obtain⟨j,D⟩:=E7.1 A;obtain⟨d,rfl⟩:=v8 k;obtain⟨c,rfl⟩:=v8 j;have J:=Tc.1 B;have C:=D6;have key:∀x:Nat,x<1152921504606846976->Ij LF (x:Int) (c:Int) k0=k0 ((CB (x+x / c) 0:Nat):Int):=by
  intro x L;have G:x / c<=x:=x6 _ _;unfold Ij;have g:s8 (x:Int) (c:Int)=((x / c:Nat):Int):=N6 x c;generalize x / c=q at *;have h:A1 (q:Int)=(q:Int):=A6;have o:A1 ((x:Int)+(q:Int))=((x+q:Nat):Int):=by rw[A6];rfl
  rw[show((c:Int)!=0)=true by simp;omega];simp only[aa,vl,g,h,o];obtain⟨a,n,H,I,w,y⟩:=Au3 (R:=R) (k0:=λb l=>vl (A1 ((36)*b)) λm=>vl (A1 (b+(38))) λe=>cond (e !=(0)) (vl (A1 (s8 m e)) λi=>k0 (A1 (l+i))) none) (x+q) LF 0 (by omega) (by omega) (by omega);refine c9 y ?_;have K:36*a / (a+38)<=36*a:=x6 _ _;have p:A1 (36*(a:Int))=((36*a:Nat):Int):=by rw[A6];rfl
  have r:A1 ((a:Int)+38)=((a+38:Nat):Int):=by rw[A6];rfl
  have t:s8 ((36*a:Nat):Int) ((a+38:Nat):Int)=((36*a / (a+38):Nat):Int):=N6 _ _;have u:A1 ((36*a / (a+38):Nat):Int)=((36*a / (a+38):Nat):Int):=A6;have v:A1 ((n:Int)+((36*a / (a+38):Nat):Int))=((n+36*a / (a+38):Nat):Int):=by rw[A6];rfl
  simp only[vl,p,r,t,u,v];rw[show(((a+38:Nat):Int)!=0)=true by simp;omega,w];rfl
 unfold NN R4;rw[j1,j1];cases f with
 | true=>
  have g:s8 (d:Int) 700=((d / 700:Nat):Int):=N6 d 700;have h:A1 ((d / 700:Nat):Int)=((d / 700:Nat):Int):=A6;simp only[aa,vl,g,h,if_true];exact key _ (by omega)
 | false=>
  have g:s8 (d:Int) 2=((d / 2:Nat):Int):=N6 d 2;have h:A1 ((d / 2:Nat):Int)=((d / 2:Nat):Int):=A6;simp only[ab,vl,g,h,ab6,if_false];exact key _ (by omega)
def Bg5{b:Int->Option R}(d:Int)(c:ltN d 36=true):B04 LF d b=b ((Bn d.toNat).toNat:Nat):=by
 obtain⟨a,e⟩:=E7.1 c;obtain⟨d,rfl⟩:=v8 a;unfold B04;rw[j1,RL (by omega)];by_cases h:d<26
 ·rw[A8,ac h];simp only[aa,vl]
  congr 1
  rw[A6,O2];rfl
 ·rw[A7,ae h];simp only[ab,vl]
  congr 1
  rw[E6 (n:=48+(d:Int)) (by omega) (by omega),A6,O2];omega
def Cg7{g:Int->Option R}(b:Int)(h:inR b 256=true):C12 LF b g=g (F2 (u8n b)):=by
 simp only[inR,s9,af] at h;have j:b=((u8n b).toNat:Int):=by
  unfold u8n;simp;omega
 generalize u8n b=c at *;subst j;have i:=c.toNat_lt;unfold C12 F2;simp only[AF,AE,vl];rcases GF c with⟨d,f,e⟩|⟨d,f,e⟩|⟨d,f,e⟩|⟨d,f,o,e⟩
 ·have a:A1 (wu8 ((c.toNat:Int)-97))=((c.toNat-97:Nat):Int):=by
   rw[O2,A6];omega
  simp (disch:=omega) only[C6,E4,j5,j2,ab,aa,a,e]
 ·have a:A1 (wu8 ((c.toNat:Int)-65))=((c.toNat-65:Nat):Int):=by
   rw[O2,A6];omega
  simp (disch:=omega) only[C6,E4,j5,j2,ab,aa,a,e]
 ·have a:A1 (A1 (wu8 ((c.toNat:Int)-48))+26)=((c.toNat-22:Nat):Int):=by
   rw[O2,E6 (n:=(c.toNat:Int)-48) (by omega) (by omega),A6];omega
  simp (disch:=omega) only[C6,E4,j5,j2,ab,aa,a,e]
 ·rw[e];by_cases k:c.toNat<48
  ·simp (disch:=omega) only[C6,E4,j5,j2,ab,aa]
  ·by_cases l:c.toNat<65
   ·simp (disch:=omega) only[C6,E4,j5,j2,ab,aa]
   ·by_cases m:c.toNat<97
    ·simp (disch:=omega) only[C6,E4,j5,j2,ab,aa]
    ·simp (disch:=omega) only[C6,E4,j5,j2,ab,aa]
def Cg0{a:Int->Option R}(k b:Int)(c:ltN k 10000000000=true)(d:ltN b 1000000=true):Dm3 LF k b a=a (N0 (aa3 36 k) b):=by obtain⟨j,l⟩:=E7.1 c;obtain⟨e,f⟩:=E7.1 d;unfold Dm3 N0;have g:A1 (k+1)=k+1:=A6;have h:A1 ((36:Int)*(k+1))=36*(k+1):=A6;have i:A1 (36*(k+1)-b)=36*(k+1)-b:=A6;grind
def Cy6(z t:Bool)(c:LL)(done a u delta i:Int)(b:Nat)(T:b<1000000):∀(r q k n:Nat) (l:LL),q<10 ^ r->q<1152921504606846976->k+r<=1000->r<n->l.length+r<=200000->
  ∃(d:Nat) (pre:By),d<36/\Q8 q k b=pre++[Bn d]/\∀(R:Type) (g:Kae R),Hd LF n z t c done a u delta (b:Int) i (q:Int) (k:Int) l g=g z t c done a u delta i (d:Int) (l++pre.map F1):=by
 have f:∀k:Nat,N0 (aa3 36 (k:Int)) (b:Int)=(thr k b:Int):=λk=>by
  rw[show aa3 36 (k:Int)=((36*k:Nat):Int) from rfl,AP]
 have j:∀(q k n:Nat) (l:LL),q<thr k b->k<=1000->∃(d:Nat) (pre:By),d<36/\Q8 q k b=pre++[Bn d]/\∀(R:Type) (g:Kae R),Hd LF (n+1) z t c done a u delta (b:Int) i (q:Int) (k:Int) l g=g z t c done a u delta i (d:Int) (l++pre.map F1):=by
  intro q k n l p v;have x:=X8 k b;refine⟨q,[],by omega,by rw[Sy p];rfl,λR g=>?_⟩;rw[Hd];have o:ltI (q:Int) (thr k b:Int)=true:=A8;rw[N4,N4,f];grind
 intro r
 induction r with
 | zero=>
  intro q k n l h _ v P N;have x:=X8 k b;rcases n with _|n;omega
  exact j q k n l (by simp at h;omega) (by omega)
 | succ r Q=>
  intro q k n l h w v P N;have x:=X8 k b;rcases n with _|n;omega
  by_cases p:q<thr k b
  ·exact j q k n l p (by omega)
  ·have L:(q-thr k b) / (36-thr k b)<10 ^ r:=ZP (by omega) (by rw[Nat.pow_succ] at h;omega);have M:(q-thr k b) / (36-thr k b)<=q:=Nat.le_trans (x6 _ _) (by omega);have O:(q-thr k b) % (36-thr k b)<36-thr k b:=ac7 _ (by omega);obtain⟨d,pre,e0,K,e⟩:=Q ((q-thr k b) / (36-thr k b)) (k+1) n (l++[F1 (Bn (thr k b+(q-thr k b) % (36-thr k b)))]) L (by omega) (by omega) (by omega) (by rw[j8,o9];omega);refine⟨d,Bn (thr k b+(q-thr k b) % (36-thr k b))::pre,e0,by rw[CX p,K];rfl,λR g=>?_⟩;rw[Hd];have y:A1 ((q:Int)-(thr k b:Int))=((q-thr k b:Nat):Int):=by rw[A6];omega
   have C:A1 ((36:Int)-(thr k b:Int))=((36-thr k b:Nat):Int):=by rw[A6];omega
   have D:o8 ((q-thr k b:Nat):Int) ((36-thr k b:Nat):Int)=(((q-thr k b) % (36-thr k b):Nat):Int):=Dm _ _;have F:s8 ((q-thr k b:Nat):Int) ((36-thr k b:Nat):Int)=(((q-thr k b) / (36-thr k b):Nat):Int):=N6 _ _;have I:((((36-thr k b:Nat):Int))!=0)=true:=by rw[bne_iff_ne];omega
   have J:A1 ((k:Int)+1)=((k+1:Nat):Int):=by rw[A6];rfl
   have o:ltI (q:Int) (thr k b:Int)=false:=A7;rw[N4,N4,f];simp only[vl,o,y,C,D,F,I,J,aa,ab,j2];generalize hA:(q-thr k b) / (36-thr k b)=A at *;generalize S:(q-thr k b) % (36-thr k b)=B at *;have G:A1 ((thr k b:Int)+(B:Int))=((thr k b+B:Nat):Int):=by rw[A6];rfl
   have H:A1 (A:Int)=(A:Int):=A6;rw[G,H,N4,F4 (by omega),j1];refine c9 (e R g) ?_;simp[p6,F1]
def Dk8(z t:Bool)(c:List Nat)(a m:Nat)(Z:m<=1114112)(Y:c.length<=256):∀(r i n:Nat) (s:UP),i+r=c.length->r<n->s.delta+r<=1000000000000->s.bias<=500->s.out.length+20*r<=90000->s.done+r<=1000->a<=256->
  (∀(R:Type) (d:Kbd R),Bv LF n z t (C4 c) (s.done:Int) (a:Int) (m:Int) (s.delta:Int) (s.bias:Int) (i:Int) (s.out.map F1) d =
   d z t (C4 c) ((J8 m a (c.drop i) s).done:Int) (a:Int) (m:Int) ((J8 m a (c.drop i) s).delta:Int) ((J8 m a (c.drop i) s).bias:Int) ((J8 m a (c.drop i) s).out.map F1))/\
  (J8 m a (c.drop i) s).bias<=500/\(J8 m a (c.drop i) s).out.length<=s.out.length+20*(c.drop i).countP (· == m)/\(J8 m a (c.drop i) s).done=s.done+(c.drop i).countP (· == m)/\
  (J8 m a (c.drop i) s).delta<=(if 0<(c.drop i).countP (· == m) then r else s.delta+r):=by
 have S:=D6;intro r
 induction r with
 | zero=>
  intro i n s T U O B P Q C;rcases n with _|n;omega
  rw[j4 (by omega)];refine⟨λR d=>?_,B,by simp[J8],by simp[J8],by simp[J8]⟩;rw[Bv];rw[E2,A7];rfl
 | succ r H=>
  intro i n s T U O B P Q C;rcases n with _|n;omega
  rw[Yc c i (by omega)];have F:=DA c i (by omega);have ok:=Ti (l:=c) (i:=i) (by omega);have e:inR (i:Int) (C4 c).length=true:=K6 (by omega) (by rw[E2];omega);have f:ltI (i:Int) ((C4 c).length:Int)=true:=C6 (by rw[E2];omega);generalize c.getD i 0=p at *;have A:A1 ((i:Int)+1)=((i+1:Nat):Int):=by rw[A6];rfl
  have M:A1 ((s.delta:Int)+1)=((s.delta+1:Nat):Int):=by rw[A6];rfl
  have I:A1 ((s.done:Int)+1)=((s.done+1:Nat):Int):=by rw[A6];rfl
  by_cases G:p<m
  ·have g:(p==m)=false:=by rw[beq_eq_false_iff_ne];omega
   have u:J8 m a (p::c.drop (i+1)) s=J8 m a (c.drop (i+1)) { s with delta:=s.delta+1 }:=by rw[J8,ac G]
   obtain⟨v,w,x,y,h⟩:=H (i+1) n { s with delta:=s.delta+1 } (by omega) (by omega) (by simp only;omega) B (by simp only;omega) (by simp only;omega) C;rw[u,aa6 (by rw[g];simp)];refine⟨λR d=>?_,w,x,y,?_⟩
   ·rw[Bv];rw[j1];simp only[e,f,ok,aa,vl,F,A,M];rw[A8,aa,show((p:Int)!=(m:Int))=true by rw[bne_iff_ne];omega,aa];exact v R d
   ·simp only at h;split at h<;>split<;>omega
  ·by_cases L:p=m
   ·subst L;have K:=RO (q:=s.delta) (k:=0) (b:=s.bias) (by omega);have D:=Qp s.delta (s.done+1) (s.done==a) (by omega);have u:J8 p a (p::c.drop (i+1)) s=J8 p a (c.drop (i+1)) { delta:=0,bias:=R4 s.delta (s.done+1) (s.done==a),done:=s.done+1,out:=s.out++Q8 s.delta 0 s.bias }:=by rw[J8,ae G,ac rfl]
    obtain⟨v,w,x,y,h⟩:=H (i+1) n { delta:=0,bias:=R4 s.delta (s.done+1) (s.done==a),done:=s.done+1,out:=s.out++Q8 s.delta 0 s.bias } (by omega) (by omega) (by simp only;omega) D (by simp only[j8];omega) (by simp only;omega) C;obtain⟨W,pre,X,J,N⟩:=Cy6 z t (C4 c) (s.done:Int) (a:Int) (p:Int) (s.delta:Int) (i:Int) s.bias (by omega) 19 s.delta 0 LF (s.out.map F1) (by omega) (by omega) (by omega) (by omega) (by rw[o7];omega);rw[u,List.countP_cons_of_pos (by simp)];refine⟨λR d=>?_,w,?_,?_,?_⟩
    ·rw[Bv];have j:((s.done:Int)==(a:Int))=(s.done==a):=by
      rw[ac3,beq_iff_eq,beq_iff_eq];omega
     rw[j1];simp only[e,f,ok,aa,vl,F,A,I];rw[A7,ab,bne_self_eq_false,ab];refine c9 (N R _) ?_;have V:pre.length+1=(Q8 s.delta 0 s.bias).length:=by rw[J];simp
     rw[N4,j1,F4 (by rw[j8,o7,o7];omega)];simp only[vl,aa,A,I];rw[N4,N4,A8,j];simp only[aa,j1];have o:s.out.map F1++pre.map F1++[[SV.int .u8 (((Bn W).toNat:Nat):Int)]]=(s.out++Q8 s.delta 0 s.bias).map F1:=by
      rw[J,aa1,aa1,p6];rfl
     rw[o];exact v R d
    ·simp only[j8] at x;omega
    ·simp only at y;omega
    ·simp only at h;rw[U9];split at h<;>omega
   ·have g:(p==m)=false:=by rw[beq_eq_false_iff_ne];omega
    have u:J8 m a (p::c.drop (i+1)) s=J8 m a (c.drop (i+1)) s:=by rw[J8,ae G,ae L]
    obtain⟨v,w,x,y,h⟩:=H (i+1) n s (by omega) (by omega) (by omega) B (by omega) (by omega) C;rw[u,aa6 (by rw[g];simp)];refine⟨λR d=>?_,w,x,y,?_⟩
    ·rw[Bv];rw[j1];simp only[e,f,ok,aa,vl,F,A];rw[A7,ab,show((p:Int)!=(m:Int))=true by rw[bne_iff_ne];omega,aa];exact v R d
    ·split at h<;>split<;>omega
def Bi0{k0:Kae R}(z t:Bool)(a:List Nat)(q:a.length<=256)(n0:Nat)(b delta c done:Int)(l:LL):∀(r i n m:Nat),i+r=a.length->r<n->
  Km LF n z t (C4 a) done b (n0:Int) delta c (m:Int) (i:Int) l k0=k0 z t (C4 a) done b (n0:Int) delta c ((J7 n0 (a.drop i) m:Nat):Int) l:=by
 intro r
 induction r with
 | zero=>
  intro i n m k o;rcases n with _|n;omega
  rw[Km];rw[E2,A7,j4 (by omega)];rfl
 | succ r f=>
  intro i n m k o;rcases n with _|n;omega
  have j:=DA a i (by omega);have ok:=Ti (l:=a) (i:=i) (by omega);have d:inR (i:Int) (C4 a).length=true:=K6 (by omega) (by rw[E2];omega);have e:ltI (i:Int) ((C4 a).length:Int)=true:=C6 (by rw[E2];omega);rw[Km,Yc a i (by omega)];generalize a.getD i 0=p at *;have g:A1 ((i:Int)+1)=((i+1:Nat):Int):=by rw[A6];rfl
  rw[j1];simp only[d,e,ok,aa,vl,j,g,J7];by_cases h:n0<=p
  ·rw[ac h,A7,j2,aa];have:(if (p:Int)<(m:Int) then (p:Int) else (m:Int))=((min m p:Nat):Int):=by split<;>omega
   rw[this];exact f (i+1) n (min m p) (by omega) (by omega)
  ·rw[ae h,A8,j5,ab];exact f (i+1) n m (by omega) (by omega)
def Cy7(z t:Bool)(a:List Nat)(b:Nat)(B:a.length<=256)(T:b<=256)(i:∀p∈a,p<=1114111):∀(f n d:Nat) (s:UP),s.done=a.countP (λp=>decide (p<n))->a.length<=s.done+f->f<d->s.delta<=300->s.bias<=500->s.out.length+20*(a.length-s.done)<=80000->n<=1114112->
  ∀(R:Type) (k0:LL->Option R),He LF d z t (C4 a) (s.done:Int) (b:Int) (n:Int) (s.delta:Int) (s.bias:Int) (s.out.map F1) k0=k0 ((T1 a b f n s).out.map F1):=by
 intro f;have S:=D6
 induction f with
 | zero=>
  intro n d s V X Y O y P Q R k0;rcases d with _|d;omega
  rw[He];rw[E2,A7];rfl
 | succ f Z=>
  intro n d s V X Y O y P Q R k0;rcases d with _|d;omega
  rw[He];rw[E2];have U:a.countP (λp=>decide (p<n))<=a.length:=y8;by_cases o:s.done<a.length
  ·obtain⟨v,g,q⟩:=A70 (n:=n) (l:=a) (by omega);obtain⟨g1,g2,x⟩:=Ft n a 1114112;obtain⟨D,F,w⟩:=Ft n a 1073741824;have g4:=x v g q;have G:=w v g q;have g5:=i v g;have e:J7 n a 1114112∈a/\n<=J7 n a 1114112:=by grind
   have h:J7 n a 1073741824∈a/\n<=J7 n a 1073741824:=by grind
   have heq:J7 n a 1073741824=J7 n a 1114112:=by grind
   have W:T1 a b (f+1) n s=T1 a b f (J7 n a 1114112+1) { J8 (J7 n a 1114112) b a { s with delta:=s.delta+(J7 n a 1114112-n)*(s.done+1) } with delta:=(J8 (J7 n a 1114112) b a { s with delta:=s.delta+(J7 n a 1114112-n)*(s.done+1) }).delta+1 }:=by
    rw[T1,ac o]
   rw[W,A8,aa];have c:=λ(K:Kae R)=>Bi0 (k0:=K) z t a B n (b:Int) (s.delta:Int) (s.bias:Int) (s.done:Int) (s.out.map F1) a.length 0 LF 1073741824 (by omega) (by omega)
   rw[k9,heq] at c;refine c9 (c _) ?_;clear c heq D F w G h;generalize J7 n a 1114112=m at *;have C:(m-n)*(s.done+1)<=1114112*256:=ac8 (by omega) (by omega);have H:A1 ((s.done:Int)+1)=((s.done+1:Nat):Int):=by rw[A6];rfl
   have I:A1 ((m:Int)-(n:Int))=((m-n:Nat):Int):=by rw[A6];omega
   have J:A1 (((m-n:Nat):Int)*((s.done+1:Nat):Int))=(((m-n)*(s.done+1):Nat):Int):=by
    rw[<-Int.natCast_mul];exact A6
   have L:A1 ((s.delta:Int)+(((m-n)*(s.done+1):Nat):Int))=((s.delta+(m-n)*(s.done+1):Nat):Int):=by
    rw[A6];rfl
   simp only[vl,H,I,J,L];have k:=Dk8 z t a b m (by omega) B a.length 0 LF { s with delta:=s.delta+(m-n)*(s.done+1) } (by omega) (by omega) (by simp only;omega) y (by simp only;omega) (by simp only;omega) T;rw[k9] at k;obtain⟨q1,q2,q3,q4,q5⟩:=k;refine c9 (q1 R _) ?_;have j:0<a.countP (· == m):=List.countP_pos_iff.2 ⟨m,e.1,by simp⟩;rw[ac j] at q5;have u:=Xw e.2 a x;generalize J8 m b a { s with delta:=s.delta+(m-n)*(s.done+1) } = r at *;simp only at q3 q4;have M:A1 ((r.delta:Int)+1)=((r.delta+1:Nat):Int):=by rw[A6];rfl
   have N:A1 ((m:Int)+1)=((m+1:Nat):Int):=by rw[A6];rfl
   have A:a.countP (λp=>decide (p<m+1))<=a.length:=y8;simp only[M,N];exact Z (m+1) d { r with delta:=r.delta+1 } (by simp only;omega) (by simp only;omega) (by omega) (by simp only;omega) q2 (by simp only;omega) (by omega) R k0
  ·rw[A7];rw[T1,ae o];rfl
def Bh5(z t:Bool)(P:List Int)(C:P.length<=256):∀(r i n:Nat) (out:By),i+r=P.length->r<n->out.length+r<=1000->
  ((P.drop i).all ptI=true->∀(R:Type) (a:LL->Option R) (b:Kaj R),W3 LF n z t (Bz P) (i:Int) (out.map F1) a b=b z t (Bz P) ((out++Y1 (P.drop i)).map F1))/\
  ((P.drop i).all ptI=false->∃l,∀(R:Type) (a:LL->Option R) (b:Kaj R),W3 LF n z t (Bz P) (i:Int) (out.map F1) a b=a l):=by
 intro r
 induction r with
 | zero=>
  intro i n out w y A;rcases n with _|n;omega
  rw[j4 (by omega)];refine⟨λ_ R a b=>?_,λh=>(by cases h)⟩;rw[W3];rw[W6,A7];simp[Y1]
 | succ r v=>
  intro i n out w y A;rcases n with _|n;omega
  have o:=A89 P i (by omega);have ok:=Ac3 (l:=P) (i:=i) (by omega);have f:inR (i:Int) (Bz P).length=true:=K6 (by omega) (by rw[W6];omega);have g:ltI (i:Int) ((Bz P).length:Int)=true:=C6 (by rw[W6];omega);rw[Ao4 P i (by omega)];generalize P.getD i 0=x at *;have u:A1 ((i:Int)+1)=((i+1:Nat):Int):=by rw[A6];rfl
  cases j:ptI x with
  | false=>
   refine⟨λh=>?_,λ_=>⟨out.map F1,λR a b=>?_⟩⟩
   ·rw[aa4,j] at h;cases h
   ·rw[W3];rw[j1];simp only[f,g,ok,aa,vl,o,j,j2]
  | true=>
   obtain⟨B,D⟩:=Wm j;rw[aa4,j,z7];by_cases c:x<128
   ·have d:Y1 (x::P.drop (i+1))=x9 x.toNat::Y1 (P.drop (i+1)):=by
     unfold Y1;rw[List.filter_cons_of_pos (by simpa using c)];rfl
    have k:out.map F1++[[SV.int .u8 (wu8 x)]]=(out++[x9 x.toNat]).map F1:=by rw[C37 x B c];simp
    obtain⟨p,q⟩:=v (i+1) n (out++[x9 x.toNat]) (by omega) (by omega) (by simp;omega);have step:∀(R:Type) (a:LL->Option R) (b:Kaj R),W3 LF (n+1) z t (Bz P) (i:Int) (out.map F1) a b=W3 LF n z t (Bz P) ((i+1:Nat):Int) ((out++[x9 x.toNat]).map F1) a b:=by
     intro R a b;rw[W3];rw[j1];simp only[f,g,ok,aa,vl,o,j,j5,ab,u];rw[C6 c,o7,F4 (by omega),k];rfl
    refine⟨λh R a b=>?_,λh=>?_⟩
    ·rw[step,p h,d];simp
    ·obtain⟨l,e⟩:=q h;exact⟨l,λR a b=>by rw[step];exact e R a b⟩
   ·have d:Y1 (x::P.drop (i+1))=Y1 (P.drop (i+1)):=by
     unfold Y1;rw[List.filter_cons_of_neg (by simpa using c)]
    obtain⟨p,q⟩:=v (i+1) n out (by omega) (by omega) (by omega);have step:∀(R:Type) (a:LL->Option R) (b:Kaj R),W3 LF (n+1) z t (Bz P) (i:Int) (out.map F1) a b=W3 LF n z t (Bz P) ((i+1:Nat):Int) (out.map F1) a b:=by
     intro R a b;rw[W3];rw[j1];simp only[f,g,ok,aa,vl,o,j,j5,ab,u];rw[A7];rfl
    refine⟨λh R a b=>?_,λh=>?_⟩
    ·rw[step,p h,d]
    ·obtain⟨l,e⟩:=q h;exact⟨l,λR a b=>by rw[step];exact e R a b⟩
def Bh6(z t:Bool)(P:List Int):(Y3 P=([],3)/\∀(R:Type) (b:Unit->Option R) (f:By->Int->LL->Option R),Au6 LF z t (Bz P) b f=b ())\/
  (∃l,∀(R:Type) (b:Unit->Option R) (f:By->Int->LL->Option R),Au6 LF z t (Bz P) b f=f (Y3 P).1 ((Y3 P).2:Nat) l):=by
 have x:=D6;by_cases i:256<P.length
 ·refine .inl ⟨by unfold Y3;rw[ac i],λR b f=>?_⟩;unfold Au6;rw[W6,A8];rfl
 ·right
  obtain⟨v,w⟩:=Bh5 z t P (by omega) P.length 0 LF [] (by omega) (by omega) (by simp;omega);rw[k9] at v w;cases g:P.all ptI with
  | false=>
   obtain⟨l,e⟩:=w g;refine⟨l,λR b f=>?_⟩;unfold Au6;rw[W6,A7,ab];refine c9 (e R _ _) ?_;unfold Y3;rw[ae i,g];rfl
  | true=>
   obtain⟨a,rfl,A,m⟩:=B03 g;rw[o7] at i;have k:Y3 (a.map λn:Nat=>(n:Int))=Eg a:=by
    unfold Y3;rw[o7,ae i,g];simp[Function.comp_def]
   have j:=Vj a;have y:a.countP (λp=>decide (p<128))<=a.length:=y8;have main:∀(o:By),o.length<=300->∀(R:Type) (b:LL->Option R),He LF LF z t (C4 a) ((K3 a).length:Int) ((K3 a).length:Int) 128 0 72 (o.map F1) b=b ((T1 a (K3 a).length 256 128 { delta:=0,bias:=72,done:=(K3 a).length,out:=o }).out.map F1):=by
    intro o B R b;exact Cy7 z t a (K3 a).length (by omega) (by omega) m 256 128 LF { delta:=0,bias:=72,done:=(K3 a).length,out:=o } j (by simp only;omega) (by omega) (by simp) (by simp) (by simp only;omega) (by omega) R b
   have d:Eg a=((T1 a (K3 a).length 256 128 { delta:=0,bias:=72,done:=(K3 a).length,out:=if (K3 a).isEmpty then [] else K3 a++[45] }).out,0):=by
    unfold Eg;grind
   refine⟨(Eg a).1.map F1,λR b f=>?_⟩;unfold Au6;rw[W6,o7,A7,ab,k];have r:=v g R;refine c9 (r _ _) ?_;rw[w9,KH,Tf];simp only[vl,o7];by_cases c:K3 a=[]
   ·rw[c,w8,A7,ab];have q:=main [] (by simp) R;rw[c,w8] at q;rw[List.map_nil] at q;refine c9 (q _) ?_;rw[c] at d;rw[d];simp only[List.isEmpty_nil,if_true,w8];rw[Z3,Ad];rfl
   ·have u:0<(K3 a).length:=x5.2 c;rw[A8,aa,F4 (by omega),aa];have h:(K3 a).map F1++[[SV.int .u8 (45:Int)]]=(K3 a++[45]).map F1:=by rw[aa1];rfl
    rw[h];refine c9 (main (K3 a++[45]) (by simp;omega) R _) ?_;rw[d,ae (by simpa using c)];rw[Z3,Ad];rfl
def Dk9(z t:Bool)(p:LL)(b:p.all Pt=true):∃r H,Au6 LF z t p (λ_=>rv (.tup [.s (.str []),.s (.int .i64 3)]) []) (λd e l=>rv (.tup [.s (.str d),.s (.int .i64 e)]) [.arr true 5 1 l])=rv r H/\
  r.stab [0,0] H = .tup [.s (.str (Y3 (p.map elI)).1),.s (.int .i64 ((Y3 (p.map elI)).2:Nat))]:=by
 obtain⟨P,rfl⟩:=By0 b;rw[Ao5];rcases Bh6 z t P with⟨c,a⟩|⟨l,a⟩
 ·exact⟨_,_,a _ _ _,by rw[c];rfl⟩
 ·exact⟨_,_,a _ _ _,rfl⟩
def Bl5{k0:Unit->Option R}{k1:By->Int->Option R}(s:By)(k:s.length<=1000000):∀(r i n cut:Nat),i+r=s.length->r<n->
  Fu LF n s (cut:Int) (i:Int) k0 k1=if (s.drop i).any (λb=>p7 128 b.toNat) then k0 () else k1 s ((if 45∈s.drop i then i+I7 (s.drop i) else cut:Nat):Int):=by
 intro r
 induction r with
 | zero=>
  intro i n cut g j;rcases n with _|n;omega
  rw[Fu];rw[A7,j4 (by omega)];rfl
 | succ r d=>
  intro i n cut g j;rcases n with _|n;omega
  rw[Fu];have e:A1 ((i:Int)+1)=((i+1:Nat):Int):=by rw[A6];rfl
  rw[A8,H4,F6,G2 s i (by omega),e,ab5];simp only[aa];generalize s.getD i 0=b;by_cases h:128<=b.toNat
  ·rw[A7,Nat.ble_eq_true_of_le h];rfl
  ·have:p7 128 b.toNat=false:=by rw[o5,ne_eq,o6];exact h
   rw[A8,this,ab4,j5,ab];have f:((b.toNat:Int)==45)=(b==45):=S7 b 45 (by omega);rw[f];by_cases a:b=45
   ·subst a;rw[show((45:UInt8)==45)=true from rfl,aa];refine(d (i+1) n i (by omega) (by omega)).trans ?_;have c:(45:UInt8)∈45::s.drop (i+1):=by simp
    rw[ac c];have:(if (45:UInt8)∈s.drop (i+1) then i+1+I7 (s.drop (i+1)) else i)=i+I7 (45::s.drop (i+1)):=by
     rw[I7];grind
    rw[this]
   ·rw[show(b==45)=false from beq_eq_false_iff_ne.2 a,ab];refine(d (i+1) n cut (by omega) (by omega)).trans ?_;have c:((45:UInt8)∈b::s.drop (i+1))↔((45:UInt8)∈s.drop (i+1)):=by simp[Ne.symm a]
    have:(if (45:UInt8)∈s.drop (i+1) then i+1+I7 (s.drop (i+1)) else cut)=(if (45:UInt8)∈b::s.drop (i+1) then i+I7 (b::s.drop (i+1)) else cut):=by
     by_cases q:(45:UInt8)∈s.drop (i+1)
     ·rw[ac q,ac (c.2 q),I7,ac q];omega
     grind
    rw[this]
def Bl0{k0:By->Int->LL->Option R}(s:By)(q:s.length<=1000000)(k:Nat)(p:k<=s.length):∀(r i n:Nat) (l:List Nat),i+r=k->r<n->l.length=i->
  Jm LF n s (k:Int) (i:Int) (C4 l) k0=k0 s (k:Int) (C4 (l++((s.take k).drop i).map (·.toNat))):=by
 intro r
 induction r with
 | zero=>
  intro i n l f h g;rcases n with _|n;omega
  rw[Jm];rw[A7,j4 (by rw[w6];omega)];simp
 | succ r j=>
  intro i n l f h g;rcases n with _|n;omega
  rw[Jm];have c:A1 ((i:Int)+1)=((i+1:Nat):Int):=by rw[A6];rfl
  have e:(s.take k).drop i=s.getD i 0::(s.take k).drop (i+1):=by
   rw[G2 (s.take k) i (by rw[w6];omega)]
   congr 1
   rw[j7,j7,List.getElem?_take_of_lt (by omega)]
  rw[A8,H4,F6,e,E2,F4 (by omega),c];simp only[aa];generalize s.getD i 0=b;have o:=b.toNat_lt;have d:A1 (b.toNat:Int)=(b.toNat:Int):=A6;have a:C4 l++[[SV.int .i64 (A1 (b.toNat:Int))]]=C4 (l++[b.toNat]):=by rw[d,Ml];rfl
  rw[a];refine(j (i+1) n _ (by omega) (by omega) (by simp;omega)).trans ?_;simp
def Bl3(s:By)(hs:s.length<=1000000)(out:LL)(f b e:Int)(l:LL)(P:0<=b)(Q:b<1000000):∀(r p n k:Nat) (i w:Int),p+r=s.length->r<n->0<=i->i<=1099511627776->0<=w->w<=1099511627776->k+r<=10000000->
  ((V2 b (s.drop p) i w ((36*k:Nat):Int)).1=0->∃o,p<o/\o<=s.length/\(V2 b (s.drop p) i w ((36*k:Nat):Int)).2.1=s.drop o/\∀(R:Type) (a:Int->LL->Option R) (d:Kbf R),X1 LF n s out (p:Int) f i b e w (k:Int) l a d=d s out (o:Int) f (V2 b (s.drop p) i w ((36*k:Nat):Int)).2.2 e l)/\
  ((V2 b (s.drop p) i w ((36*k:Nat):Int)).1≠0->∀(R:Type) (a:Int->LL->Option R) (d:Kbf R),X1 LF n s out (p:Int) f i b e w (k:Int) l a d=a (V2 b (s.drop p) i w ((36*k:Nat):Int)).1 l):=by
 intro r
 induction r with
 | zero=>
  intro p n k i w X W U D G g V;rcases n with _|n;omega
  rw[j4 (by omega)];refine⟨λh=>by simp[V2] at h,λ_ R a d=>?_⟩;rw[X1];rw[A7];rfl
 | succ r Z=>
  intro p n k i w X W U D G g V;rcases n with _|n;omega
  have S:=G2 s p (by omega);have C:=F6 s p;rw[S];generalize s.getD p 0=c at *;have Y:=Hm c;have ht:=Pj ((36*k:Nat):Int) b;have e0:aa3 36 (k:Int)=((36*k:Nat):Int):=rfl;have J:A1 ((p:Int)+1)=((p+1:Nat):Int):=by rw[A6];rfl
  have K:A1 ((k:Int)+1)=((k+1:Nat):Int):=by rw[A6];rfl
  have start:∀(R:Type) (a:Int->LL->Option R) (d:Kbf R),X1 LF (n+1) s out (p:Int) f i b e w (k:Int) l a d =
    cond (ltI (F2 c) 0) (a 4 l)
     (vl (A1 (i+(A1 (F2 c*w)))) λj=>cond (ltI 1099511627776 j) (a 19 l)
      (cond (ltI (F2 c) (N0 ((36*k:Nat):Int) b)) (d s out ((p+1:Nat):Int) f j e l)
       (vl (A1 (36-(N0 ((36*k:Nat):Int) b))) λq=>cond (ltI 1099511627776 (A1 (w*q))) (a 19 l) (X1 LF n s out ((p+1:Nat):Int) f j b e (A1 (w*q)) ((k+1:Nat):Int) l a d)))):=by
   intro R a d;rw[X1];have T:=c.toNat_lt;rw[A8,H4,C,H4,Kr,N4,N4,e0,J,K];rfl
  unfold V2;by_cases y:F2 c<0
  ·rw[ac y];refine⟨λh=>by simp at h,λ_ R a d=>?_⟩;rw[start,C6 y];rfl
  ·rw[ae y];have hm:=Ep (by omega) Y.2 G g;have u:A1 (F2 c*w)=F2 c*w:=A6;have v:A1 (i+F2 c*w)=i+F2 c*w:=A6;by_cases z:1099511627776<i+F2 c*w
   ·rw[ac z];refine⟨λh=>by simp at h,λ_ R a d=>?_⟩;rw[start,A7,u,v];simp only[vl,ab];rw[C6 z];rfl
   ·rw[ae z];by_cases A:F2 c<N0 ((36*k:Nat):Int) b
    ·rw[ac A];refine⟨λ_=>⟨p+1,by omega,by omega,rfl,λR a d=>?_⟩,λh=>absurd rfl h⟩;rw[start,A7,u,v];simp only[vl,ab];rw[A7,C6 A];rfl
    ·rw[ae A];have H:A1 (36-N0 ((36*k:Nat):Int) b)=36-N0 ((36*k:Nat):Int) b:=A6;have F:=Ep (x:=36-N0 ((36*k:Nat):Int) b) (by omega) (by omega) G g;rw[ad5] at F;have I:A1 (w*(36-N0 ((36*k:Nat):Int) b))=w*(36-N0 ((36*k:Nat):Int) b):=A6;by_cases B:1099511627776<w*(36-N0 ((36*k:Nat):Int) b)
     ·rw[ac B];refine⟨λh=>by simp at h,λ_ R a d=>?_⟩;rw[start,A7,u,v];simp only[vl,ab];rw[A7,A7,H,I,C6 B];rfl
     ·rw[ae B];have L:((36*k:Nat):Int)+36=((36*(k+1):Nat):Int):=by omega
      rw[L];obtain⟨q1,q2⟩:=Z (p+1) n (k+1) (i+F2 c*w) (w*(36-N0 ((36*k:Nat):Int) b)) (by omega) (by omega) (by omega) (by omega) (by omega) (by omega) (by omega);have t:∀(R:Type) (a:Int->LL->Option R) (d:Kbf R),X1 LF (n+1) s out (p:Int) f i b e w (k:Int) l a d=X1 LF n s out ((p+1:Nat):Int) f (i+F2 c*w) b e (w*(36-N0 ((36*k:Nat):Int) b)) ((k+1:Nat):Int) l a d:=by simp_all
      refine⟨λh=>?_,λh R a d=>by rw[t];exact q2 h R a d⟩;obtain⟨o,g1,M,N,O⟩:=q1 h;exact⟨o,by omega,M,N,λR a d=>by rw[t];exact O R a d⟩
def Bl4(s:By)(Z:s.length<=1000000)(l:LL):∀(r p n k:Nat) (i w:Int),p+r=s.length->r<n->0<=i->i<=1099511627776->0<=w->w<=1099511627776->k+r<=10000000->
  ((V2 72 (s.drop p) i w ((36*k:Nat):Int)).1=0->∃f,p<f/\f<=s.length/\(V2 72 (s.drop p) i w ((36*k:Nat):Int)).2.1=s.drop f/\∀(R:Type) (a:Int->LL->Option R) (b:Kbe R),X2 LF n s (p:Int) i w (k:Int) l a b=b s (f:Int) (V2 72 (s.drop p) i w ((36*k:Nat):Int)).2.2 l)/\
  ((V2 72 (s.drop p) i w ((36*k:Nat):Int)).1≠0->∀(R:Type) (a:Int->LL->Option R) (b:Kbe R),X2 LF n s (p:Int) i w (k:Int) l a b=a (V2 72 (s.drop p) i w ((36*k:Nat):Int)).1 l):=by
 intro r
 induction r with
 | zero=>
  intro p n k i w S Q O A C d P;rcases n with _|n;omega
  rw[j4 (by omega)];refine⟨λh=>by simp[V2] at h,λ_ R a b=>?_⟩;rw[X2];rw[A7];rfl
 | succ r U=>
  intro p n k i w S Q O A C d P;rcases n with _|n;omega
  have M:=G2 s p (by omega);have z:=F6 s p;rw[M];generalize s.getD p 0=c at *;have T:=Hm c;have ht:=Pj ((36*k:Nat):Int) 72;have e0:aa3 36 (k:Int)=((36*k:Nat):Int):=rfl;have G:A1 ((p:Int)+1)=((p+1:Nat):Int):=by rw[A6];rfl
  have H:A1 ((k:Int)+1)=((k+1:Nat):Int):=by rw[A6];rfl
  have start:∀(R:Type) (a:Int->LL->Option R) (b:Kbe R),X2 LF (n+1) s (p:Int) i w (k:Int) l a b =
    cond (ltI (F2 c) 0) (a 4 l)
     (vl (A1 (i+(A1 (F2 c*w)))) λe=>cond (ltI 1099511627776 e) (a 19 l)
      (cond (ltI (F2 c) (N0 ((36*k:Nat):Int) 72)) (b s ((p+1:Nat):Int) e l)
       (vl (A1 (36-(N0 ((36*k:Nat):Int) 72))) λg=>cond (ltI 1099511627776 (A1 (w*g))) (a 19 l) (X2 LF n s ((p+1:Nat):Int) e (A1 (w*g)) ((k+1:Nat):Int) l a b)))):=by
   intro R a b;rw[X2];have N:=c.toNat_lt;rw[A8,H4,z,H4,Kr,N4,N4,e0,G,H];rfl
  unfold V2;by_cases t:F2 c<0
  ·rw[ac t];refine⟨λh=>by simp at h,λ_ R a b=>?_⟩;rw[start,C6 t];rfl
  ·rw[ae t];have Y:=Ep (by omega) T.2 C d;have o:A1 (F2 c*w)=F2 c*w:=A6;have q:A1 (i+F2 c*w)=i+F2 c*w:=A6;by_cases u:1099511627776<i+F2 c*w
   ·rw[ac u];refine⟨λh=>by simp at h,λ_ R a b=>?_⟩;rw[start,A7,o,q];simp only[vl,ab];rw[C6 u];rfl
   ·rw[ae u];by_cases v:F2 c<N0 ((36*k:Nat):Int) 72
    ·rw[ac v];refine⟨λ_=>⟨p+1,by omega,by omega,rfl,λR a b=>?_⟩,λh=>absurd rfl h⟩;rw[start,A7,o,q];simp only[vl,ab];rw[A7,C6 v];rfl
    ·rw[ae v];have D:A1 (36-N0 ((36*k:Nat):Int) 72)=36-N0 ((36*k:Nat):Int) 72:=A6;have B:=Ep (x:=36-N0 ((36*k:Nat):Int) 72) (by omega) (by omega) C d;rw[ad5] at B;have F:A1 (w*(36-N0 ((36*k:Nat):Int) 72))=w*(36-N0 ((36*k:Nat):Int) 72):=A6;by_cases y:1099511627776<w*(36-N0 ((36*k:Nat):Int) 72)
     ·rw[ac y];refine⟨λh=>by simp at h,λ_ R a b=>?_⟩;rw[start,A7,o,q];simp only[vl,ab];rw[A7,A7,D,F,C6 y];rfl
     ·rw[ae y];have I:((36*k:Nat):Int)+36=((36*(k+1):Nat):Int):=by omega
      rw[I];obtain⟨V,W⟩:=U (p+1) n (k+1) (i+F2 c*w) (w*(36-N0 ((36*k:Nat):Int) 72)) (by omega) (by omega) (by omega) (by omega) (by omega) (by omega) (by omega);have j:∀(R:Type) (a:Int->LL->Option R) (b:Kbe R),X2 LF (n+1) s (p:Int) i w (k:Int) l a b=X2 LF n s ((p+1:Nat):Int) (i+F2 c*w) (w*(36-N0 ((36*k:Nat):Int) 72)) ((k+1:Nat):Int) l a b:=by simp_all
      refine⟨λh=>?_,λh R a b=>by rw[j];exact W h R a b⟩;obtain⟨f,X,J,K,L⟩:=V h;exact⟨f,by omega,J,K,λR a b=>by rw[j];exact L R a b⟩
def TD(l:List Nat)(k:Nat):(C4 l).take k=C4 (l.take k):=by unfold C4;rw[List.map_take]
def TC(l:List Nat)(k:Nat):(C4 l).drop k=C4 (l.drop k):=by unfold C4;rw[List.map_drop]
def Bl2(s:By)(hs:s.length<=1000000)(l:LL):∀(r p f:Nat) (a:List Nat) (n i b:Nat),p+r=s.length->r<f->a.length<=256->n<=1114111->i<=1000->b<=500->
  ((J6 (s.drop p) a n i b false).2=0->∀(R:Type) (c:Int->LL->Option R) (d e:LL->LL->Option R),Q5 LF f s (C4 a) (p:Int) (n:Int) (i:Int) (b:Int) l c d e=e (C4 (J6 (s.drop p) a n i b false).1) l)/\
  ((J6 (s.drop p) a n i b false).2≠0->(J6 (s.drop p) a n i b false).1=[]/\((∀(R:Type) (c:Int->LL->Option R) (d e:LL->LL->Option R),Q5 LF f s (C4 a) (p:Int) (n:Int) (i:Int) (b:Int) l c d e=c ((J6 (s.drop p) a n i b false).2:Nat) l)\/
   ((J6 (s.drop p) a n i b false).2=3/\∃D,∀(R:Type) (c:Int->LL->Option R) (d e:LL->LL->Option R),Q5 LF f s (C4 a) (p:Int) (n:Int) (i:Int) (b:Int) l c d e=d l D))):=by
 have a0:=D6;intro r
 induction r using aa9 with
 | _ r ih=>
  intro p f a n i b hp hf h2 h3 h4 h5;rcases f with _|f;omega
  by_cases hr:r=0
  ·rw[j4 (by omega),Ee];refine⟨λ_ R c d e=>?_,λh=>absurd rfl h⟩;rw[Q5];rw[A7];rfl
  ·have q:s.drop p≠[]:=λh=>by
    have:=congrArg j9 h;rw[o0] at this;simp at this;omega
   obtain⟨z,H⟩:=Bl3 s hs (C4 a) (n:Int) (b:Int) (i:Int) l (by omega) (by omega) r p LF 0 (i:Int) 1 hp (by omega) (by omega) (by omega) (by omega) (by omega) (by omega);obtain⟨F,G⟩:=Yb b (s.drop p) i 1 0;have y:V2 (b:Int) (s.drop p) (i:Int) 1 ((36*0:Nat):Int)=V2 (b:Int) (s.drop p) (i:Int) ((1:Nat):Int) ((36*0:Nat):Int):=rfl;rw[y] at z H;by_cases o:(E9 b (s.drop p) i 1 0).2.2=0
   ·rw[Fo q a n i b false o];have T:=G o;have K:(V2 (b:Int) (s.drop p) (i:Int) ((1:Nat):Int) ((36*0:Nat):Int)).1=0:=by rw[F,o];rfl
    obtain⟨v,a1,a2,w,x⟩:=z K;obtain⟨L,O,_⟩:=Ya (b:Int) (s.drop p) (i:Int) ((1:Nat):Int) ((36*0:Nat):Int) (by omega) (by omega) (by omega) K;rw[T] at L O w x;simp only at L O w x;rw[w];generalize (E9 b (s.drop p) i 1 0).1=X at *;have el:A1 (((C4 a).length:Int)+1)=((a.length+1:Nat):Int):=by rw[E2,A6];rfl
    have U:A1 ((X:Int)-(i:Int))=((X-i:Nat):Int):=by rw[A6];omega
    have Z:s8 (X:Int) ((a.length+1:Nat):Int)=((X / (a.length+1):Nat):Int):=N6 _ _;have em:o8 (X:Int) ((a.length+1:Nat):Int)=((X % (a.length+1):Nat):Int):=Dm _ _;have a5:X / (a.length+1)<=X:=x6 _ _;have J:=ac7 X (show 0<a.length+1 by omega);have A:=Qp (X-i) (a.length+1) false (by omega);generalize hQ:X / (a.length+1)=Q at *;generalize hM:X % (a.length+1)=M at *;have V:A1 (Q:Int)=(Q:Int):=A6;have W:A1 ((n:Int)+(Q:Int))=((n+Q:Nat):Int):=by rw[A6];rfl
    have Y:A1 ((M:Int)+1)=((M+1:Nat):Int):=by rw[A6];rfl
    have C:(((a.length+1:Nat):Int)!=0)=true:=by rw[bne_iff_ne];omega
    have P:cut (C4 a) 0 (M:Int)=C4 (a.take M):=by rw[U6,j1,TD]
    have S:cut (C4 a) (M:Int) ((C4 a).length:Int)=C4 (a.drop M):=by rw[Y9,j1,TC]
    have t:∀N:Nat,C4 (a.take M)++[[SV.int .i64 (N:Int)]]++C4 (a.drop M)=C4 (W7 a M N):=λN=>by
     unfold W7;rw[Ml,p6];rfl
    have start:∀(R:Type) (c:Int->LL->Option R) (d e:LL->LL->Option R),Q5 LF (f+1) s (C4 a) (p:Int) (n:Int) (i:Int) (b:Int) l c d e =
      cond (not (W8 (n+Q))) (c 2 l) (cond (ltI 256 ((a.length+1:Nat):Int)) (d l (C4 (W7 a M (n+Q))))
       (Q5 LF f s (C4 (W7 a M (n+Q))) (v:Int) ((n+Q:Nat):Int) ((M+1:Nat):Int) ((R4 (X-i) (a.length+1) false:Nat):Int) l c d e)):=by
     intro R c d e;rw[Q5];rw[A8,aa];refine(x R _ _).trans ?_;have s1:L3 (0:Int) (M:Int) (C4 a).length=true:=Y7 (by omega) (by omega) (by rw[E2];omega);have s2:L3 (M:Int) ((C4 a).length:Int) (C4 a).length=true:=Y7 (by omega) (by rw[E2];omega) (by omega);have t1:ltN ((X-i:Nat):Int) 1152921504606846976=true:=N4;have t2:ltN ((a.length+1:Nat):Int) 1000000=true:=N4;have t3:ltI 0 ((a.length+1:Nat):Int)=true:=A8;have l1:(C4 (a.take M)).length=M:=by rw[E2,w6];omega
     have l2:(C4 (a.drop M)).length=a.length-M:=by rw[E2,o0]
     have r1:G0 (0+(C4 (a.take M)).length)=true:=F4 (by omega);have r2:G0 ((C4 (a.take M)).length+1)=true:=F4 (by omega);have r3:G0 ((C4 (a.take M)++[[SV.int .i64 ((n+Q:Nat):Int)]]).length+(C4 (a.drop M)).length)=true:=F4 (by rw[j8,o9];omega);have l3:(C4 (W7 a M (n+Q))).length=a.length+1:=by rw[E2,Co]
     simp only[vl,el,U,Z,em,V,W,Y,C,s1,s2,t1,t2,t3,P,S,r1,r2,r3,t,l3,aa,j1,Om]
    cases g:W8 (n+Q) with
    | false=>
     rw[ae (by simp)];refine⟨λh=>by simp at h,λ_=>⟨rfl,.inl λR c d e=>?_⟩⟩;rw[start,g];rfl
    | true=>
     rw[ac rfl];by_cases I:256<a.length+1
     ·rw[ac I];refine⟨λh=>by simp at h,λ_=>⟨rfl,.inr ⟨rfl,C4 (W7 a M (n+Q)),λR c d e=>?_⟩⟩⟩;rw[start,g,A8];rfl
     ·rw[ae I];have B:n+Q<=1114111:=by
       unfold W8 at g;simp only[s9,o6] at g;exact g.1
      have k:∀(R:Type) (c:Int->LL->Option R) (d e:LL->LL->Option R),Q5 LF (f+1) s (C4 a) (p:Int) (n:Int) (i:Int) (b:Int) l c d e=Q5 LF f s (C4 (W7 a M (n+Q))) (v:Int) ((n+Q:Nat):Int) ((M+1:Nat):Int) ((R4 (X-i) (a.length+1) false:Nat):Int) l c d e:=by
       intro R c d e;rw[start,g,A7];rfl
      obtain⟨z1,z2⟩:=ih (s.length-v) (by omega) v f (W7 a M (n+Q)) (n+Q) (M+1) (R4 (X-i) (a.length+1) false) (by omega) (by omega) (by rw[Co];omega) B (by omega) A;refine⟨λh R c d e=>by rw[k];exact z1 h R c d e,λh=>?_⟩;obtain⟨y1,u⟩:=z2 h;refine⟨y1,?_⟩;rcases u with u|⟨u,D,y3⟩
      ·exact .inl λR c d e=>by rw[k];exact u R c d e
      ·exact .inr ⟨u,D,λR c d e=>by rw[k];exact y3 R c d e⟩
   ·rw[Ja q a n i b false o];clear z G;refine⟨λh=>absurd h o,λ_=>⟨rfl,.inl λR c d e=>?_⟩⟩;rw[Q5];rw[A8,aa];have j:=congrArg Prod.fst F;simp only at j;refine(H (by rw[j];omega) R _ _).trans ?_;rw[j]
def B58:∀(r:Nat) (s:By) (a:List Nat) (n i b:Nat) (f:Bool),s.length<=r->0<a.length->(J6 s a n i b f).2=0->(J6 s a n i b f).1≠[]:=by
 intro r
 induction r with
 | zero=>
  intro s a n i b f d l h;obtain rfl:=x8.1 (Nat.le_zero.1 d);rw[Ee];grind
 | succ r m=>
  intro s a n i b f d l h;by_cases e:s=[]
  ·grind
  ·by_cases c:(E9 b s i 1 0).2.2=0
   ·rw[Fo e a n i b f c] at h ⊢;split at h
    ·rename_i g;rw[ac g];split at h
     ·omega
     ·rename_i j;rw[ae j];have k:=Sw b s i 1 0 c;exact m _ _ _ _ _ _ (by omega) (by rw[Co];omega) h
    omega
   ·rw[Ja e a n i b f c] at h;omega
def Bl1(s:By)(K:s.length<=1000000)(p:Nat)(a:List Nat)(h2:a.length<=256)(hp:p<=s.length) :
  (s.drop p=[]/\∀(R:Type) (b:Int->LL->Option R) (c d:LL->LL->Option R) (g:LL->Option R),M6 LF LF s (p:Int) (C4 a) b c d g=g (C4 a))\/
  ((J6 (s.drop p) a 128 0 72 true).2=0/\(J6 (s.drop p) a 128 0 72 true).1≠[]/\∀(R:Type) (b:Int->LL->Option R) (c d:LL->LL->Option R) (g:LL->Option R),M6 LF LF s (p:Int) (C4 a) b c d g=d (C4 (J6 (s.drop p) a 128 0 72 true).1) (C4 a))\/
  ((J6 (s.drop p) a 128 0 72 true).1=[]/\((∀(R:Type) (b:Int->LL->Option R) (c d:LL->LL->Option R) (g:LL->Option R),M6 LF LF s (p:Int) (C4 a) b c d g=b ((J6 (s.drop p) a 128 0 72 true).2:Nat) (C4 a))\/
   ((J6 (s.drop p) a 128 0 72 true).2=3/\∃F,∀(R:Type) (b:Int->LL->Option R) (c d:LL->LL->Option R) (g:LL->Option R),M6 LF LF s (p:Int) (C4 a) b c d g=c (C4 a) F))):=by
 have a0:=D6;obtain⟨f,B⟩:∃m,LF=m+1:=⟨LF-1,by omega⟩
 by_cases hr:s.length<=p
 ·refine .inl ⟨j4 hr,λR b c d g=>?_⟩;have e:M6 LF LF s (p:Int) (C4 a) b c d g=M6 LF (f+1) s (p:Int) (C4 a) b c d g:=by rw[<-B]
  rw[e,M6];rw[A7];rfl
 ·right
  have o:s.drop p≠[]:=λh=>by
   have:=congrArg j9 h;grind
  obtain⟨u,y⟩:=Bl4 s K (C4 a) (s.length-p) p LF 0 0 1 (by omega) (by omega) (by omega) (by omega) (by omega) (by omega) (by omega);obtain⟨G,x⟩:=Yb 72 (s.drop p) 0 1 0;have n:V2 72 (s.drop p) 0 1 ((36*0:Nat):Int)=V2 ((72:Nat):Int) (s.drop p) ((0:Nat):Int) ((1:Nat):Int) ((36*0:Nat):Int):=rfl;rw[n] at u y;by_cases A:(E9 72 (s.drop p) 0 1 0).2.2=0
  ·rw[Fo o a 128 0 72 true A];have H:=x A;have k:(V2 ((72:Nat):Int) (s.drop p) ((0:Nat):Int) ((1:Nat):Int) ((36*0:Nat):Int)).1=0:=by grind
   obtain⟨r,a1,a2,v,w⟩:=u k;obtain⟨L,O,_⟩:=Ya ((72:Nat):Int) (s.drop p) ((0:Nat):Int) ((1:Nat):Int) ((36*0:Nat):Int) (by omega) (by omega) (by omega) k;rw[H] at L O v w;simp only at L O v w;clear u y G x H k n;rw[v];generalize (E9 72 (s.drop p) 0 1 0).1=X at *;have Z:A1 (((C4 a).length:Int)+1)=((a.length+1:Nat):Int):=by rw[E2,A6];rfl
   have T:A1 ((X:Int)-0)=(X:Int):=by rw[A6];omega
   have Y:s8 (X:Int) ((a.length+1:Nat):Int)=((X / (a.length+1):Nat):Int):=N6 _ _;have em:o8 (X:Int) ((a.length+1:Nat):Int)=((X % (a.length+1):Nat):Int):=Dm _ _;have a5:X / (a.length+1)<=X:=x6 _ _;have J:=ac7 X (show 0<a.length+1 by omega);have z:=Qp X (a.length+1) true (by omega);generalize hQ:X / (a.length+1)=Q at *;generalize hM:X % (a.length+1)=M at *;have U:A1 (Q:Int)=(Q:Int):=A6;have V:A1 ((128:Int)+(Q:Int))=((128+Q:Nat):Int):=by rw[A6];rfl
   have W:A1 ((M:Int)+1)=((M+1:Nat):Int):=by rw[A6];rfl
   have D:(((a.length+1:Nat):Int)!=0)=true:=by rw[bne_iff_ne];omega
   have P:y9 (M-0) (aa2 0 (C4 a))=C4 (a.take M):=by rw[ad7,k9,TD]
   have S:y9 ((C4 a).length-M) (aa2 M (C4 a))=C4 (a.drop M):=by
    rw[List.take_of_length_le (by rw[o0];omega),TC]
   have q:∀N:Nat,C4 (a.take M)++[[SV.int .i64 (N:Int)]]++C4 (a.drop M)=C4 (W7 a M N):=λN=>by
    unfold W7;rw[Ml,p6];rfl
   have start:∀(R:Type) (b:Int->LL->Option R) (c d:LL->LL->Option R) (g:LL->Option R),M6 LF LF s (p:Int) (C4 a) b c d g =
     cond (not (W8 (128+Q))) (b 2 (C4 a)) (cond (ltI 256 ((a.length+1:Nat):Int)) (c (C4 a) (C4 (W7 a M (128+Q))))
      (Q5 LF f s (C4 (W7 a M (128+Q))) (r:Int) ((128+Q:Nat):Int) ((M+1:Nat):Int) ((R4 X (a.length+1) true:Nat):Int) (C4 a) b c d)):=by
    intro R b c d g;have e:M6 LF LF s (p:Int) (C4 a) b c d g=M6 LF (f+1) s (p:Int) (C4 a) b c d g:=by rw[<-B]
    rw[e,M6];rw[A8,aa];refine(w R _ _).trans ?_;have s1:L3 (0:Int) (M:Int) (C4 a).length=true:=Y7 (by omega) (by omega) (by rw[E2];omega);have s2:L3 (M:Int) ((C4 a).length:Int) (C4 a).length=true:=Y7 (by omega) (by rw[E2];omega) (by omega);have t1:ltN (X:Int) 1152921504606846976=true:=N4;have t2:ltN ((a.length+1:Nat):Int) 1000000=true:=N4;have t3:ltI 0 ((a.length+1:Nat):Int)=true:=A8;have l1:(C4 (a.take M)).length=M:=by rw[E2,w6];omega
    have l2:(C4 (a.drop M)).length=a.length-M:=by rw[E2,o0]
    have r1:G0 (0+(C4 (a.take M)).length)=true:=F4 (by omega);have r2:G0 ((C4 (a.take M)).length+1)=true:=F4 (by omega);have r3:G0 ((C4 (a.take M)++[[SV.int .i64 ((128+Q:Nat):Int)]]).length+(C4 (a.drop M)).length)=true:=F4 (by rw[j8,o9];omega);have l3:(C4 (W7 a M (128+Q))).length=a.length+1:=by rw[E2,Co]
    simp only[vl,Z,T,Y,em,U,V,W,D,s1,s2,t1,t2,t3,j1,P,S,r1,r2,r3,q,l3,aa,Om]
   cases j:W8 (128+Q) with
   | false=>
    rw[ae (by simp)];refine .inr ⟨rfl,.inl λR b c d g=>?_⟩;rw[start,j];rfl
   | true=>
    rw[ac rfl];by_cases I:256<a.length+1
    ·rw[ac I];refine .inr ⟨rfl,.inr ⟨rfl,C4 (W7 a M (128+Q)),λR b c d g=>?_⟩⟩;rw[start,j,A8];rfl
    ·rw[ae I];have C:128+Q<=1114111:=by
      unfold W8 at j;simp_all
     have l:∀(R:Type) (b:Int->LL->Option R) (c d:LL->LL->Option R) (g:LL->Option R),M6 LF LF s (p:Int) (C4 a) b c d g=Q5 LF f s (C4 (W7 a M (128+Q))) (r:Int) ((128+Q:Nat):Int) ((M+1:Nat):Int) ((R4 X (a.length+1) true:Nat):Int) (C4 a) b c d:=by
      intro R b c d g;rw[start,j,A7];rfl
     obtain⟨z1,z2⟩:=Bl2 s K (C4 a) (s.length-r) r f (W7 a M (128+Q)) (128+Q) (M+1) (R4 X (a.length+1) true) (by omega) (by omega) (by rw[Co];omega) C (by omega) z;have hX:X-0=X:=ad7 X;rw[hX];by_cases k:(J6 (s.drop r) (W7 a M (128+Q)) (128+Q) (M+1) (R4 X (a.length+1) true) false).2=0
     ·refine .inl ⟨k,?_,λR b c d g=>by rw[l];exact z1 k R b c d⟩;exact B58 _ _ _ _ _ _ _ (Nat.le_refl _) (by rw[Co];omega) k
     ·obtain⟨y1,t⟩:=z2 k;refine .inr ⟨y1,?_⟩;rcases t with t|⟨t,F,y3⟩
      ·exact .inl λR b c d g=>by rw[l];exact t R b c d
      ·exact .inr ⟨t,F,λR b c d g=>by rw[l];exact y3 R b c d⟩
  ·rw[Ja o a 128 0 72 true A];clear u x;refine .inr ⟨rfl,.inl λR b c d g=>?_⟩;have e:M6 LF LF s (p:Int) (C4 a) b c d g=M6 LF (f+1) s (p:Int) (C4 a) b c d g:=by rw[<-B]
   rw[e,M6];rw[A8,aa];have i:=congrArg Prod.fst G;simp only at i;refine(y (by rw[i];omega) R _ _).trans ?_;rw[i]
def C07(s:By)(M:A2 s.length=true):∃r H,B15 LF s (λi f=>rv (.tup [.fl 0,.s (.int .i64 i)]) [.arr true 3 1 f]) (λi f=>rv (.tup [.fl 1,.s (.int .i64 i)]) [.arr true 3 1 f,.arr true 3 1 []]) (λx f=>rv (.tup [.fl 2,.s (.int .i64 (3:Int))]) [.arr true 3 1 x,.arr false 3 1 f,.arr true 3 1 []]) (λi f=>rv (.tup [.s (.sl false false 1 i),.s (.int .i64 (0:Int))]) [.arr true 3 1 f])=rv r H/\
  r.stab [1,0] H = .tup [.s (.sl (P2 s).1.isEmpty (P2 s).1.isEmpty 1 (Og (P2 s).1)),.s (.int .i64 ((P2 s).2:Nat))]:=by
 have G:=D6;unfold B15 P2;by_cases z:1024<s.length
 ·rw[ac z,A8];exact⟨_,_,rfl,rfl⟩
 ·rw[ae z,A7,ab];have e:=λ(R:Type) (C:Unit->Option R) (D:By->Int->Option R)=>Bl5 (k0:=C) (k1:=D) s (by omega) s.length 0 LF 0 (by omega) (by omega)
  rw[k9] at e;cases y:s.any (λb=>p7 128 b.toNat) with
  | true=>
   rw[ac rfl];refine⟨.tup [.fl 0,.s (.int .i64 4)],[.arr true 3 1 []],(e _ _ _).trans ?_,rfl⟩;rw[y,ac rfl]
  | false=>
   rw[ae (by simp)];obtain⟨L,F⟩:=Rk s;have I:=Rl s;have q:(if (45:UInt8)∈s then 0+I7 s else 0)=I7 s:=by
    split
    ·omega
    ·rename_i h;exact(F h).2.symm
   rw[y,q] at e;have c:=λ(R:Type) (K:By->Int->LL->Option R)=>Bl0 (k0:=K) s (by omega) (I7 s) (by omega) (I7 s) 0 LF [] (by omega) (by omega) rfl
   rw[k9] at c;have g:((s.take (I7 s)).map (·.toNat)).length=I7 s:=by rw[o7,w6];omega
   generalize N:I7 s=m at *;generalize A:(s.take m).map (·.toNat)=d at *;by_cases k:256<m
   ·rw[ac k];refine⟨.tup [.fl 1,.s (.int .i64 3)],[.arr true 3 1 (C4 d),.arr true 3 1 []],(e _ _ _).trans ?_,rfl⟩;rw[ae (by simp)];refine(c _ _).trans ?_;rw[w9,E2,g,A8];rfl
   ·rw[ae k];have o:∀p:Nat,p<=s.length->∀(X:Option (PV × List Blk × Unit)),X=M6 LF LF s (p:Int) (C4 d) (λi f=>rv (.tup [.fl 1,.s (.int .i64 i)]) [.arr true 3 1 f,.arr true 3 1 []]) (λx f=>rv (.tup [.fl 2,.s (.int .i64 (3:Int))]) [.arr true 3 1 x,.arr false 3 1 f,.arr true 3 1 []]) (λi f=>rv (.tup [.s (.sl false false 1 i),.s (.int .i64 (0:Int))]) [.arr true 3 1 f]) (λl=>rv (.tup [.fl 0,.s (.int .i64 0)]) [.arr true 3 1 l])->
      ∃r H,X=rv r H/\r.stab [1,0] H = .tup [.s (.sl (J6 (s.drop p) d 128 0 72 true).1.isEmpty (J6 (s.drop p) d 128 0 72 true).1.isEmpty 1 (Og (J6 (s.drop p) d 128 0 72 true).1)),.s (.int .i64 ((J6 (s.drop p) d 128 0 72 true).2:Nat))]:=by
     intro p J X t;rcases Bl1 s (by omega) p d (by omega) J with⟨j,n⟩|⟨j,u,n⟩|⟨j,n|⟨u,O,n⟩⟩
     ·refine⟨_,_,t.trans (n _ _ _ _ _),?_⟩;rw[j,Ee,Er];simp[PV.stab,Qc,Qb,PV.snap,N5,Zd]
     ·refine⟨_,_,t.trans (n _ _ _ _ _),?_⟩;rw[j,Er];have:(J6 (s.drop p) d 128 0 72 true).1.isEmpty=false:=by
       cases h:(J6 (s.drop p) d 128 0 72 true).1 with
       | nil=>exact absurd h u
       | cons a r=>rfl
      rw[this];rfl
     ·refine⟨_,_,t.trans (n _ _ _ _ _),?_⟩;rw[j];rfl
     ·refine⟨_,_,t.trans (n _ _ _ _ _),?_⟩;rw[j,u];rfl
    by_cases B:m=0
    ·subst B;rw[ac rfl];have:=o 0 (by omega) _ rfl;rw[k9] at this;obtain⟨r,H,v,w⟩:=this;refine⟨r,H,(e _ _ _).trans ?_,w⟩;rw[ae (by simp)];refine(c _ _).trans ?_;rw[w9,E2,g,A7,ab,A7,ab];exact v
    ·rw[ae B];obtain⟨r,H,v,w⟩:=o (m+1) (by omega) _ rfl;refine⟨r,H,(e _ _ _).trans ?_,w⟩;rw[ae (by simp)];refine(c _ _).trans ?_;have j:A1 ((m:Int)+1)=((m+1:Nat):Int):=by rw[A6];rfl
     rw[w9,E2,g,A7,ab,A8,aa,j];exact v
def Aw{d:LL->Option R}{e:Kbg R}(s:By)(u:s.length<=1000000000)(n i m v c a:Nat)(l:LL)(q:a<m)(r:m<=4)(p:i+a<s.length)(w:v<=100000)(t:0<n) :
  Hi LF n s i m v c a l d e=if 128<=(s.getD (i+a) 0).toNat/\(s.getD (i+a) 0).toNat<=191 then Hi LF (n-1) s i m ((v*64+(s.getD (i+a) 0).toNat-128:Nat):Int) c ((a+1:Nat):Int) l d e else d l:=by
 have o:=(s.getD (i+a) 0).toNat_lt;rcases n with _|n;omega
 rw[Hi];have f:A1 ((i:Int)+a)=((i+a:Nat):Int):=by rw[A6];rfl
 have g:A1 ((a:Int)+1)=((a+1:Nat):Int):=by rw[A6];rfl
 rw[A8,f,g,H4,F6];generalize (s.getD (i+a) 0).toNat=b at *;simp only[aa,vl];rw[E6 (n:=(b:Int)) (by omega) (by omega),Nat.add_sub_cancel];by_cases j:b<128
 ·rw[A8,I9];rfl
 ·rw[A7,ab];by_cases k:191<b
  ·rw[A8,I9];rfl
  ·rw[A7,ab,U9];have h:A1 (A1 (A1 ((v:Int)*64)+(b:Int))-128)=((v*64+b-128:Nat):Int):=by
    rw[E6 (n:=(v:Int)*64) (by omega) (by omega),E6 (n:=(v:Int)*64+b) (by omega) (by omega),A6];omega
   rw[h]
def Ry{c:LL->Option R}{b:Kbg R}(s:By)(n i m v a:Nat)(l:LL)(d:0<n) :
  Hi LF n s i m v a m l c b=b s i m v a l:=by
 rcases n with _|n;omega
 rw[Hi];rw[A7];rfl
def Tt{b:LL->Option R}{c:By->Int->LL->Option R}(s:By)(k:s.length<=1000000000)(i m v a:Nat)(P:List Nat)(e:P.length<=1000000000)(f:i+m<=s.length)(l:v<=10000000)(g:m<=4) :
  cond (ltI (v:Int) (a:Int)) (b (C4 P)) (cond (not (ptI v)) (b (C4 P)) (cond (G0 ((C4 P).length+1)) (c s (A1 ((i:Int)+m)) (C4 P++[[SV.int .i64 (v:Int)]])) none)) =
   if a<=v/\W8 v=true then c s ((i+m:Nat):Int) (C4 (P++[v])) else b (C4 P):=by
 have d:A1 ((i:Int)+m)=((i+m:Nat):Int):=by rw[A6];rfl
 rw[d,E2,F4 (by omega),Ml,show ptI (v:Int)=W8 v from rfl];by_cases h:v<a
 ·rw[A8,I9];rfl
 ·rw[A7,ab];cases j:W8 v with
  | false=>rw[ae (by simp)];rfl
  | true=>rw[ac ⟨by omega,rfl⟩];rfl
def Cf5{d:LL->Option R}{f:By->Int->LL->Option R}(s:By)(e:s.length<=1000000000)(i v a:Nat)(P:List Nat)(k:P.length<=1000000000)(m:i<s.length)(n:v<=32) :
  Fg LF s i 2 v a (C4 P) d f=if 2<=s.length-i/\128<=(s.getD (i+1) 0).toNat/\(s.getD (i+1) 0).toNat<=191 then
   (if a<=v*64+(s.getD (i+1) 0).toNat-128/\W8 (v*64+(s.getD (i+1) 0).toNat-128)=true then f s ((i+2:Nat):Int) (C4 (P++[v*64+(s.getD (i+1) 0).toNat-128])) else d (C4 P)) else d (C4 P):=by
 have l:=(s.getD (i+1) 0).toNat_lt;have j:=D6;unfold Fg;have g:A1 ((s.length:Int)-i)=((s.length-i:Nat):Int):=by rw[A6];omega
 rw[g];simp only[vl];by_cases h:s.length-i<2
 ·rw[A8,I9];rfl
 ·rw[A7,ab];refine c9 (Aw s e LF i 2 v a 1 (C4 P) (by omega) (by omega) (by omega) (by omega) (by omega)) ?_;generalize (s.getD (i+1) 0).toNat=b at *;by_cases c:128<=b/\b<=191
  ·rw[ac c,ac ⟨by omega,c⟩];refine c9 (Ry s (LF-1) i 2 _ a (C4 P) (by omega)) ?_;exact Tt s e i 2 _ a P k (by omega) (by omega) (by omega)
  ·rw[ae c,ae (λh=>c h.2)]
def Cf6{e:LL->Option R}{f:By->Int->LL->Option R}(s:By)(d:s.length<=1000000000)(i v a:Nat)(P:List Nat)(k:P.length<=1000000000)(n:i<s.length)(o:v<=32) :
  Fg LF s i 3 v a (C4 P) e f=if 3<=s.length-i/\(128<=(s.getD (i+1) 0).toNat/\(s.getD (i+1) 0).toNat<=191)/\(128<=(s.getD (i+2) 0).toNat/\(s.getD (i+2) 0).toNat<=191) then
   (if a<=(v*64+(s.getD (i+1) 0).toNat-128)*64+(s.getD (i+2) 0).toNat-128/\W8 ((v*64+(s.getD (i+1) 0).toNat-128)*64+(s.getD (i+2) 0).toNat-128)=true then f s ((i+3:Nat):Int) (C4 (P++[(v*64+(s.getD (i+1) 0).toNat-128)*64+(s.getD (i+2) 0).toNat-128])) else e (C4 P)) else e (C4 P):=by
 have m:=(s.getD (i+1) 0).toNat_lt;have l:=(s.getD (i+2) 0).toNat_lt;have j:=D6;unfold Fg;have g:A1 ((s.length:Int)-i)=((s.length-i:Nat):Int):=by rw[A6];omega
 rw[g];simp only[vl];by_cases h:s.length-i<3
 ·rw[A8,I9];rfl
 ·rw[A7,ab];refine c9 (Aw s d LF i 3 v a 1 (C4 P) (by omega) (by omega) (by omega) (by omega) (by omega)) ?_;by_cases b:128<=(s.getD (i+1) 0).toNat/\(s.getD (i+1) 0).toNat<=191
  ·rw[ac b];refine c9 (Aw s d (LF-1) i 3 _ a 2 (C4 P) (by omega) (by omega) (by omega) (by omega) (by omega)) ?_;by_cases c:128<=(s.getD (i+2) 0).toNat/\(s.getD (i+2) 0).toNat<=191
   ·rw[ac c,ac ⟨by omega,b,c⟩];refine c9 (Ry s (LF-2) i 3 _ a (C4 P) (by omega)) ?_;exact Tt s d i 3 _ a P k (by omega) (by omega) (by omega)
   ·rw[ae c,ae (λh=>c h.2.2)]
  ·rw[ae b,ae (λh=>b h.2.1)]
def Cf7{f:LL->Option R}{g:By->Int->LL->Option R}(s:By)(e:s.length<=1000000000)(i v a:Nat)(P:List Nat)(l:P.length<=1000000000)(p:i<s.length)(q:v<=20) :
  Fg LF s i 4 v a (C4 P) f g=if 4<=s.length-i/\(128<=(s.getD (i+1) 0).toNat/\(s.getD (i+1) 0).toNat<=191)/\(128<=(s.getD (i+2) 0).toNat/\(s.getD (i+2) 0).toNat<=191)/\(128<=(s.getD (i+3) 0).toNat/\(s.getD (i+3) 0).toNat<=191) then
   (if a<=((v*64+(s.getD (i+1) 0).toNat-128)*64+(s.getD (i+2) 0).toNat-128)*64+(s.getD (i+3) 0).toNat-128/\W8 (((v*64+(s.getD (i+1) 0).toNat-128)*64+(s.getD (i+2) 0).toNat-128)*64+(s.getD (i+3) 0).toNat-128)=true then g s ((i+4:Nat):Int) (C4 (P++[((v*64+(s.getD (i+1) 0).toNat-128)*64+(s.getD (i+2) 0).toNat-128)*64+(s.getD (i+3) 0).toNat-128])) else f (C4 P)) else f (C4 P):=by
 have o:=(s.getD (i+1) 0).toNat_lt;have m:=(s.getD (i+2) 0).toNat_lt;have n:=(s.getD (i+3) 0).toNat_lt;have k:=D6;unfold Fg;have j:A1 ((s.length:Int)-i)=((s.length-i:Nat):Int):=by rw[A6];omega
 rw[j];simp only[vl];by_cases h:s.length-i<4
 ·rw[A8,I9];rfl
 ·rw[A7,ab];refine c9 (Aw s e LF i 4 v a 1 (C4 P) (by omega) (by omega) (by omega) (by omega) (by omega)) ?_;by_cases b:128<=(s.getD (i+1) 0).toNat/\(s.getD (i+1) 0).toNat<=191
  ·rw[ac b];refine c9 (Aw s e (LF-1) i 4 _ a 2 (C4 P) (by omega) (by omega) (by omega) (by omega) (by omega)) ?_;by_cases c:128<=(s.getD (i+2) 0).toNat/\(s.getD (i+2) 0).toNat<=191
   ·rw[ac c];refine c9 (Aw s e (LF-2) i 4 _ a 3 (C4 P) (by omega) (by omega) (by omega) (by omega) (by omega)) ?_;by_cases d:128<=(s.getD (i+3) 0).toNat/\(s.getD (i+3) 0).toNat<=191
    ·rw[ac d,ac ⟨by omega,b,c,d⟩];refine c9 (Ry s (LF-3) i 4 _ a (C4 P) (by omega)) ?_;exact Tt s e i 4 _ a P l (by omega) (by omega) (by omega)
    ·rw[ae d,ae (λh=>d h.2.2.2)]
   ·rw[ae c,ae (λh=>c h.2.2.1)]
  ·rw[ae b,ae (λh=>b h.2.1)]
def Bm7{a:Kbe R}(n:Nat)(b:0<n)(s:By)(i v:Int)(l:LL):AC LF n s i v l a=a s i v l:=by
 rcases n with _|n;omega
 rw[AC]
def Bm1{a:LL->Option R}{b:By->Int->LL->Option R}(s:By)(e:s.length<=1000000000)(i v:Nat)(P:List Nat)(d:P.length<=1000000000)(f:i<s.length)(g:v<128) :
  AB LF s i v (C4 P) a b=b s ((i+1:Nat):Int) (C4 (P++[v])):=by
 unfold AB;have c:A1 ((s.length:Int)-i)=((s.length-i:Nat):Int):=by rw[A6];omega
 rw[c];simp only[vl];rw[A7,ab];refine c9 (show _=cond (ltI (v:Int) ((0:Nat):Int)) (a (C4 P)) (cond (not (ptI v)) (a (C4 P)) (cond (G0 ((C4 P).length+1)) (b s (A1 ((i:Int)+(1:Nat))) (C4 P++[[SV.int .i64 (v:Int)]])) none)) from Bm7 LF (by have:=D6;omega) _ _ _ _) ?_;rw[Tt s e i 1 v 0 P d (by omega) (by omega) (by omega),ac];refine⟨Nat.zero_le _,?_⟩;simp only[W8,s9,ac4,o6,ab7];omega
def Cu0{v:Nat}(h:v<2048):W8 v=true:=by simp only[W8,s9,ac4,o6,ab7];omega
def Bn0{k0 k1:LL->Option R}(s:By)(h:s.length<=1000000000)(n i:Nat)(P:List Nat)(d:P.length<=1000000000)(f:i<s.length) :
  Ax LF (n+1) s i (C4 P) k0 k1=if (p5 (s.drop i)).1=65533/\(p5 (s.drop i)).2=1 then k0 (C4 P) else Ax LF n s ((i+(p5 (s.drop i)).2:Nat):Int) (C4 (P++[(p5 (s.drop i)).1])) k0 k1:=by
 have g:∀k,(s.drop i).getD k 0=s.getD (i+k) 0:=λk=>by grind
 have r:p5 (s.drop i)=x7 (s.length-i) (s.getD i 0).toNat (s.getD (i+1) 0).toNat (s.getD (i+2) 0).toNat (s.getD (i+3) 0).toNat:=by
  rw[Lib.decodeL_N,g,g,g,g,o0];rfl
 have v:=(s.getD i 0).toNat_lt;have j:=(s.getD (i+1) 0).toNat_lt;have m:=(s.getD (i+2) 0).toNat_lt;have t:=(s.getD (i+3) 0).toNat_lt;rw[r];rw[Ax,A8,H4,F6,E6 (n:=((s.getD i 0).toNat:Int)) (by omega) (by omega)];simp only[aa];generalize (s.getD i 0).toNat=b at *;by_cases l:b<128
 ·rw[A8,aa];have e:x7 (s.length-i) b (s.getD (i+1) 0).toNat (s.getD (i+2) 0).toNat (s.getD (i+3) 0).toNat=(b,1):=by unfold x7;rw[ac l]
  rw[e];simp only;rw[I9];exact Bm1 s h i b P d f l
 ·rw[E4 (show(128:Int)<=b by omega),ab];by_cases u:b<194
  ·rw[C6 (show(b:Int)<194 by omega)];have e:x7 (s.length-i) b (s.getD (i+1) 0).toNat (s.getD (i+2) 0).toNat (s.getD (i+3) 0).toNat=(65533,1):=by
    unfold x7;grind
   rw[e,ac ⟨rfl,rfl⟩];simp only[j5,ab];unfold Ow;unfold Ov;rw[ab,C6 (show(b:Int)<224 by omega),C6 (show(b:Int)<240 by omega)];rfl
  ·rw[E4 (show(194:Int)<=b by omega)];simp only[j2,aa];by_cases o:b<224
   ·rw[C6 (show(b:Int)<224 by omega)];unfold Ow;have c:A1 ((b:Int)-192)=((b-192:Nat):Int):=by rw[A6];omega
    rw[aa,c,D94 _ _ _ _ _ ⟨by omega,o⟩ j];simp only[vl];refine c9 (Cf5 s h i (b-192) 128 P d f (by omega)) ?_;by_cases a:2<=s.length-i/\128<=(s.getD (i+1) 0).toNat/\(s.getD (i+1) 0).toNat<=191
    ·rw[ac a,ac a];simp only;rw[ac ⟨by omega,Cu0 (by omega)⟩,I9]
    ·rw[ae a,ae a,ac ⟨rfl,rfl⟩]
   ·rw[E4 (show(224:Int)<=b by omega)];unfold Ow;rw[ab,E4 (show(224:Int)<=b by omega)];simp only[j2,aa];by_cases p:b<240
    ·rw[C6 (show(b:Int)<240 by omega)];unfold Ov;have c:A1 ((b:Int)-224)=((b-224:Nat):Int):=by rw[A6];omega
     rw[aa,c,D95 _ _ _ _ _ ⟨by omega,p⟩ j m];simp only[vl];refine c9 (Cf6 s h i (b-224) 2048 P d f (by omega)) ?_;by_cases a:3<=s.length-i/\(128<=(s.getD (i+1) 0).toNat/\(s.getD (i+1) 0).toNat<=191)/\(128<=(s.getD (i+2) 0).toNat/\(s.getD (i+2) 0).toNat<=191)
     ·rw[ac a,ac a];split
      ·simp only;rw[I9]
      ·rw[ac ⟨rfl,rfl⟩]
     ·rw[ae a,ae a,ac ⟨rfl,rfl⟩]
    ·rw[E4 (show(240:Int)<=b by omega)];unfold Ov;rw[ab,E4 (show(240:Int)<=b by omega)];simp only[j2,aa];by_cases q:b<245
     ·rw[C6 (show(b:Int)<245 by omega),aa];have c:A1 ((b:Int)-240)=((b-240:Nat):Int):=by rw[A6];omega
      rw[c,D96 _ _ _ _ _ ⟨by omega,q⟩ j m t];simp only[vl];refine c9 (Cf7 s h i (b-240) 65536 P d f (by omega)) ?_;by_cases a:4<=s.length-i/\(128<=(s.getD (i+1) 0).toNat/\(s.getD (i+1) 0).toNat<=191)/\(128<=(s.getD (i+2) 0).toNat/\(s.getD (i+2) 0).toNat<=191)/\(128<=(s.getD (i+3) 0).toNat/\(s.getD (i+3) 0).toNat<=191)
      ·rw[ac a,ac a];split
       ·simp only;rw[I9]
       ·rw[ac ⟨rfl,rfl⟩]
      ·rw[ae a,ae a,ac ⟨rfl,rfl⟩]
     ·rw[E4 (show(245:Int)<=b by omega),ab];have e:x7 (s.length-i) b (s.getD (i+1) 0).toNat (s.getD (i+2) 0).toNat (s.getD (i+3) 0).toNat=(65533,1):=by
       unfold x7;grind
      rw[e,ac ⟨rfl,rfl⟩]
def Cf8(s:By)(k:s.length<=1000000000):∀(r i n:Nat) (P:List Nat),i+r=s.length->r<n->P.length<=i->
  (Dq (s.drop i)=none->∃l,∀(R:Type) (k0 k1:LL->Option R),Ax LF n s i (C4 P) k0 k1=k0 l)/\
  (∀q,Dq (s.drop i)=some q->∀(R:Type) (k0 k1:LL->Option R),Ax LF n s i (C4 P) k0 k1=k1 (C4 (P++q))):=by
 intro r
 induction r using aa9 with
 | _ r o=>
  intro i n P v w u;rcases n with _|n;omega
  by_cases j:i<s.length
  ·have d:s.drop i≠[]:=by rw[ne_eq,<-x8,o0];omega
   have c:=λ(R:Type) (k0 k1:LL->Option R)=>Bn0 (k0:=k0) (k1:=k1) s k n i P (by omega) j
   have x:=Lib.decodeL_width (s.drop i);have g:=Lib.decodeL_le (s.drop i) d;rw[o0] at g;rw[Cd1 _ d];by_cases a:(p5 (s.drop i)).1=65533/\(p5 (s.drop i)).2=1
   ·rw[ac a];refine⟨λ_=>⟨C4 P,λR k0 k1=>?_⟩,λq b=>by cases b⟩;refine(c R k0 k1).trans ?_;rw[ac a]
   ·rw[ae a,ac6];obtain⟨w1,t⟩:=o (r-(p5 (s.drop i)).2) (by omega) (i+(p5 (s.drop i)).2) n (P++[(p5 (s.drop i)).1]) (by omega) (by omega) (by rw[j8,o9];omega);constructor
    ·intro h;cases b:Dq (s.drop (i+(p5 (s.drop i)).2)) with
     | some q=>rw[b] at h;cases h
     | none=>
      obtain⟨l,e⟩:=w1 b;refine⟨l,λR k0 k1=>?_⟩;refine(c R k0 k1).trans ?_;rw[ae a];exact e R k0 k1
    ·intro q h R k0 k1;cases b:Dq (s.drop (i+(p5 (s.drop i)).2)) with
     | none=>rw[b] at h;cases h
     | some p=>
      rw[b] at h;simp only[ab0,p9] at h;subst h;refine(c R k0 k1).trans ?_;rw[ae a];refine(t p b R k0 k1).trans ?_;rw[p6];rfl
  ·have f:s.drop i=[]:=by rw[<-x8,o0];omega
   have e:∀(R:Type) (k0 k1:LL->Option R),Ax LF (n+1) s i (C4 P) k0 k1=k1 (C4 P):=λR k0 k1=>by
    rw[Ax];rw[A7];rfl
   rw[f,show Dq []=some [] from rfl];refine⟨λh=>(by cases h),λq b R k0 k1=>?_⟩;simp only[p9] at b;subst b;rw[aa8];exact e R k0 k1
def Dm2(s:By)(d:A2 s.length=true):∃r H,Dl9 LF s (λa=>rv (.tup [.fl 1,.s (.bool false)]) [.arr true 3 1 a,.arr true 3 1 []]) (λa=>rv (.tup [.fl 0,.s (.bool true)]) [.arr true 3 1 a])=rv r H/\
  r.stab [1,0] H = .tup [.s (.sl (Ua s).isEmpty (Ua s).isEmpty 1 (Og (Ua s))),.s (.bool (Dq s).isSome)]:=by
 have f:=M5 d;obtain⟨w1,c⟩:=Cf8 s f s.length 0 LF [] (by omega) (by have:=D6;omega) (Nat.zero_le _);rw[k9] at w1 c;unfold Ua;cases b:Dq s with
 | none=>
  obtain⟨l,e⟩:=w1 b;exact⟨_,_,e _ _ _,rfl⟩
 | some q=>
  refine⟨_,_,c q b _ _ _,?_⟩;cases q<;>rfl
def Bl8{a:Unit->Option R}{d:Kce R}(s:By)(z:Bool)(p:List Nat)(t:p.length<=1000000000):∀(r i n:Nat) (b:Bool),i+r=p.length->r<n->
  Ag LF n s z (C4 p) b (i:Int) a d=if (p.drop i).any (λp=>p7 65 p&&p7 p 90) then a () else d s z (C4 p) (b||((p.drop i).any λp=>p7 128 p)):=by
 intro r
 induction r with
 | zero=>
  intro i n b h j;rcases n with _|n;omega
  rw[Ag];rw[E2,A7,j4 (by omega)];simp
 | succ r k=>
  intro i n b h j;rcases n with _|n;omega
  rw[Ag];have f:A1 ((i:Int)+1)=((i+1:Nat):Int):=by rw[A6];rfl
  have g:p.drop i=p.getD i 0::p.drop (i+1):=by
   rw[j7,p4 (by omega),x4,y5]
  rw[E2,A8,H4,j1,Ti (by omega),DA _ _ (by omega),g,ab5,ab5,f];simp only[aa];generalize p.getD i 0=q;have go:∀c:Bool,Ag LF n s z (C4 p) c ((i+1:Nat):Int) a d=_:=λc=>k (i+1) n c (by omega) (by omega)
  simp only[go];by_cases l:q<65
  ·rw[show ltI (q:Int) (65:Int)=true from A8,show p7 65 q=false by rw[o5,ne_eq,o6];omega];have e:p7 128 q=false:=by rw[o5,ne_eq,o6];omega
   rw[show ltI (q:Int) (128:Int)=true from A8,e];cases b<;>simp
  ·rw[show ltI (q:Int) (65:Int)=false from A7,show p7 65 q=true by rw[o6];omega];by_cases e:90<q
   ·rw[show ltI (90:Int) (q:Int)=true from A8,show p7 q 90=false by rw[o5,ne_eq,o6];omega];by_cases o:q<128
    ·rw[show ltI (q:Int) (128:Int)=true from A8,show p7 128 q=false by rw[o5,ne_eq,o6];omega];cases b<;>simp
    ·rw[show ltI (q:Int) (128:Int)=false from A7,show p7 128 q=true by rw[o6];omega];cases b<;>simp
   ·rw[show ltI (90:Int) (q:Int)=false from A7,show p7 q 90=true by rw[o6];omega];cases b<;>simp
def Bl9{a:Bool->Option R}(s:By)(b:A2 s.length=true):B17 LF s a=a (Fe s):=by
 have c:=D6;unfold B17 Fe;rw[b,aa];simp only[vl];by_cases h:(P2 s).2=0
 ·have e:(((P2 s).2:Int)!=(0:Int))=false:=by rw[h];rfl
  rw[e,ab,Er,h];have g:=An8 s;refine c9 (Bl8 s _ (P2 s).1 (by omega) (P2 s).1.length 0 LF false (by omega) (by omega)) ?_;rw[k9];cases d:(P2 s).1.any (λp=>p7 65 p&&p7 p 90) with
  | true=>simp
  | false=>
   rw[ae (by simp),Fb,Yd,Yf];simp only[aa,vl,ab4,j2];by_cases f:(Eg (P2 s).1).2=0;all_goals grind
 grind
def Bj9{g:Unit->Option R}{j:By->Option R}(s:By)(v:s.length<=1000000000):∀(r i n:Nat),i+r=s.length->r<n->
  P5 LF n s (i:Int) g j=if (s.drop i).all U2 then j s else g ():=by
 intro r
 induction r with
 | zero=>
  intro i n l c;rcases n with _|n;omega
  rw[P5];rw[A7,j4 (by omega)];rfl
 | succ r o=>
  intro i n l c;rcases n with _|n;omega
  rw[P5];have k:A1 ((i:Int)+1)=((i+1:Nat):Int):=by rw[A6];rfl
  rw[A8,H4,F6,G2 s i (by omega),k,aa4];simp only[aa];rw[o (i+1) n (by omega) (by omega)];generalize s.getD i 0=b;have f:=Rm b;have t:((b.toNat:Int)==45)=(b==45):=S7 b 45 (by omega);have u:((b.toNat:Int)==95)=(b==95):=S7 b 95 (by omega);rw[t,u];cases a:U2 b with
  | true=>
   rw[f] at a;simp only[z7];by_cases d:b=45
   ·subst d;simp (disch:=decide) [ltI]
   ·by_cases e:b=95
    ·subst e;simp (disch:=decide) [ltI]
    ·rcases a with a|a|a|a
     ·rw[show ltI (b.toNat:Int) 97=false from A7,show ltI (122:Int) b.toNat=false from A7];rfl
     ·rw[show ltI (b.toNat:Int) 97=true from A8,show ltI (b.toNat:Int) 48=false from A7,show ltI (57:Int) b.toNat=false from A7];rfl
     ·exact absurd a d
     ·exact absurd a e
  | false=>
   have c:¬((97<=b.toNat/\b.toNat<=122)\/(48<=b.toNat/\b.toNat<=57)\/b=45\/b=95):=λh=>by rw[f.2 h] at a;cases a
   have p:(b==45)=false:=by simpa using λh=>c (.inr (.inr (.inl h)))
   have q:(b==95)=false:=by simpa using λh=>c (.inr (.inr (.inr h)))
   rw[p,q];simp only[j2,aa,ab,Bool.false_and,ab6,if_false];by_cases d:b.toNat<48
   ·rw[show ltI (b.toNat:Int) 97=true from A8,show ltI (b.toNat:Int) 48=true from A8];rfl
   ·by_cases e:b.toNat<97
    ·rw[show ltI (b.toNat:Int) 97=true from A8,show ltI (b.toNat:Int) 48=false from A7,show ltI (57:Int) b.toNat=true from A8];rfl
    ·rw[show ltI (b.toNat:Int) 97=false from A7,show ltI (122:Int) b.toNat=true from A8,show ltI (b.toNat:Int) 48=false from A7,show ltI (57:Int) b.toNat=true from A8];rfl
def C27(s:By)(h:4<=s.length):(s.take 4==([120,110,45,45]:By))=xnB.isPrefixOf s:=by
 match s,h with
 | a::b::c::d::t,_=>
  simp only[List.take_succ_cons,List.take_zero,xnB,List.isPrefixOf,ab3];rw[show((a::b::c::d::[])==([120,110,45,45]:By))=(a==120&&(b==110&&(c==45&&(d==45&&true)))) from rfl,ab3];rw[ac3];simp only[s9,beq_iff_eq];exact⟨λh=>⟨h.1.symm,h.2.1.symm,h.2.2.1.symm,h.2.2.2.symm⟩,λh=>⟨h.1.symm,h.2.1.symm,h.2.2.1.symm,h.2.2.2.symm⟩⟩
def Bk0{c:Bool->Option R}(s:By)(e:A2 s.length=true):B08 LF s c=c (L4 s):=by
 have k:=M5 e;have i:=D6;unfold B08 L4;by_cases a:s=[]
 ·grind
 ·have r:0<s.length:=x5.2 a;have j:s.isEmpty=false:=by simpa using a
  have b:(s==([]:By))=false:=by simpa using a
  rw[b,ab,j];by_cases n:63<s.length
  ·rw[A8,show p7 s.length 63=false by rw[o5,ne_eq,o6];omega];rfl
  ·rw[A7,ab,show p7 s.length 63=true by rw[o6];omega,H4];have m:(bAt s 0==(45:Int))=(s.getD 0 0==45):=by rw[Iq];exact S7 _ 45 (by omega)
   have d:A1 ((s.length:Int)-1)=((s.length-1:Nat):Int):=by rw[A6];omega
   rw[m,d];simp only[aa,vl];rw[H4,F6,show((((s.getD (s.length-1) 0).toNat:Nat):Int)==45)=(s.getD (s.length-1) 0==45) from S7 _ 45 (by omega)];cases f:(s.getD 0 0==45) with
   | true=>
    grind
   | false=>
    rw[show(s.getD 0 0 !=45)=true by unfold bne;rw[f];rfl];simp only[aa,ab];cases g:(s.getD (s.length-1) 0==45) with
    | true=>
     grind
    | false=>
     rw[show(s.getD (s.length-1) 0 !=45)=true by unfold bne;rw[g];rfl];simp only[ab];refine c9 (Bj9 s k s.length 0 LF (by omega) (by omega)) ?_;rw[k9];cases o:s.all U2 with
     | false=>simp
     | true=>
      rw[ac rfl];simp only[j2,z7,ab3];by_cases p:s.length<4
      ·rw[A8];have:xnB.isPrefixOf s=false:=by
        rw[o5,ne_eq,List.isPrefixOf_iff_prefix];intro h;have:=h.length_le;simp only[xnB,x3,w8] at this;omega
       grind
      ·rw[A7,ab,O8,aa,U6];have l:(y9 (j0 4) s==([120,110,45,45]:By))=xnB.isPrefixOf s:=C27 s (by omega);rw[l];cases q:xnB.isPrefixOf s with
       | false=>rfl
       | true=>
        rw[O8,Y9];simp only[j5,ab,aa];rw[D9 (by rw[o0];omega)];rfl
def Bj7{h:By->Int->Option R}(s:By)(c:A2 s.length=true):B07 LF s h=h (J9 s).1 ((J9 s).2:Nat):=by
 have m:=M5 c;have j:=D6;unfold B07 J9;rw[c,aa];cases f:Dq s with
 | none=>rfl
 | some p=>
  have hN:(Ua s)=p:=by unfold Ua;rw[f];rfl
  rw[hN,Er,E2];simp only[ab8,j5,ab,aa];by_cases d:256<p.length
  ·rw[ac d,A8];rfl
  ·rw[ae d,A7,ab,D9 (by rw[Aq];exact m)];by_cases e:p.length<s.length
   ·rw[ac e,A8];have a:=At9 (l:=s) (by rw[f];rfl);cases g:Dq (C5 s) with
    | none=>rw[g] at a;cases a
    | some q=>
     have b:Ua (C5 s)=q:=by unfold Ua;rw[g];rfl
     have k:=Ao7 q;rw[b,Er,Fb,Yd,Yf];simp only[aa,vl];rw[J4 (by omega),aa,D9 (by rw[j8];simp only[x3,w8];omega),aa];by_cases i:(Eg q).2=0
     ·rw[i,ac rfl];show cond (not (L4 (xnB++(Eg q).1))) _ _=_;cases n:L4 (xnB++(Eg q).1) with
      | true=>rfl
      | false=>rfl
     grind
   ·rw[ae e,A7];grind
section
variable {W R : Type} (L : Nat) (Q : G4) (Y : Yh W) (s : W) (k : Out -> St W -> Option R)
noncomputable abbrev KG:Code:=D4 ad0
noncomputable def Ud(L:Nat):Cfg:=D0 L [48] (A4 []) [] (A4 [(7,[2]),(2,[2]),(4,[2]),(6,[2]),(5,[0,23]),(3,[0,12]),(1,[0,2]),(0,[0])]) [] (A4 [(0,[])]) (some [2]) [] [] []
noncomputable def NS(a:Int)(h:Bool)(f:Int->Option R)(g:Int->Bool->Option R):Option R:=cond h (vl (A1 (wu8 (a-97))) λb=>vl (A1 (b+10)) λc=>f c) (cond (not (ltI a 65)) (cond (not (ltI 70 a)) (vl (A1 (wu8 (a-65))) λd=>vl (A1 (d+10)) λe=>f e) (g a (not (ltI 70 a)))) (g a false))
abbrev Av3(b:Code):Prop:=∀(k:Out->St W->Option R) a c,A9 (Ud L) Q Y b ⟨gp [(0,p8 a),(12,pB c)] 21,[],s⟩ k=NS a c (λn0=>k .ret ⟨gp [(2,pI n0)] 32,[],s⟩) (λa c=>k .normal ⟨gp [(0,p8 a),(23,pB c)] 10,[],s⟩)
def Ce5:Av3 (R:=R) L Q Y s (cd [1,0,0,1,1,1] KG):=by intro k a b;unfold NS;kernel_rfl
noncomputable def NT(b:Int)(l:Bool)(f:Int->Option R)(j:Int->Bool->Option R):Option R:=cond l (vl (A1 (wu8 (b-48))) λg=>f g) (cond (not (ltI b 97)) (NS b (not (ltI 102 b)) (λh=>f h) (λc d=>j c d)) (NS b false (λi=>f i) (λe a=>j e a)))
abbrev NU(b:Code):Prop:=∀(k:Out->St W->Option R) a c,A9 (Ud L) Q Y b ⟨gp [(0,p8 a),(2,pB c)] 31,[],s⟩ k=NT a c (λn0=>k .ret ⟨gp [(2,pI n0)] 32,[],s⟩) (λa c=>k .normal ⟨gp [(0,p8 a),(23,pB c)] 10,[],s⟩)
def Ce6(a:Code)(b:Av3 (R:=R) L Q Y s a):NU (R:=R) L Q Y s (cd [1,0,0,1] (I2 [1,0,0,1,1,1] a KG)):=by intro k c d;unfold NT;simp only[<-b k];kernel_rfl
def Ce7:NU (R:=R) L Q Y s (cd [1,0,0,1] KG):=by intro k a b;exact c9 (by kernel_rfl) (Ce6 L Q Y s (cd [1,0,0,1,1,1] KG) (Ce5 L Q Y s) k a b)
noncomputable def rhx(L:Nat)(c:Int)(d:Int->Option R):Option R:=cond (not (ltI c 48)) (NT c (not (ltI 57 c)) (λa=>d a) (λe f=>d (-1))) (NT c false (λb=>d b) (λg h=>d (-1)))
def Dz7(b:Code)(a:NU (R:=PV × List Blk × W) L Q Y s b)(c:Int):A9 (Ud L) Q Y (cd [] (I2 [1,0,0,1] b KG)) ⟨[p8 c]++tps 34,[],s⟩ (G1 (Ud L) ad0)=rhx L c (λe=>some (pI e,[],s)):=by unfold rhx;exact let d:=(F0 0 (F5 (Ud L) Q Y (cd [1,1] KG) (G1 (Ud L) ad0)));(c9 (by kernel_rfl) (A0 ((a d c (not (ltI 57 c))).trans (by kernel_rfl)) ((a d c false).trans (by kernel_rfl))))
def Dz8(d:Nat)(b0):evC (Ud L) (d+1) W Y 48 [p8 b0] [] s=rhx L b0 (λa=>some (pI a,[],s)):=
 (evE (fn:=ad0) (by kernel_rfl)).trans (c9 (by kernel_rfl) (Dz7 L (evC (Ud L) d) Y s (cd [1,0,0,1] KG) (Ce7 L (evC (Ud L) d) Y s) b0))
noncomputable abbrev Bw0:Code:=D4 ad9
noncomputable def No(L:Nat):Cfg:=D0 L [27] (A4 [(3,[0,1,0,0,0])]) [(48,Dt3)] (A4 [(11,[2,0]),(4,[0,3,0]),(10,[0,3,0]),(9,[0,3,0]),(8,[2,0]),(7,[0,3,0,36]),(6,[0,3,0]),(5,[0,3,0,9]),(3,[0,3,0,3]),(2,[0,3,0]),(1,[0,3]),(0,[0])]) [48] (A4 [(0,[4]),(1,[0,3,0])]) (some [2,0]) [] [] []
noncomputable def Q4(L n:Nat)(b:By)(a:Int)(c:LL)(d:LL->Option R)(j:LL->Option R):Option R:=match n with|0=>none|n+1=>cond (ltI a (b.length:Int)) (cond (inR a b.length) (cond ((bAt b a)!=37) (cond (inR a b.length) (cond (G0 (c.length+1)) (Q4 L n b (A1 (a+1)) (c++[[(SV.int .u8 (bAt b a))]]) d j) none) none) (vl (A1 ((b.length:Int)-a)) λl=>cond (ltI l 3) (d c) (cond (inR (A1 (a+1)) b.length) (vl (bAt b (A1 (a+1))) λf=>cond (inR f 256) (cond (ltI (Gr (u8n f)) (0:Int)) (d c) (cond (inR (A1 (a+2)) b.length) (vl (bAt b (A1 (a+2))) λg=>cond (inR g 256) (cond (ltI (Gr (u8n g)) (0:Int)) (d c) (cond (inR (A1 (a+1)) b.length) (vl (bAt b (A1 (a+1))) λh=>cond (inR h 256) (vl (A1 ((16:Int)*(Gr (u8n h)))) λm=>cond (inR (A1 (a+2)) b.length) (vl (bAt b (A1 (a+2))) λi=>cond (inR i 256) (vl (A1 (m+(Gr (u8n i)))) λo=>cond (G0 (c.length+1)) (vl (A1 ((A1 (a+2))+1)) λe=>Q4 L n b e (c++[[(SV.int .u8 (wu8 o))]]) d j) none) none) none) none) none)) none) none)) none) none))) none) (j c)
def Av1(n s0 i1 l2):E0 1 ((No L).keep 3) (bd (No L) Q Y (cd [1,1,0,1,0,0] Bw0)) n ⟨gp [(0,pS s0),(3,.fl 0),(0,pI i1)] 57,[.arr true 5 1 l2],s⟩ k =
 Q4 L n s0 i1 l2 (λa=>k .ret ⟨gp [(2,pS ([]:By)),(0,pB false)] 59,[.arr true 5 1 a],s⟩) (λa=>k (.exit 0) ⟨gp [(4,.fl 0)] 58,[.arr true 5 1 a],s⟩):=by
 induction n generalizing s0 i1 l2 with
 | zero=>rfl
 | succ n b=>rw[Q4];simp only[<-b];kernel_rfl
noncomputable def B05(L:Nat)(d:By)(c:By->Bool->LL->Option R):Option R:=Q4 L L d 0 [] (λb=>c ([]:By) false b) (λa=>cond (aa5 a Qg) (c (y7 Nx a) true a) none)
def Cz1(d:Nat)(s0):evC (No L) (d+1) W Y 27 [pS s0] [] s=B05 L s0 (λb c a=>some (.tup [pS b,pB c],[.arr true 5 1 a],s)):=by refine(evE (fn:=ad9) (by kernel_rfl)).trans ?_;generalize evC (No L) d=Q;unfold B05;exact(c9 (by kernel_rfl) ((Av1 L Q Y s (F0 0 (F5 (No L) Q Y (cd [1,1,1] Bw0) (G1 (No L) ad9))) L s0 0 []).trans (by kernel_rfl)))
noncomputable abbrev Cp4:Code:=D4 ae1
noncomputable def Vr(L:Nat):Cfg:=D0 L [38] (A4 [(5,[2,0,0])]) [(28,Uw),(30,Lq),(55,WO)] (A4 [(9,[2]),(6,[3,0]),(8,[2]),(7,[3,0,24]),(5,[3,0,16]),(4,[3,0]),(3,[3]),(2,[2]),(1,[0,14]),(0,[0])]) [28,55] (A4 [(0,[]),(1,[3,0])]) (some [2]) [] [] []
noncomputable def Ot(L n:Nat)(b:LL)(a:Int)(c:Unit->Option R)(d:Unit->Option R):Option R:=match n with|0=>none|n+1=>cond (ltI a (b.length:Int)) (cond (inR a b.length) (cond (okE Dr b (j0 a) 0) (cond (A2 (j9 (gX b (j0 a) 0))) (cond (not (L4 (gX b (j0 a) 0))) (c ()) (Ot L n b (A1 (a+1)) c d)) none) none) none) (d ())
def Bj6(n p0 i1):E0 0 ((Vr L).keep 5) (bd (Vr L) Q Y (cd [1,1,1,0,1,0,0] Cp4)) n ⟨gp [(3,.s (.sl false false 1 p0)),(0,pI i1)] 25,[],s⟩ k =
 Ot L n p0 i1 (λ_=>k .ret ⟨gp [(2,pB false)] 27,[],s⟩) (λ_=>k (.exit 0) ⟨gp [] 30,[],s⟩):=by
 induction n generalizing p0 i1 with
 | zero=>rfl
 | succ n a=>rw[Ot];simp only[<-a];kernel_rfl
noncomputable def Dl2(L:Nat)(a:By)(b:Bool->Option R):Option R:=cond (a==[]) (b false) (cond (ltI 253 (a.length:Int)) (b false) (cond (A2 a.length) (cond (F8 a) (b false) (cond (A2 a.length) (vl (C2 (pcs (u8n (46:Int)) a)) λc=>Ot L L c 0 (λ_=>b false) (λ_=>b true)) none)) none))
def Dl3(d:Nat)(name0):evC (Vr L) (d+1) W Y 38 [pS name0] [] s=Dl2 L name0 (λb=>some (pB b,[],s)):=by refine(evE (fn:=ae1) (by kernel_rfl)).trans ?_;generalize evC (Vr L) d=Q;unfold Dl2;exact(c9 (by kernel_rfl) (A0 rfl (A0 rfl (A0 (A0 rfl (A0 (A5 λa=>((Bj6 L Q Y s (F0 0 (F5 (Vr L) Q Y (cd [1,1,1,1] Cp4) (G1 (Vr L) ae1))) L a 0).trans (by kernel_rfl))) rfl)) rfl))))
noncomputable def YL(L:Nat):Cfg:=D0 L [18] (A4 []) [(38,Cn3)] (A4 [(9,[2]),(4,[2]),(6,[2]),(8,[2]),(7,[1,32]),(5,[1,1,2,16]),(3,[1,1,2,0]),(2,[1,1,2]),(1,[1,1]),(0,[1])]) [38] (A4 [(0,[])]) (some [2]) [] [] []
noncomputable def Cz7(L:Nat)(c:Int)(b:By)(d e f g h i j l a:Int)(m:Kbh R):Option R:=cond (c==1) (cond (A2 b.length) (cond (Bk b) (cond (d==0) (m ((e==0)&&((f==0)&&((g==0)&&((h==0)&&((i==0)&&((j==0)&&((l==0)&&((a==0)&&true)))))))) c b d e f g h i j l a (v7 8 [(SV.int .u16 (0:Int))])) (m false c b d e f g h i j l a (v7 8 [(SV.int .u16 (0:Int))]))) (m false c b d e f g h i j l a (v7 8 [(SV.int .u16 (0:Int))]))) none) (cond (c==2) (cond (b==[]) (m ((e==0)&&((f==0)&&((g==0)&&((h==0)&&((i==0)&&((j==0)&&((l==0)&&((a==0)&&true)))))))) c b d e f g h i j l a (v7 8 [(SV.int .u16 (0:Int))])) (m false c b d e f g h i j l a (v7 8 [(SV.int .u16 (0:Int))]))) (cond (c==3) (cond (b==[]) (m (d==0) c b d e f g h i j l a (v7 8 [(SV.int .u16 (0:Int))])) (m false c b d e f g h i j l a (v7 8 [(SV.int .u16 (0:Int))]))) (m false c b d e f g h i j l a (v7 8 [(SV.int .u16 (0:Int))]))))
def Cz8(d:Nat)(h0 h1 h2 h3 h4 h5 h6 h7 h8 h9 h10):evC (YL L) (d+1) W Y 18 [.agg [pI h0,pS h1,p32 h2,p16 h3,p16 h4,p16 h5,p16 h6,p16 h7,p16 h8,p16 h9,p16 h10]] [] s=Cz7 L h0 h1 h2 h3 h4 h5 h6 h7 h8 h9 h10 (λn f o g h i j l e m b c a=>some (pB n,[.box [pI f,pS o,p32 g,p16 h,p16 i,p16 j,p16 l,p16 e,p16 m,p16 b,p16 c],.arr false 27 1 a],s)):=by refine(evE (fn:=Tryz.f18) (by kernel_rfl)).trans ?_;generalize evC (YL L) d=Q;unfold Cz7;kernel_rfl
noncomputable def YK(L:Nat):Cfg:=D0 L [14] (A4 []) [(18,Bu7),(32,Cn6),(33,Cn8)] (A4 [(8,[2]),(5,[2]),(7,[2]),(6,[1,10]),(4,[1,5,0]),(3,[1,5]),(2,[2]),(1,[1,3]),(0,[1])]) [18,32,33] (A4 [(0,[1])]) (some [2]) [] [] []
noncomputable def Cz4(L:Nat)(j:Int)(l:By)(b c d e f g h i a:Int)(o:Kca R):Option R:=cond (A2 l.length) (cond (ltN b 4294967296) (cond (ok8 c d e f g h i a) (cond (not (N7 (mkH j l b (n8 c d e f g h i a)))) (o ([]:By) j l b c d e f g h i a) (cond (j==1) (o l j l b c d e f g h i a) (cond (j==2) (cond (ltN b 4294967296) (o (V3 (j0 b)) j l b c d e f g h i a) none) (cond (ok8 c d e f g h i a) (vl (Cv (n8 c d e f g h i a)) λm=>cond (J1 1 m.length) (vl (([91]:By)++m) λn=>cond (J1 n.length 1) (vl (n++[93]) λp=>o p j l b c d e f g h i a) none) none) none)))) none) none) none
def Cz5(d:Nat)(h0 h1 h2 h3 h4 h5 h6 h7 h8 h9 h10):evC (YK L) (d+1) W Y 14 [.agg [pI h0,pS h1,p32 h2,p16 h3,p16 h4,p16 h5,p16 h6,p16 h7,p16 h8,p16 h9,p16 h10]] [] s=Cz4 L h0 h1 h2 h3 h4 h5 h6 h7 h8 h9 h10 (λm e n f g h i j c l a b=>some (pS m,[.box [pI e,pS n,p32 f,p16 g,p16 h,p16 i,p16 j,p16 c,p16 l,p16 a,p16 b]],s)):=by refine(evE (fn:=Tryz.f14) (by kernel_rfl)).trans ?_;generalize evC (YK L) d=Q;unfold Cz4;kernel_rfl
end
section
variable {W R : Type} (L : Nat) (Q : G4) (Y : Yh W) (s : W) (k : Out -> St W -> Option R)
noncomputable abbrev T4:Code:=D4 ac9
noncomputable def M4(L:Nat):Cfg:=D0 L [13] (A4 [(23,[2,0,6,0,0])]) [(26,Cn9),(27,Bu5),(28,Uw),(29,Bv0),(30,Lq),(31,Bu8)] (A4 [(35,[2,0]),(34,[2,0]),(33,[2,7,108]),(32,[2,0]),(31,[2,7,105]),(24,[2,7,0,0]),(30,[2,7,0,0]),(29,[2,7,0,0,0]),(28,[2,7,0,0,0,94]),(27,[2,0]),(26,[2,7,0,0,0,0,89]),(25,[2,7,0,0,0,0]),(23,[2,7,0,0,79]),(22,[2,7,0,0]),(21,[2,7,0]),(20,[2,3,3]),(19,[2,0]),(18,[2,0]),(17,[2,5,74]),(16,[2,5,0]),(15,[2,3,69]),(14,[2,3]),(13,[2,3,62]),(12,[2,0]),(11,[2,3,51]),(10,[2,3,0]),(9,[2,0]),(8,[2,0]),(7,[2,1,43]),(6,[2,1,0]),(5,[2,0]),(4,[0,1,33]),(3,[0,1,22]),(2,[2,0]),(1,[0,1,14]),(0,[0,1])]) [27,28,29,31] (A4 [(0,[2,7]),(1,[2,7,0,0])]) (some [2,0]) [] [] []
abbrev Kcc(R:Type):=Int->Int->Int->Int->Int->Int->Int->Int->Int->Int->LL->Option R
noncomputable def Jj(b:By)(e:Bool)(f:Unit->Option R)(g:Kcc R)(h:By->Bool->Option R):Option R:=cond e (vl (A1 ((b.length:Int)-1)) λd=>cond (inR d b.length) (cond ((bAt b d)!=93) (f ()) (cond (ltI (b.length:Int) (2:Int)) (f ()) (vl (A1 ((b.length:Int)-1)) λc=>cond (L3 1 c b.length) (vl (cut b 1 c) λa=>cond (A2 a.length) (cond (not (aa0 (v6B a))) (g 14 0 0 0 0 0 0 0 0 0 [[(SV.int .u16 (↑(v6c 0 a):Int))],[(SV.int .u16 (↑(v6c 1 a):Int))],[(SV.int .u16 (↑(v6c 2 a):Int))],[(SV.int .u16 (↑(v6c 3 a):Int))],[(SV.int .u16 (↑(v6c 4 a):Int))],[(SV.int .u16 (↑(v6c 5 a):Int))],[(SV.int .u16 (↑(v6c 6 a):Int))],[(SV.int .u16 (↑(v6c 7 a):Int))]]) (g 0 3 (↑(v6c 0 a):Int) (↑(v6c 1 a):Int) (↑(v6c 2 a):Int) (↑(v6c 3 a):Int) (↑(v6c 4 a):Int) (↑(v6c 5 a):Int) (↑(v6c 6 a):Int) (↑(v6c 7 a):Int) [[(SV.int .u16 (↑(v6c 0 a):Int))],[(SV.int .u16 (↑(v6c 1 a):Int))],[(SV.int .u16 (↑(v6c 2 a):Int))],[(SV.int .u16 (↑(v6c 3 a):Int))],[(SV.int .u16 (↑(v6c 4 a):Int))],[(SV.int .u16 (↑(v6c 5 a):Int))],[(SV.int .u16 (↑(v6c 6 a):Int))],[(SV.int .u16 (↑(v6c 7 a):Int))]])) none) none))) none) (h b e)
abbrev Zw(b:Code):Prop:=∀(k:Out->St W->Option R) a c,A9 (M4 L) Q Y b ⟨gp [(0,pS a),(1,.ptr 0 0 0),(22,pB c)] 97,[.box [pI (0:Int),pS ([]:By),p32 (0:Int),p16 (0:Int),p16 (0:Int),p16 (0:Int),p16 (0:Int),p16 (0:Int),p16 (0:Int),p16 (0:Int),p16 (0:Int)]],s⟩ k=Jj a c (λ_=>k .ret ⟨gp [(2,.ptr 0 0 0),(0,pI (14:Int))] 119,[.box [pI (0:Int),pS ([]:By),p32 (0:Int),p16 (0:Int),p16 (0:Int),p16 (0:Int),p16 (0:Int),p16 (0:Int),p16 (0:Int),p16 (0:Int),p16 (0:Int)]],s⟩) (λn0 e f g h i j l d m l10=>k .ret ⟨gp [(2,.ptr 0 0 0),(0,pI n0)] 119,[.box [pI e,pS ([]:By),p32 (0:Int),p16 f,p16 g,p16 h,p16 i,p16 j,p16 l,p16 d,p16 m],.arr false 27 1 l10],s⟩) (λa c=>k .normal ⟨gp [(0,pS a),(1,.ptr 0 0 0),(22,pB c)] 97,[.box [pI (0:Int),pS ([]:By),p32 (0:Int),p16 (0:Int),p16 (0:Int),p16 (0:Int),p16 (0:Int),p16 (0:Int),p16 (0:Int),p16 (0:Int),p16 (0:Int)]],s⟩)
def PP:Zw (R:=R) L Q Y s (cd [1,1,0,1] T4):=by intro k a b;unfold Jj;kernel_rfl
noncomputable def K9(L n:Nat)(a:By)(e:LL)(c:Int)(g:Int->Option R)(h:By->Option R):Option R:=match n with|0=>none|n+1=>cond (ltI c (e.length:Int)) (cond (inR c e.length) (cond (okE Dr e (j0 c) 0) (cond (A2 (j9 (gX e (j0 c) 0))) (vl ((J9 (gX e (j0 c) 0))).1 λb=>vl (↑((J9 (gX e (j0 c) 0))).2:Int) λd=>cond (d !=0) (g d) (cond (ltI 0 c) (cond (J1 a.length 1) (vl (a++[46]) λf=>cond (J1 f.length b.length) (K9 L n (f++b) e (A1 (c+1)) g h) none) none) (cond (J1 a.length b.length) (K9 L n (a++b) e (A1 (c+1)) g h) none))) none) none) none) (h a)
def Ul(n a p1 i2):E0 1 ((M4 L).keep 23) (bd (M4 L) Q Y (cd [1,1,1,1,1,1,1,1,1,0,1,0,0] T4)) n ⟨gp [(2,.ptr 0 0 0),(7,pS a),(0,.s (.sl false false 1 p1)),(0,pI i2)] 110,[.box [pI (0:Int),pS ([]:By),p32 (0:Int),p16 (0:Int),p16 (0:Int),p16 (0:Int),p16 (0:Int),p16 (0:Int),p16 (0:Int),p16 (0:Int),p16 (0:Int)]],s⟩ k =
 K9 L n a p1 i2 (λn0=>k .ret ⟨gp [(2,.ptr 0 0 0),(0,pI n0)] 119,[.box [pI (0:Int),pS ([]:By),p32 (0:Int),p16 (0:Int),p16 (0:Int),p16 (0:Int),p16 (0:Int),p16 (0:Int),p16 (0:Int),p16 (0:Int),p16 (0:Int)]],s⟩) (λa=>k (.exit 0) ⟨gp [(2,.ptr 0 0 0),(7,pS a)] 112,[.box [pI (0:Int),pS ([]:By),p32 (0:Int),p16 (0:Int),p16 (0:Int),p16 (0:Int),p16 (0:Int),p16 (0:Int),p16 (0:Int),p16 (0:Int),p16 (0:Int)]],s⟩):=by
 induction n generalizing a p1 i2 with
 | zero=>rfl
 | succ n b=>rw[K9];simp only[<-b];kernel_rfl
abbrev Kcf(R:Type):=Int->Int->By->Int->Option R
noncomputable def Eu(L:Nat)(b:By)(c:Kcf R):Option R:=cond (A2 b.length) (cond (F8 b) (cond (A2 b.length) (cond (not (aa0 (pnB b))) (c 14 0 ([]:By) 0) (c 0 2 ([]:By) (↑(O6 (pnB b)):Int))) none) (cond (A2 b.length) (vl (C2 (pcs (u8n (46:Int)) b)) λd=>K9 L L ([]:By) d 0 (λe=>c e 0 ([]:By) 0) (λa=>cond (ltI 253 (a.length:Int)) (c 3 0 ([]:By) 0) (cond (A2 a.length) (cond (F8 a) (c 14 0 ([]:By) 0) (c 0 1 a 0)) none))) none)) none
abbrev Zx(b:Code):Prop:=∀(k:Out->St W->Option R) s0,A9 (M4 L) Q Y b ⟨gp [(2,.ptr 0 0 0),(3,pS s0)] 116,[.box [pI (0:Int),pS ([]:By),p32 (0:Int),p16 (0:Int),p16 (0:Int),p16 (0:Int),p16 (0:Int),p16 (0:Int),p16 (0:Int),p16 (0:Int),p16 (0:Int)]],s⟩ k=Eu L s0 (λn0 a d c=>k .ret ⟨gp [(2,.ptr 0 0 0),(0,pI n0)] 119,[.box [pI a,pS d,p32 c,p16 (0:Int),p16 (0:Int),p16 (0:Int),p16 (0:Int),p16 (0:Int),p16 (0:Int),p16 (0:Int),p16 (0:Int)]],s⟩)
def PQ:Zx (R:=R) L Q Y s (cd [1,1,1,1,1,1] T4):=by intro k b;unfold Eu;exact(c9 (by kernel_rfl) (A0 (A0 (A0 (A0 rfl rfl) rfl) (A0 (A5 λa=>((Ul L Q Y s (F0 0 (F5 (M4 L) Q Y (cd [1,1,1,1,1,1,1,1,1,1] T4) k)) L ([]:By) a 0).trans (by kernel_rfl))) rfl)) rfl))
noncomputable def Oo(L:Nat)(b:By)(c:Kcf R):Option R:=cond (A2 b.length) (cond (F8 b) (cond (A2 b.length) (cond (not (aa0 (pnB b))) (c 14 0 ([]:By) 0) (c 0 2 ([]:By) (↑(O6 (pnB b)):Int))) none) (cond (A2 b.length) (vl (C2 (pcs (u8n (46:Int)) b)) λd=>K9 L L ([]:By) d 0 (λe=>c e 0 ([]:By) 0) (λa=>cond (ltI 253 (a.length:Int)) (c 3 0 ([]:By) 0) (cond (A2 a.length) (cond (F8 a) (c 14 0 ([]:By) 0) (c 0 1 a 0)) none))) none)) none
abbrev Zy(b:Code):Prop:=∀(k:Out->St W->Option R) s0 b1,A9 (M4 L) Q Y b ⟨gp [(2,.ptr 0 0 0),(3,pS s0),(62,pB b1)] 53,[.box [pI (0:Int),pS ([]:By),p32 (0:Int),p16 (0:Int),p16 (0:Int),p16 (0:Int),p16 (0:Int),p16 (0:Int),p16 (0:Int),p16 (0:Int),p16 (0:Int)]],s⟩ k=Oo L s0 (λn0 a d c=>k .ret ⟨gp [(2,.ptr 0 0 0),(0,pI n0)] 119,[.box [pI a,pS d,p32 c,p16 (0:Int),p16 (0:Int),p16 (0:Int),p16 (0:Int),p16 (0:Int),p16 (0:Int),p16 (0:Int),p16 (0:Int)]],s⟩)
def PT:Zy (R:=R) L Q Y s (cd [1,1,1,1,1,1] T4):=by intro k c b;unfold Oo;exact(c9 (by kernel_rfl) (A0 (A0 (A0 (A0 rfl rfl) rfl) (A0 (A5 λa=>((Ul L Q Y s (F0 0 (F5 (M4 L) Q Y (cd [1,1,1,1,1,1,1,1,1,1] T4) k)) L ([]:By) a 0).trans (by kernel_rfl))) rfl)) rfl))
noncomputable def Ev(L:Nat)(a:By)(r:Kcf R):Option R:=cond (A2 a.length) (cond (not (aa0 (R9 a))) (r 14 0 ([]:By) 0) (cond (not ((Ha a)==[])) (vl (A1 ((↑(j9 (Ha a)):Int)-1)) λb=>cond (inR b (j9 (Ha a))) (cond ((bAt (Ha a) b)==46) (vl (A1 ((↑(j9 (Ha a)):Int)-1)) λc=>cond (L3 0 c (j9 (Ha a))) (vl (cut (Ha a) (0:Int) c) λn=>Eu L n (λd e o f=>r d e o f)) none) (Oo L (Ha a) (λg h p i=>r g h p i))) none) (Oo L (Ha a) (λj l q m=>r j l q m)))) none
abbrev Oq(b:Code):Prop:=∀(k:Out->St W->Option R) raw0 b1,A9 (M4 L) Q Y b ⟨gp [(0,pS raw0),(1,.ptr 0 0 0),(22,pB b1)] 97,[.box [pI (0:Int),pS ([]:By),p32 (0:Int),p16 (0:Int),p16 (0:Int),p16 (0:Int),p16 (0:Int),p16 (0:Int),p16 (0:Int),p16 (0:Int),p16 (0:Int)]],s⟩ k=Ev L raw0 (λn0 a d c=>k .ret ⟨gp [(2,.ptr 0 0 0),(0,pI n0)] 119,[.box [pI a,pS d,p32 c,p16 (0:Int),p16 (0:Int),p16 (0:Int),p16 (0:Int),p16 (0:Int),p16 (0:Int),p16 (0:Int),p16 (0:Int)]],s⟩)
def PU(b:Code)(c:Zx (R:=R) L Q Y s b)(a:Zy (R:=R) L Q Y s b):Oq (R:=R) L Q Y s (cd [1,1,1] (I2 [1,1,1,1,1,1] b T4)):=by intro k d h;unfold Ev;exact(c9 (by kernel_rfl) (A0 (A0 rfl (A0 (A5 λe=>(A0 (A0 (A5 λg=>(A0 (A5 λf=>((c k f).trans (by kernel_rfl))) rfl)) ((a k (Ha d) ((bAt (Ha d) e)==46)).trans (by kernel_rfl))) rfl)) ((a k (Ha d) false).trans (by kernel_rfl)))) rfl))
def PW:Oq (R:=R) L Q Y s (cd [1,1,1] T4):=by intro k a b;exact c9 (by kernel_rfl) (PU L Q Y s (cd [1,1,1,1,1,1] T4) (PQ L Q Y s) (PT L Q Y s) k a b)
noncomputable def Zv(L:Nat)(a:By)(j:Int->By->Int->Int->Int->By->Int->Option R)(O:Kcc R):Option R:=cond (ltI 1024 (a.length:Int)) (j 0 ([]:By) 0 3 0 ([]:By) 0) (cond (not (a==[])) (cond (inR 0 a.length) (Jj a ((bAt a (0:Int))==91) (λ_=>j 0 ([]:By) 0 14 0 ([]:By) 0) (λn o p q r t u v w x l=>O o p q r t u v w x n l) (λb M=>Ev L b (λy d h e=>j d h e y d h e))) none) (Jj a false (λ_=>j 0 ([]:By) 0 14 0 ([]:By) 0) (λz A B C D F G H I J m=>O A B C D F G H I J z m) (λc N=>Ev L c (λK f i g=>j f i g K f i g))))
def Bj3(e:Code)(a:Zw (R:=PV × List Blk × W) L Q Y s e)(d:Code)(b:Oq (R:=PV × List Blk × W) L Q Y s d)(c:By):A9 (M4 L) Q Y (cd [] (I2 [1,1,1] d (I2 [1,1,0,1] e T4))) ⟨[pS c]++tps 122,[],s⟩ (G1 (M4 L) ac9)=Zv L c (λj l m n v y w=>some (.tup [.agg [pI j,pS l,p32 m,p16 (0:Int),p16 (0:Int),p16 (0:Int),p16 (0:Int),p16 (0:Int),p16 (0:Int),p16 (0:Int),p16 (0:Int)],pI n],[.box [pI v,pS y,p32 w,p16 (0:Int),p16 (0:Int),p16 (0:Int),p16 (0:Int),p16 (0:Int),p16 (0:Int),p16 (0:Int),p16 (0:Int)]],s)) (λj l m n q r t u r8 x l10=>some (.tup [.agg [pI j,pS ([]:By),p32 (0:Int),p16 l,p16 m,p16 n,p16 q,p16 r,p16 t,p16 u,p16 r8],pI x],[.box [pI j,pS ([]:By),p32 (0:Int),p16 l,p16 m,p16 n,p16 q,p16 r,p16 t,p16 u,p16 r8],.arr false 27 1 l10],s)):=by unfold Zv;exact let o:=(G1 (M4 L) ac9);let p:=(F5 (M4 L) Q Y d o);(c9 (by kernel_rfl) (A0 rfl (A0 (A0 ((a p c ((bAt c (0:Int))==91)).trans (congr (congr (congr rfl (by kernel_rfl)) (by kernel_rfl)) (fx2 λf h=>(c9 (by kernel_rfl) ((b o f h).trans (by kernel_rfl)))))) rfl) ((a p c false).trans (congr (congr (congr rfl (by kernel_rfl)) (by kernel_rfl)) (fx2 λg i=>(c9 (by kernel_rfl) ((b o g i).trans (by kernel_rfl)))))))))
def Bj4(d:Nat)(raw0):evC (M4 L) (d+1) W Y 13 [pS raw0] [] s=Zv L raw0 (λa b c e j n l=>some (.tup [.agg [pI a,pS b,p32 c,p16 (0:Int),p16 (0:Int),p16 (0:Int),p16 (0:Int),p16 (0:Int),p16 (0:Int),p16 (0:Int),p16 (0:Int)],pI e],[.box [pI j,pS n,p32 l,p16 (0:Int),p16 (0:Int),p16 (0:Int),p16 (0:Int),p16 (0:Int),p16 (0:Int),p16 (0:Int),p16 (0:Int)]],s)) (λa b c e f g h i r8 m l10=>some (.tup [.agg [pI a,pS ([]:By),p32 (0:Int),p16 b,p16 c,p16 e,p16 f,p16 g,p16 h,p16 i,p16 r8],pI m],[.box [pI a,pS ([]:By),p32 (0:Int),p16 b,p16 c,p16 e,p16 f,p16 g,p16 h,p16 i,p16 r8],.arr false 27 1 l10],s)):=
 (evE (fn:=ac9) (by kernel_rfl)).trans (c9 (by kernel_rfl) (Bj3 L (evC (M4 L) d) Y s (cd [1,1,0,1] T4) (PP L (evC (M4 L) d) Y s) (cd [1,1,1] T4) (PW L (evC (M4 L) d) Y s) raw0))
end
def C00{g:Int->Option R}(b:Int)(h:inR b 256=true):rhx LF b g=g (Gr (u8n b)):=by
 simp only[inR,s9,af] at h;have j:b=((u8n b).toNat:Int):=by
  unfold u8n;simp;omega
 generalize u8n b=c at *;subst j;have i:=c.toNat_lt;unfold rhx;simp only[NT,NS,vl,Gr];rcases Ef c with⟨d,f,e⟩|⟨d,f,e⟩|⟨d,f,e⟩|⟨d,f,o,e⟩
 ·have a:A1 (wu8 ((c.toNat:Int)-48))=((dig c:Nat):Int):=by
   rw[O2,A6];omega
  rw[U9];simp (disch:=omega) only[C6,E4,j5,j2,ab,aa,a]
 ·have a:A1 (A1 (wu8 ((c.toNat:Int)-97))+10)=((dig c:Nat):Int):=by
   rw[O2,E6 (n:=(c.toNat:Int)-97) (by omega) (by omega),A6];omega
  rw[U9];simp (disch:=omega) only[C6,E4,j5,j2,ab,aa,a]
 ·have a:A1 (A1 (wu8 ((c.toNat:Int)-65))+10)=((dig c:Nat):Int):=by
   rw[O2,E6 (n:=(c.toNat:Int)-65) (by omega) (by omega),A6];omega
  rw[U9];simp (disch:=omega) only[C6,E4,j5,j2,ab,aa,a]
 ·rw[e,ae (by decide)];by_cases k:c.toNat<48
  ·simp (disch:=omega) only[C6,E4,j5,j2,ab,aa]
  ·by_cases l:c.toNat<65
   ·simp (disch:=omega) only[C6,E4,j5,j2,ab,aa]
   ·by_cases m:c.toNat<97
    ·simp (disch:=omega) only[C6,E4,j5,j2,ab,aa]
    ·simp (disch:=omega) only[C6,E4,j5,j2,ab,aa]
def Bj0(s:By)(Q:s.length<=1000000000):∀(m i n:Nat) (a:By),i<=s.length->s.length-i<=m->m<n->a.length<=i->
  (∀t,R9 (s.drop i)=some t->∀(R:Type) (c:LL->Option R) (d:LL->Option R),Q4 LF n s (i:Int) (a.map F1) c d=d ((a++t).map F1))/\
  (R9 (s.drop i)=none->∃l,∀(R:Type) (c:LL->Option R) (d:LL->Option R),Q4 LF n s (i:Int) (a.map F1) c d=c l):=by
 intro m
 induction m with
 | zero=>
  intro i n a K L M J;rcases n with _|n;omega
  rw[j4 (by omega)];refine⟨λt f R c d=>?_,λh=>(by cases h)⟩;simp only[R9,p9] at f;subst f;rw[Q4];rw[A7,aa8];rfl
 | succ m G=>
  intro i n a K L M J;rcases n with _|n;omega
  by_cases z:i<s.length
  ·have D:A1 ((i:Int)+1)=((i+1:Nat):Int):=by rw[A6];rfl
   have H:A1 ((i:Int)+2)=((i+2:Nat):Int):=by rw[A6];rfl
   have I:A1 (((i+2:Nat):Int)+1)=((i+3:Nat):Int):=by rw[A6];omega
   have F:A1 ((s.length:Int)-i)=((s.length-i:Nat):Int):=by rw[A6];omega
   have p:(a.map F1).length=a.length:=o7 _;have v:∀b:UInt8,a.map F1++[[SV.int .u8 (b.toNat:Int)]]=(a++[b]).map F1:=λb=>by rw[aa1];rfl
   have C:(((s.getD i 0).toNat:Int)!=37) = !(s.getD i 0==37):=congrArg _ (S7 _ 37 (by omega));rw[G2 s i z];by_cases g:s.getD i 0=37
   ·by_cases P:i+2<s.length
    ·rw[G2 s (i+1) (by omega),G2 s (i+1+1) (by omega),g,NJ];obtain⟨A,B⟩:=G (i+3) n (a++[x9 (16*dig (s.getD (i+1) 0)+dig (s.getD (i+2) 0))]) (by omega) (by omega) (by omega) (by simp;omega);have top:∀(R:Type) (c:LL->Option R) (d:LL->Option R),Q4 LF (n+1) s (i:Int) (a.map F1) c d=cond (decide (dig (s.getD (i+1) 0)<16)&&decide (dig (s.getD (i+2) 0)<16)) (Q4 LF n s ((i+3:Nat):Int) ((a++[x9 (16*dig (s.getD (i+1) 0)+dig (s.getD (i+2) 0))]).map F1) c d) (c (a.map F1)):=by
      intro R c d;rw[Q4];rw[A8,H4,F6,C,g,p,H,F,D,H4,H4,F6,F6];simp only[vl];rw[E4 (show(3:Int)<=((s.length-i:Nat):Int) by omega)];simp only[aa,j5,ab,beq_self_eq_true,Ah4,Kr,Ao2,F4 (show a.length+1<=68719476736 by omega),I];generalize s.getD (i+1) 0=x at *;generalize s.getD (i+2) 0=y at *;by_cases N:dig x<16
      ·by_cases O:dig y<16
       ·have w1:Gr x=(dig x:Int):=by unfold Gr;rw[ac N]
        have T:Gr y=(dig y:Int):=by unfold Gr;rw[ac O]
        have U:A1 ((16:Int)*(dig x:Int))=((16*dig x:Nat):Int):=by rw[A6];omega
        have V:A1 (((16*dig x:Nat):Int)+(dig y:Int))=((16*dig x+dig y:Nat):Int):=by rw[A6];omega
        have W:wu8 ((16*dig x+dig y:Nat):Int)=((x9 (16*dig x+dig y)).toNat:Int):=by
         rw[O2];simp;omega
        grind
       grind
      grind
     by_cases o:dig (s.getD (i+1) 0)<16/\dig (s.getD (i+2) 0)<16
     ·rw[ac o];have w:(decide (dig (s.getD (i+1) 0)<16)&&decide (dig (s.getD (i+2) 0)<16))=true:=by rw[decide_eq_true o.1,decide_eq_true o.2];rfl
      refine⟨λt f R c d=>?_,λh=>?_⟩
      ·cases j:R9 (s.drop (i+3)) with
       | none=>rw[j] at f;cases f
       | some q=>
        rw[j] at f;simp only[ab0,p9] at f;subst f;rw[top,w,aa,A q j,p6];rfl
      ·cases j:R9 (s.drop (i+3)) with
       | some q=>rw[j] at h;cases h
       | none=>
        obtain⟨l,e⟩:=B j;exact⟨l,λR c d=>by rw[top,w,aa,e]⟩
     ·rw[ae o];have w:(decide (dig (s.getD (i+1) 0)<16)&&decide (dig (s.getD (i+2) 0)<16))=false:=by grind
      exact⟨λt h=>(by cases h),λ_=>⟨_,λR c d=>by rw[top,w,ab]⟩⟩
    ·have k:R9 (s.getD i 0::s.drop (i+1))=none:=by
      rw[g];cases o:s.drop (i+1) with
      | nil=>rfl
      | cons x r=>
       cases r with
       | nil=>rfl
       | cons y S=>
        exfalso;have:=congrArg j9 o;rw[o0,x3,x3] at this;omega
     rw[k];refine⟨λt h=>(by cases h),λ_=>⟨a.map F1,λR c d=>?_⟩⟩;rw[Q4];rw[A8,H4,F6,C,g,F];simp only[vl];rw[C6 (show((s.length-i:Nat):Int)<3 by omega)];rfl
   ·rw[Ad5 _ g];obtain⟨A,B⟩:=G (i+1) n (a++[s.getD i 0]) (by omega) (by omega) (by omega) (by simp;omega);have u:(s.getD i 0==37)=false:=by simpa using g
    have top:∀(R:Type) (c:LL->Option R) (d:LL->Option R),Q4 LF (n+1) s (i:Int) (a.map F1) c d=Q4 LF n s ((i+1:Nat):Int) ((a++[s.getD i 0]).map F1) c d:=by
     intro R c d;rw[Q4];rw[A8,H4,F6,C,u,p,F4 (by omega),D,v];rfl
    refine⟨λt f R c d=>?_,λh=>?_⟩
    ·cases j:R9 (s.drop (i+1)) with
     | none=>rw[j] at f;cases f
     | some q=>
      rw[j] at f;simp only[ab0,p9] at f;subst f;rw[top,A q j,p6];rfl
    ·cases j:R9 (s.drop (i+1)) with
     | some q=>rw[j] at h;cases h
     | none=>
      obtain⟨l,e⟩:=B j;exact⟨l,λR c d=>by rw[top,e]⟩
  ·rw[j4 (by omega)];refine⟨λt f R c d=>?_,λh=>(by cases h)⟩;simp only[R9,p9] at f;subst f;rw[Q4];rw[A7,aa8];rfl
def Cz2(s:By)(d:A2 s.length=true):∃r H,B05 LF s (λi j h=>rv (.tup [.s (.str i),.s (.bool j)]) [.arr true 5 1 h])=rv r H/\
  r.stab [0,0] H = .tup [.s (.str (Ha s)),.s (.bool (R9 s).isSome)]:=by
 have g:=M5 d;have f:=D6;obtain⟨b,c⟩:=Bj0 s g s.length 0 LF [] (by omega) (by omega) (by omega) (by simp);rw[k9] at b c;unfold Ha;cases a:R9 s with
 | none=>
  obtain⟨l,e⟩:=c a;exact⟨.tup [.s (.str []),.s (.bool false)],[.arr true 5 1 l],e _ _ _,rfl⟩
 | some t=>
  refine⟨.tup [.s (.str t),.s (.bool true)],[.arr true 5 1 (t.map F1)],?_,rfl⟩;unfold B05;refine c9 (b t a _ _ _) ?_;rw[w9,Z3,Ad];rfl
def Ce3{a b:Unit->Option R}(l:List By)(k:l.length<=1000000001)(h:∀x∈l,x.length<=1000000000):∀(r i n:Nat),i+r=l.length->r<n->
  Ot LF n (C2 l) (i:Int) a b=if (l.drop i).all L4 then b () else a ():=by
 intro r
 induction r with
 | zero=>
  intro i n e f;rcases n with _|n;omega
  rw[Ot];rw[C3,A7,j4 (by omega)];rfl
 | succ r j=>
  intro i n e f;rcases n with _|n;omega
  rw[Ot];have c:A1 ((i:Int)+1)=((i+1:Nat):Int):=by rw[A6];rfl
  have d:l.drop i=l.getD i []::l.drop (i+1):=by
   rw[j7,p4 (by omega),x4,y5]
  have g:(l.getD i []).length<=1000000000:=h _ (by
   rw[j7,p4 (by omega),x4];exact aa7 _)
  rw[C3,A8,H4,j1,O0 (by omega),S8,D9 g,d,aa4,c];simp only[aa];rw[j (i+1) n (by omega) (by omega)];cases L4 (l.getD i []) with
  | true=>rw[z7];rfl
  | false=>rfl
def Ce4{c:Bool->Option R}(s:By)(b:A2 s.length=true):Dl2 LF s c=c (Bk s):=by
 have k:=M5 b;have d:=D6;unfold Dl2;by_cases a:s=[]
 ·subst a;rfl
 ·have f:(s==([]:By))=false:=by simpa using a
  rw[f,ab];unfold Bk;by_cases i:253<s.length
  ·rw[A8,show p7 s.length 253=false by rw[o5,ne_eq,o6];omega];rfl
  ·rw[A7,ab,b,aa,show p7 s.length 253=true by rw[o6];omega];cases j:F8 s with
   | true=>rfl
   | false=>
    rw[ab,aa];have g:=Gz 46 s;have e:=Fm 46 s;refine c9 (Ce3 (pcs 46 s) (by omega) (λx h=>by have:=(Av h).2;omega) (pcs 46 s).length 0 LF (by omega) (by omega)) ?_;grind
def Cz9(j:Int)(i:By)(v4 a b c d e f g h:Int)(n:A2 i.length=true)(o:ltN v4 4294967296=true)(p:ok8 a b c d e f g h=true) :
  ∃r H,Cz7 LF j i v4 a b c d e f g h (λz q A t u v w x n8 y l m k=>rv (.s (.bool z)) [.box (Tx q A t u v w x n8 y l m),.arr false 27 1 k])=rv r H/\
   r.stab [] H = .s (.bool (N7 (mkH j i v4 (n8 a b c d e f g h)))):=Bx9 j i v4 a b c d e f g h n o p
def Cz6(j:Int)(i:By)(v4 a b c d e f g h:Int)(m:A2 i.length=true)(n:ltN v4 4294967296=true)(o:ok8 a b c d e f g h=true) :
  ∃r H,Cz4 LF j i v4 a b c d e f g h (λy p z q t u v w n8 x k l=>rv (.s (.str y)) [.box (Tx p z q t u v w n8 x k l)])=rv r H/\
   r.stab [] H = .s (.str (Y4 (mkH j i v4 (n8 a b c d e f g h)))):=Bx7 j i v4 a b c d e f g h m n o
def jn:Nat->By->List By->By
 | _,name,[]=>name
 | 0,name,x::r=>jn 1 (name++x) r
 | i+1,name,x::r=>jn (i+2) (name++[46]++x) r
def By5:∀(l:List By) (i:Nat) (name:By),jn (i+1) name l=name++ab9 [46] l
 | [],i,name=>by simp[jn,ab9]
 | x::r,i,name=>by
  rw[jn,By5 r];simp[ab9]
def Dg0(l:List By):jn 0 [] l=ab1 l [46]:=by
 cases l with
 | nil=>rfl
 | cons x r=>rw[jn,By5,Lib.join_cons,w9]
def C30{x:By}(h:(J9 x).2=0):(J9 x).1.length<=63:=by
 have a:G5 [x]=([(J9 x).1],0):=by simp[G5,h]
 have:=(Lr [x] (by rw[a])).1 (J9 x).1 (by rw[a];simp);exact(Ex this).le
def Ae7(e:List By)(C:e.length<=1000000)(D:∀x∈e,x.length<=1000000000):∀(c:List By) (i n:Nat) (name:By),e.drop i=c->i+c.length=e.length->c.length<n->name.length<=64*i->
  ((G5 c).2=0->∀(R:Type) (a:Int->Option R) (b:By->Option R),K9 LF n name (C2 e) (i:Int) a b=b (jn i name (G5 c).1))/\
  ((G5 c).2≠0->∀(R:Type) (a:Int->Option R) (b:By->Option R),K9 LF n name (C2 e) (i:Int) a b=a ((G5 c).2:Nat)):=by
 intro c
 induction c with
 | nil=>
  intro i n name p q y t;rcases n with _|n;omega
  simp only[w8] at q;refine⟨λ_ R a b=>?_,λh=>absurd rfl h⟩;rw[K9];rw[C3,A7];simp only[G5,jn];rfl
 | cons x r z=>
  intro i n name p q y t;simp only[x3] at q y;rcases n with _|n;omega
  have A:A1 ((i:Int)+1)=((i+1:Nat):Int):=by rw[A6];rfl
  have k:e.getD i []=x:=by
   have:=congrArg (λl=>l.getD 0 []) p;simpa[j7,List.getElem?_drop] using this
  have g:e.drop (i+1)=r:=by
   rw[<-ac6,p];rfl
  have u:x.length<=1000000000:=D x (by
   rw[<-k,j7,p4 (by omega),x4];exact aa7 _)
  have top:∀(R:Type) (a:Int->Option R) (b:By->Option R),K9 LF (n+1) name (C2 e) (i:Int) a b=cond (((J9 x).2:Int)!=0) (a ((J9 x).2:Nat)) (cond (ltI 0 (i:Int)) (cond (J1 name.length 1) (cond (J1 (name++[46]).length (J9 x).1.length) (K9 LF n (name++[46]++(J9 x).1) (C2 e) ((i+1:Nat):Int) a b) none) none) (cond (J1 name.length (J9 x).1.length) (K9 LF n (name++(J9 x).1) (C2 e) ((i+1:Nat):Int) a b) none)):=by
   intro R a b;rw[K9];rw[C3,A8,H4,j1,O0 (by omega),S8,k,D9 u,A];rfl
  unfold G5;by_cases h:(J9 x).2=0
  ·rw[ac h];have B:=C30 h;have o:(((J9 x).2:Int)!=0)=false:=by rw[h];rfl
   cases i with
   | zero=>
    obtain⟨v,w⟩:=z 1 n (name++(J9 x).1) g (by omega) (by omega) (by rw[j8];omega);have d:∀(R:Type) (a:Int->Option R) (b:By->Option R),K9 LF (n+1) name (C2 e) ((0:Nat):Int) a b=K9 LF n (name++(J9 x).1) (C2 e) ((1:Nat):Int) a b:=by
     intro R a b;rw[top,o,A7,J4 (m:=name.length) (n:=(J9 x).1.length) (by omega)];rfl
    exact⟨λf R a b=>(d R a b).trans (v f R a b),λf R a b=>(d R a b).trans (w f R a b)⟩
   | succ j=>
    obtain⟨v,w⟩:=z (j+2) n (name++[46]++(J9 x).1) g (by omega) (by omega) (by rw[j8,j8,o9];omega);have d:∀(R:Type) (a:Int->Option R) (b:By->Option R),K9 LF (n+1) name (C2 e) ((j+1:Nat):Int) a b=K9 LF n (name++[46]++(J9 x).1) (C2 e) ((j+2:Nat):Int) a b:=by
     intro R a b;rw[top,o,A8,J4 (by omega),J4 (by rw[j8,o9];omega)];rfl
    exact⟨λf R a b=>(d R a b).trans (v f R a b),λf R a b=>(d R a b).trans (w f R a b)⟩
  ·rw[ae h];have o:(((J9 x).2:Int)!=0)=true:=by simpa using h
   exact⟨λf=>absurd f h,λ_ R a b=>by rw[top,o,aa]⟩
def PS{b:Kcf R}(u:By)(q:u.length<=1024):Eu LF u b =
  if F8 u then (match pnB u with
   | some v=>b 0 2 [] (v:Nat)
   | none=>b 14 0 [] 0)
  else if (G5 (pcs 46 u)).2=0 then (
   if 253<(ab1 (G5 (pcs 46 u)).1 [46]).length then b 3 0 [] 0 else if F8 (ab1 (G5 (pcs 46 u)).1 [46]) then b 14 0 [] 0 else b 0 1 (ab1 (G5 (pcs 46 u)).1 [46]) 0)
  else b ((G5 (pcs 46 u)).2:Nat) 0 [] 0:=by
 have h:=D6;unfold Eu;rw[R0,aa];cases o:F8 u with
 | true=>
  rw[ac rfl,aa,aa];cases p:pnB u with
  | none=>rfl
  | some v=>rfl
 | false=>
  rw[ae (by simp),ab,aa];have l:=Gz 46 u;have i:=Fm 46 u;obtain⟨f,m⟩:=Ae7 (pcs 46 u) (by omega) (λx d=>by have:=(Av d).2;omega) (pcs 46 u) 0 LF [] (k9) (by omega) (by omega) (by simp);rw[Dg0] at f;by_cases c:(G5 (pcs 46 u)).2=0
  ·rw[ac c];refine c9 (f c _ _ _) ?_;obtain⟨g,n⟩:=Lr _ c;have j:=Aa3 [46] 63 (G5 (pcs 46 u)).1 (λx d=>(Ex (g x d)).le);have e:(63+([46]:By).length)*(G5 (pcs 46 u)).1.length<=64*1025:=ac8 (by simp) (by omega);generalize ab1 (G5 (pcs 46 u)).1 [46]=name at *;by_cases a:253<name.length
   ·rw[ac a,A8,aa]
   ·rw[ae a,A7,ab,R0,aa];cases k:F8 name with
    | true=>rfl
    | false=>rfl
  ·rw[ae c];exact m c _ _ _
abbrev Dz9:Int->By->Int->Int->Int->By->Int->Option (PV × List Blk × Unit):=λc d e f a g b=>rv (.tup [.agg (Tx c d e 0 0 0 0 0 0 0 0),.s (.int .i64 f)]) [.box (Tx a g b 0 0 0 0 0 0 0 0)]
abbrev D99:Int->Int->Int->Int->Int->Int->Int->Int->Int->Int->LL->Option (PV × List Blk × Unit):=λa b c d e f g h r8 i l10=>rv (.tup [.agg (Tx a [] 0 b c d e f g h r8),.s (.int .i64 i)]) [.box (Tx a [] 0 b c d e f g h r8),.arr false 27 1 l10]
def Ah1{t:By}(h:t≠[])(a:t.getD (t.length-1) 0=46):I3 t=t.take (t.length-1):=by unfold I3;rw[ac ((HB t 46 h).2 a),List.dropLast_eq_take]
def Az1{t:By}(h:t≠[])(a:¬t.getD (t.length-1) 0=46):I3 t=t:=by unfold I3;grind
def Uk(s:By)(x:s.length<=1024)(j:s.head?≠some 91):∃r H,Ev LF s (λh b d c=>Dz9 b d c h b d c)=rv r H/\r.stab [0,0] H = .tup [FF (D7 s).1,.s (.int .i64 ((D7 s).2:Nat))]:=by
 have l:=D6;unfold Ev;rw[R0,aa];cases i:R9 s with
 | none=>
  have e:D7 s=(M9,14):=by unfold D7;rw[I9,ae j,i]
  rw[e];exact⟨_,_,rfl,rfl⟩
 | some t=>
  have p:t.length<=s.length:=HJ s t i;have q:Ha s=t:=by unfold Ha;rw[i];rfl
  have o:(I3 t).length<=t.length:=by unfold I3;split<;>simp
  have m:D7 s=if F8 (I3 t) then (match pnB (I3 t) with
      | some v=>(⟨2,[],v,z8⟩,0)
      | none=>(M9,14))
     else if (G5 (pcs 46 (I3 t))).2=0 then (
      let name:=ab1 (G5 (pcs 46 (I3 t))).1 [46]
      if 253<name.length then (M9,3) else if F8 name then (M9,14) else (⟨1,name,0,z8⟩,0))
     else (M9,(G5 (pcs 46 (I3 t))).2):=by
   unfold D7;rw[I9,ae j,i];rfl
  have f:∃r H,Eu LF (I3 t) (λh b d c=>Dz9 b d c h b d c)=rv r H/\r.stab [0,0] H = .tup [FF (D7 s).1,.s (.int .i64 ((D7 s).2:Nat))]:=by
   rw[PS _ (by omega),m];split
   ·split<;>exact⟨_,_,rfl,rfl⟩
   ·split
    ·simp only;split
     ·exact⟨_,_,rfl,rfl⟩
     ·split<;>exact⟨_,_,rfl,rfl⟩
    ·exact⟨_,_,rfl,rfl⟩
  rw[q];simp only[ab8,j5,ab];by_cases a:t=[]
  ·subst a;exact f
  ·have w:0<t.length:=x5.2 a;have n:(t==([]:By))=false:=by simpa using a
   have k:A1 ((t.length:Int)-1)=((t.length-1:Nat):Int):=by rw[A6];omega
   have u:(((t.getD (t.length-1) 0).toNat:Int)==46)=(t.getD (t.length-1) 0==46):=S7 _ 46 (by omega);rw[n,k];simp only[j2,aa,vl];rw[H4,F6,u,aa];by_cases g:t.getD (t.length-1) 0=46
   ·rw[g,beq_self_eq_true,aa,O8,aa,U6,j1,<-Ah1 a g];exact f
   ·rw[show(t.getD (t.length-1) 0==46)=false by simpa using g,ab];rw[Az1 a g] at f;exact f
def Bj5(s:By)(k:A2 s.length=true):∃r H,Zv LF s Dz9 D99=rv r H/\r.stab [0,0] H = .tup [FF (D7 s).1,.s (.int .i64 ((D7 s).2:Nat))]:=by
 have u:=M5 k;have l:=D6;unfold Zv;by_cases i:1024<s.length
 ·have e:D7 s=(M9,3):=by unfold D7;rw[ac i]
  rw[e,A8,aa];exact⟨_,_,rfl,rfl⟩
 ·rw[A7,ab];by_cases c:s=[]
  ·subst c;exact Uk [] (by simp) (by simp)
  ·have q:0<s.length:=x5.2 c;have m:(s==([]:By))=false:=by simpa using c
   have o:(bAt s 0==(91:Int))=(s.getD 0 0==91):=by rw[Iq];exact S7 _ 91 (by omega)
   have g:s.head? = some (s.getD 0 0):=by
    cases s with
    | nil=>exact absurd rfl c
    | cons b t=>rfl
   rw[m,j2,aa,H4,aa,o];by_cases f:s.getD 0 0=91
   ·have e:D7 s=R1 s:=by unfold D7 R1;rw[ae i,ac (by rw[g,f])]<;>rfl
    have j:A1 ((s.length:Int)-1)=((s.length-1:Nat):Int):=by rw[A6];omega
    have p:(((s.getD (s.length-1) 0).toNat:Int)!=93) = !(s.getD (s.length-1) 0==93):=congrArg _ (S7 _ 93 (by omega));rw[e,f,beq_self_eq_true];unfold Jj R1;simp only[vl,j,aa];rw[H4,F6,p,aa];by_cases d:s.getD (s.length-1) 0=93
    ·have f:2<=s.length:=by grind
     rw[ac ⟨(HB s 93 c).2 d,f⟩,d,beq_self_eq_true,j5,ab,A7,ab,show(1:Int)=((1:Nat):Int) from rfl,O8,aa,Fc];have n:((s.take (s.length-1)).drop 1).length<=s.length:=by rw[o0,w6];omega
     rw[R0,aa];unfold v6c;cases v:v6B ((s.take (s.length-1)).drop 1) with
     | none=>exact⟨_,_,rfl,rfl⟩
     | some a=>exact⟨_,_,rfl,rfl⟩
    ·rw[ae (λh=>d ((HB s 93 c).1 h.1)),show(s.getD (s.length-1) 0==93)=false by simpa using d];exact⟨_,_,rfl,rfl⟩
   ·rw[show(s.getD 0 0==91)=false by simpa using f];exact Uk s (by omega) (by rw[g];simpa using f)
section
def OS:C0 j6 GX 89 Xd:=xf [] (KO LF) BO rfl trivial rfl follows λargs=>by
 unfold BO;split
 ·rename_i n;exact⟨rfl,rfl,rfl,_,_,(Cf4 LF noY () 0 n).trans (Aw4 n ),rfl⟩
 ·trivial
def A09:C0 j6 GX 92 IW:=xf [] (Z6 LF) BL rfl trivial rfl follows λargs=>by
 unfold BL;split
 ·rename_i d c f;exact λa=>λb=>λe=>⟨rfl,rfl,rfl,_,_,(Cd4 LF noY () 0 d c f).trans (Au4 d c f a b e),rfl⟩
 ·trivial
def C76:C0 j6 GX 90 A28:=xf [] (A62 LF) WS rfl trivial rfl follows λargs=>by
 unfold WS;split
 ·rename_i k b;exact λa=>λc=>⟨rfl,rfl,rfl,_,_,(Dm4 LF noY () 0 k b).trans (Cg0 k b a c),rfl⟩
 ·trivial
def Dr3:C0 j6 GX 91 Bu3:=xf [] (YJ LF) IX rfl trivial rfl follows λargs=>by
 unfold IX;split
 ·rename_i d;exact λa=>⟨rfl,rfl,rfl,_,_,(Cy0 LF noY () 0 d).trans (Bg5 d a),rfl⟩
 ·trivial
def D45:C0 j6 GX 151 Co0:=xf [] (La LF) WY rfl trivial rfl follows λargs=>by
 unfold WY;split
 ·rename_i b;exact λa=>⟨rfl,rfl,rfl,_,_,(Dn5 LF noY () 0 b).trans (Cg7 b a),rfl⟩
 ·trivial
def C74:C0 j6 GX 54 A25:=xf [0,0] (O5 LF) WJ rfl ⟨OS,C76,Dr3,A09,trivial⟩ rfl follows λargs=>by
 unfold WJ;split
 ·rename_i b a p;exact λd=>(let⟨g,e,c,f⟩:=Dk9 b a p d;⟨rfl,rfl,rfl,g,e,(Dk7 LF noY () 0 b a p).trans c,f⟩)
 ·trivial
def Ds0:C0 j6 GX 124 Bu9:=xf [1,0] (L2 LF) JG rfl ⟨D45,C76,A09,OS,trivial⟩ rfl follows λargs=>by
 unfold JG;split
 ·rename_i s;exact λb=>(let⟨e,c,a,d⟩:=C07 s b;⟨rfl,rfl,rfl,e,c,(C06 LF noY () 0 s).trans a,d⟩)
 ·trivial
def D40:C0 j6 GX 52 Cn5:=xf [1,0] (Q0 LF) WR rfl ⟨OS,trivial⟩ rfl follows λargs=>by
 unfold WR;split
 ·rename_i s;exact λb=>(let⟨e,c,a,d⟩:=Dm2 s b;⟨rfl,rfl,rfl,e,c,(Dm1 LF noY () 0 s).trans a,d⟩)
 ·trivial
def Ds2:C0 j6 GX 93 Bv1:=xf [] (Ns LF) JI rfl ⟨Ds0,C74,trivial⟩ rfl follows λargs=>by
 unfold JI;split
 ·rename_i s;exact λa=>⟨rfl,rfl,rfl,_,_,(C09 LF noY () 0 s).trans (Bl9 s a),rfl⟩
 ·trivial
def B32:C0 j6 GX 55 WO:=xf [] (Nq LF) JE rfl ⟨Ds2,trivial⟩ rfl follows λargs=>by
 unfold JE;split
 ·rename_i s;exact λa=>⟨rfl,rfl,rfl,_,_,(C02 LF noY () 0 s).trans (Bk0 s a),rfl⟩
 ·trivial
def Dr9:C0 j6 GX 31 Bu8:=xf [0,0] (YM LF) JD rfl ⟨D40,D39,C74,B32,trivial⟩ rfl follows λargs=>by
 unfold JD;split
 ·rename_i s;exact λa=>⟨rfl,rfl,rfl,_,_,(C01 LF noY () 0 s).trans (Bj7 s a),rfl⟩
 ·trivial
def D82:C0 j6 GX 48 Dt3:=xf [] (Ud LF) A26 rfl trivial rfl follows λargs=>by
 unfold A26;split
 ·rename_i b;exact λa=>⟨rfl,rfl,rfl,_,_,(Dz8 LF noY () 0 b).trans (C00 b a),rfl⟩
 ·trivial
def Dr5:C0 j6 GX 27 Bu5:=xf [0,0] (No LF) IZ rfl ⟨D82,trivial⟩ rfl follows λargs=>by
 unfold IZ;split
 ·rename_i s;exact λb=>(let⟨e,c,a,d⟩:=Cz2 s b;⟨rfl,rfl,rfl,e,c,(Cz1 LF noY () 0 s).trans a,d⟩)
 ·trivial
def Cl0:C0 j6 GX 13 BM:=xf [0,0] (M4 LF) Uv rfl ⟨D44,Dr5,OR,Ds1,Si,Dr9,trivial⟩ rfl follows λargs=>by
 unfold Uv;split
 ·rename_i s;exact λb=>(let⟨e,c,a,d⟩:=Bj5 s b;⟨rfl,rfl,rfl,e,c,(Bj4 LF noY () 0 s).trans a,d⟩)
 ·trivial
def D38:C0 j6 GX 38 Cn3:=xf [] (Vr LF) WM rfl ⟨OR,Si,B32,trivial⟩ rfl follows λargs=>by
 unfold WM;split
 ·rename_i s;exact λa=>⟨rfl,rfl,rfl,_,_,(Dl3 LF noY () 0 s).trans (Ce4 s a),rfl⟩
 ·trivial
def Dr8:C0 j6 GX 18 Bu7:=xf [] (YL LF) JC rfl ⟨D38,trivial⟩ rfl follows λargs=>by
 unfold JC;split
 ·rename_i i j v4 a b c d e f g h;exact λl=>λm=>λn=>(let⟨q,o,k,p⟩:=Cz9 i j v4 a b c d e f g h l m n;⟨rfl,rfl,rfl,q,o,(Cz8 LF noY () 0 i j v4 a b c d e f g h).trans k,p⟩)
 ·trivial
def Dr7:C0 j6 GX 14 WL:=xf [] (YK LF) JB rfl ⟨Dr8,D41,D43,trivial⟩ rfl follows λargs=>by
 unfold JB;split
 ·rename_i i j v4 a b c d e f g h;exact λl=>λm=>λn=>(let⟨q,o,k,p⟩:=Cz6 i j v4 a b c d e f g h l m n;⟨rfl,rfl,rfl,q,o,(Cz5 LF noY () 0 i j v4 a b c d e f g h).trans k,p⟩)
 ·trivial
def Ds4:C0 j6 GX 35 Bv2:=xf [] (Nt LF) JP rfl trivial rfl follows λargs=>by
 unfold JP;split
 ·rename_i b a l s;exact λc=>λd=>⟨rfl,rfl,rfl,_,_,(C21 LF noY () 0 b a l s).trans (Bp4 b a l s c d),rfl⟩
 ·trivial
def B34:C0 j6 GX 16 GR:=xf [] (YN LF) JN rfl ⟨Ds4,trivial⟩ rfl follows λargs=>by
 unfold JN;split
 ·rename_i b a l s;exact λc=>λd=>⟨rfl,rfl,rfl,_,_,(C19 LF noY () 0 b a l s).trans (Bo9 b a l s c d),rfl⟩
 ·trivial
def C61:C0 j6 GX 8 IA:=xf [] (A48 LF) UR rfl ⟨Bs3,Bs2,B34,trivial⟩ rfl follows λargs=>by
 unfold UR;split
 ·rename_i p o up k b a l m n v4 c d e f g h i j;exact λr=>λt=>λu=>λv=>λw=>(let⟨z,x,q,y⟩:=Db1 p o up k b a l m n v4 c d e f g h i j r t u v w;⟨rfl,rfl,rfl,z,x,(Db0 LF noY () 0 p o up k b a l m n v4 c d e f g h i j).trans q,y⟩)
 ·trivial
def D28:C0 j6 GX 148 Cm5:=xf [] (A57 LF) VJ rfl trivial rfl follows λargs=>by
 unfold VJ;split
 ·rename_i c;exact⟨rfl,rfl,rfl,_,_,(Df9 LF noY () 0 c).trans (B91 c ),rfl⟩
 ·trivial
def Dq5:C0 j6 GX 115 Bt6:=xf [] (YA LF) IJ rfl ⟨D28,trivial⟩ rfl follows λargs=>by
 unfold IJ;split
 ·rename_i c;exact⟨rfl,rfl,rfl,_,_,(Cu3 LF noY () 0 c).trans (Ba6 c ),rfl⟩
 ·trivial
def D29:C0 j6 GX 10 A19:=xf [] (Vm LF) VO rfl ⟨C68,trivial⟩ rfl follows λargs=>by
 unfold VO;split
 ·rename_i b a l;exact λc=>⟨rfl,rfl,rfl,_,_,(Dg3 LF noY () 0 b a l).trans (B95 b a l c),rfl⟩
 ·trivial
def Ds7:C0 j6 GX 72 XL:=xf [1] (Y8 LF) JW rfl ⟨Dq5,trivial⟩ rfl follows λargs=>by
 unfold JW;split
 ·rename_i s;exact λb=>(let⟨e,c,a,d⟩:=C59 s b;⟨rfl,rfl,rfl,e,c,(C57 LF noY () 0 s).trans a,d⟩)
 ·trivial
def D21:C0 j6 GX 40 A13:=by
 refine C0.fix (pf:=UQ) _ (Ba (C₀:=A47 LF) (L9.ok (l:=[]) rfl trivial) (I1 rfl (by kernel_rfl)) follows ?_);intro args ret a h;unfold UQ at h;split at h
 ·rename_i t;obtain⟨rfl,rfl⟩:=K2 h;have e:=(Da7 LF noY () 0 t).trans (B49 t );exact⟨rfl,1,_,[],e,rfl,rfl⟩
 ·cases h
end
def Dt0:Aj3 j6 GX 71 GO:=by
 refine FZ (C₀:=V4 LF) (Pp (lx:=[(59,JO),(72,XL),(66,IN)]) (ly:=[]) (ls:=[(126,Sp)]) rfl rfl rfl ⟨C83,Ds7,Bs4,trivial⟩ trivial ⟨B38,trivial⟩) (I1 rfl (by kernel_rfl)) follows ?_;intro args H L h e a s d c;unfold GO at h;split at h
 ·rename_i t;simp only[p9,Prod.mk.injEq] at h;obtain⟨b,rfl⟩:=h;exact⟨1,_,(Cq6 LF a 0 t s).trans (A69 a t s d b c _)⟩
 ·cases h
def C60:C0 j6 GX 20 HZ:=by
 refine C0.fix (pf:=BB) _ (J5 [0,0] (C₀:=Q2 LF) (Pp (lx:=[(40,A13),(16,GR)]) (ly:=[]) (ls:=[(71,GO)]) rfl rfl rfl ⟨D21,B34,trivial⟩ trivial ⟨Dt0,trivial⟩) (I1 rfl (by kernel_rfl)) follows ?_);intro args ret j h;unfold BB at h;split at h
 ·rename_i b a l;obtain⟨d,h⟩:=D2 h;obtain⟨e,h⟩:=D2 h;obtain⟨rfl,rfl⟩:=K2 h;obtain⟨i,f,c,g⟩:=B55 b a l d e;exact⟨rfl,rfl,rfl,1,i,f,(B54 LF noY () 0 b a l).trans c,g⟩
 ·cases h
def A06:C0 j6 GX 11 Qj:=by
 refine C0.fix (pf:=BA) _ (QD (C₀:=K5 LF) (D88 (lx:=[(19,JR),(20,HZ),(21,Sq),(22,IT),(17,IF)]) (ly:=[(24,Ng)]) (ls:=[]) (lz:=[(23,Xf)]) rfl rfl rfl rfl ⟨C85,C60,HY,C71,Bs2,trivial⟩ ⟨Bs9,trivial⟩ trivial ⟨C97,trivial⟩) (I1 rfl (by kernel_rfl)) follows ?_);intro args ret o h;unfold BA at h;split at h
 ·rename_i b a l;obtain⟨d,h⟩:=D2 h;obtain⟨e,h⟩:=D2 h;obtain⟨f,h⟩:=D2 h;obtain⟨rfl,rfl⟩:=K2 h;obtain⟨n,g,i,c,j,k,m⟩:=B48 b a l d e f;exact⟨rfl,1,n,g,i,(B47 LF noY () 0 b a l).trans c,j,k,m⟩
 ·cases h
section
variable {L R : Type} (Y : Nat) (W : G4) (Q : Yh L) (s : L) (k : Out -> St L -> Option R)
noncomputable def QZ(Y:Nat):Cfg:=D0 Y [7] (A4 []) [(11,Qj),(8,IA)]
 (A4 [(3,[0]),(2,[1,0,0,0]),(1,[1,0]),(0,[])]) [8] (A4 []) (some [0]) [] [] [] (nt:=[(24,4,9,1)]) (sb:=[22])
end
def Al1:HN (evC (QZ LF) 1 Unit noY 7 [] [] ())=true:=by kernel_rfl
def Ck6:C0 j6 GX 7 AZ:=
 C0.fix (pf:=Up) _ (by
  have h:=Bs8 (C₀:=QZ LF) (L9.ok (l:=[(11,Qj),(8,IA)]) rfl ⟨A06,C61,trivial⟩) (I1 rfl (by kernel_rfl)) follows Al1;have e:(λargs:List PV=>match args with|[]=>Tr.ret (.s (.bool true)) []|_=>.fail)=Up:=by
   funext args
   cases args<;>rfl
  rw[<-e];exact h)
end
section
open Go Go.ChangeAt Go.ChangeShapes Go.Proofs Go.RowKit Go.WideShapes
section
def Bb5(os:Os)(a:os.Started)(H:Type)(enc:TypeId × Value->H) :
  ReturnsInHanded {} Tryz.checked os 5 .any (λw args=>(Rows.contextSecureSpec.pre enc j6 ac0 Rows.contextSecureRow.domain false w args/\laidMetH j6 Gj w)/\sizedMet enc j6 ac0 (OpenSpec.ofChange Rows.contextSecureSpec) false w args) (Rows.contextSecureSpec.post enc j6 ac0 false true false false):=
 Bb4 a (C:=Xn LF) (tb:=4) rfl rfl (L9.ok (l:=[(10,A19),(7,AZ),(11,Qj),(13,BM),(14,WL),(8,IA)]) rfl ⟨D29,Ck6,A06,Cl0,Dr7,C61,trivial⟩) (I1 rfl (by kernel_rfl)) (by kernel_rfl) ad4 (c:=D4 ac0) rfl (by kernel_rfl)
  (by
   intro t d;obtain rfl:t=33:=by simpa using(show t∈[33] from d)
   exact⟨⟨by kernel_rfl,of_decide_eq_true (by kernel_rfl)⟩,by kernel_rfl⟩) rfl (by kernel_rfl) rfl
  (λds b=>by
   match ds,b with
   | [e],_=>rfl)
  #[(.slice none 0 0)] 8 (by kernel_rfl) (by kernel_rfl) (by kernel_rfl)
  (λargs h=>Dg7 args h)
set_option maxHeartbeats 4000000 in theorem B98:Rows.ContextSecureSaid:=
 OpenClaim.holds_of_wide 5 ac0 rfl rfl rfl rfl rfl rfl rfl ⟨rfl,rfl,rfl,rfl,rfl⟩ rfl rfl rfl rfl rfl (by kernel_rfl) ad4 (by unfold joinedFacts;simp only[s9];(repeat' apply And.intro)<;>as_aux_lemma=>kernel_rfl)
  (of_decide_eq_true (by as_aux_lemma=>kernel_rfl)) (by unfold Func.isWrapper;first|(rw[ac (by decide +kernel)];kernel_rfl)|(rw[ae (by decide +kernel)];exact⟨rfl,rfl⟩))
  (λos a H enc _=>Bb5 os a H enc)
theorem lcc_card:Rows.ContextSecureCardSaid:=
 Claim7.holds_tied_plain_at .later [] [.data,.data,.data,.data,.pinned] true (true, "9cec0529224ec3275767089afc0c2a40804020b933dcbe6f919a6268834e85fc") false B98 (λ_ h=>by cases h) (by as_aux_lemma=>kernel_rfl) (λ_ h=>by cases h) contextSecure_row_tie rfl ⟨rfl,rfl⟩ (by as_aux_lemma=>kernel_rfl) rfl
  (λf fn c b=>by
   obtain rfl:f=5:=ac5 ((show j6.funcNamed "hstsstore/hstsstorelaw28.ContextSecure" = some 5 by as_aux_lemma=>kernel_rfl).symm.trans c) |>.symm
   obtain rfl:fn=ac0:=(ac5 (ad4.symm.trans b)).symm;exact⟨by as_aux_lemma=>kernel_rfl,λj t e=>by
    have d:t∈[33]:=Array.mem_toList_iff.2 (Array.mem_of_getElem? e);have a:([33].all λu=>!j6.wantsStandIn u)=true:=by as_aux_lemma=>kernel_rfl
    exact(show j6.wantsStandIn t=false by simpa using List.all_eq_true.1 a t d)⟩)
  (by as_aux_lemma=>kernel_rfl)
end
end
#print axioms lcc_card
end Go.Proofs.YtddlcgjamdbinaaGreatDoor.E
