/-
  TrieNone, as its tied card says. Conditions: what the card itself names (the package-level variables that are listed, tied to the program's text).
-/
import Derived.Test.YtigcfngmhpofjaaGreatDoorKTN4
import Derived.BigQuiet
import Derived.Deep.QuietTactic
import Derived.Ground.SlsfProg
import Derived.LoopTactic
import Derived.Shelf.Abstract
import Derived.Shelf.SlSortCmp.NoneTotal
import Derived.Shelf.SlSortCmp.WholeK
import Derived.Shelf.Strings.LastIndex
import Derived.Test.YtigcfngmhpofjaaGreatDoorCards
import Derived.Test.YtigcfngmhpofjaaGreatDoorProg
import Derived.Test.YtigcfngmhpofjaaGreatDoorTie
import Derived.WalkKit
import Derived.WalkMore
open Go.Proofs.Tryz renaming prog->a7,underlying9->o6,f15->u4,f3->u5,func3->y8,f13->ab0,f26->ab1,f38->ab2,func39->ab3,func40->ab4,func58->ab5,func59->ab6,func83->ab7,func84->ab8
open Int renaming toNat->a8,toNat_natCast->b8,min_eq_right->u7,ofNat_zero->x6
open List renaming getD_eq_getElem?_getD->b7,drop_of_length_le->b9,getElem?_eq_getElem->c9,length_cons->j1,contains_iff_mem->j2,length_reverse->j4,length->j7,all_eq_true->k9,getElem_mem->o0,length_eq_zero_iff->o3,length_take->o5,getElem_cons_drop->o8,take_of_length_le->o9,count_le_length->p9,not_lt->r9,mem_map->s9,nodup_append->u0,le_antisymm->u9,length_drop->v7,map_append->w6,drop_zero->x8,takeWhile->x9,map_cons->y9,map_take->z7,extract->aa2,isEmpty->aa3,map_nil->aa4
open Prod renaming fst->h9
open Eq renaming trans->j0
open Array renaming length_toList->j3,getElem?_modify->p6,toList_extract->p7
open ByteArray renaming size_extract->j5,data_extract->o7,size->x5
open Option renaming getD_some->j6,map_some->w9
open Go.Instr renaming sliceAt->j8,sliceBounds->s8,slice->aa7
open Bool renaming and_eq_true->j9,not_true->s6,true_and->s7,false_and->x3,not_false->x4
open Go.Exit renaming noGoto_ret->p4
open Option.some renaming inj->p5
open Go.ByteArray renaming toList_eq->s5
open Nat renaming zero_add->u3,le_refl->v8,not_lt_zero->w8,ble_eq->y5,ble->aa5
open Go.World renaming drewN_drewN->dRN
open Go.Ending renaming returned->w5
open Go.IntKind renaming signed->x7,bits->aa0,wrap->aa1,i64->aa8
open Go.Result renaming andThen->y7
open Go.Proofs.SlLaysF0 renaming n6->aa6
open Prod.mk renaming inj->aa9
namespace Go.Proofs.YtigcfngmhpofjaaGreatDoor.E
set_option linter.all false
section
open Go Go.Proofs
set_option maxRecDepth 100000
section
variable {W R : Type} (L : Nat) (Y : C9) (Q : Yh W) (s : W) (k : Out -> St W -> Option R)
noncomputable abbrev VV:Code:=F6 ab0
noncomputable def Jn(L:Nat):Cfg:=D1 L [13] (A5 [(5,[2,0,0])]) [(23,Rp),(24,Kg),(25,PL)] (A5 [(9,[2]),(6,[3,0]),(8,[2]),(7,[3,0,24]),(5,[3,0,16]),(4,[3,0]),(3,[3]),(2,[2]),(1,[0,14]),(0,[0])]) [23,25] (A5 [(0,[]),(1,[3,0])]) (some [2]) [] [] []
noncomputable def Fg{R:Type}(L n:Nat)(b:LL)(a:Int)(c:Unit->Option R)(d:Unit->Option R):Option R:=match n with|0=>none|n+1=>cond (ltI a (b.length:Int)) (cond (inR a b.length) (cond (okE Iq b (a8 a) 0) (cond (A7 (j7 (gX b (a8 a) 0))) (cond (not (X9 (gX b (a8 a) 0))) (c ()) (Fg L n b (A2 (a+1)) c d)) none) none) none) (d ())
theorem NJ(n p0 i1):E2 0 ((Jn L).keep 5) (bd (Jn L) Y Q (cd [1,1,1,0,1,0,0] VV)) n ⟨gp [(3,.s (.sl false false 1 p0)),(0,pI i1)] 25,[],s⟩ k =
 Fg L n p0 i1 (λ_=>k .ret ⟨gp [(2,pB false)] 27,[],s⟩) (λ_=>k (.exit 0) ⟨gp [] 30,[],s⟩):=by
 induction n generalizing p0 i1 with
 | zero=>rfl
 | succ n a=>rw[Fg];simp only[<-a];kernel_rfl
noncomputable def Af4{R:Type}(L:Nat)(a:By)(b:Bool->Option R):Option R:=cond (a==[]) (b false) (cond (ltI 253 (a.length:Int)) (b false) (cond (A7 a.length) (cond (P0 a) (b false) (cond (A7 a.length) (vl (G8 (pcs (u8n (46:Int)) a)) λc=>Fg L L c 0 (λ_=>b false) (λ_=>b true)) none)) none))
theorem Af5(d:Nat)(name0):evC (Jn L) (d+1) W Q 13 [pS name0] [] s=Af4 L name0 (λb=>some (pB b,[],s)):=by refine(evE (fn:=ab0) (by kernel_rfl)).trans ?_;generalize evC (Jn L) d=Y;unfold Af4;exact(j0 (by kernel_rfl) (A1 rfl (A1 rfl (A1 (A1 rfl (A1 (A6 λa=>((NJ L Y Q s (H4 0 (I1 (Jn L) Y Q (cd [1,1,1,1] VV) (K6 (Jn L) ab0))) L a 0).trans (by kernel_rfl))) rfl)) rfl))))
end
theorem TV{R:Type}{a b:Unit->Option R}(l:List By)(k:l.length<=1000000001)(h:∀x∈l,x.length<=1000000000):∀(r i n:Nat),i+r=l.length->r<n->
  Fg LF n (G8 l) (i:Int) a b=if (l.drop i).all X9 then b () else a ():=by
 intro r
 induction r with
 | zero=>
  intro i n e f;obtain⟨n,rfl⟩:∃m,n=m+1:=⟨n-1,by omega⟩
  rw[Fg];rw[L3,A4,b9 (by omega)];rfl
 | succ r j=>
  intro i n e f;obtain⟨n,rfl⟩:∃m,n=m+1:=⟨n-1,by omega⟩
  rw[Fg];have c:A2 ((i:Int)+1)=((i+1:Nat):Int):=by rw[A3];rfl
  have d:l.drop i=l.getD i []::l.drop (i+1):=by
   rw[b7,c9 (by omega),j6,o8]
  have g:(l.getD i []).length<=1000000000:=h _ (by
   rw[b7,c9 (by omega),j6];exact o0 _)
  rw[L3,A8,K7,b8,Bw (by omega),Ew,Q0 g,d,List.all_cons,c];simp only[cond_true];rw[j (i+1) n (by omega) (by omega)];cases X9 (l.getD i []) with
  | true=>rw[s7];rfl
  | false=>rfl
theorem TW{R:Type}{c:Bool->Option R}(s:By)(b:A7 s.length=true):Af4 LF s c=c (K5 s):=by
 have k:=Z8 b;have d:=G7;unfold Af4;by_cases a:s=[]
 ·subst a;rfl
 ·have f:(s==([]:By))=false:=by simpa using a
  rw[f,cond_false];unfold K5;by_cases i:253<s.length
  ·rw[A8,show aa5 s.length 253=false by rw[Bool.eq_false_iff,ne_eq,y5];omega];rfl
  ·rw[A4,cond_false,b,cond_true,show aa5 s.length 253=true by rw[y5];omega];cases j:P0 s with
   | true=>rfl
   | false=>
    rw[cond_false,cond_true];have g:=Fc 46 s;have e:=Gp 46 s;refine j0 (TV (pcs 46 s) (by omega) (λx h=>by have:=(Qv h).2;omega) (pcs 46 s).length 0 LF (by omega) (by omega)) ?_;grind
section
theorem IN:B7 a7 GX 88 Rt:=xf [] (Sm LF) Nc rfl trivial rfl (by kernel_rfl) follows λargs=>by
 unfold Nc;split
 ·rename_i n;exact⟨rfl,rfl,rfl,_,_,(UC LF noY () 0 n).trans (GZ n ),rfl⟩
 ·trivial
theorem IM:B7 a7 GX 87 Rl:=xf [] (O5 LF) Mz rfl trivial rfl (by kernel_rfl) follows λargs=>by
 unfold Mz;split
 ·rename_i d c f;exact λa=>λb=>λe=>⟨rfl,rfl,rfl,_,_,(TQ LF noY () 0 d c f).trans (GA d c f a b e),rfl⟩
 ·trivial
theorem ZL:B7 a7 GX 86 IX:=xf [] (JS LF) Zi rfl trivial rfl (by kernel_rfl) follows λargs=>by
 unfold Zi;split
 ·rename_i k b;exact λa=>λc=>⟨rfl,rfl,rfl,_,_,(Ag0 LF noY () 0 k b).trans (UE k b a c),rfl⟩
 ·trivial
theorem Aj0:B7 a7 GX 89 PK:=xf [] (AJ LF) Rm rfl trivial rfl (by kernel_rfl) follows λargs=>by
 unfold Rm;split
 ·rename_i d;exact λa=>⟨rfl,rfl,rfl,_,_,(XR LF noY () 0 d).trans (MS d a),rfl⟩
 ·trivial
theorem Ar6:B7 a7 GX 85 VM:=xf [] (Dc LF) Zk rfl trivial rfl (by kernel_rfl) follows λargs=>by
 unfold Zk;split
 ·rename_i b;exact λa=>⟨rfl,rfl,rfl,_,_,(Ag2 LF noY () 0 b).trans (UF b a),rfl⟩
 ·trivial
theorem Ar4:B7 a7 GX 62 VK:=xf [0,0] (H8 LF) Ze rfl ⟨IN,ZL,Aj0,IM,trivial⟩ rfl (by kernel_rfl) follows λargs=>by
 unfold Ze;split
 ·rename_i b a p;exact λd=>(let⟨g,e,c,f⟩:=Af3 b a p d;⟨rfl,rfl,rfl,g,e,(Af1 LF noY () 0 b a p).trans c,f⟩)
 ·trivial
theorem Aj4:B7 a7 GX 61 PN:=xf [1,0] (F0 LF) Rs rfl ⟨Ar6,ZL,IM,IN,trivial⟩ rfl (by kernel_rfl) follows λargs=>by
 unfold Rs;split
 ·rename_i s;exact λb=>(let⟨e,c,a,d⟩:=YD s b;⟨rfl,rfl,rfl,e,c,(YC LF noY () 0 s).trans a,d⟩)
 ·trivial
theorem Aj5:B7 a7 GX 44 PO:=xf [] (Er LF) Ru rfl ⟨Aj4,Ar4,trivial⟩ rfl (by kernel_rfl) follows λargs=>by
 unfold Ru;split
 ·rename_i s;exact λa=>⟨rfl,rfl,rfl,_,_,(YE LF noY () 0 s).trans (OE s a),rfl⟩
 ·trivial
theorem Aj2:B7 a7 GX 25 PL:=xf [] (Eo LF) Rn rfl ⟨Aj5,trivial⟩ rfl (by kernel_rfl) follows λargs=>by
 unfold Rn;split
 ·rename_i s;exact λa=>⟨rfl,rfl,rfl,_,_,(XY LF noY () 0 s).trans (NM s a),rfl⟩
 ·trivial
theorem ZI:B7 a7 GX 13 IW:=xf [] (Jn LF) Zf rfl ⟨OZ,Vh,Aj2,trivial⟩ rfl (by kernel_rfl) follows λargs=>by
 unfold Zf;split
 ·rename_i s;exact λa=>⟨rfl,rfl,rfl,_,_,(Af5 LF noY () 0 s).trans (TW s a),rfl⟩
 ·trivial
end
end
section
open Go Go.Op
set_option maxRecDepth 100000
theorem Ez:∀s:By,((46:UInt8)∉s/\F4 46 s=-1)\/∃p q,s=p++46::q/\(46:UInt8)∉q/\F4 46 s=(p.length:Int)
 | []=>.inl ⟨by simp,rfl⟩
 | b::r=>by
  rcases Ez r with⟨a,c⟩|⟨p,q,a,c,f⟩
  ·by_cases d:b=46
   ·exact .inr ⟨[],r,by rw[d];rfl,a,by unfold F4;rw[c,if_pos (by decide),if_pos d];rfl⟩
   ·exact .inl ⟨by simp[a];exact λe=>d e.symm,by unfold F4;rw[c,if_pos (by decide),if_neg d]⟩
  ·refine .inr ⟨b::p,q,by rw[a];rfl,c,?_⟩;unfold F4;rw[f,V8];simp
theorem Ao8{s:By}(h:(46:UInt8)∉s):rl s=[s]:=by unfold rl pcs;rw[Ap 46 s [] h];rfl
theorem Ao9(p:By){q:By}(h:(46:UInt8)∉q):rl (p++46::q)=q::rl p:=by unfold rl pcs;rw[Fk,Ap 46 q [] h,List.reverse_append];rfl
theorem Al1(s:By):rl s≠[]:=by unfold rl;simpa using BT 46 s
theorem Dq{a b:By}(h:Gb a b=0):a=b:=by
 unfold Gb at h;cases c:bytesLess a b with
 | true=>rw[c] at h;cases h
 | false=>
  cases d:bytesLess b a with
  | true=>rw[c,d] at h;cases h
  | false=>
   rw[U0] at c d;exact u9 (r9.1 (of_decide_eq_false d)) (r9.1 (of_decide_eq_false c))
theorem Nj(a:By):bytesLess a a=false:=by rw[U0];simp
def AO(x y:List By):Int:=cond (Tx x y) (-1) (cond (Tx y x) 1 0)
theorem U2{a b:By}{x y:List By}(h:Gb a b≠0):AO (a::x) (b::y)=Gb a b:=by
 have c:a≠b:=λe=>h (by rw[e];unfold Gb;rw[Nj];rfl)
 have d:(a==b)=false:=by simpa using c
 have f:(b==a)=false:=by simpa using Ne.symm c
 unfold AO Gb;simp only[Tx,d,f,x3,Bool.or_false]
theorem U1{a:By}{x y:List By}:AO (a::x) (a::y)=AO x y:=by unfold AO;simp only[Tx,Nj,beq_self_eq_true,s7,Bool.false_or]
theorem Ap0{l:List Ent}(h:(F1 l).all smE=true):∀e∈l,e.1.length<=1000000000:=λe a=>by
 have:=k9.1 h (Nx e) (s9.2 ⟨e,a,rfl⟩);exact Z8 this
theorem Ha{l:List Ent}{i:Nat}(h:i<l.length):okE Iq (F1 l) i 0=true:=by unfold okE;rw[Gq h];simp[h,okS,Nx,SV.has,Iq]
theorem Sv{a:Type}(d:a){l:List a}{i:Nat}(h:i<l.length):l.drop i=l.getD i d::l.drop (i+1):=by rw[b7,c9 h,j6,o8]
end
section
open Go Go.Proofs
set_option maxRecDepth 100000
section
variable {W R : Type} (L : Nat) (Q : C9) (Y : Yh W) (s : W) (k : Out -> St W -> Option R)
noncomputable abbrev PX:Code:=F6 ab1
noncomputable def Ep(L:Nat):Cfg:=D1 L [26] (A5 [(3,[4,0,0,0])]) [(24,Kg)] (A5 [(14,[4]),(11,[4]),(13,[4]),(12,[52]),(10,[5,0,39]),(4,[5,0,0]),(9,[4]),(8,[5,0,0,37]),(7,[4]),(6,[5,0,0,0,0,32]),(5,[5,0,0,0,0]),(3,[5,0,0,15]),(2,[5,0,0]),(1,[5,0]),(0,[0,0])]) [] (A5 [(2,[]),(0,[5,0]),(1,[5,0,0])]) (some [4]) [] [] []
noncomputable def Cd{R:Type}(L n:Nat)(a b:LL)(g:Int)(h:Int->Option R)(i:LL->LL->Option R):Option R:=match n with|0=>none|n+1=>cond (not (ltI (a.length:Int) g)) (cond (not (ltI (b.length:Int) g)) (vl (A2 ((a.length:Int)-g)) λc=>cond (inR c a.length) (cond (okE Iq a (a8 c) 0) (vl (gX a (a8 c) 0) λe=>vl (A2 ((b.length:Int)-g)) λd=>cond (inR d b.length) (cond (okE Iq b (a8 d) 0) (vl (gX b (a8 d) 0) λf=>cond (bytesLess e f) (h (-1)) (cond (not ((bytesLess e f)||(e==f))) (h 1) (Cd L n a b (A2 (g+1)) h i))) none) none) none) none) (i a b)) (i a b)
theorem GR(n a b i2):E2 0 ((Ep L).keep 3) (bd (Ep L) Q Y (cd [1,1,0,1,0,0] PX)) n ⟨gp [(5,.s (.sl false false 1 a)),(0,.s (.sl false false 1 b)),(0,pI i2)] 50,[],s⟩ k =
 Cd L n a b i2 (λn0=>k .ret ⟨gp [(4,pI n0)] 53,[],s⟩) (λa b=>k (.exit 0) ⟨gp [(5,.s (.sl false false 1 a)),(0,.s (.sl false false 1 b))] 51,[],s⟩):=by
 induction n generalizing a b i2 with
 | zero=>rfl
 | succ n c=>rw[Cd];simp only[<-c];kernel_rfl
noncomputable def QY{R:Type}(L:Nat)(g h:By)(c:Int->Option R):Option R:=cond (A7 g.length) (vl (G8 (pcs (u8n (46:Int)) g)) λd=>cond (A7 h.length) (vl (G8 (pcs (u8n (46:Int)) h)) λe=>Cd L L d e 1 (λf=>c f) (λb a=>cond (ltI (b.length:Int) (a.length:Int)) (c (-1)) (cond (ltI (a.length:Int) (b.length:Int)) (c 1) (c 0)))) none) none
theorem YB(d:Nat)(a0 b1):evC (Ep L) (d+1) W Y 26 [pS a0,pS b1] [] s=QY L a0 b1 (λc=>some (pI c,[],s)):=by refine(evE (fn:=ab1) (by kernel_rfl)).trans ?_;generalize evC (Ep L) d=Q;unfold QY;exact(j0 (by kernel_rfl) (A1 (A6 λa=>(A1 (A6 λb=>((GR L Q Y s (H4 0 (I1 (Ep L) Q Y (cd [1,1,1] PX) (K6 (Ep L) ab1))) L a b 1).trans (by kernel_rfl))) rfl)) rfl))
noncomputable abbrev J3:Code:=F6 u4
noncomputable def D3(L:Nat):Cfg:=D1 L [15] (A5 [(13,[0,1,0,1,0,0]),(10,[0,1,0,1,0]),(4,[0,1,0,0])]) [(13,IW),(26,PM)] (A5 [(18,[2,0]),(11,[0,4,0]),(17,[0,4,0]),(16,[2,0]),(15,[0,4,0,0,58]),(14,[0,4,0,0]),(13,[0,4,0,0,39]),(12,[0,4,0,0]),(10,[0,4,0,20]),(9,[0,4,0]),(8,[0,4]),(5,[0,3]),(7,[2,0]),(6,[0,3,18]),(4,[0,3,9]),(3,[0,3]),(2,[2,0]),(1,[0,9]),(0,[0])]) [13,26] (A5 [(2,[5]),(3,[0,4,0]),(4,[0,4,0,0]),(5,[0,4,0,0]),(0,[0]),(1,[0,3])]) (some [2,0]) [] [] [] (rw:=[(17,9)]) (fr:=[(17,[4,8],[0])])
noncomputable def Bz{R:Type}(L n:Nat)(b a:Bool)(c:LL)(d:Int)(e:(List Blk)->Option R)(f:Bool->Bool->LL->Option R):Option R:=match n with|0=>none|n+1=>cond (ltI d (c.length:Int)) (cond (inR d c.length) (cond (okE Iq c (a8 d) 0) (cond (A7 (j7 (gX c (a8 d) 0))) (cond (not (K5 (gX c (a8 d) 0))) (e []) (Bz L n b a c (A2 (d+1)) e f)) none) none) none) (f b a c)
theorem GH(n b a c i3):E2 0 ((D3 L).keep 4) (bd (D3 L) Q Y (cd [1,1,0,1,0,0] J3)) n ⟨gp [(0,.s (.sl b a 2 c)),(3,pI i3)] 78,[],s⟩ k =
 Bz L n b a c i3 (λd=>k .ret ⟨gp [(2,.fl 0),(0,pI (14:Int))] 79,(.arr true 23 2 []::d),s⟩) (λb a c=>k (.exit 0) ⟨gp [(0,.s (.sl b a 2 c))] 82,[],s⟩):=by
 induction n generalizing b a c i3 with
 | zero=>rfl
 | succ n e=>rw[Bz];simp only[<-e];kernel_rfl
noncomputable def Ca{R:Type}(L n:Nat)(d c:Bool)(f a:LL)(e b:Int)(h:Bool->Bool->LL->LL->Int->Int->Option R):Option R:=match n with|0=>none|n+1=>cond (ltI b (a.length:Int)) (cond (inR b a.length) (cond (okE Iq a (a8 b) 0) (vl (gX a (a8 b) 0) λg=>cond (inR e f.length) (cond (okE Iq f (a8 e) 0) (cond (A7 g.length) (cond (A7 (j7 (gX f (a8 e) 0))) (vl (Bj g (gX f (a8 e) 0)) λi=>cond (ltI i 0) (Ca L n d c f a e (A2 (b+1)) h) (h d c f a e b)) none) none) none) none) none) none) (h d c f a e b)
theorem GI(n b a f c e d):E2 1 ((D3 L).keep 13) (bd (D3 L) Q Y (cd [1,1,1,1,0,1,0,0,1,0,0,1,0,0,0] J3)) n ⟨gp [(0,.s (.sl b a 2 f)),(4,.s (.sl false false 2 c)),(0,pI e),(0,pI d)] 75,[.arr true 23 2 []],s⟩ k =
 Ca L n b a f c e d (λb a f c e d=>k (.exit 4) ⟨gp [(0,.s (.sl b a 2 f)),(4,.s (.sl false false 2 c)),(0,pI e),(0,pI d)] 75,[.arr true 23 2 []],s⟩):=by
 induction n generalizing b a f c e d with
 | zero=>rfl
 | succ n g=>rw[Ca];simp only[<-g];kernel_rfl
noncomputable def Ea{R:Type}(h g:Bool)(f a:LL)(e b:Int)(i:Bool->Bool->LL->Int->LL->Option R):Option R:=cond (O2 0 b a.length) (cond (inR e f.length) (cond (okE ⟨true,true,[.str,.bool]⟩ f (a8 e) 0) (cond (O2 b (a.length:Int) a.length) (vl (cut a b (a.length:Int)) λc=>cond (F8 (0+(j7 (cut a 0 b)))) (cond (F8 ((j7 (cut a 0 b))+1)) (vl ((cut a 0 b)++[[(SV.str (gX f (a8 e) 0)),(SV.bool (gY f (a8 e) 1))]]) λd=>cond (F8 (d.length+c.length)) (i h g f e (d++c)) none) none) none) none) none) none) none
abbrev Fh(b:Code):Prop:=∀(k:Out->St W->Option R) c a d out3 i4 kk5 b6,B2 (D3 L) Q Y b ⟨gp [(0,.s (.sl c a 2 d)),(4,.s (.sl false false 2 out3)),(0,pI i4),(0,pI kk5),(58,pB b6)] 16,[.arr true 23 2 []],s⟩ k=Ea c a d out3 i4 kk5 (λc a d e f=>k .normal ⟨gp [(0,.s (.sl c a 2 d)),(4,.fl 1),(0,pI e)] 76,[.arr true 23 2 [],.arr false 23 2 f],s⟩)
theorem GF:Fh (R:=R) L Q Y s (cd [1,1,1,1,0,1,0,0,1,0,0,1,1,1] J3):=by intro k b a g c f d e;unfold Ea;kernel_rfl
noncomputable def U8{R:Type}(L n:Nat)(v u:Bool)(D l:LL)(C:Int)(A:Blk->(List Blk)->Option R)(B:LL->Option R):Option R:=match n with|0=>none|n+1=>cond (ltI C (D.length:Int)) (Ca L L v u D l C 0 (λf e d b c a=>cond (ltI a (b.length:Int)) (cond (inR a b.length) (cond (okE Iq b (a8 a) 0) (vl (gX b (a8 a) 0) λy=>cond (inR c d.length) (cond (okE Iq d (a8 c) 0) (vl (gX d (a8 c) 0) λz=>cond (y==z) (A (Blk.arr true 23 2 []) []) (Ea f e d b c a (λi g p m q=>vl (A2 (m+1)) λw=>U8 L n i g p q w A B))) none) none) none) none) (Ea f e d b c a (λj h r o t=>vl (A2 (o+1)) λx=>U8 L n j h r t x A B)))) (B l)
theorem GJ(a:Code)(b:Fh (R:=R) L Q Y s a)(n:Nat)(d c:Bool)(C e:LL)(B:Int):E2 1 ((D3 L).keep 10) (bd (D3 L) Q Y (cd [1,1,1,1,0,1,0,0] (O0 [1,1,1,1,0,1,0,0,1,0,0,1,1,1] a J3))) n ⟨gp [(0,.s (.sl d c 2 C)),(4,.s (.sl false false 2 e)),(0,pI B)] 76,[.arr true 23 2 []],s⟩ k =
 U8 L n d c C e B (λI J=>k .ret ⟨gp [(2,.fl 1),(0,pI (17:Int))] 79,(I::.arr true 23 2 []::J),s⟩) (λy=>k (.exit 2) ⟨gp [(5,.s (.sl false false 2 y))] 77,[.arr true 23 2 []],s⟩):=by
 induction n generalizing d c C e B with
 | zero=>rfl
 | succ n H=>rw[U8];exact let D:=(H4 3 (I1 (D3 L) Q Y (cd [1,1,1,1,0,1,0,0,1,1] J3) (lpK 1 ((D3 L).keep 10) (bd (D3 L) Q Y (cd [1,1,1,1,0,1,0,0] (O0 [1,1,1,1,0,1,0,0,1,0,0,1,1,1] a J3))) n k)));(j0 (by kernel_rfl) (A1 ((GI L Q Y s (H4 4 (I1 (D3 L) Q Y (cd [1,1,1,1,0,1,0,0,1,0,0,1,1] (O0 [1,1,1,1,0,1,0,0,1,0,0,1,1,1] a J3)) D)) L d c C e B 0).trans (congr rfl (fx6 λh g v i p f=>(j0 (by kernel_rfl) (A1 (A1 (A1 (A6 λz=>(A1 (A1 (A6 λA=>(A1 rfl ((b D h g v i p f (z==A)).trans (congr rfl (fx5 λm j q F r=>(j0 (by kernel_rfl) (A6 λw=>(H m j q r w)))))))) rfl) rfl)) rfl) rfl) ((b D h g v i p f false).trans (congr rfl (fx5 λo l t G u=>(j0 (by kernel_rfl) (A6 λx=>(H o l t u x))))))))))) rfl))
noncomputable def Hd{R:Type}(L n:Nat)(b a:Bool)(d:LL)(c:Bool->Bool->LL->Option R):Option R:=match n with|0=>none|n+1=>c b a d
theorem GK(n b a c):E2 1 ((D3 L).keep 13) (bd (D3 L) Q Y (cd [1,1,1,1,0,1,0,0,1,0,0,1,0,0,0] J3)) n ⟨gp [(0,.s (.sl b a 2 c)),(4,.fl 0),(0,pI (0:Int)),(0,pI (0:Int))] 75,[.arr true 23 2 []],s⟩ k =
 Hd L n b a c (λb a c=>k (.exit 4) ⟨gp [(0,.s (.sl b a 2 c)),(4,.fl 0),(0,pI (0:Int)),(0,pI (0:Int))] 75,[.arr true 23 2 []],s⟩):=by
 induction n generalizing b a c with
 | zero=>rfl
 | succ n d=>rw[Hd];kernel_rfl
noncomputable def Lz{R:Type}(c b:Bool)(a:LL)(d:Bool->Bool->LL->By->Bool->Option R):Option R:=cond (inR 0 a.length) (cond (okE ⟨true,true,[.str,.bool]⟩ a 0 0) (d c b a (gX a 0 0) (gY a 0 1)) none) none
abbrev Jy(b:Code):Prop:=∀(k:Out->St W->Option R) c a d,B2 (D3 L) Q Y b ⟨gp [(0,.s (.sl c a 2 d)),(4,.fl 0),(0,pI (0:Int)),(0,pI (0:Int)),(58,pB false)] 16,[.arr true 23 2 []],s⟩ k=Lz c a d (λc a d f e=>k .normal ⟨gp [(0,.s (.sl c a 2 d)),(4,.fl 1),(0,pI (0:Int))] 76,[.arr true 23 2 [],.arr false 23 2 [[.str f,.bool e]]],s⟩)
theorem GG:Jy (R:=R) L Q Y s (cd [1,1,1,1,0,1,0,0,1,0,0,1,1,1] J3):=by intro k b a c;unfold Lz;kernel_rfl
noncomputable def Eb{R:Type}(L n:Nat)(m l:Bool)(p:LL)(q:Blk->(List Blk)->Option R)(r:LL->Option R)(t:Unit->Option R):Option R:=match n with|0=>none|n+1=>cond (ltI 0 (p.length:Int)) (Hd L L m l p (λc a i=>Lz c a i (λd b j o h=>U8 L n d b j [[(SV.str o),(SV.bool h)]] 1 (λf g=>q f g) (λe=>r e)))) (t ())
theorem GL(a:Code)(b:Fh (R:=R) L Q Y s a)(c:Jy (R:=R) L Q Y s a)(n:Nat)(e d:Bool)(q:LL):E2 1 ((D3 L).keep 10) (bd (D3 L) Q Y (cd [1,1,1,1,0,1,0,0] (O0 [1,1,1,1,0,1,0,0,1,0,0,1,1,1] a J3))) n ⟨gp [(0,.s (.sl e d 2 q)),(4,.fl 0),(0,pI (0:Int))] 76,[.arr true 23 2 []],s⟩ k =
 Eb L n e d q (λv w=>k .ret ⟨gp [(2,.fl 1),(0,pI (17:Int))] 79,(v::.arr true 23 2 []::w),s⟩) (λo=>k (.exit 2) ⟨gp [(5,.s (.sl false false 2 o))] 77,[.arr true 23 2 []],s⟩) (λ_=>k (.exit 2) ⟨gp [(5,.fl 0)] 77,[.arr true 23 2 []],s⟩):=by
 induction n generalizing e d q with
 | zero=>rfl
 | succ n x=>rw[Eb];exact(j0 (by kernel_rfl) (A1 ((GK L Q Y s (H4 4 (I1 (D3 L) Q Y (cd [1,1,1,1,0,1,0,0,1,0,0,1,1] (O0 [1,1,1,1,0,1,0,0,1,0,0,1,1,1] a J3)) (H4 3 (I1 (D3 L) Q Y (cd [1,1,1,1,0,1,0,0,1,1] J3) (lpK 1 ((D3 L).keep 10) (bd (D3 L) Q Y (cd [1,1,1,1,0,1,0,0] (O0 [1,1,1,1,0,1,0,0,1,0,0,1,1,1] a J3))) n k))))) L e d q).trans (congr rfl (fx3 λh f l=>(j0 (by kernel_rfl) ((c (H4 3 (I1 (D3 L) Q Y (cd [1,1,1,1,0,1,0,0,1,1] J3) (lpK 1 ((D3 L).keep 10) (bd (D3 L) Q Y (cd [1,1,1,1,0,1,0,0] (O0 [1,1,1,1,0,1,0,0,1,0,0,1,1,1] a J3))) n k))) h f l).trans (congr rfl (fx5 λi g m p j=>(j0 (by kernel_rfl) ((GJ L Q Y s k a b n i g m [[(SV.str p),(SV.bool j)]] 1).trans (congr (congr rfl (fx2 λt u=>rfl)) (fx1 λr=>rfl))))))))))) rfl))
noncomputable def GD{R:Type}(L:Nat)(g f:Bool)(l:LL)(i:Int->(List Blk)->Option R)(m:Blk->(List Blk)->Option R)(n:LL->(List Blk)->Option R):Option R:=cond (ltI 1000 (l.length:Int)) (i 3 []) (Bz L L g f l 0 (λh=>i 14 h) (λc b j=>Eb L L c b j (λd e=>m d e) (λa=>n a [(Blk.arr true 23 2 [])]) (λ_=>i 0 [])))
theorem XX(a:Code)(b:Fh (R:=PV × List Blk × W) L Q Y s a)(c:Jy (R:=PV × List Blk × W) L Q Y s a)(e d:Bool)(j:LL):B2 (D3 L) Q Y (cd [] (O0 [1,1,1,1,0,1,0,0,1,0,0,1,1,1] a J3)) ⟨[.s (.sl e d 2 j)]++tps 82,[],s⟩ (K6 (D3 L) u4)=GD L e d j (λl h=>some (.tup [.fl 0,pI l],(.arr true 23 2 []::h),s)) (λm h=>some (.tup [.fl 1,pI (17:Int)],(m::.arr true 23 2 []::h),s)) (λl h=>some (.tup [.s (.sl false false 2 l),pI (0:Int)],h,s)):=by unfold GD;exact(j0 (by kernel_rfl) (A1 rfl ((GH L Q Y s (H4 0 (I1 (D3 L) Q Y (cd [1,1,1] (O0 [1,1,1,1,0,1,0,0,1,0,0,1,1,1] a J3)) (K6 (D3 L) u4))) L e d j 0).trans (congr (congr rfl (by kernel_rfl)) (fx3 λg f i=>(j0 (by kernel_rfl) ((GL L Q Y s (H4 2 (I1 (D3 L) Q Y (cd [1,1,1,1,1] J3) (K6 (D3 L) u4))) a b c L g f i).trans (by kernel_rfl))))))))
theorem GE(d:Nat)(l_z0 l_t1 l2):evC (D3 L) (d+1) W Y 15 [.s (.sl l_z0 l_t1 2 l2)] [] s=GD L l_z0 l_t1 l2 (λb a=>some (.tup [.fl 0,pI b],(.arr true 23 2 []::a),s)) (λc a=>some (.tup [.fl 1,pI (17:Int)],(c::.arr true 23 2 []::a),s)) (λb a=>some (.tup [.s (.sl false false 2 b),pI (0:Int)],a,s)):=
 (evE (fn:=u4) (by kernel_rfl)).trans (j0 (by kernel_rfl) (XX L (evC (D3 L) d) Y s (cd [1,1,1,1,0,1,0,0,1,0,0,1,1,1] J3) (GF L (evC (D3 L) d) Y s) (GG L (evC (D3 L) d) Y s) l_z0 l_t1 l2))
noncomputable abbrev QW(c b:Bool)(f:LL):Option (PV × List Blk × Unit):=GD LF c b f (λd a=>some (.tup [.fl 0,pI d],(.arr true 23 2 []::a),())) (λe a=>some (.tup [.fl 1,pI (17:Int)],(e::.arr true 23 2 []::a),())) (λd a=>some (.tup [.s (.sl false false 2 d),pI (0:Int)],a,()))
end
end
section
open Go Go.Op
set_option maxRecDepth 100000
theorem Ly{l:List By}{i:Nat}(a:1<=i)(b:i<=l.length):l.reverse.drop (i-1)=l.getD (l.length-i) []::l.reverse.drop i:=by
 rw[Sv [] (by rw[j4];omega),show i-1+1=i by omega]
 congr 1
 rw[b7,b7,List.getElem?_reverse (by omega),show l.length-1-(i-1)=l.length-i by omega]
theorem Uv{R:Type}(d:Int->Option R)(x y:List By)(C:x.length<=2000000000)(D:y.length<=2000000000):∀(r i m:Nat),i+r=x.length+1->1<=i->i<=y.length+1->r<m->
  Cd LF m (G8 x) (G8 y) (i:Int) (λn=>d n) (λj k=>cond (ltI (j.length:Int) (k.length:Int)) (d (-1)) (cond (ltI (k.length:Int) (j.length:Int)) (d 1) (d 0)))=d (AO (x.reverse.drop (i-1)) (y.reverse.drop (i-1)))
 | 0,i,m,A,f,v,B=>by
  obtain⟨m,rfl⟩:∃q,m=q+1:=⟨m-1,by omega⟩
  rw[Cd,L3,L3,C6 (by omega),b9 (i:=i-1) (l:=x.reverse) (by rw[j4];omega)];simp only[s6,cond_false,L3];rw[F3 (a:=(y.length:Int)) (by omega)];by_cases c:x.length<y.length
  ·rw[C6 (by omega),Ly (l:=y) f (by omega)];rfl
  ·rw[F3 (by omega),b9 (by rw[j4];omega)];rfl
 | r+1,i,m,A,f,v,B=>by
  obtain⟨m,rfl⟩:∃q,m=q+1:=⟨m-1,by omega⟩
  have h:i<=x.length:=by omega
  rw[Cd,L3,L3,F3 (by omega)];by_cases c:y.length<i
  ·rw[C6 (by omega),b9 (i:=i-1) (l:=y.reverse) (by rw[j4];omega),Ly f h];simp only[s6,x4,cond_true,cond_false,L3];rw[F3 (by omega),C6 (by omega)];rfl
  ·have o:A2 ((x.length:Int)-(i:Int))=((x.length-i:Nat):Int):=by rw[A3];omega
   have p:A2 ((y.length:Int)-(i:Int))=((y.length-i:Nat):Int):=by rw[A3];omega
   have u:A2 ((i:Int)+1)=((i+1:Nat):Int):=by rw[A3];rfl
   rw[F3 (by omega)];simp only[x4,cond_true,vl,o,p,u,b8];rw[M5 (by omega) (by omega),M5 (by omega) (by omega),Bw (by omega),Bw (by omega),Ew,Ew,Ly f h,Ly (l:=y) f (by omega)];simp only[cond_true];generalize x.getD (x.length-i) []=s;generalize y.getD (y.length-i) []=t;by_cases b:s=t
   ·subst b;rw[Nj,beq_self_eq_true,U1];have:=Uv d x y C D r (i+1) m (by omega) (by omega) (by omega) (by omega);rw[Nat.add_sub_cancel] at this;exact this
   ·have g:Gb s t≠0:=λe=>b (Dq e)
    rw[U2 g,show(s==t)=false by simpa using b];unfold Gb at g ⊢;cases w:bytesLess s t with
    | true=>rfl
    | false=>
     rw[w] at g;cases z:bytesLess t s with
     | true=>rfl
     | false=>rw[z] at g;exact absurd rfl g
theorem NW{R:Type}{c:Int->Option R}(a b:By)(d:A7 a.length=true)(e:A7 b.length=true):QY LF a b c=c (Bj a b):=by
 have f:=G7;have i:=Z8 d;have j:=Z8 e;have g:(pcs 46 a).length<=2000000000:=by rw[Fc];have:=p9 (a:=(46:UInt8)) (l:=a);omega
 have h:(pcs 46 b).length<=2000000000:=by rw[Fc];have:=p9 (a:=(46:UInt8)) (l:=b);omega
 unfold QY;rw[d,e];simp only[cond_true,vl,show u8n (46:Int)=(46:UInt8) from rfl];exact Uv c (pcs 46 a) (pcs 46 b) g h (pcs 46 a).length 1 LF (by omega) (by omega) (by omega) (by omega)
theorem Pw{R:Type}(z t:Bool)(E:List Ent)(b:List Blk->Option R)(c:Bool->Bool->LL->Option R)(d:(F1 E).all smE=true)(g:E.length<=1000000000):∀(r i m:Nat),i+r=E.length->r<m->
  Bz LF m z t (F1 E) (i:Int) b c=if VQ (E.drop i) then b [] else c z t (F1 E)
 | 0,i,m,f,h=>by
  obtain⟨m,rfl⟩:∃q,m=q+1:=⟨m-1,by omega⟩
  rw[Bz,F3 (by rw[D4];omega),b9 (by omega)];rfl
 | r+1,i,m,f,h=>by
  obtain⟨m,rfl⟩:∃q,m=q+1:=⟨m-1,by omega⟩
  have a:i<E.length:=by omega
  have e:A2 ((i:Int)+1)=((i+1:Nat):Int):=by rw[A3];rfl
  rw[Bz,C6 (by rw[D4];omega),M5 (by omega) (by rw[D4];omega),b8,Ha a,Oc a,CM d a,e,Pw z t E b c d g r (i+1) m (by omega) (by omega),Sv noE a];simp only[cond_true];unfold VQ;rw[List.any_cons];cases K5 (E.getD i noE).1<;>rfl
theorem Ur{R:Type}(z t:Bool)(E O:List Ent)(i:Nat)(d:Bool->Bool->LL->LL->Int->Int->Option R)(c:i<E.length)(f:(F1 E).all smE=true)(e:(F1 O).all smE=true)(n:O.length<=1000000000)(k:E.length<=1000000000):∀(r j m:Nat),j+r=O.length->r<m->
  Ca LF m z t (F1 E) (F1 O) (i:Int) (j:Int) d=d z t (F1 E) (F1 O) (i:Int) ((j+kE (E.getD i noE) (O.drop j):Nat):Int)
 | 0,j,m,l,o=>by
  obtain⟨m,rfl⟩:∃q,m=q+1:=⟨m-1,by omega⟩
  rw[Ca,F3 (by rw[D4];omega),b9 (by omega)];rfl
 | r+1,j,m,l,o=>by
  obtain⟨m,rfl⟩:∃q,m=q+1:=⟨m-1,by omega⟩
  have b:j<O.length:=by omega
  have g:A2 ((j:Int)+1)=((j+1:Nat):Int):=by rw[A3];rfl
  rw[Ca,C6 (by rw[D4];omega),M5 (by omega) (by rw[D4];omega),M5 (by omega) (by rw[D4];omega),b8,b8,Ha b,Ha c,Oc b,Oc c,CM f c,g,Ur z t E O i d c f e n k r (j+1) m (by omega) (by omega),Sv noE b];simp only[cond_true,vl,CM e b];have h:ltI (Bj (O.getD j noE).1 (E.getD i noE).1) 0=O9 (O.getD j noE).1 (E.getD i noE).1:=by rw[Jp];exact Gn _ _
  rw[h];unfold kE;rw[List.takeWhile_cons];cases O9 (O.getD j noE).1 (E.getD i noE).1 with
  | true=>
   simp only[cond_true,if_true,j1];rw[show j+1+(x9 (λa=>O9 a.1 (E.getD i noE).1) (O.drop (j+1))).length=j+((x9 (λa=>O9 a.1 (E.getD i noE).1) (O.drop (j+1))).length+1) by omega]
  | false=>rfl
theorem TX{R:Type}(z t:Bool)(E O:List Ent)(i q:Nat)(d:Bool->Bool->LL->Int->LL->Option R)(c:i<E.length)(g:q<=O.length)(f:O.length<=1000000000)(e:E.length<=1000000000) :
  Ea z t (F1 E) (F1 O) (i:Int) (q:Int) d=d z t (F1 E) (i:Int) (F1 (O.take q++E.getD i noE::O.drop q)):=by
 unfold Ea;have a:cut (F1 O) 0 (q:Int)=F1 (O.take q):=by rw[Bk];simp[F1,z7]
 have b:cut (F1 O) (q:Int) (((F1 O).length:Nat):Int)=F1 (O.drop q):=by rw[Af];simp[F1,List.map_drop]
 rw[P3 (by omega) (by omega) (by rw[D4];omega),M5 (by omega) (by rw[D4];omega),b8,Ad3 c,Oc c,An3 c,a,b,P3 (by omega) (by rw[D4];omega) (by omega)];simp only[cond_true,vl,D4,List.length_append,j1,List.length_nil];have h:(O.take q).length<=O.length:=by rw[o5];omega
 have j:(O.drop q).length<=O.length:=by rw[v7];omega
 rw[E9 (by omega),E9 (by omega),E9 (by omega)];simp only[cond_true]
 congr 1
 simp[F1,Nx]
abbrev PS:Blk:=.arr true 23 2 []
theorem WR(l:List Ent)(e:Ent):isE (l++[e])=Of e (isE l):=by unfold isE;rw[List.foldl_append];rfl
theorem Ut{R:Type}(z t:Bool)(E:List Ent)(o:Blk->List Blk->Option R)(p:LL->Option R)(w:(F1 E).all smE=true)(y:E.length<=1000000000):∀(r i m:Nat),i+r=E.length->r<m->((E.take i).map h9).Nodup->
  U8 LF m z t (F1 E) (F1 (isE (E.take i))) (i:Int) o p=if (E.map h9).Nodup then p (F1 (isE E)) else o PS []
 | 0,i,m,M,P,v=>by
  obtain⟨m,rfl⟩:∃q,m=q+1:=⟨m-1,by omega⟩
  rw[o9 (by omega)] at v ⊢;rw[U8,F3 (by rw[D4];omega),if_pos v];rfl
 | r+1,i,m,M,P,v=>by
  obtain⟨m,rfl⟩:∃q,m=q+1:=⟨m-1,by omega⟩
  have J:=G7;have d:i<E.length:=by omega
  have D:A2 ((i:Int)+1)=((i+1:Nat):Int):=by rw[A3];rfl
  have n:E.take (i+1)=E.take i++[E.getD i noE]:=by
   rw[b7,c9 d,j6,List.take_succ_eq_append_getElem d]
  have Q:(isE (E.take i)).length=i:=by rw[(Tn _).length_eq,o5];omega
  have B:(F1 (isE (E.take i))).all smE=true:=by
   rw[k9] at w ⊢;intro x T;obtain⟨e,L,rfl⟩:=s9.1 T;exact w _ (s9.2 ⟨e,List.mem_of_mem_take (Ac0.1 L),rfl⟩)
  have l:=WT (e:=E.getD i noE) (KW (E.take i));have N:=Ak9 (E.getD i noE) (isE (E.take i));have g:((isE (E.take i)).map h9).contains (E.getD i noE).1=((E.take i).map h9).contains (E.getD i noE).1:=by
   rw[Bool.eq_iff_iff,j2,j2];exact((Tn (E.take i)).map h9).mem_iff
  rw[U8,C6 (by rw[D4];omega)];simp only[cond_true];have I:=λk=>Ur (R:=R) z t E (isE (E.take i)) i k d w B (by omega) y (isE (E.take i)).length 0 LF (by omega) (by omega)
  simp only[x6,x8,u3] at I;rw[I];generalize K:isE (E.take i)=O at *;generalize S:kE (E.getD i noE) O=q at *;have j:=λk=>TX (R:=R) z t E O i q k d N (by omega) y
  have f:F1 (O.take q++E.getD i noE::O.drop q)=F1 (isE (E.take (i+1))):=by
   rw[n,WR,K,Tj,S]
  have c:¬((E.take i).map h9).contains (E.getD i noE).1=true->((E.take (i+1)).map h9).Nodup:=λh=>by
   rw[n,w6,y9,aa4,u0];refine⟨v,by simp,λa G b H e=>?_⟩;simp at H;subst e;rw[H] at G;exact h (j2.2 G)
  have cont:¬((E.take i).map h9).contains (E.getD i noE).1=true->U8 LF m z t (F1 E) (F1 (isE (E.take (i+1)))) ((i+1:Nat):Int) o p=if (E.map h9).Nodup then p (F1 (isE E)) else o PS []:=λh=>
   Ut z t E o p w y r (i+1) m (by omega) (by omega) (c h)
  by_cases u:q<O.length
  ·rw[C6 (by rw[D4];omega),M5 (by omega) (by rw[D4];omega),b8,Ha u,Oc u,M5 (by omega) (by rw[D4];omega),b8,Ha d,Oc d];simp only[cond_true,vl];rw[show decide (q<O.length)=true by simpa using u,s7,g] at l;cases C:((O.getD q noE).1==(E.getD i noE).1) with
   | true=>
    rw[C] at l;have A:¬(E.map h9).Nodup:=λh=>by
     have F:((E.take (i+1)).map h9).Nodup:=by
      rw[z7];exact h.sublist (List.take_sublist _ _)
     rw[n,w6,y9,aa4,u0] at F;exact F.2.2 _ (j2.1 l.symm) _ (by simp) rfl
    rw[if_neg A];rfl
   | false=>
    rw[C] at l;simp only[cond_false,j,D,f];exact cont (by rw[<-l];simp)
  ·rw[F3 (by rw[D4];omega)];simp only[cond_false,j,D,f,vl];rw[show decide (q<O.length)=false by simpa using u,x3,g] at l;exact cont (by rw[<-l];simp)
end
section
open Go Go.Proofs
set_option maxRecDepth 100000
def Tru(x:Option (PV × List Blk × Unit)):Prop:=∃H,x=some (.s (.bool true),H,())
end
section
open Go Go.Op Go.Proofs
set_option maxRecDepth 100000
theorem NK{R:Type}(z t:Bool)(E:List Ent)(c:Blk->List Blk->Option R)(d:LL->Option R)(f:Unit->Option R)(j:(F1 E).all smE=true)(g:E.length<=1000000000) :
  Eb LF LF z t (F1 E) c d f=if E.isEmpty then f () else if (E.map h9).Nodup then d (F1 (isE E)) else c PS []:=by
 have h:=G7;have a:∀m,m=LF->∀k:Bool->Bool->LL->Option R,Hd LF m z t (F1 E) k=k z t (F1 E):=λm i k=>by
  obtain⟨q,rfl⟩:∃q,m=q+1:=⟨m-1,by omega⟩
  rw[Hd]
 have b:∀m,m=LF->Eb LF m z t (F1 E) c d f=if E.isEmpty then f () else if (E.map h9).Nodup then d (F1 (isE E)) else c PS []:=λm i=>by
  obtain⟨q,rfl⟩:∃q,m=q+1:=⟨m-1,by omega⟩
  rw[Eb];cases E with
  | nil=>rfl
  | cons e r=>
   rw[C6 (by rw[D4,j1];omega),cond_true,a LF rfl];unfold Lz;rw[M5 (by omega) (by rw[D4,j1];omega)];have:=Ut (R:=R) z t (e::r) c d j g r.length 1 q (by rw[j1];omega) (by rw[j1] at g;omega) (by simp);refine j0 ?_ this;rfl
 exact b LF rfl
theorem GM(z t:Bool)(l:LL)(m:l.all La=true)(g:l.all smE=true)(n:A7 l.length=true){b:Bool}(i:(Ua (l.map S9)==0)=b) :
  ∃r H,QW z t l=rv r H/\r.stab [2,0] H=cond b (.tup [.s (.sl (aa3 (l.map S9)) (aa3 (l.map S9)) 2 (F1 (isE (l.map S9)))),pI 0]) (.tup [.s (.sl true true 2 []),pI (Ua (l.map S9):Nat)]):=by
 have o:=G7;have d:=Z8 n;have j:=QD m;generalize w:l.map S9=E at j i ⊢;subst j;rw[D4] at d;subst i;unfold QW GD Ua;by_cases f:1000<E.length
 ·rw[C6 (by rw[D4];omega),if_pos f];exact⟨_,_,rfl,rfl⟩
 rw[F3 (by rw[D4];omega),if_neg f,cond_false];have k:=λq u=>Pw (R:=PV × List Blk × Unit) z t E q u g d E.length 0 LF (by omega) (by omega)
 simp only[x6,x8] at k;rw[k];cases v:VQ E with
 | true=>exact⟨_,_,rfl,rfl⟩
 | false=>
  simp only[Bool.false_eq_true,if_false];rw[NK z t E _ _ _ g d];cases c:KM (E.map h9) with
  | true=>
   have p:¬(E.map h9).Nodup:=λh=>by rw[Sx.2 h] at c;cases c
   have e:E.isEmpty=false:=by
    cases E with
    | nil=>cases c
    | cons a r=>rfl
   rw[e,if_neg p];exact⟨_,_,rfl,rfl⟩
  | false=>
   rw[if_pos (Sx.1 c)];cases E with
   | nil=>exact⟨_,_,rfl,rfl⟩
   | cons a r=>exact⟨_,_,rfl,rfl⟩
end
section
open Go Go.Proofs
set_option maxRecDepth 100000
section
theorem Aj3:B7 a7 GX 26 PM:=xf [] (Ep LF) Rq rfl ⟨Vh,trivial⟩ rfl (by kernel_rfl) follows λargs=>by
 unfold Rq;split
 ·rename_i s p;exact λa=>λb=>⟨rfl,rfl,rfl,_,_,(YB LF noY () 0 s p).trans (NW s p a b),rfl⟩
 ·trivial
theorem Aj1:B7 a7 GX 15 Zg:=xf [2,0] (D3 LF) Gf rfl ⟨ZI,Aj3,trivial⟩ rfl (by kernel_rfl) follows λargs=>by
 unfold Gf;split
 ·rename_i b a l;exact λh=>λi=>λj=>⟨λd=>(let⟨g,e,c,f⟩:=GM b a l h i j d;⟨rfl,rfl,rfl,g,e,(GE LF noY () 0 b a l).trans c,f⟩),λd=>(let⟨g,e,c,f⟩:=GM b a l h i j d;⟨rfl,rfl,rfl,g,e,(GE LF noY () 0 b a l).trans c,f⟩)⟩
 ·trivial
end
end
section
open Go Go.Op Go.Proofs
set_option maxRecDepth 100000
theorem B7.blur{P:Program}{G:GT}{g:Nat}{pf pf':List PV->Tr}(h:B7 P G g pf)(hw:∀args ret Hc,F5 (pf' args)=some (ret,Hc)->∃x y,ret = .tup [.bad,y]/\F5 (pf args)=some (.tup [x,y],Hc)):B7 P G g pf':=by
 intro args ret Hc hpf C hP hGe Γ w Vs hnm hH hG hc;obtain⟨x,y,rfl,hpf2⟩:=hw args ret Hc hpf;refine(h args _ Hc hpf2 C hP hGe Γ w Vs hnm hH hG hc).mono ?_;rintro V w' ⟨Γ1,Φ1,hs,hH1,hv,hvn,hi1,hd1⟩;refine⟨Γ1,Φ1,hs,hH1,?_,λc hc=>hvn c (by simp only[PV.nms,B3,List.nil_append,List.append_nil,List.mem_append] at hc ⊢;exact .inr hc),hi1,hd1⟩;cases hv with
 | tup _ A As hA ha hl=>
  refine .tup _ A As hA ha λj hj=>?_
  match j,hj with
  | 0,_=>exact .bad _
  | 1,_=>exact hl 1 (by simp)
theorem ZJ:B7 a7 GX 15 DH:=by
 refine B7.fix (pf:=Na) _ (B7.blur (pf:=Zg) Aj1 ?_);intro args ret f h;unfold Na at h;split at h
 ·rename_i z t l;obtain⟨a,h⟩:=G5 h;obtain⟨b,h⟩:=G5 h;obtain⟨d,h⟩:=G5 h;obtain⟨rfl,rfl⟩:=N0 h;have e:Zg [.s (.sl z t 2 l)]=Gf [.s (.sl z t 2 l)]:=rfl;rw[e];unfold Gf;simp only[F5,Ac,a,b,d,cond_true];cases c:(Ua (List.map S9 l)==0) with
  | true=>
   rw[eq_of_beq c];exact⟨_,_,rfl,rfl⟩
  | false=>exact⟨_,_,rfl,rfl⟩
 ·cases h
theorem XF(h:By)(b:Bool)(a:K5 h=true):Ua [(h,b)]=0:=by unfold Ua VQ;simp[a,KM]
theorem OG{R:Type}{a:Unit->Option R}(s:By):RE LF s a=a ():=by
 unfold RE;have b:=G7;obtain⟨q,e⟩:∃q,LF=q+1:=⟨LF-1,by omega⟩
 have:∀m,m=LF->Hf LF m s (λ_=>a ())=a ():=λm c=>by
  obtain⟨q,rfl⟩:∃q,m=q+1:=⟨m-1,by omega⟩
  rw[Hf]
 exact this LF rfl
theorem UQ{R:Type}{a:By->Option R}(s:By):Ap6 LF s a=a s:=rfl
theorem UU{R:Type}{a:Unit->Option R}(s:By):Ap9 LF s a=a ():=rfl
theorem UR{R:Type}{a:Unit->Option R}:Ap7 LF a=a ():=rfl
theorem US{R:Type}{a:Unit->Option R}:Ap8 LF a=a ():=rfl
theorem RH(h:By)(b:Bool)(a:A7 h.length=true){v:Bool}(d:K5 h=v):∃r H,YS h b=rv r H/\r.stab [] H=cond v (pI 3) (pI 14):=by
 subst d;unfold YS Ah2;rw[a];cases c:K5 h with
 | true=>exact⟨_,_,rfl,rfl⟩
 | false=>exact⟨_,_,rfl,rfl⟩
theorem HH(h:By)(b:Bool)(a:A7 h.length=true){v:Bool}(g:K5 h=v):∃r H,RD h b=rv r H/\r.stab [0,0] H=cond v (.tup [.bad,pI 0]) (.tup [.s (.sl true true 0 []),pI 14]):=by
 subst g;unfold RD RC;rw[a];cases c:K5 h with
 | true=>
  have d:List.all [[SV.str h,SV.bool b]] La=true:=rfl;have e:List.all [[SV.str h,SV.bool b]] smE=true:=by simp[smE,elS,SV.gS,a]
  have f:Ua (List.map S9 [[SV.str h,SV.bool b]])=0:=XF h b c;simp only[cond_true,cond_false,s6,d,e,f,vl];exact⟨_,_,rfl,rfl⟩
 | false=>exact⟨_,_,rfl,rfl⟩
theorem XC(h:By)(b:Bool):Tru (evC (DW LF) 1 Unit noY 3 [.agg [pS h,pB b]] [] ()):=by
 refine Eq.subst (motive:=Tru) (Ao1 (σ:=Unit) LF noY () 0 h b).symm ?_;unfold ltn;by_cases a:(400:Int)<h.length
 ·rw[C6 a];exact⟨_,rfl⟩
 have c:A7 h.length=true:=Q0 (by omega);rw[A4];simp only[cond_false,c,cond_true];cases K5 h<;>exact⟨_,rfl⟩
theorem RO{P:Program}{t:Nat}{v:PV}(h:CZ P t v)(e:Fz P 20 t=some [.str,.bool])(g:Sc P t=true):∃a b,v = .agg [.s (.str a),.s (.bool b)]:=by
 obtain⟨i,l,d,f,c⟩:=h;rw[e] at d;obtain rfl:=p5 d;simp only[Ty.ofL,Ty.of] at f;obtain⟨_,_,rfl,⟨a,rfl,_⟩,_,_,rfl,⟨b,rfl⟩,rfl⟩:=f;rcases c with⟨_,rfl⟩|⟨c,_⟩
 ·exact⟨a,b,rfl⟩
 ·rw[g] at c;cases c
theorem Ac6(args:List PV)(h:Eh a7 [23] args):∃d c,evC (DW LF) d Unit noY 3 args [] ()=some (.s (.bool true),c,()):=by obtain⟨g,f,rfl,e,rfl⟩:=h;obtain⟨a,b,rfl⟩:=RO e (by kernel_rfl) (by kernel_rfl);exact⟨1,XC a b⟩
end
section
open Go
theorem T7.rowS{C:Cfg}{σ:Type}{I:σ->(Nat->Prop)->(Nat->Prop)->World->Prop}{Γ:Ctx}{H Hc:List Blk}{w w':World}{Φ:Nat->Prop}{s':σ}{V:Value}{b:Nat}(hI:HI I)
  (h:T7 C I Γ H w Φ (.fl b) Hc s' V w') (hb:H.length<=b) (hl:H.length<=Hc.length) (hlow:Vp H.length (Hc.take H.length)=true):T7 C I Γ H w Φ (PV.snap Hc (.fl b)) (Hc.take H.length) s' V w':=by
 obtain⟨Γ1,Φ1,hs,hH1,hv,hvn,hi1,hd1⟩:=h;have hcut:=KC hH1 hl hlow;obtain⟨q1,q2⟩:=CF hH1 (L:=H.length) (b:=b) (by omega) (.inl rfl) hv;have hlen:(Hc.take H.length).length=H.length:=by rw[o5];omega
 have key:∀c g,(Γ1.cut H.length).nm c=some g->c<H.length/\Γ1.nm c=some g:=λc g h=>by
  simp only[Ctx.cut] at h;grind
 have hst:∀g,(Γ1.cut H.length).St g->Γ1.St g\/w.heap.size<=g:=λg hg=>by
  rcases hg with hg|⟨c,hc,hg⟩
  ·exact .inl hg
  ·rcases hs.own c g hg with⟨q,_⟩|q
   ·omega
   ·exact .inr q
 refine⟨Γ1.cut H.length,Φ1,⟨hs.os,hs.tape,hs.output,hs.size,λg hg=>.inl (hs.sub g hg),λg hg=>?_,λc g h=>hs.own c g (key c g h).2,hs.foot,hs.frame,hs.yv,by rw[hlen];exact v8 _,λc hc hf=>?_⟩,hcut,q1,λc hc=>(by rw[q2] at hc;cases hc),?_,λc g h=>hd1 c g (key c g h).2⟩
 ·rcases hst g hg with q|q
  ·exact hs.stnew g q
  ·exact .inr q
 ·obtain⟨m1,m2,m3⟩:=hs.keep c hc hf;refine⟨by simp only[Ctx.cut];rw[if_pos hc];exact m1,?_,m3⟩;rw[<-m2];simp only[A0,List.getElem?_take,hc,if_true]
 ·refine hI.mono s' Γ1.St Φ1 w' (Γ1.cut H.length).St w' hi1 (λ_ h=>.inl h) (λg hg hp=>?_) (λg hg=>hcut.stlt g hg) (λ_ _=>rfl) (v8 _) rfl rfl rfl;rcases hg with hg|⟨c,_,hg⟩
  ·exact(hI.foot _ _ _ _ hi1 g hp).2 hg
  ·exact hd1 c g hg hp
theorem Wd{C₀:Cfg}{g:Nat}{o:List PV->List Blk->Tr}(z:XOK C₀)(x:Dm C₀)(G:C₀.P.follows .mixedOrders=true)
  (h:∀args H ret e,F5 (o args H)=some (ret,e)->∀(c:Type) (f:Yh c) (s:c),∃d b a,evC C₀ d c f g args H s=some (.fl b,a,s)/\H.length<=b/\H.length<=a.length/\Vp H.length (a.take H.length)=true/\a.take H.length=e/\PV.snap a (.fl b)=ret):Ir C₀.P C₀.G g o:=by
 intro C y u c I f S n M args H s ret e j T U w p k v D F B A J;obtain⟨d,b,a,i,q,r,t,rfl,rfl⟩:=h args H ret e j c f s;refine(Av z x G d c I f S n M g args H s _ a s i T U w p k v (D.congr u.symm) F B A J).mono ?_;rintro V w' K;obtain⟨l,m,L,N,O,P,Q,R⟩:=K.rowS n q r t;exact⟨l,m,L.congr y.symm,N,O,P,Q,R⟩
end
section
open Go Go.Proofs
set_option maxRecDepth 100000
def nmA:By:=[97,46,98,46,99,111,109]
def nmB:By:=[120,46,98,46,99,111,109]
def lbR(x:UInt8):Tr:=.ret (.s (.sl false false 1 [[.str [99,111,109]],[.str [98]],[.str [x]]])) [.box [.bad]]
def Yo:List PV->List Blk->Tr
 | [.fnr (.func 30) [] [.ptr 0 0 0]],[.box [.s (.str s)]]=>cond (s==nmA) (lbR 97) (cond (s==nmB) (lbR 120) .fail)
 | _,_=>.fail
noncomputable def AC:Cfg:=D1 100000 [20,32,30] (λ_=>none) [(31,Ei)]
noncomputable abbrev WE(s:By):Option (PV × List Blk × Unit):=evC AC 8 Unit noY 20 [.fnr (.func 30) [] [.ptr 0 0 0]] [.box [.s (.str s)]] ()
def QA:Option (PV × List Blk × Unit)->PV × List Blk × Bool
 | some (.fl b,H,_)=>(PV.snap H (.fl b),H.take 1,aa5 1 b&&(aa5 1 H.length&&Vp 1 (H.take 1)))
 | _=>(.bad,[],false)
theorem ED(s:By)(x:UInt8)(h:QA (WE s)=(.s (.sl false false 1 [[.str [99,111,109]],[.str [98]],[.str [x]]]),[.box [.bad]],true))
  (e:∀(a:Type) (f:Yh a) (t:a),evC AC 8 a f 20 [.fnr (.func 30) [] [.ptr 0 0 0]] [.box [.s (.str s)]] t=(WE s).map λp=>(p.1,p.2.1,t)) (a:Type) (f:Yh a) (t:a) :
  ∃d b c,evC AC d a f 20 [.fnr (.func 30) [] [.ptr 0 0 0]] [.box [.s (.str s)]] t=some (.fl b,c,t)/\[Blk.box [.s (.str s)]].length<=b/\[Blk.box [.s (.str s)]].length<=c.length/\Vp [Blk.box [.s (.str s)]].length (c.take [Blk.box [.s (.str s)]].length)=true/\c.take [Blk.box [.s (.str s)]].length=[.box [.bad]]/\PV.snap c (.fl b) = .s (.sl false false 1 [[.str [99,111,109]],[.str [98]],[.str [x]]]):=by
 have e:=e a f t;generalize WE s=r at h e;unfold QA at h;split at h
 ·rename_i b H u;simp only[Prod.mk.injEq,j9,y5] at h;obtain⟨g,i,j,k,l⟩:=h;exact⟨8,b,H,e,j,k,l,i,g⟩
 ·simp at h
noncomputable def JL:Cfg:=D1 100000 [4,12,22,7,8,18,19,10,9,17,30,35,55,36,37] (λ_=>none)
 [(16,PG),(31,Ei)]
 (lend:=[22]) (Y:=[(20,Yo)]) (Z:=[(38,Rh)])
 (fr:=[(21,[1,5],(List.range 60).filter λx=>!(x==3||x==9))])
theorem VT:Qy (evC JL 12 Unit noY 4 [] [] ())=true:=by kernel_rfl
end
section
open Go
theorem Pe{x:List By}(h:x≠[]):AO [] x=-1/\AO x []=1:=by
 cases x with
 | nil=>exact absurd rfl h
 | cons a r=>exact⟨rfl,rfl⟩
theorem Ld(s:By):(F4 46 s=-1/\s.drop (F4 46 s+1).toNat=s/\rl s=[s])\/(0<=F4 46 s/\F4 46 s<s.length/\rl s=s.drop (F4 46 s+1).toNat::rl (s.take (F4 46 s).toNat)):=by
 rcases Ez s with⟨b,a⟩|⟨p,q,rfl,b,a⟩
 ·exact .inl ⟨a,by rw[a];rfl,Ao8 b⟩
 ·refine .inr ⟨by omega,by rw[a];simp;omega,?_⟩;rw[a,Ao9 p b,show((p.length:Int)+1).toNat=p.length+1 by omega,b8,List.take_left]
  congr 1
  simp
theorem WB(a b:By)(i k:Int)(m:i=F4 46 a)(n:k=F4 46 b) :
  (Gb (a.drop (i+1).toNat) (b.drop (k+1).toNat)≠0->Bj a b=Gb (a.drop (i+1).toNat) (b.drop (k+1).toNat))/\
  (Gb (a.drop (i+1).toNat) (b.drop (k+1).toNat)=0->(i<0\/k<0)->Bj a b=Aa0 (min i 0) (min k 0))/\
  (Gb (a.drop (i+1).toNat) (b.drop (k+1).toNat)=0->0<=i->0<=k->Bj a b=Bj (a.take i.toNat) (b.take k.toNat)):=by
 have c:∀x y:By,Bj x y=AO (rl x) (rl y):=λx y=>rfl
 rw[c,c];rcases Ld a with⟨f,j,d⟩|⟨f,j,d⟩<;>rcases Ld b with⟨g,l,e⟩|⟨g,l,e⟩<;>rw[<-m] at f j<;>rw[<-n] at g l
 ·rw[j,l,d,e];refine⟨λh=>U2 h,λh _=>?_,λ_ h=>by omega⟩;rw[Dq h,U1,f,g];rfl
 ·rw[<-n] at e;rw[j,d,e];refine⟨λh=>U2 h,λh _=>?_,λ_ h=>by omega⟩;rw[Dq h,U1,(Pe (Al1 _)).1,f,u7 g];rfl
 ·rw[<-m] at d;rw[l,e,d];refine⟨λh=>U2 h,λh _=>?_,λ_ _ h=>by omega⟩;rw[Dq h,U1,(Pe (Al1 _)).2,g,u7 f];rfl
 ·rw[<-m] at d;rw[<-n] at e;rw[d,e];refine⟨λh=>U2 h,λh o=>by omega,λh _ _=>?_⟩;rw[Dq h,U1]
end
section
open Go Go.Proofs Go.RowKit
set_option maxRecDepth 100000
theorem Aq2(x:ByteArray)(w:World):Calls a7 83 #[.string x] w λe w'=>e = .returned (.bool false)/\w'=w:=by
 go_enter ab7,Tryz.ntmps83
 go_wp2
 go_ret
 exact⟨by simp,rfl⟩
theorem Aq1(x:Int)(w:World):Calls a7 84 #[.int .i64 x] w λe w'=>e = .returned (.bool false)/\w'=w:=by
 go_enter ab8,Tryz.ntmps84
 go_wp2
 go_ret
 exact⟨by simp,rfl⟩
theorem Aa1(x y:Int):Aa0 x y=if x<y then -1 else if y<x then 1 else 0:=by unfold Aa0;rw[Jp,Jp];by_cases h:x<y<;>by_cases g:y<x<;>simp[h,g]
theorem Av4(x y:Int)(w:World):Calls a7 59 #[.int .i64 x,.int .i64 y] w λe w'=>e = .returned (.int .i64 (Aa0 x y))/\w'=w:=by
 have b:∀args w,(callFunc 84 args).run a7 w = .ok (.enter 84 args) w:=enters_of ab8 (by kernel_rfl) rfl
 go_enter ab6,Tryz.ntmps59
 go_wp2_with (go_at_fn 84;refine(Aq1 _ _).mono ?_;rintro e w' ⟨rfl,a⟩;rw[a])
 all_goals (go_ret;refine⟨?_,rfl⟩;rw[Aa1];(repeat' split)<;>first|rfl|(exfalso;omega))
theorem ZZ(x y:ByteArray):Gb x.data.toList y.data.toList=if Op.bytesLess x.toList y.toList=true then -1 else if (!x.toList==y.toList)=true then 1 else 0:=by
 rw[s5,s5,<-Kl];generalize x.data.toList=a;generalize y.data.toList=b;unfold Gb;cases h:bytesLess a b with
 | true=>rfl
 | false=>
  have e:(!a==b)=bytesLess b a:=by
   rw[U0] at h ⊢;have h:=of_decide_eq_false h;by_cases c:a=b
   ·subst c;simp
   ·have:b<a:=by
     apply Decidable.byContradiction;intro g;exact c (u9 (r9.1 g) (r9.1 h))
    simp[c,this]
  rw[e];cases bytesLess b a<;>rfl
theorem Av5(x y:ByteArray)(w:World):Calls a7 58 #[.string x,.string y] w λe w'=>e = .returned (.int .i64 (Gb x.data.toList y.data.toList))/\w'=w:=by
 have b:∀args w,(callFunc 83 args).run a7 w = .ok (.enter 83 args) w:=enters_of ab7 (by kernel_rfl) rfl
 go_enter ab5,Tryz.ntmps58
 go_wp2_with (go_at_fn 83;refine(Aq2 _ _).mono ?_;rintro e w' ⟨rfl,a⟩;rw[a])
 all_goals (go_ret;refine⟨?_,rfl⟩;rw[ZZ];(try simp[*]))
theorem WU(s:ByteArray):Lib.lastIndexByte s 46=F4 46 s.data.toList:=by
 have u:s.size=s.data.toList.length:=by rw[j3];rfl
 have f:∀j (o:j<s.data.toList.length),((s.data[j]!).toNat:Int)=46↔s.data.toList[j]=46:=λj o=>by
  have k:j<s.data.size:=by simpa using o
  rw[getElem!_pos s.data j k,Array.getElem_toList];constructor
  ·intro h;exact UInt8.toNat_inj.1 (show s.data[j].toNat=46 by omega)
  ·intro h;rw[h];rfl
 rcases Lib.lastIndexByte_spec s 46 with⟨e,l⟩|⟨i,w,e,t,l⟩
 ·rw[e];rcases Ez s.data.toList with⟨_,d⟩|⟨p,q,a,d,n⟩
  ·exact d.symm
  ·have m:p.length<s.data.toList.length:=by rw[a];simp
   exact absurd ((f p.length m).2 (by simp[a])) (l p.length (by omega))
 ·rw[e];have b:i<s.data.toList.length:=by omega
  have c:=(f i b).1 t;rcases Ez s.data.toList with⟨a,_⟩|⟨p,q,a,d,n⟩
  ·exact absurd (c▸o0 b) a
  ·rw[n];have m:p.length<s.data.toList.length:=by rw[a];simp
   have g:=(f p.length m).2 (by simp[a]);by_cases r:i<p.length
   ·exact absurd g (l p.length r (by omega))
   ·by_cases v:p.length<i
    ·refine absurd ?_ d;have:s.data.toList[i]? = some 46:=by rw[c9 b,c]
     rw[a,List.getElem?_append_right (by omega),show i-p.length=(i-p.length-1)+1 by omega,List.getElem?_cons_succ] at this;exact List.mem_of_getElem? this
    ·omega
theorem YZ(s:ByteArray)(a:s.size<4611686018427387904)(w:World):Calls a7 31 #[.string s,.int .u8 46] w λe w'=>e = .returned (.int .i64 (F4 46 s.data.toList))/\w'=w:=by rw[<-WU];exact Any.strings_LastIndexByte Tryz.lays149 s 46 a w
theorem IA(s:ByteArray)(l:Int)(a:0<=l)(b:l<=s.size)(w:World):(j8 9 (.string s) (some (.int .i64 l)) none none).run a7 w = .ok (.string (s.extract l.toNat s.size)) w:=by simp[j8,aa7,run_underlying o6,s8,run_sliceBound,y7,a,b]
theorem YM(s:ByteArray)(l:Int)(a:0<=l)(b:l<=s.size)(w:World):(j8 9 (.string s) none (some (.int .i64 l)) none).run a7 w = .ok (.string (s.extract 0 l.toNat)) w:=by simp[j8,aa7,run_underlying o6,s8,run_sliceBound,y7,a,b]
theorem EP(s:ByteArray)(n:Nat):(s.extract n s.size).data.toList=s.data.toList.drop n:=by rw[o7,p7];simp only[aa2];exact o9 (by rw[v7,j3];exact v8 _)
theorem WL(s:ByteArray)(n:Nat):(s.extract 0 n).data.toList=s.data.toList.take n:=by rw[o7,p7];simp[aa2]
set_option maxHeartbeats 4000000 in theorem Aq4(a b:ByteArray)(R:a.size<=1000000000)(S:b.size<=1000000000)(w:World):Calls a7 40 #[.string a,.string b] w λe w'=>e = .returned (.int .i64 (Bj a.data.toList b.data.toList))/\∃q,w'=w.drewN q:=by
 have Z:∀args w,(callFunc 31 args).run a7 w = .ok (.enter 31 args) w:=enters_of Tryz.func31 (by kernel_rfl) rfl;have N:∀args w,(callFunc 58 args).run a7 w = .ok (.enter 58 args) w:=enters_of ab5 (by kernel_rfl) rfl;have Y:∀args w,(callFunc 59 args).run a7 w = .ok (.enter 59 args) w:=enters_of ab6 (by kernel_rfl) rfl
 go_enter ab4,Tryz.ntmps40
 go_wp2
 go_step3
 go_wp2
 try go_step3
 try go_wp2
 go_loopw [0,1] (λva vb wr=>∃(x y:ByteArray) (n:Nat),va = .string x/\vb = .string y/\x.size<=1000000000/\y.size<=1000000000/\wr=w.drewN n/\Hid (Bj a.data.toList b.data.toList=Bj x.data.toList y.data.toList)) (λva _ _=>match va with | .string x=>x.size|_=>0)
 case atStart=>exact⟨a,b,0,rfl,rfl,R,S,rfl,rfl⟩
 case round=>
  obtain⟨x,y,n,rfl,rfl,hx,hy,r,F⟩:=hrel;obtain⟨i,z⟩:∃i,i=F4 46 x.data.toList:=⟨_,rfl⟩
  obtain⟨k,A⟩:∃k,k=F4 46 y.data.toList:=⟨_,rfl⟩
  have B:x.data.toList.length=x.size:=by rw[j3];rfl
  have C:y.data.toList.length=y.size:=by rw[j3];rfl
  have l:-1<=i/\i<x.size:=by rcases Ld x.data.toList with⟨h,_⟩|⟨h,Q,_⟩<;>omega
  have o:-1<=k/\k<y.size:=by rcases Ld y.data.toList with⟨h,_⟩|⟨h,Q,_⟩<;>omega
  obtain⟨l,T⟩:=l;obtain⟨o,U⟩:=o;have H:∀w,Calls a7 31 #[.string x,.int .u8 46] w λe w'=>e = .returned (.int .i64 i)/\w'=w:=by rw[z];exact YZ x (by omega)
  have I:∀w,Calls a7 31 #[.string y,.int .u8 46] w λe w'=>e = .returned (.int .i64 k)/\w'=w:=by rw[A];exact YZ y (by omega)
  have HI:Hid (i=F4 46 x.data.toList):=z;have L:Hid (k=F4 46 y.data.toList):=A;have M:Hid (wr=w.drewN n):=r;clear z A B C r
  go_wp2_with (go_at_fn 31;refine(H _).mono ?_;rintro e w' ⟨rfl,p⟩;rw[p])
  clear H
  go_wp2_with (go_at_fn 31;refine(I _).mono ?_;rintro e w' ⟨rfl,p⟩;rw[p])
  clear I;have O:aa8.wrap (i+1)=i+1:=by simp[aa1,aa0,x7];omega
  have P:aa8.wrap (k+1)=k+1:=by simp[aa1,aa0,x7];omega
  have W:=IA x (i+1) (by omega) (by omega);have X:=IA y (k+1) (by omega) (by omega)
  go_quiet (first|(go_at_call 58;exact Calls.quiet_of_same (Av5 _ _ _)))
  rw[EP,EP];obtain⟨c,u⟩:∃c,c=Gb (x.data.toList.drop (i+1).toNat) (y.data.toList.drop (k+1).toNat):=⟨_,rfl⟩
  rw[<-u];have J:Hid (c=Gb (x.data.toList.drop (i+1).toNat) (y.data.toList.drop (k+1).toNat)):=u;clear u W X O P N;obtain⟨t,j⟩:∃t,t=wr.drewN nq:=⟨_,rfl⟩
  rw[<-j];have g:Hid (t=w.drewN (n+nq)):=by rw[j,M.out,dRN];rfl
  clear j;generalize n+nq=G at g;have f:Hid (∀v,v=Bj x.data.toList y.data.toList->(w5 (.int .i64 v)=w5 (.int .i64 (Bj a.data.toList b.data.toList))/\∃m,t=w.drewN m)):=λv V=>⟨by rw[F.out,V],G,g.out⟩
  have D:=WB x.data.toList y.data.toList i k HI.out L.out;rw[<-J.out] at D;have ST:Hid (_/\_/\_):=D;clear D
  go_wp2_with (go_at_fn 59;refine(Av4 _ _ _).mono ?_;rintro e w' ⟨rfl,p⟩;rw[p])
  ·have d:c≠0:=by simpa using ‹(c !=0)=true›
   simp only[p4]
   go_ret
   exact f.out _ (ST.out.1 d).symm
  ·have d:c=0:=by simpa using ‹(c !=0)=false›
   simp only[p4]
   go_ret
   exact f.out _ (ST.out.2.1 d (by omega)).symm
  ·have d:c=0:=by simpa using ‹(c !=0)=false›
   have s3:=YM x i (by omega) (by omega);have s4:=YM y k (by omega) (by omega);have E:=ST.out.2.2 d (by omega) (by omega);have K:Hid (Bj x.data.toList y.data.toList=Bj (x.data.toList.take i.toNat) (y.data.toList.take k.toNat)):=E;clear E
   go_quiet (fail)
   go_wp2
   go_roundw
   case rel=>exact⟨x.extract 0 i.toNat,y.extract 0 k.toNat,G+nq,rfl,rfl,by simp[j5];omega,by simp[j5];omega,by rw[g.out,dRN],by rw[F.out,K.out,WL,WL];rfl⟩
   case measure=>simp[j5];omega
  ·have d:c=0:=by simpa using ‹(c !=0)=false›
   simp only[p4]
   go_ret
   exact f.out _ (ST.out.2.1 d (by omega)).symm
theorem WO(w:World)(A B:Obj)(n:Nat):((w.alloc A).alloc B).drewN n=Sort.grow (w.drewN n) #[A,B]:=by
 have h:(w.heap.push A).push B=w.heap++#[A,B]:=by apply Array.toList_inj.1;simp
 show({ (w.drewN n) with heap:=(w.heap.push A).push B }:World) = { (w.drewN n) with heap:=w.heap++#[A,B] }
 rw[h]
theorem Aq3(a b:ByteArray)(p q:Bool)(c:a.size<=1000000000)(d:b.size<=1000000000)(w:World):Calls a7 39 #[.agg #[.string a,.bool p],.agg #[.string b,.bool q]] w λe w'=>e = .returned (.int .i64 (Bj a.data.toList b.data.toList))/\∃n os,w'=Sort.grow (w.drewN n) os:=by
 have h:∀args w,(callFunc 40 args).run a7 w = .ok (.enter 40 args) w:=enters_of ab4 (by kernel_rfl) rfl
 go_enter ab3,Tryz.ntmps39
 go_wp2_with (go_at_fn 40;refine(Aq4 _ _ c d _).mono ?_;rintro e w' ⟨rfl,g,f⟩;rw[f])
 go_ret
 refine⟨rfl,g,#[.cells #[.string a,.bool p] 23,.cells #[.string b,.bool q] 23],?_⟩;exact WO _ _ _ _
end
end Go.Proofs.YtigcfngmhpofjaaGreatDoor.E
namespace Go.Proofs
open Go.Shelf
def Tryz.sortEnt_ren:Go.Shelf.Ren:=⟨fun|6=>38|15=>57|14=>56|28=>81|29=>82|20=>73|21=>74|22=>75|23=>76|24=>77|25=>78|26=>79|27=>80|46=>99|47=>100|48=>101|49=>102|50=>103|57=>123|n=>n,fun|22=>26|24=>23|25=>70|3=>3|39=>84|0=>0|53=>105|55=>107|4=>4|46=>99|45=>98|50=>74|5=>5|9=>9|66=>119|70=>123|76=>138|77=>139|n=>n,fun|n=>n⟩
theorem Tryz.sortEnt:aa6 a7 Tryz.sortEnt_ren:={
 mixed:=by kernel_rfl
 f6:=⟨ab2.name,by decide,Tryz.func38.trans (congrArg some (by kernel_rfl))⟩
 f14:=⟨Tryz.f56.name,by decide,Tryz.func56.trans (congrArg some (by kernel_rfl))⟩
 f15:=Tryz.func57.trans (congrArg some (by kernel_rfl))
 f20:=⟨Tryz.f73.name,by decide,Tryz.func73.trans (congrArg some (by kernel_rfl))⟩
 f21:=⟨Tryz.f74.name,by decide,Tryz.func74.trans (congrArg some (by kernel_rfl))⟩
 f22:=⟨Tryz.f75.name,by decide,Tryz.func75.trans (congrArg some (by kernel_rfl))⟩
 f23:=⟨Tryz.f76.name,by decide,Tryz.func76.trans (congrArg some (by kernel_rfl))⟩
 f24:=⟨Tryz.f77.name,by decide,Tryz.func77.trans (congrArg some (by kernel_rfl))⟩
 f25:=⟨Tryz.f78.name,by decide,Tryz.func78.trans (congrArg some (by kernel_rfl))⟩
 f26:=⟨Tryz.f79.name,by decide,Tryz.func79.trans (congrArg some (by kernel_rfl))⟩
 f27:=⟨Tryz.f80.name,by decide,Tryz.func80.trans (congrArg some (by kernel_rfl))⟩
 f28:=Tryz.func81.trans (congrArg some (by kernel_rfl))
 f29:=Tryz.func82.trans (congrArg some (by kernel_rfl))
 f46:=⟨Tryz.f99.name,by decide,Tryz.func99.trans (congrArg some (by kernel_rfl))⟩
 f47:=Tryz.func100.trans (congrArg some (by kernel_rfl))
 f48:=Tryz.func101.trans (congrArg some (by kernel_rfl))
 f49:=⟨Tryz.f102.name,by decide,Tryz.func102.trans (congrArg some (by kernel_rfl))⟩
 f50:=⟨Tryz.f103.name,by decide,Tryz.func103.trans (congrArg some (by kernel_rfl))⟩
 f57:=⟨Tryz.f123.name,by decide,Tryz.func123.trans (congrArg some (by kernel_rfl))⟩
 t0:=Tryz.underlying0
 a0:=Tryz.isAgg0
 z0:=Tryz.sizeOf0
 v0:=Tryz.zeroValue0
 t3:=Tryz.underlying3
 a3:=Tryz.isAgg3
 z3:=Tryz.sizeOf3
 v3:=Tryz.zeroValue3
 t4:=Tryz.underlying4
 a4:=Tryz.isAgg4
 z4:=Tryz.sizeOf4
 v4:=Tryz.zeroValue4
 t5:=Tryz.underlying5
 a5:=Tryz.isAgg5
 z5:=Tryz.sizeOf5
 v5:=Tryz.zeroValue5
 t9:=o6
 a9:=Tryz.isAgg9
 z9:=Tryz.sizeOf9
 v9:=Tryz.zeroValue9
 t22:=Tryz.underlying26
 a22:=Tryz.isAgg26
 z22:=Tryz.sizeOf26
 v22:=Tryz.zeroValue26
 t25:=Tryz.underlying70
 a25:=Tryz.isAgg70
 z25:=Tryz.sizeOf70
 v25:=Tryz.zeroValue70
 t39:=Tryz.underlying84
 a39:=Tryz.isAgg84
 z39:=Tryz.sizeOf84
 v39:=Tryz.zeroValue84
 t45:=Tryz.underlying98
 a45:=Tryz.isAgg98
 z45:=Tryz.sizeOf98
 v45:=Tryz.zeroValue98
 t46:=Tryz.underlying99
 a46:=Tryz.isAgg99
 z46:=Tryz.sizeOf99
 v46:=Tryz.zeroValue99
 t50:=Tryz.underlying74
 a50:=Tryz.isAgg74
 z50:=Tryz.sizeOf74
 v50:=Tryz.zeroValue74
 t53:=Tryz.underlying105
 a53:=Tryz.isAgg105
 z53:=Tryz.sizeOf105
 v53:=Tryz.zeroValue105
 t55:=Tryz.underlying107
 a55:=Tryz.isAgg107
 z55:=Tryz.sizeOf107
 v55:=Tryz.zeroValue107
 t66:=Tryz.underlying119
 a66:=Tryz.isAgg119
 z66:=Tryz.sizeOf119
 v66:=Tryz.zeroValue119
 t70:=Tryz.underlying123
 a70:=Tryz.isAgg123
 z70:=Tryz.sizeOf123
 v70:=Tryz.zeroValue123
 t76:=Tryz.underlying138
 a76:=Tryz.isAgg138
 z76:=Tryz.sizeOf138
 v76:=Tryz.zeroValue138
 t77:=Tryz.underlying139
 a77:=Tryz.isAgg139
 z77:=Tryz.sizeOf139
 v77:=Tryz.zeroValue139 }
end Go.Proofs
namespace Go.Proofs.YtigcfngmhpofjaaGreatDoor.E
set_option linter.all false
section
open Go Go.Proofs Go.RowKit Go.Sort
set_option maxRecDepth 100000
abbrev cfE:Jc->Jc->Int:=λx y=>Bj x.1.1 y.1.1
def Ku(e:Jc):List Value:=[.string ⟨e.1.1.toArray⟩,.bool e.1.2]
theorem WA(a off size:Nat)(w:World):CmpLays a7 39 #[] Ku 2 cfE a off size w:=by intro m os b c x y;have h:=Aq3 ⟨x.1.1.toArray⟩ ⟨y.1.1.toArray⟩ x.1.2 y.1.2 (by have:=x.2;simpa[x5] using this) (by have:=y.2;simpa[x5] using this) (sortWorldK Ku 2 w a off m b os);exact h
theorem XO{w:World}{a e:Nat}{b:Array Value}{fr:Nat × Nat}(h:w.heap[a]? = some (.cells b e fr))(d:Array Jc) :
  (putRowK Ku 2 w a 0 d).heap[a]? = some (.cells (putCells id 0 (flatK Ku 2 d) b) e fr)/\(∀k,k≠a->(putRowK Ku 2 w a 0 d).heap[k]? = w.heap[k]?):=by
 unfold putRowK putRow mapBlock;constructor
 ·simp only[p6,if_true,h,w9,onCells]
 ·intro k c;simp only[p6];rw[if_neg (λe=>c e.symm)]
theorem Ae4{a:Array Value}{d:Array Jc}{i j:Nat}(e:i<d.size)(f:j<2)(g:d.size*2<=a.size):(putCells id 0 (flatK Ku 2 d) a)[i*2+j]? = some ((Ku d[i]!)[j]!):=by
 have b:i*2+j<d.size*2:=by omega
 have c:i*2+j<a.size:=by omega
 unfold putCells;rw[Array.getElem?_mapIdx,Array.getElem?_eq_getElem c];simp only[w9,size_flatK,Nat.zero_le,true_and,u3,b,if_true,Nat.sub_zero,id];rw[get_flatK _ _ _ _ b,show(i*2+j) / 2=i by omega,show(i*2+j) % 2=j by omega]
theorem Ak0:DK a7 38 Rh:=by
 intro St w x X I Q h;generalize U:Rh x I=pr at h ⊢;obtain⟨b,L⟩:=pr;dsimp only at h ⊢;unfold Rh at U;split at U
 case h_2=>
  obtain⟨rfl,_⟩:=aa9 U;cases h
 have eX:X = .func (.func 39) #[] #[]:=by
  cases Q with
  | fn _ _ _ A B As Bs _ hA hB _ _ _ _=>
   have:A = #[]:=by simpa using hA
   have:B = #[]:=by simpa using hB
   simp_all
 subst eX;obtain⟨hb,hL⟩:=aa9 U;rw[<-hb] at h;simp only[j9] at h;obtain⟨h0,h1,W⟩:=h;have l:∀(p:Option Addr) cap,J2 a7 ((callFunc 38 #[.slice p 0 cap,.func (.func 39) #[] #[]]).run a7 w) λV w'=>V=undef/\w'=w:=λp cap=>
  Y5 (fn:=ab2) (by kernel_rfl) (by kernel_rfl) (by kernel_rfl) ((AnyF.slices_SortFunc_none Tryz.sortEnt p cap _ w).mono λe w' ⟨he,C⟩=>⟨_,he,rfl,C⟩)
 obtain⟨E,rfl⟩:∃E,I=F1 E:=⟨_,QD h0⟩
 rw[Ab0] at hL;subst hL;have O:=Ap0 h1;have c:=(ON O).length_eq;refine⟨λT=>?_,?_⟩
 ·have Y:E=[]:=by
   cases E with
   | nil=>rfl
   | cons a r=>cases T
  subst Y;refine(l none 0).mono λV w' ⟨F,C⟩=>⟨F,?_,C▸H6.refl _⟩
  have:Hh []=[]:=o3.1 c;rw[this];rfl
 intro D f e sz cap M a1 a4 K b1 b0 a6 o;by_cases T:E=[]
 ·subst T;have a5:Hh []=[]:=o3.1 c;refine(l _ cap).mono λV w' ⟨F,C⟩=>?_
  rw[C];rw[a5];exact⟨F,rfl,w,f,M,rfl,λ_ _=>rfl,rfl,rfl,rfl,rfl,λi h=>absurd h (w8 _),λi h=>absurd h (w8 _),H6.refl _⟩
 have Y:0<E.length:=List.length_pos_iff.2 T;have u:∀i (h:i<(F1 E).length),(F1 E)[i]=Nx (E[i]'(by simpa using h)):=λi h=>by simp[F1]
 have z:sz=2:=by
  have:=a6 0 (by simpa using Y);rw[<-this,u];rfl
 subst z;obtain⟨d,hd⟩:∃d,(E.map mkS).toArray=d:=⟨_,rfl⟩
 have G:d.size=E.length:=by rw[<-hd];simp
 have H:∀i (m:i<E.length),(d[i]!).1=E[i]:=λi m=>by
  subst hd;rw[getElem!_pos _ _ (by simpa using m)];simp only[List.getElem_toArray,List.getElem_map];exact QQ (O _ (o0 m))
 have q:∀t,t<d.size*2->f[t]? = some ((Ku d[t / 2]!)[t % 2]!):=λt ht=>by
  have m:t / 2<E.length:=by omega
  have a3:t / 2<(F1 E).length:=by simpa using m
  have S:((F1 E)[t / 2]).length=2:=by rw[u];rfl
  obtain⟨V,hV,y⟩:=o (t / 2) a3 (t % 2) (by rw[S];omega);rw[show t / 2*2+t % 2=t by omega] at hV;have Q:((F1 E)[t / 2][t % 2]'(by rw[S];omega))=(Nx E[t / 2])[t % 2]'(by show t % 2<2;omega):=by simp only[u]
  rw[Q] at y;rw[hV];have dv:=H _ m;rcases(show t % 2=0\/t % 2=1 by omega) with h|h
  ·have y:VS St w (.str (E[t / 2]).1) V:=by simpa[h,Nx] using y
   obtain⟨s,Z,z⟩:=y.inv_str;rw[Z,h];show _=some (Value.string ⟨(d[t / 2]!).1.1.toArray⟩);rw[dv,<-z]
  ·have y:VS St w (.bool (E[t / 2]).2) V:=by simpa[h,Nx] using y
   rw[y.inv_bool,h];show _=some (Value.bool (d[t / 2]!).1.2);rw[dv]
 have hH:HoldsK Ku 2 w D 0 d:=λj R=>by
  have N:j<d.size*2:=by simpa using R
  constructor
  ·simp only[World.cell?,M,u3];rw[get_flatK _ _ _ _ N];exact q j N
  ·simp[World.frozen?,M]
 have J:D<w.heap.size:=(Array.getElem?_eq_some_iff.1 M).1;have eg:∀args w,(callFunc 39 args).run a7 w = .ok (.enter 39 args) w:=enters_of ab3 (by kernel_rfl) rfl;have hm:cap<=9223372036854775807:=K;have W:(A7 (F1 E).length)=true:=W;have hb:d.size<4611686018427387904:=by
  have:=Z8 W;rw[D4] at this;omega
 have hh:=AnyQ.slices_SortFunc_eq Tryz.sortEnt 2 (λw=>by kernel_rfl) (λw=>by kernel_rfl) Ku (λ_=>rfl) (λx v F=>by simp[Ku] at F;rcases F with rfl|rfl<;>rfl) cfE (IB λx:Jc=>x.1.1) 39 #[] D 0 cap d w eg (WA D 0 d.size w) hH J hb;have P:=HQ d;have hS:Hh E=(Fl d).toList.map (·.1):=by unfold Hh;rw[hd]
 have b2:(Fl d).size=d.size:=P.2.1;rw[show(F1 E).length=d.size by rw[D4,G]];refine Y5 (fn:=ab2) (by kernel_rfl) (by kernel_rfl) (by kernel_rfl) (hh.mono λe' w' ⟨he,n,os,C⟩=>⟨_,he,rfl,by rw[D4,c,G],?_⟩);have a9:f.size=cap*2:=a1;have a0:d.size*2<=f.size:=by
  have:(F1 E).length<=cap:=a4;rw[D4] at this;omega
 obtain⟨p1,p2⟩:=XO M (Fl d);have k:∀i (h:i<(F1 (Hh E)).length),(F1 (Hh E))[i]=Nx ((Fl d)[i]!).1:=λi h=>by
  have m:i<(Fl d).size:=by rw[D4,c] at h;omega
  rw[getElem!_pos (Fl d) i m];simp[F1,hS]
 refine⟨putRowK Ku 2 w D 0 (Fl d),putCells id 0 (flatK Ku 2 (Fl d)) f,p1,by simp[putCells],p2,by simp[putRowK,putRow,mapBlock],rfl,rfl,rfl,λi h=>by rw[k];rfl,λi h j h'=>?_,?_⟩
 ·have S:((F1 (Hh E))[i]).length=2:=by rw[k];rfl
  have R:j<2:=by rw[<-S];exact h'
  have m:i<(Fl d).size:=by rw[D4,c] at h;omega
  refine⟨_,Ae4 m R (by omega),?_⟩;have Q:(F1 (Hh E))[i][j]=(Nx ((Fl d)[i]!).1)[j]'(by show j<2;exact R):=by simp only[k]
  rw[Q];rcases(show j=0\/j=1 by omega) with rfl|rfl
  ·have:=VS.str (St:=St) (w:=putRowK Ku 2 w D 0 (Fl d)) ⟨((Fl d)[i]!).1.1.toArray⟩;exact this
  ·exact VS.bool _
 ·rw[C];refine⟨⟨λg a2=>heap_grow_old _ _ a2,by simp only[sortWorldK,grow,Array.size_append];exact Nat.le_add_right _ _⟩,rfl,rfl,rfl⟩
end
section
open Go Go.Proofs
set_option maxRecDepth 100000
theorem RK{c:Bool}{a b:Tr}{r:PV × List Blk}(h:F5 (cond c a b)=some r):(c=true/\F5 a=some r)\/(c=false/\F5 b=some r):=by
 cases c with
 | true=>exact .inl ⟨rfl,h⟩
 | false=>exact .inr ⟨rfl,h⟩
theorem At5:QA (WE nmA)=(.s (.sl false false 1 [[.str [99,111,109]],[.str [98]],[.str [97]]]),[.box [.bad]],true):=by kernel_rfl
theorem At6:QA (WE nmB)=(.s (.sl false false 1 [[.str [99,111,109]],[.str [98]],[.str [120]]]),[.box [.bad]],true):=by kernel_rfl
theorem As5:Ir a7 GX 20 Yo:=by
 refine Wd (C₀:=AC) (L7.ok (l:=[(31,Ei)]) rfl ⟨CU,trivial⟩) (J0 rfl (by kernel_rfl)) follows ?_;intro args H ret e h;unfold Yo at h;split at h
 ·rename_i s;rcases RK (c:=s==nmA) h with⟨a,h⟩|⟨_,h⟩
  ·obtain rfl:=eq_of_beq a;obtain⟨rfl,rfl⟩:=N0 h;exact ED nmA 97 At5 (λd b t=>by kernel_rfl)
  ·rcases RK (c:=s==nmB) h with⟨a,h⟩|⟨_,h⟩
   ·obtain rfl:=eq_of_beq a;obtain⟨rfl,rfl⟩:=N0 h;exact ED nmB 120 At6 (λd b t=>by kernel_rfl)
   ·cases h
 ·cases h
theorem ZO:XOK JL:=Aw0 (lx:=[(16,PG),(31,Ei)]) (ly:=[(20,Yo)]) (ls:=[]) (lz:=[(38,Rh)]) rfl rfl rfl rfl ⟨Al4,CU,trivial⟩ ⟨As5,trivial⟩ trivial ⟨Ak0,trivial⟩
theorem UY:B7 a7 GX 4 Mt:=
 B7.fix (pf:=Jd) _ (by
  have h:=PB (C₀:=JL) ZO (J0 rfl (by kernel_rfl)) follows VT;have e:(λargs:List PV=>match args with|[]=>Tr.ret (.s (.bool true)) []|_=>.fail)=Jd:=by
   funext args
   cases args<;>rfl
  rw[<-e];exact h)
noncomputable def Ak5:Cfg:=D1 100000 [11,21,33] (λ_=>none) [] (nt:=[(26,0,23,2)])
theorem Ag9:(match evC Ak5 6 Unit noY 11 [.s .nilp] [] () with
 | some (r,H,_)=>r.stab [2] H
 | none=>.bad) = .s (.sl true true 2 []):=by kernel_rfl
theorem Ar9:B7 a7 GX 11 IZ:=by
 refine B7.fix (pf:=Zq) _ (Q6 [2] (C₀:=Ak5) (L7.ok (l:=[]) rfl trivial) (J0 rfl (by kernel_rfl)) follows ?_);intro args ret a h;unfold Zq at h;split at h
 ·obtain⟨rfl,rfl⟩:=N0 h;have:=Ag9;split at this
  ·rename_i r H s e;exact⟨rfl,rfl,rfl,6,r,H,e,this⟩
  ·cases this
 ·cases h
section
theorem Aj7:B7 a7 GX 14 PP:=xf [0,0] (Es LF) Rw rfl trivial rfl (by kernel_rfl) follows λargs=>by
 unfold Rw;split
 ·rename_i q;exact⟨rfl,rfl,rfl,_,_,(YF LF noY () 0 q).trans (OG q ),rfl⟩
 ·trivial
theorem As0:B7 a7 GX 6 JA:=xf [0,0] (JU LF) Zr rfl trivial rfl (by kernel_rfl) follows λargs=>by
 unfold Zr;split
 ·rename_i q;exact⟨rfl,rfl,rfl,_,_,(Ah0 LF noY () 0 q).trans (UQ q ),rfl⟩
 ·trivial
theorem As4:B7 a7 GX 8 JE:=xf [] (JY LF) Zv rfl trivial rfl (by kernel_rfl) follows λargs=>by
 unfold Zv;split
 ·rename_i q;exact⟨rfl,rfl,rfl,_,_,(Ah5 LF noY () 0 q).trans (UU q ),rfl⟩
 ·trivial
theorem As2:B7 a7 GX 9 JC:=xf [] (JW LF) Zt rfl trivial rfl (by kernel_rfl) follows λargs=>by
 unfold Zt;split
 ·exact⟨rfl,rfl,rfl,_,_,(Ah3 LF noY () 0 ).trans (UR  ),rfl⟩
 ·trivial
theorem As3:B7 a7 GX 10 JD:=xf [] (JX LF) Zu rfl trivial rfl (by kernel_rfl) follows λargs=>by
 unfold Zu;split
 ·exact⟨rfl,rfl,rfl,_,_,(Ah4 LF noY () 0 ).trans (US  ),rfl⟩
 ·trivial
theorem Aj6:B7 a7 GX 5 Zj:=xf [0,0] (AK LF) Rv rfl ⟨ZI,Aj7,ZJ,trivial⟩ rfl (by kernel_rfl) follows λargs=>by
 unfold Rv;split
 ·rename_i h b;exact λg=>⟨λc=>(let⟨f,d,a,e⟩:=HH h b g c;⟨rfl,rfl,rfl,f,d,(HG LF noY () 0 h b).trans a,e⟩),λc=>(let⟨f,d,a,e⟩:=HH h b g c;⟨rfl,rfl,rfl,f,d,(HG LF noY () 0 h b).trans a,e⟩)⟩
 ·trivial
theorem As1:B7 a7 GX 7 JB:=xf [] (JV LF) Zs rfl ⟨Al4,trivial⟩ rfl (by kernel_rfl) follows λargs=>by
 unfold Zs;split
 ·rename_i h b;exact λg=>⟨λc=>(let⟨f,d,a,e⟩:=RH h b g c;⟨rfl,rfl,rfl,f,d,(RG LF noY () 0 h b).trans a,e⟩),λc=>(let⟨f,d,a,e⟩:=RH h b g c;⟨rfl,rfl,rfl,f,d,(RG LF noY () 0 h b).trans a,e⟩)⟩
 ·trivial
end
end
section
open Go Go.ChangeAt Go.ChangeShapes Go.Proofs Go.RowKit Go.WideShapes
set_option maxRecDepth 100000
section
theorem LH(os:Os)(a:os.Started)(H:Type)(enc:TypeId × Value->H) :
  ReturnsInHanded {} Tryz.checked os 3 .any (λw args=>(Rows.trieNoneSpec.pre enc a7 u5 Rows.trieNoneRow.domain false w args/\laidMetH a7 Cm w)/\sizedMet enc a7 u5 (OpenSpec.ofChange Rows.trieNoneSpec) false w args) (Rows.trieNoneSpec.post enc a7 u5 false true false false):=
 KZ a (C:=DW LF) (tb:=4) rfl rfl (L7.ok (l:=[(4,Mt),(5,Zj),(6,JA),(7,JB),(8,JE),(9,JC),(10,JD),(11,IZ)]) rfl ⟨UY,Aj6,As0,As1,As4,As2,As3,Ar9,trivial⟩) (J0 rfl (by kernel_rfl)) (by kernel_rfl) y8 (c:=F6 u5) rfl (by kernel_rfl)
  (by
   intro t d;obtain rfl:t=23:=by simpa using(show t∈[23] from d)
   exact⟨⟨by kernel_rfl,of_decide_eq_true (by kernel_rfl)⟩,by kernel_rfl⟩) rfl (by kernel_rfl) rfl
  (λds b=>by
   match ds,b with
   | [e],_=>rfl)
  #[(.agg #[(.string ⟨#[]⟩),(.bool false)])] 8 (by kernel_rfl) (by kernel_rfl) (by kernel_rfl)
  (λargs h=>Ac6 args h)
set_option maxHeartbeats 4000000 in theorem SY:Rows.TrieNoneSaid:=
 OpenClaim.holds_of_wide 3 u5 rfl rfl rfl rfl rfl rfl rfl ⟨rfl,rfl,rfl,rfl,rfl⟩ rfl rfl rfl rfl rfl (by kernel_rfl) y8 (by unfold joinedFacts;simp only[j9];(repeat' apply And.intro)<;>as_aux_lemma=>kernel_rfl)
  (of_decide_eq_true (by as_aux_lemma=>kernel_rfl)) (by unfold Func.isWrapper;first|(rw[if_pos (by decide +kernel)];kernel_rfl)|(rw[if_neg (by decide +kernel)];exact⟨rfl,rfl⟩))
  (λos a H enc _=>LH os a H enc)
theorem ltn_card:Rows.TrieNoneCardSaid:=
 Claim7.holds_tied_plain_at .later [] [.data,.pinned] true (true, "52a0d32738533e71a02dda206ce59685f5a102fd25aaebdc40885cb6a542cf57") false SY (λ_ h=>by cases h) (by as_aux_lemma=>kernel_rfl) (λ_ h=>by cases h) trieNone_row_tie rfl ⟨rfl,rfl⟩ (by as_aux_lemma=>kernel_rfl) rfl
  (λf fn c b=>by
   obtain rfl:f=3:=p5 ((show a7.funcNamed "hstsstore/hstsstorelaw25.TrieNone" = some 3 by as_aux_lemma=>kernel_rfl).symm.trans c) |>.symm
   obtain rfl:fn=u5:=(p5 (y8.symm.trans b)).symm;exact⟨by as_aux_lemma=>kernel_rfl,λj t e=>by
    have d:t∈[23]:=Array.mem_toList_iff.2 (Array.mem_of_getElem? e);have a:([23].all λu=>!a7.wantsStandIn u)=true:=by as_aux_lemma=>kernel_rfl
    exact(show a7.wantsStandIn t=false by simpa using k9.1 a t d)⟩)
  (by as_aux_lemma=>kernel_rfl)
end
end
#print axioms ltn_card
end Go.Proofs.YtigcfngmhpofjaaGreatDoor.E
