/-
  MixedUpgradeKeepsTarget, as its tied card says. Conditions: what the card itself names (the package-level variables that are listed, tied to the program's text).
-/
import Derived.Test.YtfkhfkjcidamaaaGreatDoorKMU5
import Derived.Test.YtfkhfkjcidamaaaGreatDoorCards
import Derived.Test.YtfkhfkjcidamaaaGreatDoorTie
open Go.Proofs.Tryz renaming prog->a8,f9->x6,f33->aa5,f53->aa6,f87->aa7,func9->aa8,f171->ab1,f19->ab4
open Bool renaming not_false->b8,not_true->b9,and_eq_true->k9,eq_false_iff->p6,true_and->p7,eq_iff_iff->z7,or_eq_true->aa0,and_false->aa4
open List renaming length_append->j0,length_cons->j1,getD_eq_getElem?_getD->j2,map->j4,getElem?_eq_getElem->j5,length->j6,length_nil->j8,drop_of_length_le->o0,all->o5,drop_eq_getElem_cons->p5,getElem_mem->p9,length_drop->v7,getElem_cons_drop->v8,length_singleton->w8,drop_eq_nil_iff->x4,drop_zero->x5,length_pos_iff->x7,append_assoc->x9,all_eq_true->y7,length_take->y8,append_nil->aa1,nil_append->aa2,map_id''->ab0,map_map->ab2
open Eq renaming trans->j7
open Int renaming toNat_natCast->j9,toNat->y5
open Option.some renaming injEq->o6,inj->o9
open Option renaming getD_some->o7,map_some->aa3
open Nat renaming ble->o8,ble_eq->p4,le_trans->w6,le_of_ble_eq_true->w9
open Go.Lib renaming join->x3,joinTail->x8
open UInt8 renaming ofNat->y9
open List.cons renaming inj->aa9
namespace Go.Proofs.YtfkhfkjcidamaaaGreatDoor.E
set_option linter.all false
section
open Go Go.Proofs
def Cz2{R:Type}{g:Int->Option R}(b:Int)(h:inR b 256=true):rhx LF b g=g (Fz (u8n b)):=by
 simp only[inR,k9,decide_eq_true_eq] at h;have j:b=((u8n b).toNat:Int):=by
  unfold u8n;simp;omega
 generalize u8n b=c at *;subst j;have i:=c.toNat_lt;unfold rhx;simp only[NG,NF,vl,Fz];rcases Dt c with⟨d,f,e⟩|⟨d,f,e⟩|⟨d,f,e⟩|⟨d,f,o,e⟩
 ·have a:A1 (wu8 ((c.toNat:Int)-48))=((dig c:Nat):Int):=by
   rw[N2,A7];omega
  rw[R2];simp (disch:=omega) only[B9,E7,b9,b8,cond_false,cond_true,a]
 ·have a:A1 (A1 (wu8 ((c.toNat:Int)-97))+10)=((dig c:Nat):Int):=by
   rw[N2,D1 (n:=(c.toNat:Int)-97) (by omega) (by omega),A7];omega
  rw[R2];simp (disch:=omega) only[B9,E7,b9,b8,cond_false,cond_true,a]
 ·have a:A1 (A1 (wu8 ((c.toNat:Int)-65))+10)=((dig c:Nat):Int):=by
   rw[N2,D1 (n:=(c.toNat:Int)-65) (by omega) (by omega),A7];omega
  rw[R2];simp (disch:=omega) only[B9,E7,b9,b8,cond_false,cond_true,a]
 ·rw[e,if_neg (by decide)];by_cases k:c.toNat<48
  ·simp (disch:=omega) only[B9,E7,b9,b8,cond_false,cond_true]
  ·by_cases l:c.toNat<65
   ·simp (disch:=omega) only[B9,E7,b9,b8,cond_false,cond_true]
   ·by_cases m:c.toNat<97
    ·simp (disch:=omega) only[B9,E7,b9,b8,cond_false,cond_true]
    ·simp (disch:=omega) only[B9,E7,b9,b8,cond_false,cond_true]
def Bg8(s:By)(Q:s.length<=1000000000):∀(m i n:Nat) (a:By),i<=s.length->s.length-i<=m->m<n->a.length<=i->
  (∀t,R8 (s.drop i)=some t->∀(R:Type) (c:LL->Option R) (d:LL->Option R),Q2 LF n s (i:Int) (a.map E4) c d=d ((a++t).map E4))/\
  (R8 (s.drop i)=none->∃l,∀(R:Type) (c:LL->Option R) (d:LL->Option R),Q2 LF n s (i:Int) (a.map E4) c d=c l):=by
 intro m
 induction m with
 | zero=>
  intro i n a K L M J;obtain⟨n,rfl⟩:∃m,n=m+1:=⟨n-1,by omega⟩
  rw[o0 (by omega)];refine⟨λt f R c d=>?_,λh=>(by cases h)⟩;simp only[R8,o6] at f;subst f;rw[Q2];rw[A6,aa1];rfl
 | succ m G=>
  intro i n a K L M J;obtain⟨n,rfl⟩:∃m,n=m+1:=⟨n-1,by omega⟩
  by_cases z:i<s.length
  ·have D:A1 ((i:Int)+1)=((i+1:Nat):Int):=by rw[A7];rfl
   have H:A1 ((i:Int)+2)=((i+2:Nat):Int):=by rw[A7];rfl
   have I:A1 (((i+2:Nat):Int)+1)=((i+3:Nat):Int):=by rw[A7];omega
   have F:A1 ((s.length:Int)-i)=((s.length-i:Nat):Int):=by rw[A7];omega
   have p:(a.map E4).length=a.length:=List.length_map _;have v:∀b:UInt8,a.map E4++[[SV.int .u8 (b.toNat:Int)]]=(a++[b]).map E4:=λb=>by rw[List.map_append];rfl
   have C:(((s.getD i 0).toNat:Int)!=37) = !(s.getD i 0==37):=congrArg _ (S6 _ 37 (by omega));rw[D6 s i z];by_cases g:s.getD i 0=37
   ·by_cases P:i+2<s.length
    ·rw[D6 s (i+1) (by omega),D6 s (i+1+1) (by omega),g,MU];obtain⟨A,B⟩:=G (i+3) n (a++[y9 (16*dig (s.getD (i+1) 0)+dig (s.getD (i+2) 0))]) (by omega) (by omega) (by omega) (by simp;omega);have top:∀(R:Type) (c:LL->Option R) (d:LL->Option R),Q2 LF (n+1) s (i:Int) (a.map E4) c d=cond (decide (dig (s.getD (i+1) 0)<16)&&decide (dig (s.getD (i+2) 0)<16)) (Q2 LF n s ((i+3:Nat):Int) ((a++[y9 (16*dig (s.getD (i+1) 0)+dig (s.getD (i+2) 0))]).map E4) c d) (c (a.map E4)):=by
      intro R c d;rw[Q2];rw[A8,F1,D3,C,g,p,H,F,D,F1,F1,D3,D3];simp only[vl];rw[E7 (show(3:Int)<=((s.length-i:Nat):Int) by omega)];simp only[cond_true,b9,cond_false,beq_self_eq_true,Ad0,Ka,Ai8,F8 (show a.length+1<=68719476736 by omega),I];generalize s.getD (i+1) 0=x at *;generalize s.getD (i+2) 0=y at *;by_cases N:dig x<16
      ·by_cases O:dig y<16
       ·have w1:Fz x=(dig x:Int):=by unfold Fz;rw[if_pos N]
        have T:Fz y=(dig y:Int):=by unfold Fz;rw[if_pos O]
        have U:A1 ((16:Int)*(dig x:Int))=((16*dig x:Nat):Int):=by rw[A7];omega
        have V:A1 (((16*dig x:Nat):Int)+(dig y:Int))=((16*dig x+dig y:Nat):Int):=by rw[A7];omega
        have W:wu8 ((16*dig x+dig y:Nat):Int)=((y9 (16*dig x+dig y)).toNat:Int):=by
         rw[N2];simp;omega
        grind
       grind
      grind
     by_cases o:dig (s.getD (i+1) 0)<16/\dig (s.getD (i+2) 0)<16
     ·rw[if_pos o];have w:(decide (dig (s.getD (i+1) 0)<16)&&decide (dig (s.getD (i+2) 0)<16))=true:=by rw[decide_eq_true o.1,decide_eq_true o.2];rfl
      refine⟨λt f R c d=>?_,λh=>?_⟩
      ·cases j:R8 (s.drop (i+3)) with
       | none=>rw[j] at f;cases f
       | some q=>
        rw[j] at f;simp only[aa3,o6] at f;subst f;rw[top,w,cond_true,A q j,x9];rfl
      ·cases j:R8 (s.drop (i+3)) with
       | some q=>rw[j] at h;cases h
       | none=>
        obtain⟨l,e⟩:=B j;exact⟨l,λR c d=>by rw[top,w,cond_true,e]⟩
     ·rw[if_neg o];have w:(decide (dig (s.getD (i+1) 0)<16)&&decide (dig (s.getD (i+2) 0)<16))=false:=by grind
      exact⟨λt h=>(by cases h),λ_=>⟨_,λR c d=>by rw[top,w,cond_false]⟩⟩
    ·have k:R8 (s.getD i 0::s.drop (i+1))=none:=by
      rw[g];cases o:s.drop (i+1) with
      | nil=>rfl
      | cons x r=>
       cases r with
       | nil=>rfl
       | cons y S=>
        exfalso;have:=congrArg j6 o;rw[v7,j1,j1] at this;omega
     rw[k];refine⟨λt h=>(by cases h),λ_=>⟨a.map E4,λR c d=>?_⟩⟩;rw[Q2];rw[A8,F1,D3,C,g,F];simp only[vl];rw[B9 (show((s.length-i:Nat):Int)<3 by omega)];rfl
   ·rw[ZQ _ g];obtain⟨A,B⟩:=G (i+1) n (a++[s.getD i 0]) (by omega) (by omega) (by omega) (by simp;omega);have u:(s.getD i 0==37)=false:=by simpa using g
    have top:∀(R:Type) (c:LL->Option R) (d:LL->Option R),Q2 LF (n+1) s (i:Int) (a.map E4) c d=Q2 LF n s ((i+1:Nat):Int) ((a++[s.getD i 0]).map E4) c d:=by
     intro R c d;rw[Q2];rw[A8,F1,D3,C,u,p,F8 (by omega),D,v];rfl
    refine⟨λt f R c d=>?_,λh=>?_⟩
    ·cases j:R8 (s.drop (i+1)) with
     | none=>rw[j] at f;cases f
     | some q=>
      rw[j] at f;simp only[aa3,o6] at f;subst f;rw[top,A q j,x9];rfl
    ·cases j:R8 (s.drop (i+1)) with
     | some q=>rw[j] at h;cases h
     | none=>
      obtain⟨l,e⟩:=B j;exact⟨l,λR c d=>by rw[top,e]⟩
  ·rw[o0 (by omega)];refine⟨λt f R c d=>?_,λh=>(by cases h)⟩;simp only[R8,o6] at f;subst f;rw[Q2];rw[A6,aa1];rfl
def Cy4(s:By)(d:A3 s.length=true):∃r H,Bz3 LF s (λi j h=>rv (.tup [.s (.str i),.s (.bool j)]) [.arr true 5 1 h])=rv r H/\
  r.stab [0,0] H = .tup [.s (.str (Gg s)),.s (.bool (R8 s).isSome)]:=by
 have g:=L7 d;have f:=C5;obtain⟨b,c⟩:=Bg8 s g s.length 0 LF [] (by omega) (by omega) (by omega) (by simp);rw[x5] at b c;unfold Gg;cases a:R8 s with
 | none=>
  obtain⟨l,e⟩:=c a;exact⟨.tup [.s (.str []),.s (.bool false)],[.arr true 5 1 l],e _ _ _,rfl⟩
 | some t=>
  refine⟨.tup [.s (.str t),.s (.bool true)],[.arr true 5 1 (t.map E4)],?_,rfl⟩;unfold Bz3;refine j7 (b t a _ _ _) ?_;rw[aa2,Y7,Z6];rfl
def Cc0{R:Type}{a b:Unit->Option R}(l:List By)(k:l.length<=1000000001)(h:∀x∈l,x.length<=1000000000):∀(r i n:Nat),i+r=l.length->r<n->
  Nr LF n (D5 l) (i:Int) a b=if (l.drop i).all K6 then b () else a ():=by
 intro r
 induction r with
 | zero=>
  intro i n e f;obtain⟨n,rfl⟩:∃m,n=m+1:=⟨n-1,by omega⟩
  rw[Nr];rw[F2,A6,o0 (by omega)];rfl
 | succ r j=>
  intro i n e f;obtain⟨n,rfl⟩:∃m,n=m+1:=⟨n-1,by omega⟩
  rw[Nr];have c:A1 ((i:Int)+1)=((i+1:Nat):Int):=by rw[A7];rfl
  have d:l.drop i=l.getD i []::l.drop (i+1):=by
   rw[j2,j5 (by omega),o7,v8]
  have g:(l.getD i []).length<=1000000000:=h _ (by
   rw[j2,j5 (by omega),o7];exact p9 _)
  rw[F2,A8,F1,j9,R7 (by omega),V6,D9 g,d,List.all_cons,c];simp only[cond_true];rw[j (i+1) n (by omega) (by omega)];cases K6 (l.getD i []) with
  | true=>rw[p7];rfl
  | false=>rfl
def Cc1{R:Type}{c:Bool->Option R}(s:By)(b:A3 s.length=true):Dk8 LF s c=c (V0 s):=by
 have k:=L7 b;have d:=C5;unfold Dk8;by_cases a:s=[]
 ·subst a;rfl
 ·have f:(s==([]:By))=false:=by simpa using a
  rw[f,cond_false];unfold V0;by_cases i:253<s.length
  ·rw[A8,show o8 s.length 253=false by rw[p6,ne_eq,p4];omega];rfl
  ·rw[A6,cond_false,b,cond_true,show o8 s.length 253=true by rw[p4];omega];cases j:E9 s with
   | true=>rfl
   | false=>
    rw[cond_false,cond_true];have g:=Jo 46 s;have e:=Ht 46 s;refine j7 (Cc0 (pcs 46 s) (by omega) (λx h=>by have:=(Cv h).2;omega) (pcs 46 s).length 0 LF (by omega) (by omega)) ?_;grind
def Cz1(j:Int)(i:By)(v4 a b c d e f g h:Int)(n:A3 i.length=true)(o:ltN v4 4294967296=true)(p:ok8 a b c d e f g h=true) :
  ∃r H,Cy9 LF j i v4 a b c d e f g h (λz q A t u v w x n8 y l m k=>rv (.s (.bool z)) [.box (Sp q A t u v w x n8 y l m),.arr false 26 1 k])=rv r H/\
   r.stab [] H = .s (.bool (K4 (mkH j i v4 (n8 a b c d e f g h)))):=Bw5 j i v4 a b c d e f g h n o p
def Cy8(j:Int)(i:By)(v4 a b c d e f g h:Int)(m:A3 i.length=true)(n:ltN v4 4294967296=true)(o:ok8 a b c d e f g h=true) :
  ∃r H,Cy6 LF j i v4 a b c d e f g h (λy p z q t u v w n8 x k l=>rv (.s (.str y)) [.box (Sp p z q t u v w n8 x k l)])=rv r H/\
   r.stab [] H = .s (.str (S8 (mkH j i v4 (n8 a b c d e f g h)))):=Bw4 j i v4 a b c d e f g h m n o
def Dn6(p s:By):p.isSuffixOf s=(o8 p.length s.length&&s.drop (s.length-p.length)==p):=by
 rw[z7,List.isSuffixOf_iff_suffix,k9,p4,beq_iff_eq];constructor
 ·rintro⟨t,rfl⟩;simp_all
 ·rintro⟨b,a⟩;rw[<-a];exact List.drop_suffix _ _
def Bg7{R:Type}{c:Bool->Option R}(p s:By)(a:A3 p.length=true)(b:A3 s.length=true):Bz2 LF p s c=c (Cq p s):=by
 have e:=L7 a;have f:=L7 b;unfold Bz2 Cq;rw[a,b,G3 (by omega)];cases V0 p with
 | false=>rfl
 | true=>
  cases V0 s with
  | false=>rfl
  | true=>
   simp only[b9,cond_false,cond_true,p7];cases (p==s) with
   | true=>rfl
   | false=>
    rw[Dn6,j1];by_cases h:p.length<s.length
    ·have d:A1 (A1 ((s.length:Int)-p.length)-1)=((s.length-(p.length+1):Nat):Int):=by
      rw[D1 (n:=(s.length:Int)-p.length) (by omega) (by omega),A7];omega
     rw[A8];simp only[vl,cond_true,cond_false];rw[d,I3,Q5,j9,show o8 (p.length+1) s.length=true by rw[p4];omega];rfl
    ·rw[A6,show o8 (p.length+1) s.length=false by rw[p6,ne_eq,p4];omega];rfl
def jn:Nat->By->List By->By
 | _,name,[]=>name
 | 0,name,x::r=>jn 1 (name++x) r
 | i+1,name,x::r=>jn (i+2) (name++[46]++x) r
def Bw9:∀(l:List By) (i:Nat) (name:By),jn (i+1) name l=name++x8 [46] l
 | [],i,name=>by simp[jn,x8]
 | x::r,i,name=>by
  rw[jn,Bw9 r];simp[x8]
def Df6(l:List By):jn 0 [] l=x3 l [46]:=by
 cases l with
 | nil=>rfl
 | cons x r=>rw[jn,Bw9,Lib.join_cons,aa2]
def C33{x:By}(h:(I7 x).2=0):(I7 x).1.length<=63:=by
 have a:F6 [x]=([(I7 x).1],0):=by simp[F6,h]
 have:=(Kx [x] (by rw[a])).1 (I7 x).1 (by rw[a];simp);exact(Cj this).le
def Aa3(e:List By)(C:e.length<=1000000)(D:∀x∈e,x.length<=1000000000):∀(c:List By) (i n:Nat) (name:By),e.drop i=c->i+c.length=e.length->c.length<n->name.length<=64*i->
  ((F6 c).2=0->∀(R:Type) (a:Int->Option R) (b:By->Option R),J8 LF n name (D5 e) (i:Int) a b=b (jn i name (F6 c).1))/\
  ((F6 c).2≠0->∀(R:Type) (a:Int->Option R) (b:By->Option R),J8 LF n name (D5 e) (i:Int) a b=a ((F6 c).2:Nat)):=by
 intro c
 induction c with
 | nil=>
  intro i n name p q y t;obtain⟨n,rfl⟩:∃m,n=m+1:=⟨n-1,by omega⟩
  simp only[j8] at q;refine⟨λ_ R a b=>?_,λh=>absurd rfl h⟩;rw[J8];rw[F2,A6];simp only[F6,jn];rfl
 | cons x r z=>
  intro i n name p q y t;simp only[j1] at q y;obtain⟨n,rfl⟩:∃m,n=m+1:=⟨n-1,by omega⟩
  have A:A1 ((i:Int)+1)=((i+1:Nat):Int):=by rw[A7];rfl
  have k:e.getD i []=x:=by
   have:=congrArg (λl=>l.getD 0 []) p;simpa[j2,List.getElem?_drop] using this
  have g:e.drop (i+1)=r:=by
   rw[<-List.drop_drop,p];rfl
  have u:x.length<=1000000000:=D x (by
   rw[<-k,j2,j5 (by omega),o7];exact p9 _)
  have top:∀(R:Type) (a:Int->Option R) (b:By->Option R),J8 LF (n+1) name (D5 e) (i:Int) a b=cond (((I7 x).2:Int)!=0) (a ((I7 x).2:Nat)) (cond (ltI 0 (i:Int)) (cond (E6 name.length 1) (cond (E6 (name++[46]).length (I7 x).1.length) (J8 LF n (name++[46]++(I7 x).1) (D5 e) ((i+1:Nat):Int) a b) none) none) (cond (E6 name.length (I7 x).1.length) (J8 LF n (name++(I7 x).1) (D5 e) ((i+1:Nat):Int) a b) none)):=by
   intro R a b;rw[J8];rw[F2,A8,F1,j9,R7 (by omega),V6,k,D9 u,A];rfl
  unfold F6;by_cases h:(I7 x).2=0
  ·rw[if_pos h];have B:=C33 h;have o:(((I7 x).2:Int)!=0)=false:=by rw[h];rfl
   cases i with
   | zero=>
    obtain⟨v,w⟩:=z 1 n (name++(I7 x).1) g (by omega) (by omega) (by rw[j0];omega);have d:∀(R:Type) (a:Int->Option R) (b:By->Option R),J8 LF (n+1) name (D5 e) ((0:Nat):Int) a b=J8 LF n (name++(I7 x).1) (D5 e) ((1:Nat):Int) a b:=by
     intro R a b;rw[top,o,A6,G3 (m:=name.length) (n:=(I7 x).1.length) (by omega)];rfl
    exact⟨λf R a b=>(d R a b).trans (v f R a b),λf R a b=>(d R a b).trans (w f R a b)⟩
   | succ j=>
    obtain⟨v,w⟩:=z (j+2) n (name++[46]++(I7 x).1) g (by omega) (by omega) (by rw[j0,j0,w8];omega);have d:∀(R:Type) (a:Int->Option R) (b:By->Option R),J8 LF (n+1) name (D5 e) ((j+1:Nat):Int) a b=J8 LF n (name++[46]++(I7 x).1) (D5 e) ((j+2:Nat):Int) a b:=by
     intro R a b;rw[top,o,A8,G3 (by omega),G3 (by rw[j0,w8];omega)];rfl
    exact⟨λf R a b=>(d R a b).trans (v f R a b),λf R a b=>(d R a b).trans (w f R a b)⟩
  ·rw[if_neg h];have o:(((I7 x).2:Int)!=0)=true:=by simpa using h
   exact⟨λf=>absurd f h,λ_ R a b=>by rw[top,o,cond_true]⟩
def PD{R:Type}{b:Int->Int->By->Int->Option R}(u:By)(q:u.length<=1024):Ef LF u b =
  if E9 u then (match pnB u with
   | some v=>b 0 2 [] (v:Nat)
   | none=>b 14 0 [] 0)
  else if (F6 (pcs 46 u)).2=0 then (
   if 253<(x3 (F6 (pcs 46 u)).1 [46]).length then b 3 0 [] 0 else if E9 (x3 (F6 (pcs 46 u)).1 [46]) then b 14 0 [] 0 else b 0 1 (x3 (F6 (pcs 46 u)).1 [46]) 0)
  else b ((F6 (pcs 46 u)).2:Nat) 0 [] 0:=by
 have h:=C5;unfold Ef;rw[K3,cond_true];cases o:E9 u with
 | true=>
  rw[if_pos rfl,cond_true,cond_true];cases p:pnB u with
  | none=>rfl
  | some v=>rfl
 | false=>
  rw[if_neg (by simp),cond_false,cond_true];have l:=Jo 46 u;have i:=Ht 46 u;obtain⟨f,m⟩:=Aa3 (pcs 46 u) (by omega) (λx d=>by have:=(Cv d).2;omega) (pcs 46 u) 0 LF [] (x5) (by omega) (by omega) (by simp);rw[Df6] at f;by_cases c:(F6 (pcs 46 u)).2=0
  ·rw[if_pos c];refine j7 (f c _ _ _) ?_;obtain⟨g,n⟩:=Kx _ c;have j:=YT [46] 63 (F6 (pcs 46 u)).1 (λx d=>(Cj (g x d)).le);have e:(63+([46]:By).length)*(F6 (pcs 46 u)).1.length<=64*1025:=Nat.mul_le_mul (by simp) (by omega);generalize x3 (F6 (pcs 46 u)).1 [46]=name at *;by_cases a:253<name.length
   ·rw[if_pos a,A8,cond_true]
   ·rw[if_neg a,A6,cond_false,K3,cond_true];cases k:E9 name with
    | true=>rfl
    | false=>rfl
  ·rw[if_neg c];exact m c _ _ _
abbrev D02:Int->By->Int->Int->Int->By->Int->Option (PV × List Blk × Unit):=λc d e f a g b=>rv (.tup [.agg (Sp c d e 0 0 0 0 0 0 0 0),.s (.int .i64 f)]) [.box (Sp a g b 0 0 0 0 0 0 0 0)]
abbrev Ea3:Int->Int->Int->Int->Int->Int->Int->Int->Int->Int->LL->Option (PV × List Blk × Unit):=λa b c d e f g h r8 i l10=>rv (.tup [.agg (Sp a [] 0 b c d e f g h r8),.s (.int .i64 i)]) [.box (Sp a [] 0 b c d e f g h r8),.arr false 26 1 l10]
def Ac6{t:By}(h:t≠[])(a:t.getD (t.length-1) 0=46):G9 t=t.take (t.length-1):=by unfold G9;rw[if_pos ((GO t 46 h).2 a),List.dropLast_eq_take]
def Aw6{t:By}(h:t≠[])(a:¬t.getD (t.length-1) 0=46):G9 t=t:=by unfold G9;grind
def Tc(s:By)(x:s.length<=1024)(j:s.head?≠some 91):∃r H,Eg LF s (λh b d c=>D02 b d c h b d c)=rv r H/\r.stab [0,0] H = .tup [EJ (C3 s).1,.s (.int .i64 ((C3 s).2:Nat))]:=by
 have l:=C5;unfold Eg;rw[K3,cond_true];cases i:R8 s with
 | none=>
  have e:C3 s=(L8,14):=by unfold C3;rw[G0,if_neg j,i]
  rw[e];exact⟨_,_,rfl,rfl⟩
 | some t=>
  have p:t.length<=s.length:=GV s t i;have q:Gg s=t:=by unfold Gg;rw[i];rfl
  have o:(G9 t).length<=t.length:=by unfold G9;split<;>simp
  have m:C3 s=if E9 (G9 t) then (match pnB (G9 t) with
      | some v=>(⟨2,[],v,z8⟩,0)
      | none=>(L8,14))
     else if (F6 (pcs 46 (G9 t))).2=0 then (
      let name:=x3 (F6 (pcs 46 (G9 t))).1 [46]
      if 253<name.length then (L8,3) else if E9 name then (L8,14) else (⟨1,name,0,z8⟩,0))
     else (L8,(F6 (pcs 46 (G9 t))).2):=by
   unfold C3;rw[G0,if_neg j,i];rfl
  have f:∃r H,Ef LF (G9 t) (λh b d c=>D02 b d c h b d c)=rv r H/\r.stab [0,0] H = .tup [EJ (C3 s).1,.s (.int .i64 ((C3 s).2:Nat))]:=by
   rw[PD _ (by omega),m];split
   ·split<;>exact⟨_,_,rfl,rfl⟩
   ·split
    ·simp only;split
     ·exact⟨_,_,rfl,rfl⟩
     ·split<;>exact⟨_,_,rfl,rfl⟩
    ·exact⟨_,_,rfl,rfl⟩
  rw[q];simp only[Option.isSome_some,b9,cond_false];by_cases a:t=[]
  ·subst a;exact f
  ·have w:0<t.length:=x7.2 a;have n:(t==([]:By))=false:=by simpa using a
   have k:A1 ((t.length:Int)-1)=((t.length-1:Nat):Int):=by rw[A7];omega
   have u:(((t.getD (t.length-1) 0).toNat:Int)==46)=(t.getD (t.length-1) 0==46):=S6 _ 46 (by omega);rw[n,k];simp only[b8,cond_true,vl];rw[F1,D3,u,cond_true];by_cases g:t.getD (t.length-1) 0=46
   ·rw[g,beq_self_eq_true,cond_true,I3,cond_true,L1,j9,<-Ac6 a g];exact f
   ·rw[show(t.getD (t.length-1) 0==46)=false by simpa using g,cond_false];rw[Aw6 a g] at f;exact f
def Bh3(s:By)(k:A3 s.length=true):∃r H,Yn LF s D02 Ea3=rv r H/\r.stab [0,0] H = .tup [EJ (C3 s).1,.s (.int .i64 ((C3 s).2:Nat))]:=by
 have u:=L7 k;have l:=C5;unfold Yn;by_cases i:1024<s.length
 ·have e:C3 s=(L8,3):=by unfold C3;rw[if_pos i]
  rw[e,A8,cond_true];exact⟨_,_,rfl,rfl⟩
 ·rw[A6,cond_false];by_cases c:s=[]
  ·subst c;exact Tc [] (by simp) (by simp)
  ·have q:0<s.length:=x7.2 c;have m:(s==([]:By))=false:=by simpa using c
   have o:(bAt s 0==(91:Int))=(s.getD 0 0==91):=by rw[Ba];exact S6 _ 91 (by omega)
   have g:s.head? = some (s.getD 0 0):=by
    cases s with
    | nil=>exact absurd rfl c
    | cons b t=>rfl
   rw[m,b8,cond_true,F1,cond_true,o];by_cases f:s.getD 0 0=91
   ·have e:C3 s=R1 s:=by unfold C3 R1;rw[if_neg i,if_pos (by rw[g,f])]<;>rfl
    have j:A1 ((s.length:Int)-1)=((s.length-1:Nat):Int):=by rw[A7];omega
    have p:(((s.getD (s.length-1) 0).toNat:Int)!=93) = !(s.getD (s.length-1) 0==93):=congrArg _ (S6 _ 93 (by omega));rw[e,f,beq_self_eq_true];unfold Ig R1;simp only[vl,j,cond_true];rw[F1,D3,p,cond_true];by_cases d:s.getD (s.length-1) 0=93
    ·have f:2<=s.length:=by grind
     rw[if_pos ⟨(GO s 93 c).2 d,f⟩,d,beq_self_eq_true,b9,cond_false,A6,cond_false,show(1:Int)=((1:Nat):Int) from rfl,I3,cond_true,Fy];have n:((s.take (s.length-1)).drop 1).length<=s.length:=by rw[v7,y8];omega
     rw[K3,cond_true];unfold v6c;cases v:v6B ((s.take (s.length-1)).drop 1) with
     | none=>exact⟨_,_,rfl,rfl⟩
     | some a=>exact⟨_,_,rfl,rfl⟩
    ·rw[if_neg (λh=>d ((GO s 93 c).1 h.1)),show(s.getD (s.length-1) 0==93)=false by simpa using d];exact⟨_,_,rfl,rfl⟩
   ·rw[show(s.getD 0 0==91)=false by simpa using f];exact Tc s (by omega) (by rw[g];simpa using f)
set_option maxRecDepth 100000
section
def OJ:B4 a8 GX 194 Wg:=xf [] (KI LF) AM rfl trivial rfl (by kernel_rfl) follows λargs=>by
 unfold AM;split
 ·rename_i n;exact⟨rfl,rfl,rfl,_,_,(Cd3 LF noY () 0 n).trans (Ar2 n ),rfl⟩
 ·trivial
def Ay1:B4 a8 GX 193 IL:=xf [] (Z0 LF) AH rfl trivial rfl (by kernel_rfl) follows λargs=>by
 unfold AH;split
 ·rename_i d c f;exact λa=>λb=>λe=>⟨rfl,rfl,rfl,_,_,(Cb1 LF noY () 0 d c f).trans (Ap1 d c f a b e),rfl⟩
 ·trivial
def C82:B4 a8 GX 192 A05:=xf [] (A41 LF) VO rfl trivial rfl (by kernel_rfl) follows λargs=>by
 unfold VO;split
 ·rename_i k b;exact λa=>λc=>⟨rfl,rfl,rfl,_,_,(Dm0 LF noY () 0 k b).trans (Cd9 k b a c),rfl⟩
 ·trivial
def Dr6:B4 a8 GX 195 Bs7:=xf [] (XN LF) IM rfl trivial rfl (by kernel_rfl) follows λargs=>by
 unfold IM;split
 ·rename_i d;exact λa=>⟨rfl,rfl,rfl,_,_,(Cx2 LF noY () 0 d).trans (Be1 d a),rfl⟩
 ·trivial
def D47:B4 a8 GX 191 Cm2:=xf [] (Kf LF) VY rfl trivial rfl (by kernel_rfl) follows λargs=>by
 unfold VY;split
 ·rename_i b;exact λa=>⟨rfl,rfl,rfl,_,_,(Dn1 LF noY () 0 b).trans (Cf1 b a),rfl⟩
 ·trivial
def C77:B4 a8 GX 155 A00:=xf [0,0] (N7 LF) VE rfl ⟨OJ,C82,Dr6,Ay1,trivial⟩ rfl (by kernel_rfl) follows λargs=>by
 unfold VE;split
 ·rename_i b a p;exact λc=>(let⟨r,H,e,q⟩:=Dk5 b a p c;⟨rfl,rfl,rfl,r,H,(Dk3 LF noY () 0 b a p).trans e,q⟩)
 ·trivial
def Ds3:B4 a8 GX 154 Bt4:=xf [1,0] (K2 LF) IW rfl ⟨D47,C82,Ay1,OJ,trivial⟩ rfl (by kernel_rfl) follows λargs=>by
 unfold IW;split
 ·rename_i s;exact λa=>(let⟨r,H,e,q⟩:=Cz8 s a;⟨rfl,rfl,rfl,r,H,(Cz7 LF noY () 0 s).trans e,q⟩)
 ·trivial
def D42:B4 a8 GX 175 Cl7:=xf [1,0] (P8 LF) VM rfl ⟨OJ,trivial⟩ rfl (by kernel_rfl) follows λargs=>by
 unfold VM;split
 ·rename_i s;exact λa=>(let⟨r,H,e,q⟩:=Dl8 s a;⟨rfl,rfl,rfl,r,H,(Dl7 LF noY () 0 s).trans e,q⟩)
 ·trivial
def Ds5:B4 a8 GX 113 Bt6:=xf [] (Ms LF) IY rfl ⟨Ds3,C77,trivial⟩ rfl (by kernel_rfl) follows λargs=>by
 unfold IY;split
 ·rename_i s;exact λa=>⟨rfl,rfl,rfl,_,_,(C00 LF noY () 0 s).trans (Bk0 s a),rfl⟩
 ·trivial
def B20:B4 a8 GX 77 VJ:=xf [] (Mq LF) IU rfl ⟨Ds5,trivial⟩ rfl (by kernel_rfl) follows λargs=>by
 unfold IU;split
 ·rename_i s;exact λa=>⟨rfl,rfl,rfl,_,_,(Cz4 LF noY () 0 s).trans (Bh8 s a),rfl⟩
 ·trivial
def Ds2:B4 a8 GX 131 Bt3:=xf [0,0] (XR LF) IT rfl ⟨D42,C79,C77,B20,trivial⟩ rfl (by kernel_rfl) follows λargs=>by
 unfold IT;split
 ·rename_i s;exact λa=>⟨rfl,rfl,rfl,_,_,(Cz3 LF noY () 0 s).trans (Bh5 s a),rfl⟩
 ·trivial
def D89:B4 a8 GX 174 Dt9:=xf [] (Sw LF) A02 rfl trivial rfl (by kernel_rfl) follows λargs=>by
 unfold A02;split
 ·rename_i b;exact λa=>⟨rfl,rfl,rfl,_,_,(D01 LF noY () 0 b).trans (Cz2 b a),rfl⟩
 ·trivial
def Dr9:B4 a8 GX 129 Bt0:=xf [0,0] (Mo LF) IP rfl ⟨D89,trivial⟩ rfl (by kernel_rfl) follows λargs=>by
 unfold IP;split
 ·rename_i s;exact λa=>(let⟨r,H,e,q⟩:=Cy4 s a;⟨rfl,rfl,rfl,r,H,(Cy3 LF noY () 0 s).trans e,q⟩)
 ·trivial
def Cj4:B4 a8 GX 93 PW:=xf [0,0] (L0 LF) To rfl ⟨D46,Dr9,OI,Ds4,Rf,Ds2,trivial⟩ rfl (by kernel_rfl) follows λargs=>by
 unfold To;split
 ·rename_i s;exact λa=>(let⟨r,H,e,q⟩:=Bh3 s a;⟨rfl,rfl,rfl,r,H,(Bh2 LF noY () 0 s).trans e,q⟩)
 ·trivial
def C78:B4 a8 GX 45 A01:=xf [] (Un LF) VH rfl ⟨OI,Rf,B20,trivial⟩ rfl (by kernel_rfl) follows λargs=>by
 unfold VH;split
 ·rename_i s;exact λa=>⟨rfl,rfl,rfl,_,_,(Dk9 LF noY () 0 s).trans (Cc1 s a),rfl⟩
 ·trivial
def B19:B4 a8 GX 42 VG:=xf [] (XQ LF) IS rfl ⟨C78,trivial⟩ rfl (by kernel_rfl) follows λargs=>by
 unfold IS;split
 ·rename_i j k v4 a b c d f g h i;exact λl=>λm=>λn=>(let⟨r,H,e,q⟩:=Cz1 j k v4 a b c d f g h i l m n;⟨rfl,rfl,rfl,r,H,(Cz0 LF noY () 0 j k v4 a b c d f g h i).trans e,q⟩)
 ·trivial
def Ds1:B4 a8 GX 59 Bt2:=xf [] (XP LF) IR rfl ⟨B19,D43,D45,trivial⟩ rfl (by kernel_rfl) follows λargs=>by
 unfold IR;split
 ·rename_i j k v4 a b c d f g h i;exact λl=>λm=>λn=>(let⟨r,H,e,q⟩:=Cy8 j k v4 a b c d f g h i l m n;⟨rfl,rfl,rfl,r,H,(Cy7 LF noY () 0 j k v4 a b c d f g h i).trans e,q⟩)
 ·trivial
def Dr8:B4 a8 GX 20 Bs9:=xf [] (XO LF) IO rfl ⟨C78,trivial⟩ rfl (by kernel_rfl) follows λargs=>by
 unfold IO;split
 ·rename_i p s;exact λa=>λb=>⟨rfl,rfl,rfl,_,_,(Cy2 LF noY () 0 p s).trans (Bg7 p s a b),rfl⟩
 ·trivial
end
section
def Ay3:B4 a8 GX 91 JE:=xf [] (KJ LF) AO rfl trivial rfl (by kernel_rfl) follows λargs=>by
 unfold AO;split
 ·rename_i s;exact⟨rfl,rfl,rfl,_,_,(Ce2 LF noY () 0 s).trans (At8 s ),rfl⟩
 ·trivial
def Dt0:B4 a8 GX 94 Bt9:=xf [] (XU LF) JF rfl trivial rfl (by kernel_rfl) follows λargs=>by
 unfold JF;split
 ·rename_i s;exact⟨rfl,rfl,rfl,_,_,(C13 LF noY () 0 s).trans (Bm1 s ),rfl⟩
 ·trivial
def Ds7:B4 a8 GX 92 Bt7:=xf [] (Bf LF) JA rfl trivial rfl (by kernel_rfl) follows λargs=>by
 unfold JA;split
 ·rename_i s t;exact λa=>λb=>⟨rfl,rfl,rfl,_,_,(C04 LF noY () 0 s t).trans (Bl3 s t a b),rfl⟩
 ·trivial
def Ds9:B4 a8 GX 90 Bt8:=xf [0,0,0] (M3 LF) JD rfl ⟨C79,trivial⟩ rfl (by kernel_rfl) follows λargs=>by
 unfold JD;split
 ·rename_i s;exact λa=>⟨rfl,rfl,rfl,_,_,(C12 LF noY () 0 s).trans (Bm0 s a),rfl⟩
 ·trivial
def B21:B4 a8 GX 57 VT:=xf [0,0] (J7 LF) JC rfl ⟨Ds9,Ay3,Ds7,Cj4,Dt0,trivial⟩ rfl (by kernel_rfl) follows λargs=>by
 unfold JC;split
 ·rename_i s;exact λa=>(let⟨r,H,e,q⟩:=C10 s a;⟨rfl,rfl,rfl,r,H,(C09 LF noY () 0 s).trans e,q⟩)
 ·trivial
def TN:B4 a8 GX 28 Kv:=xf [0,0] (BJ LF) Ts rfl ⟨B21,trivial⟩ rfl (by kernel_rfl) follows λargs=>by
 unfold Ts;split
 ·rename_i s;exact λa=>(let⟨r,H,e,q⟩:=Bl7 s a;⟨rfl,rfl,rfl,r,H,(Bl6 LF noY () 0 s).trans e,q⟩)
 ·trivial
end
def TG{u:P7}(h:-1<=u.port):Fw u=U0 u:=by unfold Fw;rw[G0]
def Cg6{m n:By}{kd:Int}{a:By}{v4 b c d e f g h i k:Int}{l:By}(h0:smU m n a l=true)(h1:ltN v4 4294967296=true)(j:ok8 b c d e f g h i=true)(o:Q1 k=true) :
  (Fw (mkU m n kd a v4 (n8 b c d e f g h i) k l)).length<=400000000:=by
 obtain⟨r,t,u,v⟩:=Jx h0;have p:=Qd (GM (h0:=kd) (h1:=a) h1 j);rw[EI] at p;have q:=DN (kd:=kd) h0 h1 j o;unfold Fw;split
 ·unfold mkU;simp only;split
  ·split<;>simp only[j0,j1,j8]<;>omega
  ·simp only[j0,j1];omega
 ·exact q
def Ce4(d b:By)(o:Int)(c:By)(v4 f g i j k l m n a:Int)(e:By)(h0:smU d b c e=true)(h1:ltN v4 4294967296=true)(y:ok8 f g i j k l m n=true)(B:Q1 a=true) :
  ∃r H,Vx LF d b o c v4 f g i j k l m n a e (λu p=>rv (.s (.str u)) p)=rv r H/\r.stab [] H = .s (.str (Fw (mkU d b o c v4 (n8 f g i j k l m n) a e))):=by
 obtain⟨G,I,J,K⟩:=Jx h0;have F:=Qd (GM (h0:=o) (h1:=c) h1 y);obtain⟨L,M⟩:=Xo.1 B;have D:=Gw 19 a.toNat (by omega) (by omega);have key:∀T:By,Vx LF d b o c v4 f g i j k l m n a e (λu p=>rv (.s (.str u)) p)=rv (.s (.str T)) [bU d b o c v4 f g i j k l m n a e]->T=Fw (mkU d b o c v4 (n8 f g i j k l m n) a e)->∃r H,Vx LF d b o c v4 f g i j k l m n a e (λu p=>rv (.s (.str u)) p)=rv r H/\r.stab [] H = .s (.str (Fw (mkU d b o c v4 (n8 f g i j k l m n) a e))):=λT v w=>⟨_,_,v,by rw[<-w];rfl⟩
 have C:A3 c.length=true:=K3;cases t:F3 d with
 | false=>
  refine key (d++[58]++e) ?_ ?_
  ·unfold Vx;rw[t,G3 (by omega)];simp only[vl,cond_true,b8];rw[G3 (by simp;omega)];rfl
  ·unfold Fw U0 mkU;simp[t]
 | true=>
  have v:(b==([]:List UInt8))=decide (b=[]):=by rw[z7];simp
  have w:ltI a 0=decide (a<0):=Nf ..;have z:ltI a (-1)=decide (a < -1):=Nf ..;have A:0<=a->ltN a 9223372036854775808=true:=λh=>E3.2 ⟨h,by omega⟩
  by_cases x:b=[]<;>rcases(show a < -1\/a=-1\/0<=a by omega) with q|q|q
  all_goals
   apply key
   ·unfold Vx;rw[t,C,h1,y,v,w,z];simp only[x,decide_true,decide_false,vl,cond_true,cond_false,b9,b8]
    first|rw[decide_eq_true (show a<0 by omega),decide_eq_true q]|rw[decide_eq_true (show a<0 by omega),decide_eq_false (show ¬a < -1 by omega)]|rw[decide_eq_false (show ¬a<0 by omega),A q]
    simp only[vl,cond_true,cond_false,b9,b8]
    repeat rw[G3 (by first|omega|(simp only[j0,j1,j8];omega))]
    simp only[vl,cond_true];rfl
   ·unfold Fw U0 mkU Ky V3
    first
     | (simp[t,EI,x,q];done)
     | simp[t,EI,x,show ¬a < -1 by omega,show ¬a<0 by omega,show ¬a=-1 by omega]
def D23(u:P7):((C0 (Fw u)).2==0&&eqU (C0 (Fw u)).1 u)=P2 u:=by
 by_cases h:-1<=u.port
 ·rw[TG h];rfl
 ·have a:∀s,eqU (C0 s).1 u=false:=λs=>by
   have b:=(Qr s).port.1;unfold eqU;rw[show((C0 s).1.port==u.port)=false by rw[beq_eq_false_iff_ne];omega];simp
  unfold P2;rw[a,a,aa4,aa4]
def Au0(sc us:By)(kd:Int)(nm:By)(v4 a b c d f g h i po:Int)(re:By)(m:smU sc us nm re=true)(k:ltN v4 4294967296=true)(l:ok8 a b c d f g h i=true)(n:Q1 po=true) :
  ∃r H,Yz LF sc us kd nm v4 a b c d f g h i po re (λu o=>rv (.s (.bool u)) o)=rv r H/\r.stab [] H = .s (.bool (P2 (mkU sc us kd nm v4 (n8 a b c d f g h i) po re))):=by
 have v:=Cg6 (kd:=kd) m k l n;unfold Yz;rw[<-D23,m,k,l,n];simp only[vl,cond_true];rw[K3,cond_true];have q:=Qr (Fw (mkU sc us kd nm v4 (n8 a b c d f g h i) po re));have j:=QO (sc:=sc) (us:=us) (kd:=kd) (nm:=nm) (po:=po) (re:=re) k l q;simp only[Pv sc,Pv us,Pv nm,Pv re,Bi kd,Bi v4,Bi a,Bi b,Bi c,Bi d,Bi f,Bi g,Bi h,Bi i,Bi po] at j;rw[j];generalize C0 (Fw (mkU sc us kd nm v4 (n8 a b c d f g h i) po re))=p;obtain⟨t,e⟩:=p;by_cases j:e=0
 ·subst j;exact⟨_,_,rfl,rfl⟩
 ·rw[show(uE (t,e)==(0:Int))=false by simpa using j,show(e==0)=false by simpa using j];exact⟨_,_,rfl,rfl⟩
def Bq5{u:P7}(h:P2 u=true):-1<=u.port:=by have a:=(Qr (U0 u)).port.1;simp only[P2,eqU,k9,beq_iff_eq] at h;omega
def C02(l m:By)(n:Int)(i:By)(v4 a b c d e f g h j:Int)(k:By)(p:smU l m i k=true)(q:ltN v4 4294967296=true)(t:ok8 a b c d e f g h=true)(u:Q1 j=true) :
  ∃r H,B01 LF l m n i v4 a b c d e f g h j k (λw o=>rv (.s (.str w)) o)=rv r H/\r.stab [] H = .s (.str (Fq (mkU l m n i v4 (n8 a b c d e f g h) j k))):=by
 unfold B01 Fq;rw[p,q,t,u];cases v:P2 (mkU l m n i v4 (n8 a b c d e f g h) j k) with
 | false=>exact⟨_,_,rfl,rfl⟩
 | true=>
  rw[TG (Bq5 v)];exact⟨_,_,rfl,rfl⟩
def C07(a p:By)(k:Int)(l:By)(v4 c d e f g h i j m:Int)(o:By) :
  ∃r H,B02 LF a p k l v4 c d e f g h i j m o (λn b=>rv (.s (.bool n)) b)=rv r H/\r.stab [] H = .s (.bool (N0 a)):=by
 unfold B02 N0;rw[show(a==([104,116,116,112]:By))=(a==W5) from rfl,show(a==([119,115]:By))=(a==bWs) from rfl];cases a==W5<;>exact⟨_,_,rfl,rfl⟩
section
def Ay4:B4 a8 GX 58 JG:=xf [] (KK LF) AP rfl ⟨Ay3,Ds1,Bq9,trivial⟩ rfl (by kernel_rfl) follows λargs=>by
 unfold AP;split
 ·rename_i n o j k v4 a b c d f g h i l m;exact λp=>λt=>λu=>λv=>(let⟨r,H,e,q⟩:=Ce4 n o j k v4 a b c d f g h i l m p t u v;⟨rfl,rfl,rfl,r,H,(Ce3 LF noY () 0 n o j k v4 a b c d f g h i l m).trans e,q⟩)
 ·trivial
def OK:B4 a8 GX 54 Tt:=xf [] (Uq LF) Pl rfl ⟨Ay4,B21,trivial⟩ rfl (by kernel_rfl) follows λargs=>by
 unfold Pl;split
 ·rename_i n o j k v4 a b c d f g h i l m;exact λp=>λt=>λu=>λv=>(let⟨r,H,e,q⟩:=Au0 n o j k v4 a b c d f g h i l m p t u v;⟨rfl,rfl,rfl,r,H,(At9 LF noY () 0 n o j k v4 a b c d f g h i l m).trans e,q⟩)
 ·trivial
def Ds6:B4 a8 GX 32 VQ:=xf [] (XS LF) IZ rfl ⟨OK,Ay4,trivial⟩ rfl (by kernel_rfl) follows λargs=>by
 unfold IZ;split
 ·rename_i n o j k v4 a b c d f g h i l m;exact λp=>λt=>λu=>λv=>(let⟨r,H,e,q⟩:=C02 n o j k v4 a b c d f g h i l m p t u v;⟨rfl,rfl,rfl,r,H,(C01 LF noY () 0 n o j k v4 a b c d f g h i l m).trans e,q⟩)
 ·trivial
def Ds8:B4 a8 GX 29 VR:=xf [] (XT LF) JB rfl trivial rfl (by kernel_rfl) follows λargs=>by
 unfold JB;split
 ·rename_i n o j k v4 a b c d f g h i l m;exact(let⟨r,H,e,q⟩:=C07 n o j k v4 a b c d f g h i l m ; ⟨rfl,rfl,rfl,r,H,(C06 LF noY () 0 n o j k v4 a b c d f g h i l m).trans e,q⟩)
 ·trivial
end
section
variable {Z R : Type} (L : Nat) (Q : G4) (Y : Yh Z) (s : Z) (k : Out -> St Z -> Option R)
noncomputable abbrev Ah0:Code:=C7 ab4
noncomputable def Hn(L:Nat):Cfg:=B8 L [19] (A2 [(2,[0,0,2,0])]) [] (A2 [(6,[4]),(3,[0,0,3]),(5,[4]),(4,[0,0,3,12]),(2,[0,0,3,3]),(1,[0,0,3]),(0,[0,0])]) [] (A2 [(0,[]),(1,[0,0,3])]) (some [4]) [] [] []
def Dy{R:Type}(L n:Nat)(n0:Int)(d c:Bool)(b:LL)(a:Int)(e:Unit->Option R)(f:Unit->Option R):Option R:=match n with|0=>none|n+1=>cond (ltI a (b.length:Int)) (cond (inR a b.length) (cond (okE Pd b (y5 a) 0) (cond (ltI n0 (↑(j6 (gX b (y5 a) 0)):Int)) (e ()) (Dy L n n0 d c b (A1 (a+1)) e f)) none) none) (f ())
def YV(n n0 l_z1 l_t2 l3 i4):D0 0 ((Hn L).keep 2) (bd (Hn L) Q Y (cd [1,0,1,0,0] Ah0)) n ⟨gp [(0,pI n0),(0,.s (.sl l_z1 l_t2 1 l3)),(3,pI i4)] 13,[],s⟩ k =
 Dy L n n0 l_z1 l_t2 l3 i4 (λ_=>k .ret ⟨gp [(4,pB false)] 14,[],s⟩) (λ_=>k (.exit 0) ⟨gp [] 19,[],s⟩):=by
 induction n generalizing n0 l_z1 l_t2 l3 i4 with
 | zero=>rfl
 | succ n a=>rw[Dy];simp only[<-a];kernel_rfl
def YU{R:Type}(L:Nat)(n0:Int)(b a:Bool)(d:LL)(c:Bool->Option R):Option R:=Dy L L n0 b a d 0 (λ_=>c false) (λ_=>c true)
def B69(d:Nat)(n0 l_z1 l_t2 l3):evC (Hn L) (d+1) Z Y 19 [pI n0,.s (.sl l_z1 l_t2 1 l3)] [] s=YU L n0 l_z1 l_t2 l3 (λa=>some (pB a,[],s)):=by refine(evE (fn:=ab4) (by kernel_rfl)).trans ?_;generalize evC (Hn L) d=Q;unfold YU;exact(j7 (by kernel_rfl) ((YV L Q Y s (E2 0 (E1 (Hn L) Q Y (cd [1,1] Ah0) (F4 (Hn L) ab4))) L n0 l_z1 l_t2 l3 0).trans (by kernel_rfl)))
end
end
section
open Go Go.Proofs Go.Sort
set_option maxRecDepth 100000
def EM{R:Type}(n:Int)(z t:Bool)(l:List By)(c d:Unit->Option R)(j:l.length<=1000000000):∀(r:List By) (i m:Nat),l.drop i=r->r.length<m->Dy LF m n z t (D5 l) (i:Int) c d=if Fs n r then d () else c ()
 | [],i,m,h,b=>by
  obtain⟨m,rfl⟩:∃q,m=q+1:=⟨m-1,by simp at b;omega⟩
  rw[Dy];have:l.length<=i:=x4.1 h;rw[E7 (by rw[F2];omega)];rfl
 | x::r,i,m,h,b=>by
  obtain⟨m,rfl⟩:∃q,m=q+1:=⟨m-1,by simp at b;omega⟩
  rw[Dy];have a:i<l.length:=Decidable.byContradiction λg=>by
   rw[x4.2 (by omega)] at h;cases h
  have o:l.getD i []=x:=by
   have:=p5 a;rw[h] at this;rw[j2,j5 a];exact(aa9 this).1.symm
  have k:l.drop (i+1)=r:=by
   have:=p5 a;rw[h] at this;exact(aa9 this).2.symm
  rw[B9 (by rw[F2];omega),cond_true,K8 (by omega) (by rw[F2];omega),cond_true,j9,R7 a,cond_true,V6,o];have e:Fs n (x::r)=(!(ltI n (x.length:Int))&&Fs n r):=rfl;rw[e];by_cases f:n<(x.length:Int)
  ·rw[B9 f];rfl
  ·rw[A6,cond_false,A7,b8,p7];exact EM n z t l c d j r (i+1) m k (by simp at b;omega)
def Am0{R:Type}{b:Bool->Option R}(n:Int)(z t:Bool)(l:LL)(c:l.all isS=true)(d:A3 l.length=true):YU LF n z t l b=b (Fs n (l.map elS)):=by
 have e:=C5;have a:=L7 d;rw[Ac4 c] at a ⊢;generalize l.map elS=q at a ⊢;rw[F2] at a;unfold YU;rw[show(0:Int)=((0:Nat):Int) from rfl,EM n z t q _ _ a q 0 LF rfl (by omega)];have:j4 elS (D5 q)=q:=by
  unfold D5;rw[ab2];exact ab0 (λ_=>rfl) q
 rw[this];cases Fs n q<;>rfl
end
section
open Go Go.Proofs
set_option maxRecDepth 100000
section
def C69:B4 a8 GX 19 Af5:=xf [] (Hn LF) AD rfl trivial rfl (by kernel_rfl) follows λargs=>by
 unfold AD;split
 ·rename_i n b a l;exact λc=>λd=>⟨rfl,rfl,rfl,_,_,(B69 LF noY () 0 n b a l).trans (Am0 n b a l c d),rfl⟩
 ·trivial
end
end
section
open Go
def ofB(u:P7):Bool:=F3 u.sch&&P2 u
structure OC where
 s:By
 k:Int
 n:By
 v:Int
 a:List Int
 p:Int
 b:Bool
def ofC(i n:By)(j:Int)(k:By)(v4 a b c d e f g h l:Int)(m:By):OC:=
 cond (ofB (mkU i n j k v4 (n8 a b c d e f g h) l m)) ⟨i,j,k,v4,[a,b,c,d,e,f,g,h],prt i l,true⟩ ⟨[],0,[],0,[0,0,0,0,0,0,0,0],0,false⟩
abbrev oS(c:OC):By:=c.s
abbrev oK(c:OC):Int:=c.k
abbrev oN(c:OC):By:=c.n
abbrev oV(c:OC):Int:=c.v
abbrev oA(c:OC)(i:Nat):Int:=c.a.getD i 0
abbrev oP(c:OC):Int:=c.p
abbrev oB(c:OC):Bool:=c.b
def D97:By:=[108,111,99,97,108,104,111,115,116]
def EO(i:Int)(j:By)(v4 a b c d e f g h:Int):Bool:=
 cond (K4 (mkH i j v4 (n8 a b c d e f g h))) (cond (i==2) (Pc .u32 v4 24==127) (cond (i==3) ((a==0)&&((b==0)&&((c==0)&&((d==0)&&((e==0)&&((f==0)&&((g==0)&&((h==1)&&true)))))))) (Cq D97 j))) false
def QE:By:=[102,105,108,101]
def Ua:By:=[97,98,111,117,116]
def Br(i n:By)(k:Int)(l:By)(v4 a b c d e f g h m:Int)(j:By):Bool:=
 cond (P2 (mkU i n k l v4 (n8 a b c d e f g h) m j)) (cond (i==U6||(i==Kz||i==QE)) true (cond (i==Ua) (j==[98,108,97,110,107]||j==[115,114,99,100,111,99]) (cond (F3 i) (EO k l v4 a b c d e f g h) false))) false
def Dg(n:Int):Bool:=!ltI n 1&&!ltI 22 n
def A49(n:Int)(a:Bool):Int:=cond (n==4) 1 (cond (n==2||(n==20||(n==9&&!a))) 2 (cond (Dg n) 3 0))
def B63(l:List By)(s:By):Int:=match l.findIdx? (· == s) with|some i=>(i:Int)|none=>-1
def B51(l:List By)(s:By):Bool:=l.any (· == s)
def An1(l:List By)(h:B5):Bool:=K4 h&&B51 l (S8 h)
structure DV where
 a:Int
 r:Int
 u:By
 e:Int
abbrev dA(d:DV):Int:=d.a
abbrev dR(d:DV):Int:=d.r
abbrev dU(d:DV):By:=d.u
abbrev dE(d:DV):Int:=d.e
abbrev bDQ(d:DV):Blk:=bDx (dA d) (dR d) (dU d)
def Bu5:By:=[100,97,116,97]
def Cf(i o:By)(j:Int)(k:By)(v4 a b c d e f g h m:Int)(n:By)(p:Int)(r t up q:Bool)(l:List By)(u:Int):DV:=
 cond (N0 i&&u !=0) ⟨2,2,Fq (mkU (upS i) o j k v4 (n8 a b c d e f g h) (upP i m) n),0⟩
 (cond (Br i o j k v4 a b c d e f g h m n||i==Bu5) ⟨1,1,Fq (mkU i o j k v4 (n8 a b c d e f g h) m n),0⟩
 (cond (N0 i&&(up&&(p !=4||An1 l (mkH j k v4 (n8 a b c d e f g h))))) ⟨2,3,Fq (mkU (upS i) o j k v4 (n8 a b c d e f g h) (upP i m) n),0⟩
 (cond (p==4||!t) ⟨1,6,Fq (mkU i o j k v4 (n8 a b c d e f g h) m n),0⟩
 (cond (N0 i&&(A49 p r==2&&(j==1&&!q))) ⟨2,4,Fq (mkU (upS i) o j k v4 (n8 a b c d e f g h) (upP i m) n),0⟩
 ⟨3,5,[],0⟩))))
def okD(d:DV):DV:=⟨d.a,d.r,d.u,0⟩
def FX(o p:By)(j:Int)(k:By)(v4 a b c d e f g h m:Int)(n:By)(i:Int)(r t up q:Bool)(l:List By)(u:Int):DV:=
 cond (P2 (mkU o p j k v4 (n8 a b c d e f g h) m n)) (cond (Dg i) (okD (Cf o p j k v4 a b c d e f g h m n i r t up q l u)) ⟨0,0,[],2⟩) ⟨0,0,[],1⟩
end
section
open Go Go.Proofs
set_option maxRecDepth 100000
def C28{a:LL}(h:∀b∈a,Ty.ofL [.str] b):a.all isS=true:=by rw[y7];intro b c;have:=h b c;simp only[Ty.ofL,Ty.of] at this;obtain⟨_,_,rfl,⟨l,rfl,_⟩,rfl⟩:=this;rfl
def Da4{P:Program}{t:Nat}{v:PV}(h:Sv P t v)(e:Fk P 20 t=some [.bool,.bool,.bool,.bool,.slice [.str]])(m:On P t=true) :
  ∃g f up c z l,v = .agg [.s (.bool g),.s (.bool f),.s (.bool up),.s (.bool c),.s (.sl z false 1 l)]/\l.all isS=true:=by
 obtain⟨n,l,i,j,b⟩:=h;rw[e] at i;obtain rfl:=o9 i;simp only[Ty.ofL] at j;obtain⟨_,_,rfl,⟨g,rfl⟩,_,_,rfl,⟨f,rfl⟩,_,_,rfl,⟨up,rfl⟩,_,_,rfl,⟨c,rfl⟩,x,_,rfl,k,rfl⟩:=j;simp only[Ty.of,j1,j8] at k;have⟨z,l,ex,hl⟩:∃z l,x = .sl z false 1 l/\l.all isS=true:=by
  rcases k with rfl|⟨d,rfl,_,a⟩
  ·exact⟨true,[],rfl,rfl⟩
  ·exact⟨false,d,rfl,C28 a⟩
 subst ex;rcases b with⟨_,rfl⟩|⟨b,_⟩
 ·exact⟨g,f,up,c,z,l,rfl,hl⟩
 ·rw[m] at b;cases b
def Da3{P:Program}{t:Nat}{v:PV}(h:Sv P t v)(e:Fk P 20 t=some [.int .i64,.str,.bool])(i:On P t=true) :
  ∃d b c,v = .agg [.s (.int .i64 d),.s (.str b),.s (.bool c)]:=by
 obtain⟨j,l,f,g,a⟩:=h;rw[e] at f;obtain rfl:=o9 f;simp only[Ty.ofL] at g;obtain⟨_,_,rfl,⟨d,rfl,_,_⟩,_,_,rfl,⟨b,rfl,_⟩,_,_,rfl,⟨c,rfl⟩,rfl⟩:=g;rcases a with⟨_,rfl⟩|⟨a,_⟩
 ·exact⟨d,b,c,rfl⟩
 ·rw[i] at a;cases a
section
def D96:List PV->Tr
 | [.agg [.s (.str l),.s (.str m),.s (.int .i64 n),.s (.str i),.s (.int .u32 v4),.s (.int .u16 a),.s (.int .u16 b),.s (.int .u16 c),.s (.int .u16 d),.s (.int .u16 e),.s (.int .u16 f),.s (.int .u16 g),.s (.int .u16 h),.s (.int .i64 j),.s (.str k)]]=>.need (smU l m i k) (.need (ltN v4 4294967296) (.need (ok8 a b c d e f g h) (.need (Q1 j) (.ret (.tup [.agg [.s (.str (oS (ofC l m n i v4 a b c d e f g h j k))),.s (.int .i64 (oK (ofC l m n i v4 a b c d e f g h j k))),.s (.str (oN (ofC l m n i v4 a b c d e f g h j k))),.s (.int .u32 (oV (ofC l m n i v4 a b c d e f g h j k))),.s (.int .u16 (oA (ofC l m n i v4 a b c d e f g h j k) 0)),.s (.int .u16 (oA (ofC l m n i v4 a b c d e f g h j k) 1)),.s (.int .u16 (oA (ofC l m n i v4 a b c d e f g h j k) 2)),.s (.int .u16 (oA (ofC l m n i v4 a b c d e f g h j k) 3)),.s (.int .u16 (oA (ofC l m n i v4 a b c d e f g h j k) 4)),.s (.int .u16 (oA (ofC l m n i v4 a b c d e f g h j k) 5)),.s (.int .u16 (oA (ofC l m n i v4 a b c d e f g h j k) 6)),.s (.int .u16 (oA (ofC l m n i v4 a b c d e f g h j k) 7)),.s (.int .i64 (oP (ofC l m n i v4 a b c d e f g h j k)))],.s (.bool (oB (ofC l m n i v4 a b c d e f g h j k)))]) []))))
 | _=>.fail
def II:List PV->Tr
 | [.agg [.s (.int .i64 j),.s (.str i),.s (.int .u32 v4),.s (.int .u16 a),.s (.int .u16 b),.s (.int .u16 c),.s (.int .u16 d),.s (.int .u16 e),.s (.int .u16 f),.s (.int .u16 g),.s (.int .u16 h)]]=>.need (A3 (j6 i)) (.need (ltN v4 4294967296) (.need (ok8 a b c d e f g h) (.ret (.s (.bool (EO j i v4 a b c d e f g h))) [])))
 | _=>.fail
def Bs6(args:List PV):Tr:=II (C2 [[0,0,0,0,0,0,0,0,0,0,0]] args)
def AE:List PV->Tr
 | [.agg [.s (.str l),.s (.str m),.s (.int .i64 n),.s (.str i),.s (.int .u32 v4),.s (.int .u16 a),.s (.int .u16 b),.s (.int .u16 c),.s (.int .u16 d),.s (.int .u16 e),.s (.int .u16 f),.s (.int .u16 g),.s (.int .u16 h),.s (.int .i64 j),.s (.str k)]]=>.need (smU l m i k) (.need (ltN v4 4294967296) (.need (ok8 a b c d e f g h) (.need (Q1 j) (.ret (.s (.bool (Br l m n i v4 a b c d e f g h j k))) []))))
 | _=>.fail
def Af6(args:List PV):Tr:=AE (C2 [[0,0,0,0,0,0,0,0,0,0,0,0,0,0,0]] args)
def AJ:List PV->Tr
 | [.agg [.s (.int .i64 j),.s (.str i),.s (.int .u32 v4),.s (.int .u16 a),.s (.int .u16 b),.s (.int .u16 c),.s (.int .u16 d),.s (.int .u16 e),.s (.int .u16 f),.s (.int .u16 g),.s (.int .u16 h)]]=>.need (A3 (j6 i)) (.need (ltN v4 4294967296) (.need (ok8 a b c d e f g h) (.ret (.s (.bool (EO j i v4 a b c d e f g h))) [])))
 | _=>.fail
def Af7(args:List PV):Tr:=AJ (C2 [[0,0,0,0,0,0,0,0,0,0,0]] args)
def Tq:List PV->Tr
 | [.agg [.s (.str l),.s (.str m),.s (.int .i64 n),.s (.str i),.s (.int .u32 v4),.s (.int .u16 a),.s (.int .u16 b),.s (.int .u16 c),.s (.int .u16 d),.s (.int .u16 e),.s (.int .u16 f),.s (.int .u16 g),.s (.int .u16 h),.s (.int .i64 j),.s (.str k)]]=>.need (smU l m i k) (.need (ltN v4 4294967296) (.need (ok8 a b c d e f g h) (.need (Q1 j) (.ret (.s (.bool (Br l m n i v4 a b c d e f g h j k))) []))))
 | _=>.fail
def AK(args:List PV):Tr:=Tq (C2 [[0,0,0,0,0,0,0,0,0,0,0,0,0,0,0]] args)
end
section
def Zx:List PV->Tr
 | [.s (.int .i64 n)]=>.ret (.s (.bool (Dg n))) []
 | _=>.fail
def HO(args:List PV):Tr:=Zx (C2 [[0]] args)
def TR:List PV->Tr
 | [.s (.int .i64 n),.s (.bool a)]=>.ret (.s (.int .i64 (A49 n a))) []
 | _=>.fail
def Ck2(args:List PV):Tr:=TR (C2 [[0],[0]] args)
def Tn:List PV->Tr
 | [.s (.int .i64 n)]=>.ret (.s (.bool (Dg n))) []
 | _=>.fail
def AI(args:List PV):Tr:=Tn (C2 [[0]] args)
def JM:List PV->Tr
 | [.s (.sl b a 1 l),.s (.str s)]=>.need (o5 l isS) (.need (A3 (j6 l)) (.ret (.s (.int .i64 (B63 (j4 elS l) s))) []))
 | _=>.fail
def Bu1(args:List PV):Tr:=JM (C2 [[1],[0]] args)
def JL:List PV->Tr
 | [.s (.sl b a 1 l),.s (.str s)]=>.need (o5 l isS) (.need (A3 (j6 l)) (.ret (.s (.bool (B51 (j4 elS l) s))) []))
 | _=>.fail
def Bu0(args:List PV):Tr:=JL (C2 [[1],[0]] args)
def TP:List PV->Tr
 | [.agg [.s (.bool p),.s (.bool o),.s (.bool up),.s (.bool n),.s (.sl m k 1 l)],.agg [.s (.int .i64 j),.s (.str i),.s (.int .u32 v4),.s (.int .u16 a),.s (.int .u16 b),.s (.int .u16 c),.s (.int .u16 d),.s (.int .u16 e),.s (.int .u16 f),.s (.int .u16 g),.s (.int .u16 h)]]=>.need (o5 l isS) (.need (A3 (j6 l)) (.need (A3 (j6 i)) (.need (ltN v4 4294967296) (.need (ok8 a b c d e f g h) (.ret (.s (.bool (An1 (j4 elS l) (mkH j i v4 (n8 a b c d e f g h))))) [])))))
 | _=>.fail
def Ck1(args:List PV):Tr:=TP (C2 [[0,0,0,0,1],[0,0,0,0,0,0,0,0,0,0,0]] args)
def IH:List PV->Tr
 | [.agg [.s (.str m),.s (.str n),.s (.int .i64 r),.s (.str i),.s (.int .u32 v4),.s (.int .u16 a),.s (.int .u16 b),.s (.int .u16 c),.s (.int .u16 d),.s (.int .u16 e),.s (.int .u16 f),.s (.int .u16 g),.s (.int .u16 h),.s (.int .i64 j),.s (.str k)],.s (.int .i64 p),.s (.bool q),.agg [.s (.bool z),.s (.bool t),.s (.bool up),.s (.bool o),.s (.sl w v 1 l)],.agg [.s (.int .i64 u),.s (.str x),.s (.bool y)]]=>.need (smU m n i k) (.need (ltN v4 4294967296) (.need (ok8 a b c d e f g h) (.need (Q1 j) (.need (o5 l isS) (.need (A3 (j6 l)) (.ret (.agg [.s (.int .i64 (dA (Cf m n r i v4 a b c d e f g h j k p q t up o (j4 elS l) u))),.s (.int .i64 (dR (Cf m n r i v4 a b c d e f g h j k p q t up o (j4 elS l) u))),.s (.str (dU (Cf m n r i v4 a b c d e f g h j k p q t up o (j4 elS l) u)))]) []))))))
 | _=>.fail
def Bs5(args:List PV):Tr:=IH (C2 [[0,0,0,0,0,0,0,0,0,0,0,0,0,0,0],[0],[0],[0,0,0,0,1],[0,0,0]] args)
def UT:List PV->Tr
 | [.agg [.s (.str m),.s (.str n),.s (.int .i64 r),.s (.str i),.s (.int .u32 v4),.s (.int .u16 a),.s (.int .u16 b),.s (.int .u16 c),.s (.int .u16 d),.s (.int .u16 e),.s (.int .u16 f),.s (.int .u16 g),.s (.int .u16 h),.s (.int .i64 j),.s (.str k)],.s (.int .i64 p),.s (.bool q),.agg [.s (.bool z),.s (.bool t),.s (.bool up),.s (.bool o),.s (.sl w v 1 l)],.agg [.s (.int .i64 u),.s (.str x),.s (.bool y)]]=>.need (smU m n i k) (.need (ltN v4 4294967296) (.need (ok8 a b c d e f g h) (.need (Q1 j) (.need (o5 l isS) (.need (A3 (j6 l)) (.ret (.tup [.agg [.s (.int .i64 (dA (FX m n r i v4 a b c d e f g h j k p q t up o (j4 elS l) u))),.s (.int .i64 (dR (FX m n r i v4 a b c d e f g h j k p q t up o (j4 elS l) u))),.s (.str (dU (FX m n r i v4 a b c d e f g h j k p q t up o (j4 elS l) u)))],.s (.int .i64 (dE (FX m n r i v4 a b c d e f g h j k p q t up o (j4 elS l) u)))]) []))))))
 | _=>.fail
def IG(args:List PV):Tr:=UT (C2 [[0,0,0,0,0,0,0,0,0,0,0,0,0,0,0],[0],[0],[0,0,0,0,1],[0,0,0]] args)
def IC:List PV->Tr
 | [.agg [.s (.bool e),.s (.bool d),.s (.bool up),.s (.bool c),.s (.sl b a 1 l)]]=>.need (o5 l isS) (.ret (.s (.bool ((o8 (j6 l) 20)&&(Fs (400:Int) (j4 elS l))))) [])
 | _=>.fail
def UO(args:List PV):Tr:=IC (C2 [[0,0,0,0,1]] args)
def Ti:List PV->Tr
 | []=>.ret (.s (.bool true)) []
 | _=>.fail
def Zw(args:List PV):Tr:=Ti (C2 [] args)
end
section
variable {Z R : Type} (L : Nat) (Q : G4) (Y : Yh Z) (s : Z) (k : Out -> St Z -> Option R)
noncomputable def KD(L:Nat):Cfg:=B8 L [52] (A2 []) [] (A2 [(1,[2]),(0,[0])]) [] (A2 []) (some [2]) [] [] []
def YE{R:Type}(L:Nat)(a:Int)(b:Bool->Option R):Option R:=cond (not (ltI a 1)) (b (not (ltI 22 a))) (b false)
def B42(d:Nat)(dest0):evC (KD L) (d+1) Z Y 52 [pI dest0] [] s=YE L dest0 (λa=>some (pB a,[],s)):=by refine(evE (fn:=Tryz.f52) (by kernel_rfl)).trans ?_;generalize evC (KD L) d=Q;unfold YE;kernel_rfl
noncomputable def A28(L:Nat):Cfg:=B8 L [89] (A2 []) [(52,HO)] (A2 [(12,[4]),(11,[4]),(10,[17]),(3,[4]),(6,[4]),(9,[4]),(8,[0,13]),(7,[0,0,9]),(5,[0,0,3,2]),(4,[0,0,3,2]),(2,[0,0,3,0]),(1,[0,0,3]),(0,[0,0])]) [52] (A2 [(0,[0])]) (some [4]) [] [] []
def Db7{R:Type}(L:Nat)(a:Int)(b:Bool)(c:Int->Option R):Option R:=cond (a==4) (c 1) (cond (a==2) (cond (a==2) (c 2) (cond (a==9) (cond (not b) (c 2) (cond (not (Dg a)) (c 0) (c 3))) (cond (not (Dg a)) (c 0) (c 3)))) (cond (a==20) (c 2) (cond (a==9) (cond (not b) (c 2) (cond (not (Dg a)) (c 0) (c 3))) (cond (not (Dg a)) (c 0) (c 3)))))
def Db8(d:Nat)(dest0 imageSet1):evC (A28 L) (d+1) Z Y 89 [pI dest0,pB imageSet1] [] s=Db7 L dest0 imageSet1 (λa=>some (pI a,[],s)):=by refine(evE (fn:=Tryz.f89) (by kernel_rfl)).trans ?_;generalize evC (A28 L) d=Q;unfold Db7;kernel_rfl
noncomputable def BI(L:Nat):Cfg:=B8 L [30] (A2 []) [] (A2 [(1,[2]),(0,[0])]) [] (A2 []) (some [2]) [] [] []
def GZ{R:Type}(L:Nat)(a:Int)(b:Bool->Option R):Option R:=cond (not (ltI a 1)) (b (not (ltI 22 a))) (b false)
def Be7(d:Nat)(dest0):evC (BI L) (d+1) Z Y 30 [pI dest0] [] s=GZ L dest0 (λa=>some (pB a,[],s)):=by refine(evE (fn:=Tryz.f30) (by kernel_rfl)).trans ?_;generalize evC (BI L) d=Q;unfold GZ;kernel_rfl
noncomputable abbrev Bv3:Code:=C7 ab1
noncomputable def Mt(L:Nat):Cfg:=B8 L [171] (A2 [(2,[0,0,2,2,0])]) [] (A2 [(7,[4]),(6,[0,0,5,0]),(5,[4]),(4,[0,0,3,1,0,7]),(3,[0,0,3,1,0]),(2,[0,0,5,0,0]),(1,[0,0,5,0]),(0,[0,0])]) [] (A2 [(0,[]),(1,[0,0,5,0])]) (some [4]) [] [] []
def Iy{R:Type}(L n:Nat)(c b:Bool)(d:LL)(h:By)(g a:Int)(e:Int->Option R)(f:Unit->Option R):Option R:=match n with|0=>none|n+1=>cond (ltI a g) (cond (inR a d.length) (cond (okE Pd d (y5 a) 0) (cond (h==(gX d (y5 a) 0)) (e a) (Iy L n c b d h g (A1 (a+1)) e f)) none) none) (f ())
def Aw0(n s_z0 s_t1 s2 v3 n4 n5):D0 0 ((Mt L).keep 2) (bd (Mt L) Q Y (cd [1,0,1,0,0] Bv3)) n ⟨gp [(0,.s (.sl s_z0 s_t1 1 s2)),(0,pS v3),(5,pI n4),(0,pI n5)] 10,[],s⟩ k =
 Iy L n s_z0 s_t1 s2 v3 n4 n5 (λn0=>k .ret ⟨gp [(4,pI n0)] 14,[],s⟩) (λ_=>k (.exit 0) ⟨gp [] 19,[],s⟩):=by
 induction n generalizing s_z0 s_t1 s2 v3 n4 n5 with
 | zero=>rfl
 | succ n a=>rw[Iy];simp only[<-a];kernel_rfl
def B06{R:Type}(L:Nat)(b a:Bool)(d:LL)(e:By)(c:Int->Option R):Option R:=Iy L L b a d e (d.length:Int) 0 c (λ_=>c (-1))
def C24(d:Nat)(s_z0 s_t1 s2 v3):evC (Mt L) (d+1) Z Y 171 [.s (.sl s_z0 s_t1 1 s2),pS v3] [] s=B06 L s_z0 s_t1 s2 v3 (λa=>some (pI a,[],s)):=by refine(evE (fn:=ab1) (by kernel_rfl)).trans ?_;generalize evC (Mt L) d=Q;unfold B06;exact(j7 (by kernel_rfl) ((Aw0 L Q Y s (E2 0 (E1 (Mt L) Q Y (cd [1,1] Bv3) (F4 (Mt L) ab1))) L s_z0 s_t1 s2 v3 (s2.length:Int) 0).trans (by kernel_rfl)))
noncomputable def XV(L:Nat):Cfg:=B8 L [126] (A2 []) [(171,Bu1)] (A2 [(1,[4]),(0,[0,0])]) [171] (A2 []) (some [4]) [] [] []
def B05{R:Type}(L:Nat)(d c:Bool)(b:LL)(f:By)(e:Bool->Option R):Option R:=cond (o5 b isS) (cond (A3 b.length) (vl (B63 (j4 elS b) f) λa=>e (not (ltI a 0))) none) none
def C22(d:Nat)(s_z0 s_t1 s2 v3):evC (XV L) (d+1) Z Y 126 [.s (.sl s_z0 s_t1 1 s2),pS v3] [] s=B05 L s_z0 s_t1 s2 v3 (λa=>some (pB a,[],s)):=by refine(evE (fn:=Tryz.f126) (by kernel_rfl)).trans ?_;generalize evC (XV L) d=Q;unfold B05;kernel_rfl
noncomputable def A26(L:Nat):Cfg:=B8 L [88] (A2 []) [(39,UF),(122,Az1),(126,Bu0)] (A2 [(1,[4]),(0,[2,0])]) [39,122,126] (A2 []) (some [4]) [] [] [] (nt:=[(58,4,9,1)])
def Db0{R:Type}(L:Nat)(q r t u j i:Bool)(n:LL)(o:Int)(l:By)(m a b c d e f g h:Int)(v:Bool->(List Blk)->Option R):Option R:=cond (A3 l.length) (cond (ltN m 4294967296) (cond (ok8 a b c d e f g h) (cond (K4 (mkH o l m (n8 a b c d e f g h))) (cond (A3 l.length) (cond (ltN m 4294967296) (cond (ok8 a b c d e f g h) (vl (S8 (mkH o l m (n8 a b c d e f g h))) λp=>cond (o5 n isS) (cond (A3 n.length) (v (B51 (j4 elS n) p) [(bCx q r t u j i n),(bH o l m a b c d e f g h)]) none) none) none) none) none) (v false [(bCx q r t u j i n),(bH o l m a b c d e f g h)])) none) none) none
def Db1(d:Nat)(c0 c1 c2 c3 c_z4 c_t5 c6 h7 h8 h9 h10 h11 h12 h13 h14 h15 h16 h17):evC (A26 L) (d+1) Z Y 88 [(gCx c0 c1 c2 c3 c_z4 c_t5 c6),(gH h7 h8 h9 h10 h11 h12 h13 h14 h15 h16 h17)] [] s=Db0 L c0 c1 c2 c3 c_z4 c_t5 c6 h7 h8 h9 h10 h11 h12 h13 h14 h15 h16 h17 (λb a=>some (pB b,a,s)):=by refine(evE (fn:=Tryz.f88) (by kernel_rfl)).trans ?_;generalize evC (A26 L) d=Q;unfold Db0;kernel_rfl
noncomputable abbrev Jf:Code:=C7 aa6
noncomputable def Co(L:Nat):Cfg:=B8 L [53] (A2 []) [(84,A09),(85,Cm5),(86,Cm9),(87,Af6),(88,Ck1),(89,Ck2)] (A2 [(13,[10]),(4,[10]),(6,[10]),(8,[10]),(10,[10]),(12,[10]),(11,[10,3,55]),(9,[1,0,2,2,1,0,1,0,46]),(7,[1,0,2,2,1,0,0,0,0,28]),(5,[1,0,2,2,1,0,0,0,0,18]),(3,[1,0,2,2,1,0,0,0,0,9]),(2,[1,0,2,2,0,0,0,0,0,0]),(1,[1,0,2,2,0,0,0,0]),(0,[1,0,2,2,0,0])]) [84,85,87,88,89] (A2 [(0,[10])]) (some [10]) [] [] [] (nt:=[(58,4,9,1)])
def Xy{R:Type}(a A B:By)(u:Int)(C:By)(h i j l m n o p q r:Int)(v:By)(b c d e y x:Bool)(g:LL)(t:Int)(w:By)(f:Bool)(z:Blk->Blk->Blk->By->(List Blk)->Option R):Option R:=z (bU A B u C h i j l m n o p q r v) (bCx b c d e y x g) (bCv t w f) a []
abbrev MG(b:Code):Prop:=∀(k:Out->St Z->Option R) dest0 imageSet1 insecure2 document3 allow4 upgrade5 s6 s7 n8v s9 n10 n11 n12 n13 n14 n15 n16 n17 n18 n19 s20 b21 b22 b23 b24 z25 t26 l27 n28 s29 b30,A9 (Co L) Q Y b ⟨gp [(1,pI dest0),(0,pB imageSet1),(2,.ptr 0 0 0),(2,.ptr 1 0 0),(1,.ptr 3 0 0),(0,pB insecure2),(0,pB document3),(0,pS allow4),(0,pS upgrade5),(28,pB true)] 48,[(bU s6 s7 n8v s9 n10 n11 n12 n13 n14 n15 n16 n17 n18 n19 s20),(bCx b21 b22 b23 b24 z25 t26 l27),(bCv n28 s29 b30),(bDx (0:Int) (0:Int) e0)],s⟩ k=Xy upgrade5 s6 s7 n8v s9 n10 n11 n12 n13 n14 n15 n16 n17 n18 n19 s20 b21 b22 b23 b24 z25 t26 l27 n28 s29 b30 (λa c d f e=>k .ret ⟨gp [(10,.ptr 3 0 0)] 81,(a::c::d::(bDx (2:Int) (3:Int) f)::e),s⟩)
def Am7:MG (R:=R) L Q Y s (cd [1,1,1,0,0,1,1,1,1,1] Jf):=by intro k f b c a e d F G z H n o p q r t u v w x A g h i j D C m y B l;unfold Xy;kernel_rfl
def Lk{R:Type}(H:Int)(A B z:Bool)(C a:By)(K:Bool)(F G:By)(D:Int)(u:By)(h i j l m n o p q r:Int)(v:By)(d c e b y x:Bool)(g:LL)(t:Int)(w:By)(f:Bool)(I:Blk->Blk->Blk->Int->Int->By->(List Blk)->Option R)(J:By->Bool->By->By->Int->By->Int->Int->Int->Int->Int->Int->Int->Int->Int->Int->By->Bool->Bool->Bool->Bool->Bool->Bool->LL->Int->By->Bool->Option R):Option R:=cond K (I (bU F G D u h i j l m n o p q r v) (bCx d c e b y x g) (bCv t w f) 2 3 a []) (cond z (I (bU F G D u h i j l m n o p q r v) (bCx d c e b y x g) (bCv t w f) 1 6 C []) (cond (not c) (I (bU F G D u h i j l m n o p q r v) (bCx d c e b y x g) (bCv t w f) 1 6 C []) (cond B (cond ((A49 H A)==2) (cond (D==1) (cond (not b) (I (bU F G D u h i j l m n o p q r v) (bCx d c e b y x g) (bCv t w f) 2 4 a []) (J a (not b) F G D u h i j l m n o p q r v d c e b y x g t w f)) (J a false F G D u h i j l m n o p q r v d c e b y x g t w f)) (J a false F G D u h i j l m n o p q r v d c e b y x g t w f)) (J a false F G D u h i j l m n o p q r v d c e b y x g t w f))))
abbrev MH(b:Code):Prop:=∀(k:Out->St Z->Option R) dest0 imageSet1 insecure2 document3 allow4 upgrade5 b6 s7 s8 h s10 c d e f g n16 n17 n18 n19 n20 s21 b22 b23 b24 b25 z26 t27 l28 n29 s30 b31,A9 (Co L) Q Y b ⟨gp [(1,pI dest0),(0,pB imageSet1),(2,.ptr 0 0 0),(2,.ptr 1 0 0),(1,.ptr 3 0 0),(0,pB insecure2),(0,pB document3),(0,pS allow4),(0,pS upgrade5),(28,pB b6)] 48,[(bU s7 s8 h s10 c d e f g n16 n17 n18 n19 n20 s21),(bCx b22 b23 b24 b25 z26 t27 l28),(bCv n29 s30 b31),(bDx (0:Int) (0:Int) e0)],s⟩ k=Lk dest0 imageSet1 insecure2 document3 allow4 upgrade5 b6 s7 s8 h s10 c d e f g n16 n17 n18 n19 n20 s21 b22 b23 b24 b25 z26 t27 l28 n29 s30 b31 (λz A B F r w C=>k .ret ⟨gp [(10,.ptr 3 0 0)] 81,(z::A::B::(bDx F r w)::C),s⟩) (λa D I J r w G H t h p c d e f g u i j l m y x o q v n=>k .normal ⟨gp [(10,.ptr 3 0 0),(3,pS a),(55,pB D)] 21,[(bU I J r w G H t h p c d e f g u),(bCx i j l m y x o),(bCv q v n),(bDx (0:Int) (0:Int) e0)],s⟩)
def Am8:MH (R:=R) L Q Y s (cd [1,1,1,0,0,1,1,1,1,1] Jf):=by intro k f b c a e d F H I G z n o p q r t u v w x A g h i j D C m y B l;unfold Lk;kernel_rfl
def Qo{R:Type}(z:Int)(d c b:Bool)(e a:By)(S:Bool)(F H:By)(G:Int)(p:By)(f g h i j l m n o r:Int)(t:By)(v w u x D C:Bool)(q:LL)(A:Int)(B:By)(y:Bool)(I:Blk->Blk->Blk->Int->Int->By->(List Blk)->Option R)(O:By->Bool->By->By->Int->By->Int->Int->Int->Int->Int->Int->Int->Int->Int->Int->By->Bool->Bool->Bool->Bool->Bool->Bool->LL->Int->By->Bool->Option R):Option R:=cond S (I (bU F H G p f g h i j l m n o r t) (bCx v w u x D C q) (bCv A B y) 2 2 a []) (cond (smU F H p t) (cond (ltN f 4294967296) (cond (ok8 g h i j l m n o) (cond (Q1 r) (cond (Br F H G p f g h i j l m n o r t) (I (bU F H G p f g h i j l m n o r t) (bCx v w u x D C q) (bCv A B y) 1 1 e []) (cond (F==[100,97,116,97]) (I (bU F H G p f g h i j l m n o r t) (bCx v w u x D C q) (bCv A B y) 1 1 e []) (cond c (cond u (cond (not b) (Xy a F H G p f g h i j l m n o r t v w u x D C q A B y (λJ K M P N=>I J K M 2 3 P N)) (cond (o5 q isS) (cond (A3 q.length) (cond (A3 p.length) (cond (ltN f 4294967296) (cond (ok8 g h i j l m n o) (Lk z d c b e a (An1 (j4 elS q) (mkH G p f (n8 g h i j l m n o))) F H G p f g h i j l m n o r t v w u x D C q A B y I O) none) none) none) none) none)) (Lk z d c b e a false F H G p f g h i j l m n o r t v w u x D C q A B y I O)) (Lk z d c b e a false F H G p f g h i j l m n o r t v w u x D C q A B y I O)))) none) none) none) none)
abbrev Vb(b:Code):Prop:=∀(k:Out->St Z->Option R) dest0 imageSet1 insecure2 document3 allow4 upgrade5 b6 s7 s8 h s10 c d e f g n16 n17 n18 n19 n20 s21 b22 b23 b24 b25 z26 t27 l28 n29 s30 b31,A9 (Co L) Q Y b ⟨gp [(1,pI dest0),(0,pB imageSet1),(2,.ptr 0 0 0),(2,.ptr 1 0 0),(1,.ptr 3 0 0),(0,pB insecure2),(0,pB document3),(0,pS allow4),(0,pS upgrade5),(9,pB b6)] 67,[(bU s7 s8 h s10 c d e f g n16 n17 n18 n19 n20 s21),(bCx b22 b23 b24 b25 z26 t27 l28),(bCv n29 s30 b31),(bDx (0:Int) (0:Int) e0)],s⟩ k=Qo dest0 imageSet1 insecure2 document3 allow4 upgrade5 b6 s7 s8 h s10 c d e f g n16 n17 n18 n19 n20 s21 b22 b23 b24 b25 z26 t27 l28 n29 s30 b31 (λz A B F r w C=>k .ret ⟨gp [(10,.ptr 3 0 0)] 81,(z::A::B::(bDx F r w)::C),s⟩) (λa D I J r w G H t h p c d e f g u i j l m y x o q v n=>k .normal ⟨gp [(10,.ptr 3 0 0),(3,pS a),(55,pB D)] 21,[(bU I J r w G H t h p c d e f g u),(bCx i j l m y x o),(bCv q v n),(bDx (0:Int) (0:Int) e0)],s⟩)
def Am9(a:Code)(i:MG (R:=R) L Q Y s a)(e:MH (R:=R) L Q Y s a):Vb (R:=R) L Q Y s (cd [1,1,1,0,0,1] (G7 [1,1,1,0,0,1,1,1,1,1] a Jf)):=by intro k h c d b g f M J K I v l m n o p q r t u B D w x y z H G j C F A;unfold Qo;exact(j7 (by kernel_rfl) (A0 rfl (A0 (A0 (A0 (A0 (A0 rfl (A0 rfl (A0 (A0 (A0 ((i k h c d b g f J K I v l m n o p q r t u B D w x y z H G j C F A).trans (by kernel_rfl)) (A0 (A0 (A0 (A0 (A0 ((e k h c d b g f (An1 (j4 elS j) (mkH I v l (n8 m n o p q r t u))) J K I v l m n o p q r t u B D w x y z H G j C F A).trans (by kernel_rfl)) rfl) rfl) rfl) rfl) rfl)) ((e k h c d b g f false J K I v l m n o p q r t u B D w x y z H G j C F A).trans (by kernel_rfl))) ((e k h c d b g f false J K I v l m n o p q r t u B D w x y z H G j C F A).trans (by kernel_rfl))))) rfl) rfl) rfl) rfl)))
def An0:Vb (R:=R) L Q Y s (cd [1,1,1,0,0,1] Jf):=by intro k f b c a e d F H I G z n o p q r t u v w x A g h i j D C m y B l;exact j7 (by kernel_rfl) (Am9 L Q Y s (cd [1,1,1,0,0,1,1,1,1,1] Jf) (Am7 L Q Y s) (Am8 L Q Y s) k f b c a e d F H I G z n o p q r t u v w x A g h i j D C m y B l)
def Am6{R:Type}(L:Nat)(u u1:By)(u2:Int)(u3:By)(u4 u5 u6 u7 u8 u9 d e f g:Int)(h:By)(b:Int)(a d8 d9 e1 e2 j i:Bool)(e3:LL)(c:Int)(l:By)(m:Bool)(k0:Int->Int->By->(List Blk)->Option R):Option R:=cond (smU u u1 u3 h) (cond (ltN u4 4294967296) (cond (ok8 u5 u6 u7 u8 u9 d e f) (cond (Q1 g) (vl (Fq (mkU u u1 u2 u3 u4 (n8 u5 u6 u7 u8 u9 d e f) g h)) λe4=>cond (smU (upS u) u1 u3 h) (cond (ltN u4 4294967296) (cond (ok8 u5 u6 u7 u8 u9 d e f) (cond (Q1 (upP u g)) (vl (Fq (mkU (upS u) u1 u2 u3 u4 (n8 u5 u6 u7 u8 u9 d e f) (upP u g) h)) λe5=>cond (N0 u) (Qo b a (N0 u) (b==4) e4 e5 (c !=0) u u1 u2 u3 u4 u5 u6 u7 u8 u9 d e f g h d8 d9 e1 e2 j i e3 c l m (λx y z n o r D=>k0 n o r (x::(y::(z::((bDx n o r)::D))))) (λv e6 c4 c5 V c6 W X a0 a1 a2 a3 a4 a5 a6 a7 c7 G H I J d6 d4 T a9 c8 K=>k0 3 5 e0 [(bU c4 c5 V c6 W X a0 a1 a2 a3 a4 a5 a6 a7 c7),(bCx G H I J d6 d4 T),(bCv a9 c8 K),(bDx (3:Int) (5:Int) e0)])) (Qo b a (N0 u) (b==4) e4 e5 false u u1 u2 u3 u4 u5 u6 u7 u8 u9 d e f g h d8 d9 e1 e2 j i e3 c l m (λA B C p q t F=>k0 p q t (A::(B::(C::((bDx p q t)::F))))) (λw e7 c9 d0 b0 d1 b1 b2 b3 b4 b5 b6 b7 c0 c1 c2 d2 M N O P d7 d5 U c3 d3 S=>k0 3 5 e0 [(bU c9 d0 b0 d1 b1 b2 b3 b4 b5 b6 b7 c0 c1 c2 d2),(bCx M N O P d7 d5 U),(bCv c3 d3 S),(bDx (3:Int) (5:Int) e0)]))) none) none) none) none) none) none) none) none
def Cu6(e:Code)(c:Vb (R:=PV × List Blk × Z) L Q Y s e)(v y:By)(z:Int)(A:By)(B C D F u8 G p q r t:Int)(u:By)(b:Int)(a j l m n g f:Bool)(o:LL)(d:Int)(h:By)(i:Bool):A9 (Co L) Q Y (cd [] (G7 [1,1,1,0,0,1] e Jf)) ⟨[(gU v y z A B C D F u8 G p q r t u),pI b,pB a,(gCx j l m n g f o),(gCv d h i)]++tps 87,[],s⟩ (F4 (Co L) aa6)=Am6 L v y z A B C D F u8 G p q r t u b a j l m n g f o d h i (λJ K M I=>some (.agg [pI J,pI K,pS M],I,s)):=by unfold Am6;exact let H:=(E2 0 (E1 (Co L) Q Y (cd [1,1,1,1] Jf) (F4 (Co L) aa6)));(j7 (by kernel_rfl) (A0 (A0 (A0 (A0 (A4 λw=>(A0 (A0 (A0 (A0 (A4 λx=>(A0 ((c H b a (N0 v) (b==4) w x (d !=0) v y z A B C D F u8 G p q r t u j l m n g f o d h i).trans (by kernel_rfl)) ((c H b a (N0 v) (b==4) w x false v y z A B C D F u8 G p q r t u j l m n g f o d h i).trans (by kernel_rfl)))) rfl) rfl) rfl) rfl)) rfl) rfl) rfl) rfl))
def Cu7(d:Nat)(u0 u1 u2 u3 u4 u5 u6 u7 u8 u9 u10 u11 u12 u13 u14 dest15 imageSet16 c17 c18 c19 c20 c_z21 c_t22 c23 cov24 cov25 cov26):evC (Co L) (d+1) Z Y 53 [(gU u0 u1 u2 u3 u4 u5 u6 u7 u8 u9 u10 u11 u12 u13 u14),pI dest15,pB imageSet16,(gCx c17 c18 c19 c20 c_z21 c_t22 c23),(gCv cov24 cov25 cov26)] [] s=Am6 L u0 u1 u2 u3 u4 u5 u6 u7 u8 u9 u10 u11 u12 u13 u14 dest15 imageSet16 c17 c18 c19 c20 c_z21 c_t22 c23 cov24 cov25 cov26 (λb c e a=>some (.agg [pI b,pI c,pS e],a,s)):=
 (evE (fn:=aa6) (by kernel_rfl)).trans (j7 (by kernel_rfl) (Cu6 L (evC (Co L) d) Y s (cd [1,1,1,0,0,1] Jf) (An0 L (evC (Co L) d) Y s) u0 u1 u2 u3 u4 u5 u6 u7 u8 u9 u10 u11 u12 u13 u14 dest15 imageSet16 c17 c18 c19 c20 c_z21 c_t22 c23 cov24 cov25 cov26))
noncomputable def A38(L:Nat):Cfg:=B8 L [26] (A2 []) [(51,Rm),(52,HO),(53,Bs5)] (A2 [(5,[10,0]),(2,[10,0]),(4,[10,0]),(3,[1,0,2,2,0,0,6]),(1,[1,0,2,2,0,0,1]),(0,[1,0,2,2,0,0])]) [51,52] (A2 [(0,[1,0,2,2,0,0])]) (some [10,0]) [] [] [] (nt:=[(58,4,9,1)])
def Dh3{R:Type}(L:Nat)(u v:By)(C:Int)(w:By)(x y z A u8 B g h i j:Int)(l:By)(m:Int)(b t o p q d c:Bool)(n:LL)(a:Int)(e:By)(f:Bool)(D:Int->Int->By->Int->(List Blk)->Option R):Option R:=cond (smU u v w l) (cond (ltN x 4294967296) (cond (ok8 y z A u8 B g h i) (cond (Q1 j) (cond (not (P2 (mkU u v C w x (n8 y z A u8 B g h i) j l))) (D 0 0 e0 1 [(bU u v C w x y z A u8 B g h i j l),(bCx t o p q d c n),(bCv a e f),(bDx (0:Int) (0:Int) e0)]) (cond (not (Dg m)) (D 0 0 e0 2 [(bU u v C w x y z A u8 B g h i j l),(bCx t o p q d c n),(bCv a e f),(bDx (0:Int) (0:Int) e0)]) (cond (smU u v w l) (cond (ltN x 4294967296) (cond (ok8 y z A u8 B g h i) (cond (Q1 j) (cond (o5 n isS) (cond (A3 n.length) (vl (Cf u v C w x y z A u8 B g h i j l m b o p q (j4 elS n) a) λr=>D (dA r) (dR r) (dU r) 0 [(bU u v C w x y z A u8 B g h i j l),(bCx t o p q d c n),(bCv a e f),(bDQ r)]) none) none) none) none) none) none))) none) none) none) none
def Dh4(d:Nat)(u0 u1 u2 u3 u4 u5 u6 u7 u8 u9 u10 u11 u12 u13 u14 dest15 imageSet16 c17 c18 c19 c20 c_z21 c_t22 c23 cov24 cov25 cov26):evC (A38 L) (d+1) Z Y 26 [(gU u0 u1 u2 u3 u4 u5 u6 u7 u8 u9 u10 u11 u12 u13 u14),pI dest15,pB imageSet16,(gCx c17 c18 c19 c20 c_z21 c_t22 c23),(gCv cov24 cov25 cov26)] [] s=Dh3 L u0 u1 u2 u3 u4 u5 u6 u7 u8 u9 u10 u11 u12 u13 u14 dest15 imageSet16 c17 c18 c19 c20 c_z21 c_t22 c23 cov24 cov25 cov26 (λb c e f a=>some (.tup [.agg [pI b,pI c,pS e],pI f],a,s)):=by refine(evE (fn:=Tryz.f26) (by kernel_rfl)).trans ?_;generalize evC (A38 L) d=Q;unfold Dh3;kernel_rfl
noncomputable def XG(L:Nat):Cfg:=B8 L [24] (A2 []) [(19,Af5)] (A2 [(1,[2]),(0,[1])]) [19] (A2 []) (some [2]) [] [] [] (nt:=[(58,4,9,1)])
def Bx6{R:Type}(L:Nat)(d e f g b a:Bool)(c:LL)(h:Bool->(List Blk)->Option R):Option R:=cond (not (ltI 20 (c.length:Int))) (cond (o5 c isS) (cond (A3 c.length) (h (Fs (400:Int) (j4 elS c)) [(bCx d e f g b a c)]) none) none) (h false [(bCx d e f g b a c)])
def Ct5(d:Nat)(c0 c1 c2 c3 c_z4 c_t5 c6):evC (XG L) (d+1) Z Y 24 [(gCx c0 c1 c2 c3 c_z4 c_t5 c6)] [] s=Bx6 L c0 c1 c2 c3 c_z4 c_t5 c6 (λb a=>some (pB b,a,s)):=by refine(evE (fn:=Tryz.f24) (by kernel_rfl)).trans ?_;generalize evC (XG L) d=Q;unfold Bx6;kernel_rfl
end
def Aj2{R:Type}{a:Bool->Option R}(n:Int):YE LF n a=a (Dg n):=by unfold YE Dg;cases ltI n 1<;>rfl
def ZZ{R:Type}{a:Bool->Option R}(n:Int):GZ LF n a=a (Dg n):=by unfold GZ Dg;cases ltI n 1<;>rfl
def B34{R:Type}{b:Int->Option R}(n:Int)(a:Bool):Db7 LF n a b=b (A49 n a):=by unfold Db7 A49;cases n==4<;>cases n==2<;>cases n==20<;>cases n==9<;>cases a<;>cases Dg n<;>rfl
def Bo1{R:Type}(z t:Bool)(l:List By)(v:By)(a:Int->Option R)(b:Unit->Option R)(k:l.length<=1000000000):∀(r i m:Nat),i+r=l.length->r<m->
  Iy LF m z t (D5 l) v (l.length:Int) (i:Int) a b=match (l.drop i).findIdx? (· == v) with|some j=>a ((i+j:Nat):Int)|none=>b ():=by
 intro r
 induction r with
 | zero=>
  intro i m e f;obtain⟨m,rfl⟩:∃q,m=q+1:=⟨m-1,by omega⟩
  rw[Iy,A6,o0 (by omega)];rfl
 | succ r g=>
  intro i m e f;obtain⟨m,rfl⟩:∃q,m=q+1:=⟨m-1,by omega⟩
  have c:A1 ((i:Int)+1)=((i+1:Nat):Int):=by rw[A7];rfl
  have d:l.drop i=l.getD i []::l.drop (i+1):=by
   rw[j2,j5 (by omega),o7,v8]
  rw[Iy,A8,K8 (by omega) (by rw[F2];omega),j9,R7 (by omega),V6,c,d,List.findIdx?_cons];simp only[cond_true];by_cases h:l.getD i []=v
  ·rw[h,beq_self_eq_true];simp
  ·rw[show(v==l.getD i [])=false by simpa using λq=>h q.symm,show(l.getD i []==v)=false by simpa using h,cond_false,g (i+1) m (by omega) (by omega)];cases (l.drop (i+1)).findIdx? (· == v) with
   | none=>rfl
   | some j=>simp[Nat.add_assoc,Nat.add_comm 1 j]
def Bo2{R:Type}{b:Int->Option R}(z t:Bool)(l:LL)(v:By)(c:l.all isS=true)(d:A3 l.length=true):B06 LF z t l v b=b (B63 (l.map elS) v):=by
 have f:=C5;have a:=L7 d;rw[Ac4 c] at a ⊢;generalize l.map elS=q at a ⊢;rw[F2] at a;have e:j4 elS (D5 q)=q:=by
  unfold D5;rw[ab2];exact ab0 (λ_=>rfl) q
 unfold B06 B63;rw[F2,e];refine(Bo1 z t q v _ _ a q.length 0 LF (by omega) (by omega)).trans ?_;rw[x5];cases q.findIdx? (· == v) with
 | none=>rfl
 | some j=>
  show b ((0+j:Nat):Int)=b (j:Int);rw[Nat.zero_add]
def Df4(l:List By)(v:By):(!ltI (B63 l v) 0)=B51 l v:=by
 unfold B63 B51;cases h:l.findIdx? (· == v) with
 | none=>
  rw[List.findIdx?_eq_none_iff] at h;show(!ltI (-1) 0)=_;rw[A8];exact(List.any_eq_false.2 λx c=>by rw[h x c];simp).symm
 | some j=>
  show(!ltI (j:Int) 0)=_;rw[A6];exact(List.any_eq_true.2 (by
   obtain⟨a,b,_⟩:=List.findIdx?_eq_some_iff_getElem.1 h;exact⟨_,p9 a,b⟩)).symm
def Bn7{R:Type}{a:Bool->Option R}(z t:Bool)(l:LL)(v:By)(b:l.all isS=true)(c:A3 l.length=true):B05 LF z t l v a=a (B51 (l.map elS) v):=by unfold B05;rw[b,c,<-Df4];rfl
def Db2(x v up m z t:Bool)(l:LL)(j:Int)(i:By)(v4 a b c d e f g h:Int)(n:l.all isS=true)(o:A3 l.length=true)(p:A3 i.length=true)(q:ltN v4 4294967296=true)(u:ok8 a b c d e f g h=true) :
  ∃r H,Db0 LF x v up m z t l j i v4 a b c d e f g h (λw k=>rv (.s (.bool w)) k)=rv r H/\r.stab [] H = .s (.bool (An1 (l.map elS) (mkH j i v4 (n8 a b c d e f g h)))):=by
 unfold Db0 An1;rw[n,o,p,q,u];cases K4 (mkH j i v4 (n8 a b c d e f g h))<;>exact⟨_,_,rfl,rfl⟩
def Ct6(f d up b z t:Bool)(l:LL)(c:l.all isS=true) :
  ∃r H,Bx6 LF f d up b z t l (λe a=>rv (.s (.bool e)) a)=rv r H/\r.stab [] H = .s (.bool (o8 l.length 20&&Fs 400 (l.map elS))):=by
 unfold Bx6;by_cases h:l.length<=20
 ·rw[A6,c,K3,Nat.ble_eq_true_of_le h];exact⟨_,_,rfl,rfl⟩
 ·rw[A8,show o8 l.length 20=false by rw[p6];intro q;exact h (w9 q)];exact⟨_,_,rfl,rfl⟩
def C21{a e c d:By}(h:smU a e c d=true):smU (upS a) e c d=true:=by
 obtain⟨f,g,i,j⟩:=Jx h;have:(upS a).length<=100000000:=by
  cases b:N0 a with
  | false=>rw[(Ad1 b 0).1];exact f
  | true=>rcases Fa b with rfl|rfl<;>decide
 simp only[smU,k9,p4];exact⟨⟨⟨this,g⟩,i⟩,j⟩
def Cu8(a u:By)(o:Int)(b:By)(v4 e f g h j k m n p:Int)(q:By)(v:Int)(y Y A up w z t:Bool)(l:LL)(B:Int)(L:By)(M:Bool)(C:smU a u b q=true)(P:ltN v4 4294967296=true)(Q:ok8 e f g h j k m n=true)(I:Q1 p=true)(R:l.all isS=true)(S:A3 l.length=true) :
  ∃r H,Am6 LF a u o b v4 e f g h j k m n p q v y Y A up w z t l B L M (λV W X J=>rv (.agg [.s (.int .i64 V),.s (.int .i64 W),.s (.str X)]) J)=rv r H/\r.stab [] H = .agg [.s (.int .i64 (dA (Cf a u o b v4 e f g h j k m n p q v y A up w (l.map elS) B))),.s (.int .i64 (dR (Cf a u o b v4 e f g h j k m n p q v y A up w (l.map elS) B))),.s (.str (dU (Cf a u o b v4 e f g h j k m n p q v y A up w (l.map elS) B)))]:=by
 obtain⟨l1,l2,l3,l4⟩:=Jx C;have Z:A3 b.length=true:=K3;have N:=C21 C;have O:=C44 (s:=a) I;unfold Am6 Qo Lk Xy Cf;simp only[vl,C,P,Q,I,R,S,Z,N,O,cond_true,show(a==([100,97,116,97]:List UInt8))=(a==Bu5) from rfl,bne];generalize Fq (mkU a u o b v4 (n8 e f g h j k m n) p q)=F;generalize Fq (mkU (upS a) u o b v4 (n8 e f g h j k m n) (upP a p) q)=G;generalize Br a u o b v4 e f g h j k m n p q=T;generalize An1 (l.map elS) (mkH o b v4 (n8 e f g h j k m n))=U;generalize N0 a=i;generalize (a==Bu5)=d;generalize (B==0)=x;generalize (v==4)=D;generalize (A49 v y==2)=c;generalize (o==1)=K;cases i<;>cases x<;>cases T<;>cases d<;>first|exact⟨_,_,rfl,rfl⟩|(cases up<;>cases D<;>cases A<;>first|exact⟨_,_,rfl,rfl⟩|(cases U<;>cases c<;>cases K<;>cases w<;>exact⟨_,_,rfl,rfl⟩))
def Dh5(m n:By)(p:Int)(i:By)(v4 a b c d e f g h j:Int)(k:By)(o:Int)(u N v up q z t:Bool)(l:LL)(w:Int)(y:By)(A:Bool)(B:smU m n i k=true)(C:ltN v4 4294967296=true)(D:ok8 a b c d e f g h=true)(F:Q1 j=true)(G:l.all isS=true)(I:A3 l.length=true) :
  ∃r H,Dh3 LF m n p i v4 a b c d e f g h j k o u N v up q z t l w y A (λJ K L M x=>rv (.tup [.agg [.s (.int .i64 J),.s (.int .i64 K),.s (.str L)],.s (.int .i64 M)]) x)=rv r H/\r.stab [0,0] H = .tup [.agg [.s (.int .i64 (dA (FX m n p i v4 a b c d e f g h j k o u v up q (l.map elS) w))),.s (.int .i64 (dR (FX m n p i v4 a b c d e f g h j k o u v up q (l.map elS) w))),.s (.str (dU (FX m n p i v4 a b c d e f g h j k o u v up q (l.map elS) w)))],.s (.int .i64 (dE (FX m n p i v4 a b c d e f g h j k o u v up q (l.map elS) w)))]:=by
 unfold Dh3 FX;simp only[vl,B,C,D,F,G,I,cond_true];cases P2 (mkU m n p i v4 (n8 a b c d e f g h) j k)<;>cases Dg o<;>exact⟨_,_,rfl,rfl⟩
section
variable {Z R : Type} (L : Nat) (Q : G4) (Y : Yh Z) (s : Z) (k : Out -> St Z -> Option R)
noncomputable def QM(L:Nat):Cfg:=B8 L [25] (A2 []) [(28,Kv),(26,IG)] (A2 [(7,[0]),(6,[6,0,0,0,0,0]),(5,[1,2,1,0,0,0]),(4,[1,0,1,1,0]),(3,[1,0,1]),(2,[1,0]),(1,[1]),(0,[])]) [] (A2 []) (some [0]) [] [] [] (nt:=[(58,4,9,1)])
noncomputable def Ah7(L:Nat):Cfg:=B8 L [9] (A2 []) [(24,UO),(30,AI),(25,Zw),(28,Kv),(26,IG),(32,VQ),(29,VR),(33,AK)] (A2 [(15,[10]),(12,[10]),(14,[10]),(13,[11,1,1,0,51]),(11,[11,1,1,0,40,0]),(10,[11,1,1,0,40]),(9,[11,1,1,0]),(8,[10]),(7,[11,1,35]),(6,[11,1,0]),(5,[10]),(4,[1,0,5,0,1,25]),(3,[1,0,5,0,1,0]),(2,[10]),(1,[0,0,0,5,0,19]),(0,[0,0,0,5,0])]) [24,30,25,32,29,33] (A2 [(0,[11,1])]) (some [10]) [] [] [] (nt:=[(58,4,9,1)])
def lmu{R:Type}(L:Nat)(r:By)(q:Int)(p n j l m g f:Bool)(i:LL)(b:Int)(d:By)(e:Bool)(o:Bool->(List Blk)->Option R):Option R:=cond (ltI 1500 (r.length:Int)) (o true [(bCx n j l m g f i),(bCv b d e)]) (cond (o5 i isS) (cond (not ((o8 i.length 20)&&(Fs (400:Int) (j4 elS i)))) (o true [(bCx n j l m g f i),(bCv b d e)]) (cond (not (Dg q)) (o true [(bCx n j l m g f i),(bCv b d e)]) (cond (A3 r.length) (vl (B3 r) λa=>cond ((uE a)!=0) (o true [(bCx n j l m g f i),(bCv b d e),(bQ a)]) (cond (smU (uS a) (uU a) (uN a) (uR a)) (cond (ltN (uV a) 4294967296) (cond (okQ a) (cond (Q1 (uP a)) (cond (o5 i isS) (cond (A3 i.length) (vl (FX (uS a) (uU a) (uK a) (uN a) (uV a) (uA a 0) (uA a 1) (uA a 2) (uA a 3) (uA a 4) (uA a 5) (uA a 6) (uA a 7) (uP a) (uR a) q p j l m (j4 elS i) b) λh=>cond ((dE h)!=0) (o false [(bCx n j l m g f i),(bCv b d e),(bQ a),(bDQ h)]) (cond (A3 (j6 (dU h))) (vl (B3 (dU h)) λc=>cond ((dA h)==1) (cond (smU (uS a) (uU a) (uN a) (uR a)) (cond (ltN (uV a) 4294967296) (cond (okQ a) (cond (Q1 (uP a)) (cond ((dU h)==(Fq (mkQ (uS a) a (uP a)))) (o true [(bCx n j l m g f i),(bCv b d e),(bQ a),(bDQ h),(bQ c)]) (o false [(bCx n j l m g f i),(bCv b d e),(bQ a),(bDQ h),(bQ c)])) none) none) none) none) (cond ((dA h)==2) (cond ((uE c)==0) (cond (N0 (uS a)) (cond (not (N0 (uS c))) (cond (smU (uS c) (uU c) (uN c) (uR c)) (cond (ltN (uV c) 4294967296) (cond (okQ c) (cond (Q1 (uP c)) (cond (Br (uS c) (uU c) (uK c) (uN c) (uV c) (uA c 0) (uA c 1) (uA c 2) (uA c 3) (uA c 4) (uA c 5) (uA c 6) (uA c 7) (uP c) (uR c)) (cond (Dx8 c a (true)) (cond ((uU c)==(uU a)) (cond ((uR c)==(uR a)) (o true [(bCx n j l m g f i),(bCv b d e),(bQ a),(bDQ h),(bQ c)]) (o false [(bCx n j l m g f i),(bCv b d e),(bQ a),(bDQ h),(bQ c)])) (o false [(bCx n j l m g f i),(bCv b d e),(bQ a),(bDQ h),(bQ c)])) (o false [(bCx n j l m g f i),(bCv b d e),(bQ a),(bDQ h),(bQ c)])) (o false [(bCx n j l m g f i),(bCv b d e),(bQ a),(bDQ h),(bQ c)])) none) none) none) none) (o false [(bCx n j l m g f i),(bCv b d e),(bQ a),(bDQ h),(bQ c)])) (o false [(bCx n j l m g f i),(bCv b d e),(bQ a),(bDQ h),(bQ c)])) (o false [(bCx n j l m g f i),(bCv b d e),(bQ a),(bDQ h),(bQ c)])) (cond ((dA h)==3) (cond ((dU h)==e0) (cond ((dR h)==5) (cond (smU (uS a) (uU a) (uN a) (uR a)) (cond (ltN (uV a) 4294967296) (cond (okQ a) (cond (Q1 (uP a)) (cond (not (Br (uS a) (uU a) (uK a) (uN a) (uV a) (uA a 0) (uA a 1) (uA a 2) (uA a 3) (uA a 4) (uA a 5) (uA a 6) (uA a 7) (uP a) (uR a))) (o true [(bCx n j l m g f i),(bCv b d e),(bQ a),(bDQ h),(bQ c)]) (o false [(bCx n j l m g f i),(bCv b d e),(bQ a),(bDQ h),(bQ c)])) none) none) none) none) (o false [(bCx n j l m g f i),(bCv b d e),(bQ a),(bDQ h),(bQ c)])) (o false [(bCx n j l m g f i),(bCv b d e),(bQ a),(bDQ h),(bQ c)])) (o false [(bCx n j l m g f i),(bCv b d e),(bQ a),(bDQ h),(bQ c)])))) none)) none) none) none) none) none) none)) none))) none)
def Dy8(d:Nat)(s0 dest1 imageSet2 c3 c4 c5 c6 c_z7 c_t8 c9 cov10 cov11 cov12):evC (Ah7 L) (d+1) Z Y 9 [pS s0,pI dest1,pB imageSet2,(gCx c3 c4 c5 c6 c_z7 c_t8 c9),(gCv cov10 cov11 cov12)] [] s=lmu L s0 dest1 imageSet2 c3 c4 c5 c6 c_z7 c_t8 c9 cov10 cov11 cov12 (λb a=>some (pB b,a,s)):=by refine(evE (fn:=x6) (by kernel_rfl)).trans ?_;generalize evC (Ah7 L) d=Q;unfold lmu;kernel_rfl
end
def Dn3{l:LL}(h:(o8 l.length 20&&Fs 400 (l.map elS))=true):A3 l.length=true:=by rw[k9] at h;have:=w9 h.1;exact K3
def B31{p:P7 × Nat}(c:CU p.1)(a:Int)(d e up b:Bool)(l:List By)(f:Int):FX (uS p) (uU p) (uK p) (uN p) (uV p) (uA p 0) (uA p 1) (uA p 2) (uA p 3) (uA p 4) (uA p 5) (uA p 6) (uA p 7) (uP p) (uR p) a d e up b l f=cond (Dg a) (okD (Cf (uS p) (uU p) (uK p) (uN p) (uV p) (uA p 0) (uA p 1) (uA p 2) (uA p 3) (uA p 4) (uA p 5) (uA p 6) (uA p 7) (uP p) (uR p) a d e up b l f)) ⟨0,0,[],2⟩:=by obtain⟨_,_,_,g⟩:=MO c.ok;unfold FX;rw[show mkU (uS p) _ _ _ _ _ (uP p) _=p.1 from g _ _,HN c];rfl
section
variable {Z R : Type} (L : Nat) (Q : G4) (Y : Yh Z) (s : Z) (k : Out -> St Z -> Option R)
noncomputable def XK(L:Nat):Cfg:=B8 L [125] (A2 []) [(39,UF),(170,Ck5)] (A2 [(8,[2]),(5,[2]),(7,[2]),(6,[1,12]),(4,[1,5,0]),(3,[1,5]),(2,[2]),(1,[1,3]),(0,[1])]) [39,170] (A2 [(0,[1])]) (some [2]) [] [] []
def By6{R:Type}(L:Nat)(c:Int)(b:By)(d e f g h i j l a:Int)(m:Bool->(List Blk)->Option R):Option R:=cond (A3 b.length) (cond (ltN d 4294967296) (cond (ok8 e f g h i j l a) (cond (not (K4 (mkH c b d (n8 e f g h i j l a)))) (m false [(bH c b d e f g h i j l a)]) (cond (c==2) (vl (Pc .u32 d (24:Int)) λn=>m (n==127) [(bH c b d e f g h i j l a)]) (cond (c==3) (m ((e==0)&&((f==0)&&((g==0)&&((h==0)&&((i==0)&&((j==0)&&((l==0)&&((a==1)&&true)))))))) [(bH c b d e f g h i j l a)]) (cond (A3 b.length) (m (Cq ([108,111,99,97,108,104,111,115,116]:List UInt8) b) [(bH c b d e f g h i j l a)]) none)))) none) none) none
def Cv8(d:Nat)(h0 h1 h2 h3 h4 h5 h6 h7 h8 h9 h10):evC (XK L) (d+1) Z Y 125 [(gH h0 h1 h2 h3 h4 h5 h6 h7 h8 h9 h10)] [] s=By6 L h0 h1 h2 h3 h4 h5 h6 h7 h8 h9 h10 (λb a=>some (pB b,a,s)):=by refine(evE (fn:=Tryz.f125) (by kernel_rfl)).trans ?_;generalize evC (XK L) d=Q;unfold By6;kernel_rfl
noncomputable abbrev Pp:Code:=C7 aa7
noncomputable def Y8(L:Nat):Cfg:=B8 L [87] (A2 []) [(51,Rm),(117,GE),(125,Bs6)] (A2 [(10,[2]),(7,[2]),(9,[2]),(8,[1,10]),(6,[1,5,0]),(5,[1,5,0]),(4,[1,5,0]),(3,[1,5]),(2,[2]),(1,[1,3]),(0,[1])]) [51,117,125] (A2 [(0,[1])]) (some [2]) [] [] []
def Hb{R:Type}(h:By)(r:Bool)(o:By)(i:Int)(p:By)(j l m g n b c d e f:Int)(a:By)(q:Bool->(List Blk)->Option R)(t:Bool->By->By->Int->By->Int->Int->Int->Int->Int->Int->Int->Int->Int->Int->By->Option R):Option R:=cond r (q true [(bU h o i p j l m g n b c d e f a)]) (cond (h==[97,98,111,117,116]) (cond (a==[98,108,97,110,107]) (q true [(bU h o i p j l m g n b c d e f a)]) (q (a==[115,114,99,100,111,99]) [(bU h o i p j l m g n b c d e f a)])) (t (h==[97,98,111,117,116]) h o i p j l m g n b c d e f a))
abbrev ER(b:Code):Prop:=∀(k:Out->St Z->Option R) s0 b1 o i p j l m g n a c d e f h,A9 (Y8 L) Q Y b ⟨gp [(1,.ptr 0 0 0),(5,pS s0),(0,pB b1)] 21,[(bU s0 o i p j l m g n a c d e f h)],s⟩ k=Hb s0 b1 o i p j l m g n a c d e f h (λq r=>k .ret ⟨gp [(2,pB q)] 27,r,s⟩) (λq t o i p j l m g n a c d e f h=>k .normal ⟨gp [(1,.ptr 0 0 0),(10,pB q)] 17,[(bU t o i p j l m g n a c d e f h)],s⟩)
def ZK:ER (R:=R) L Q Y s (cd [1,1,0,1,0,1] Pp):=by intro k o h p i q j l m f n a b c d e g;unfold Hb;kernel_rfl
def Hd{R:Type}(o q:By)(n:Int)(m:By)(h i j e l a b c d f:Int)(g:By)(p:Bool->(List Blk)->Option R):Option R:=cond (F3 o) (cond (A3 m.length) (cond (ltN h 4294967296) (cond (ok8 i j e l a b c d) (p (EO n m h i j e l a b c d) [(bU o q n m h i j e l a b c d f g)]) none) none) none) (p false [(bU o q n m h i j e l a b c d f g)])
abbrev ES(b:Code):Prop:=∀(k:Out->St Z->Option R) a s1 s2 n3 s4 n5 n6 n7 n8v n9 n10 n11 n12 n13 n14 s15,A9 (Y8 L) Q Y b ⟨gp [(1,.ptr 0 0 0),(10,pB a)] 17,[(bU s1 s2 n3 s4 n5 n6 n7 n8v n9 n10 n11 n12 n13 n14 s15)],s⟩ k=Hd s1 s2 n3 s4 n5 n6 n7 n8v n9 n10 n11 n12 n13 n14 s15 (λa c=>k .ret ⟨gp [(2,pB a)] 27,c,s⟩)
def ZL:ES (R:=R) L Q Y s (cd [1,1,1] Pp):=by intro k h o p i q j l m f n a b c d e g;unfold Hd;kernel_rfl
def MR{R:Type}(L:Nat)(f h:By)(u2:Int)(i:By)(j l m n u8 o a b c d:Int)(e:By)(g:Bool->(List Blk)->Option R):Option R:=cond (smU f h i e) (cond (ltN j 4294967296) (cond (ok8 l m n u8 o a b c) (cond (Q1 d) (cond (not (P2 (mkU f h u2 i j (n8 l m n u8 o a b c) d e))) (g false [(bU f h u2 i j l m n u8 o a b c d e)]) (cond (f==[104,116,116,112,115]) (Hb f (f==[104,116,116,112,115]) h u2 i j l m n u8 o a b c d e g (λc0 b3 b4 a9 b5 b0 b1 b2 p q r t u v w X=>Hd b3 b4 a9 b5 b0 b1 b2 p q r t u v w X g)) (cond (f==[119,115,115]) (Hb f (f==[119,115,115]) h u2 i j l m n u8 o a b c d e g (λb6 a0 a1 x a2 y z A B C D F G H I a3=>Hd a0 a1 x a2 y z A B C D F G H I a3 g)) (Hb f (f==[102,105,108,101]) h u2 i j l m n u8 o a b c d e g (λb7 a4 a5 J a6 K M N O P S T U V W a7=>Hd a4 a5 J a6 K M N O P S T U V W a7 g))))) none) none) none) none
def B86(c:Code)(a:ER (R:=PV × List Blk × Z) L Q Y s c)(d:Code)(b:ES (R:=PV × List Blk × Z) L Q Y s d)(j u1:By)(u2:Int)(u3:By)(u4 u5 u6 u7 u8 u9 e f g h:Int)(i:By):A9 (Y8 L) Q Y (cd [] (G7 [1,1,1] d (G7 [1,1,0,1,0,1] c Pp))) ⟨[(gU j u1 u2 u3 u4 u5 u6 u7 u8 u9 e f g h i)]++tps 29,[],s⟩ (F4 (Y8 L) aa7)=MR L j u1 u2 u3 u4 u5 u6 u7 u8 u9 e f g h i (λr0 H1=>some (pB r0,H1,s)):=by unfold MR;exact let K0:=(F4 (Y8 L) aa7);let K1:=(E2 0 (E1 (Y8 L) Q Y d K0));(j7 (by kernel_rfl) (A0 (A0 (A0 (A0 (A0 rfl (A0 ((a K1 j (j==[104,116,116,112,115]) u1 u2 u3 u4 u5 u6 u7 u8 u9 e f g h i).trans (congr (congr rfl (by kernel_rfl)) (fx1 λa6=>(fx1 λb2=>(fx1 λb3=>(fx1 λa7=>(fx1 λb4=>(fx1 λa9=>(fx1 λb0=>(fx1 λb1=>(fx1 λn=>(fx1 λo=>(fx1 λp=>(fx1 λq=>(fx1 λr=>(fx1 λt=>(fx1 λu=>(fx1 λV=>(j7 (by kernel_rfl) ((b K0 a6 b2 b3 a7 b4 a9 b0 b1 n o p q r t u V).trans (by kernel_rfl))))))))))))))))))))) (A0 ((a K1 j (j==[119,115,115]) u1 u2 u3 u4 u5 u6 u7 u8 u9 e f g h i).trans (congr (congr rfl (by kernel_rfl)) (fx1 λl=>(fx1 λW=>(fx1 λX=>(fx1 λv=>(fx1 λa0=>(fx1 λw=>(fx1 λx=>(fx1 λy=>(fx1 λz=>(fx1 λA=>(fx1 λB=>(fx1 λC=>(fx1 λD=>(fx1 λF=>(fx1 λG=>(fx1 λa1=>(j7 (by kernel_rfl) ((b K0 l W X v a0 w x y z A B C D F G a1).trans (by kernel_rfl))))))))))))))))))))) ((a K1 j (j==[102,105,108,101]) u1 u2 u3 u4 u5 u6 u7 u8 u9 e f g h i).trans (congr (congr rfl (by kernel_rfl)) (fx1 λm=>(fx1 λa2=>(fx1 λa3=>(fx1 λH=>(fx1 λa4=>(fx1 λI=>(fx1 λJ=>(fx1 λK=>(fx1 λM=>(fx1 λN=>(fx1 λO=>(fx1 λP=>(fx1 λS=>(fx1 λT=>(fx1 λU=>(fx1 λa5=>(j7 (by kernel_rfl) ((b K0 m a2 a3 H a4 I J K M N O P S T U a5).trans (by kernel_rfl)))))))))))))))))))))))) rfl) rfl) rfl) rfl))
def B87(d:Nat)(u0 u1 u2 u3 u4 u5 u6 u7 u8 u9 u10 u11 u12 u13 u14):evC (Y8 L) (d+1) Z Y 87 [(gU u0 u1 u2 u3 u4 u5 u6 u7 u8 u9 u10 u11 u12 u13 u14)] [] s=MR L u0 u1 u2 u3 u4 u5 u6 u7 u8 u9 u10 u11 u12 u13 u14 (λb a=>some (pB b,a,s)):=
 (evE (fn:=aa7) (by kernel_rfl)).trans (j7 (by kernel_rfl) (B86 L (evC (Y8 L) d) Y s (cd [1,1,0,1,0,1] Pp) (ZK L (evC (Y8 L) d) Y s) (cd [1,1,1] Pp) (ZL L (evC (Y8 L) d) Y s) u0 u1 u2 u3 u4 u5 u6 u7 u8 u9 u10 u11 u12 u13 u14))
noncomputable def KG(L:Nat):Cfg:=B8 L [31] (A2 []) [(42,VG),(20,Bs9)] (A2 [(8,[2]),(5,[2]),(7,[2]),(6,[1,12]),(4,[1,5,0]),(3,[1,5]),(2,[2]),(1,[1,3]),(0,[1])]) [42,20] (A2 [(0,[1])]) (some [2]) [] [] []
def Aa4{R:Type}(L:Nat)(c:Int)(b:By)(d e f g h i j l a:Int)(m:Bool->(List Blk)->Option R):Option R:=cond (A3 b.length) (cond (ltN d 4294967296) (cond (ok8 e f g h i j l a) (cond (not (K4 (mkH c b d (n8 e f g h i j l a)))) (m false [(bH c b d e f g h i j l a)]) (cond (c==2) (vl (Pc .u32 d (24:Int)) λn=>m (n==127) [(bH c b d e f g h i j l a)]) (cond (c==3) (m ((e==0)&&((f==0)&&((g==0)&&((h==0)&&((i==0)&&((j==0)&&((l==0)&&((a==1)&&true)))))))) [(bH c b d e f g h i j l a)]) (cond (A3 b.length) (m (Cq ([108,111,99,97,108,104,111,115,116]:List UInt8) b) [(bH c b d e f g h i j l a)]) none)))) none) none) none
def Cc8(d:Nat)(h0 h1 h2 h3 h4 h5 h6 h7 h8 h9 h10):evC (KG L) (d+1) Z Y 31 [(gH h0 h1 h2 h3 h4 h5 h6 h7 h8 h9 h10)] [] s=Aa4 L h0 h1 h2 h3 h4 h5 h6 h7 h8 h9 h10 (λb a=>some (pB b,a,s)):=by refine(evE (fn:=Tryz.f31) (by kernel_rfl)).trans ?_;generalize evC (KG L) d=Q;unfold Aa4;kernel_rfl
noncomputable abbrev Dn:Code:=C7 aa5
noncomputable def X4(L:Nat):Cfg:=B8 L [33] (A2 []) [(54,Tt),(31,Af7)] (A2 [(13,[2]),(7,[2]),(10,[2]),(12,[2]),(11,[1,16]),(9,[1,5,4]),(8,[1,5,4]),(6,[1,5,0]),(5,[1,5,0]),(4,[1,5,0]),(3,[1,5]),(2,[2]),(1,[1,3]),(0,[1])]) [54,31] (A2 [(0,[])]) (some [2]) [] [] []
def Ih{R:Type}(m:By)(r:Bool)(p:By)(o:Int)(n:By)(h i j e l a b c d g:Int)(f:By)(q:Bool->(List Blk)->Option R)(t:Bool->By->By->Int->By->Int->Int->Int->Int->Int->Int->Int->Int->Int->Int->By->Option R):Option R:=cond r (cond (A3 n.length) (cond (ltN h 4294967296) (cond (ok8 i j e l a b c d) (q (EO o n h i j e l a b c d) [(bU m p o n h i j e l a b c d g f)]) none) none) none) (cond (m==[97,98,111,117,116]) (cond (f==[98,108,97,110,107]) (q true [(bU m p o n h i j e l a b c d g f)]) (q (f==[115,114,99,100,111,99]) [(bU m p o n h i j e l a b c d g f)])) (t (m==[97,98,111,117,116]) m p o n h i j e l a b c d g f))
abbrev Yt(b:Code):Prop:=∀(k:Out->St Z->Option R) s0 b1 o i p j l m g n a c d e f h,A9 (X4 L) Q Y b ⟨gp [(1,.ptr 0 0 0),(5,pS s0),(4,pB b1)] 15,[(bU s0 o i p j l m g n a c d e f h)],s⟩ k=Ih s0 b1 o i p j l m g n a c d e f h (λq r=>k .ret ⟨gp [(2,pB q)] 25,r,s⟩) (λq t o i p j l m g n a c d e f h=>k .normal ⟨gp [(1,.ptr 0 0 0),(16,pB q)] 9,[(bU t o i p j l m g n a c d e f h)],s⟩)
def PJ:Yt (R:=R) L Q Y s (cd [1,1,0,1,0,1,1,1] Dn):=by intro k o h p i q j l m f n a b c d e g;unfold Ih;kernel_rfl
def Eh{R:Type}(h:By)(t:Bool)(p:By)(j:Int)(q:By)(l m n f o a b c d e:Int)(g:By)(i:Bool->(List Blk)->Option R)(r:Bool->By->By->Int->By->Int->Int->Int->Int->Int->Int->Int->Int->Int->Int->By->Option R):Option R:=cond t (i true [(bU h p j q l m n f o a b c d e g)]) (cond (h==[104,116,116,112]) (Ih h (h==[104,116,116,112]) p j q l m n f o a b c d e g i r) (Ih h (h==[119,115]) p j q l m n f o a b c d e g i r))
abbrev Ns(b:Code):Prop:=∀(k:Out->St Z->Option R) s0 b1 o i p j l m g n a c d e f h,A9 (X4 L) Q Y b ⟨gp [(1,.ptr 0 0 0),(5,pS s0),(0,pB b1)] 19,[(bU s0 o i p j l m g n a c d e f h)],s⟩ k=Eh s0 b1 o i p j l m g n a c d e f h (λq r=>k .ret ⟨gp [(2,pB q)] 25,r,s⟩) (λq t o i p j l m g n a c d e f h=>k .normal ⟨gp [(1,.ptr 0 0 0),(16,pB q)] 9,[(bU t o i p j l m g n a c d e f h)],s⟩)
def PK(a:Code)(b:Yt (R:=R) L Q Y s a):Ns (R:=R) L Q Y s (cd [1,1,0,1,0,1] (G7 [1,1,0,1,0,1,1,1] a Dn)):=by intro k q j r l t m n o h p c d e f g i;unfold Eh;simp only[<-b k];kernel_rfl
def PL:Ns (R:=R) L Q Y s (cd [1,1,0,1,0,1] Dn):=by intro k o h p i q j l m f n a b c d e g;exact j7 (by kernel_rfl) (PK L Q Y s (cd [1,1,0,1,0,1,1,1] Dn) (PJ L Q Y s) k o h p i q j l m f n a b c d e g)
def Ys{R:Type}(L:Nat)(f h:By)(u2:Int)(i:By)(j l m n u8 o a b c d:Int)(e:By)(g:Bool->(List Blk)->Option R):Option R:=cond (smU f h i e) (cond (ltN j 4294967296) (cond (ok8 l m n u8 o a b c) (cond (Q1 d) (cond (not (P2 (mkU f h u2 i j (n8 l m n u8 o a b c) d e))) (g false [(bU f h u2 i j l m n u8 o a b c d e)]) (cond (f==[104,116,116,112,115]) (Eh f (f==[104,116,116,112,115]) h u2 i j l m n u8 o a b c d e g (λb6 a3 a4 p a5 q r t u v w x y z A a6=>g false [(bU a3 a4 p a5 q r t u v w x y z A a6)])) (cond (f==[119,115,115]) (Eh f (f==[119,115,115]) h u2 i j l m n u8 o a b c d e g (λb7 a7 a9 B b0 C D F G H I J K M N b1=>g false [(bU a7 a9 B b0 C D F G H I J K M N b1)])) (Eh f (f==[102,105,108,101]) h u2 i j l m n u8 o a b c d e g (λc0 b2 b3 O b4 P S T U V W X a0 a1 a2 b5=>g false [(bU b2 b3 O b4 P S T U V W X a0 a1 a2 b5)]))))) none) none) none) none
def Bi6(b:Code)(a:Ns (R:=PV × List Blk × Z) L Q Y s b)(h i:By)(j:Int)(l:By)(m n o p u8 q c d e f:Int)(g:By):A9 (X4 L) Q Y (cd [] (G7 [1,1,0,1,0,1] b Dn)) ⟨[(gU h i j l m n o p u8 q c d e f g)]++tps 27,[],s⟩ (F4 (X4 L) aa5)=Ys L h i j l m n o p u8 q c d e f g (λu t=>some (pB u,t,s)):=by unfold Ys;exact let r:=(E2 0 (E1 (X4 L) Q Y (cd [1,1,1] Dn) (F4 (X4 L) aa5)));(j7 (by kernel_rfl) (A0 (A0 (A0 (A0 (A0 rfl (A0 ((a r h (h==[104,116,116,112,115]) i j l m n o p u8 q c d e f g).trans (by kernel_rfl)) (A0 ((a r h (h==[119,115,115]) i j l m n o p u8 q c d e f g).trans (by kernel_rfl)) ((a r h (h==[102,105,108,101]) i j l m n o p u8 q c d e f g).trans (by kernel_rfl))))) rfl) rfl) rfl) rfl))
def Bi7(d:Nat)(u0 u1 u2 u3 u4 u5 u6 u7 u8 u9 u10 u11 u12 u13 u14):evC (X4 L) (d+1) Z Y 33 [(gU u0 u1 u2 u3 u4 u5 u6 u7 u8 u9 u10 u11 u12 u13 u14)] [] s=Ys L u0 u1 u2 u3 u4 u5 u6 u7 u8 u9 u10 u11 u12 u13 u14 (λb a=>some (pB b,a,s)):=
 (evE (fn:=aa5) (by kernel_rfl)).trans (j7 (by kernel_rfl) (Bi6 L (evC (X4 L) d) Y s (cd [1,1,0,1,0,1] Dn) (PL L (evC (X4 L) d) Y s) u0 u1 u2 u3 u4 u5 u6 u7 u8 u9 u10 u11 u12 u13 u14))
end
abbrev Dv4(f:Int->By->Int->Int->Int->Int->Int->Int->Int->Int->Int->(Bool->List Blk->Option (PV × List Blk × Unit))->Option (PV × List Blk × Unit))(k:Int)(j:By)(v4 a b c d e g h i:Int):Prop:=
 A3 j.length=true->ltN v4 4294967296=true->ok8 a b c d e g h i=true->∃r H,f k j v4 a b c d e g h i (λm l=>rv (.s (.bool m)) l)=rv r H/\r.stab [] H = .s (.bool (EO k j v4 a b c d e g h i))
def Cv9(a:Int)(j:By)(v4 b c d e f g h i:Int):Dv4 (By6 LF) a j v4 b c d e f g h i:=λk l m=>by
 unfold By6 EO;rw[k,l,m];cases K4 (mkH a j v4 (n8 b c d e f g h i))<;>cases a==2<;>cases a==3<;>exact⟨_,_,rfl,rfl⟩
def Cc9(a:Int)(j:By)(v4 b c d e f g h i:Int):Dv4 (Aa4 LF) a j v4 b c d e f g h i:=λk l m=>by
 unfold Aa4 EO;rw[k,l,m];cases K4 (mkH a j v4 (n8 b c d e f g h i))<;>cases a==2<;>cases a==3<;>exact⟨_,_,rfl,rfl⟩
def Av5{s:By}(h:F3 s=true):s.length<=5:=by simp only[F3,aa0,beq_iff_eq] at h;rcases h with(rfl|rfl)|rfl|rfl<;>decide
def Ch3{s:By}(h:F3 s=true):(upS s==U6||(upS s==Kz||upS s==QE))=true:=by simp only[F3,aa0,beq_iff_eq] at h;rcases h with(rfl|rfl)|rfl|rfl<;>decide
def B88(a m:By)(n:Int)(b:By)(v4 d e f g h i j k l:Int)(c:By)(o:smU a m b c=true)(q:ltN v4 4294967296=true)(t:ok8 d e f g h i j k=true)(u:Q1 l=true) :
  ∃r H,MR LF a m n b v4 d e f g h i j k l c (λv p=>rv (.s (.bool v)) p)=rv r H/\r.stab [] H = .s (.bool (Br a m n b v4 d e f g h i j k l c)):=by
 obtain⟨x,y,z,A⟩:=Jx o;have w:A3 b.length=true:=K3;unfold MR Hb Hd Br;simp only[o,q,t,u,w,show(a==([104,116,116,112,115]:List UInt8))=(a==U6) from rfl,show(a==([119,115,115]:List UInt8))=(a==Kz) from rfl,show(a==([102,105,108,101]:List UInt8))=(a==QE) from rfl,show(a==([97,98,111,117,116]:List UInt8))=(a==Ua) from rfl];cases P2 (mkU a m n b v4 (n8 d e f g h i j k) l c)<;>cases a==U6<;>cases a==Kz<;>cases a==QE<;>cases a==Ua<;>cases F3 a<;>cases c==([98,108,97,110,107]:List UInt8)<;>exact⟨_,_,rfl,rfl⟩
def Bi8(g v:By)(x:Int)(i:By)(v4 k l m n o p q t u:Int)(j:By)(y:smU g v i j=true)(B:ltN v4 4294967296=true)(C:ok8 k l m n o p q t=true)(D:Q1 u=true) :
  ∃r H,Ys LF g v x i v4 k l m n o p q t u j (λG A=>rv (.s (.bool G)) A)=rv r H/\r.stab [] H = .s (.bool (Br g v x i v4 k l m n o p q t u j)):=by
 obtain⟨J,K,L,M⟩:=Jx y;have I:A3 i.length=true:=K3;have z:∀a b:By,a≠b->(g==a)=true->(g==b)=false:=λa b h e=>by
  obtain rfl:g=a:=by simpa using e
  simpa using h
 have w:F3 g=(g==W5||g==bWs||(g==U6||g==Kz)):=rfl;have hA:=z W5 Ua (by decide);have F:=z bWs Ua (by decide);unfold Ys Eh Ih Br;rw[w];simp only[y,B,C,D,I,show(g==([104,116,116,112,115]:List UInt8))=(g==U6) from rfl,show(g==([119,115,115]:List UInt8))=(g==Kz) from rfl,show(g==([102,105,108,101]:List UInt8))=(g==QE) from rfl,show(g==([97,98,111,117,116]:List UInt8))=(g==Ua) from rfl,show(g==([104,116,116,112]:List UInt8))=(g==W5) from rfl,show(g==([119,115]:List UInt8))=(g==bWs) from rfl];generalize (g==U6)=a,(g==Kz)=b,(g==QE)=c,(g==W5)=d,(g==bWs)=e,(g==Ua)=f at *;cases P2 (mkU g v x i v4 (n8 k l m n o p q t) u j)
 ·exact⟨_,_,rfl,rfl⟩
 ·cases a<;>cases b<;>cases c<;>cases d<;>cases e<;>cases f<;>first|(exact absurd (hA rfl) (by decide))|(exact absurd (F rfl) (by decide))|exact⟨_,_,rfl,rfl⟩|(cases j==([98,108,97,110,107]:List UInt8)<;>exact⟨_,_,rfl,rfl⟩)
def B97(s:By):(C0 s).1.user.length+(C0 s).1.rest.length<=s.length+1:=by
 have z:Y6.user.length+Y6.rest.length<=s.length+1:=Nat.zero_le _;unfold C0;split
 ·exact z
 ·rcases P0 58 s with a|⟨p,r,rfl,a⟩
  ·rw[Gv a];exact z
  ·rw[T4 a];have b:(p++58::r).length=p.length+r.length+1:=by rw[j0,j1];omega
   simp only;split
   ·exact z
   ·split
    ·simp only[j8];omega
    ·split
     ·exact z
     ·obtain⟨f,c,d⟩:=MY (B6 p) (R0 ((r.drop 2).drop (I6 (r.drop 2)))) ((r.drop 2).take (I6 (r.drop 2)));have e:=FN ((r.drop 2).drop (I6 (r.drop 2)));simp only[y8,v7] at c d e;omega
def Bl4(f v:By)(g:Int)(r:By)(v4 h j k m n o p q t:Int)(u:By)(w:Int)(z B up y:Bool)(l:List By)(C:Int):dE (okD (Cf f v g r v4 h j k m n o p q t u w z B up y l C))=0/\
  ((dA (okD (Cf f v g r v4 h j k m n o p q t u w z B up y l C))=1/\dU (okD (Cf f v g r v4 h j k m n o p q t u w z B up y l C))=Fq (mkU f v g r v4 (n8 h j k m n o p q) t u))\/
   (N0 f=true/\dA (okD (Cf f v g r v4 h j k m n o p q t u w z B up y l C))=2/\dU (okD (Cf f v g r v4 h j k m n o p q t u w z B up y l C))=Fq (mkU (upS f) v g r v4 (n8 h j k m n o p q) (upP f t) u))\/
   (dA (okD (Cf f v g r v4 h j k m n o p q t u w z B up y l C))=3/\dU (okD (Cf f v g r v4 h j k m n o p q t u w z B up y l C))=[]/\dR (okD (Cf f v g r v4 h j k m n o p q t u w z B up y l C))=5/\Br f v g r v4 h j k m n o p q t u=false)):=by
 unfold Cf;generalize Fq (mkU f v g r v4 (n8 h j k m n o p q) t u)=F;generalize Fq (mkU (upS f) v g r v4 (n8 h j k m n o p q) (upP f t) u)=G;generalize Br f v g r v4 h j k m n o p q t u=T;generalize An1 l (mkH g r v4 (n8 h j k m n o p q))=H;simp only[bne];generalize N0 f=i;generalize (f==Bu5)=d;generalize (C==0)=x;generalize (w==4)=D;generalize (A49 w z==2)=c;generalize (g==1)=K;have A:∀a b c d e:Bool,True:=λ_ _ _ _ _=>trivial
 cases i<;>cases x<;>cases T<;>cases d<;>first|exact⟨rfl,.inl ⟨rfl,rfl⟩⟩|exact⟨rfl,.inr (.inl ⟨rfl,rfl,rfl⟩)⟩|(cases up<;>cases D<;>cases B<;>first|exact⟨rfl,.inl ⟨rfl,rfl⟩⟩|exact⟨rfl,.inr (.inl ⟨rfl,rfl,rfl⟩)⟩|exact⟨rfl,.inr (.inr ⟨rfl,rfl,rfl,rfl⟩)⟩|(cases H<;>cases c<;>cases K<;>cases y<;>first|exact⟨rfl,.inl ⟨rfl,rfl⟩⟩|exact⟨rfl,.inr (.inl ⟨rfl,rfl,rfl⟩)⟩|exact⟨rfl,.inr (.inr ⟨rfl,rfl,rfl,rfl⟩)⟩))
def B44{p q:P7 × Nat}(h:p.1.host=q.1.host)(r:Bool):Dx8 p q r=r:=by obtain⟨⟨_,_,a,_,_⟩,_⟩:=p;obtain⟨⟨_,_,b,_,_⟩,_⟩:=q;obtain rfl:a=b:=h;simp only[Dx8,beq_self_eq_true,p7]
def Ct3(s:By)(h:Int)(n I o up m z:Bool)(l:LL)(q:Int)(y:By)(A:Bool)(P:l.all isS=true) :
  Tru (evC (Ah7 LF) 1 Unit noY 9 [.s (.str s),.s (.int .i64 h),.s (.bool n),gCx I o up m z false l,gCv q y A] [] ()):=by
 refine Eq.subst (motive:=Tru) (Dy8 (Z:=Unit) LF noY () 0 s h n I o up m z false l q y A).symm ?_;unfold lmu;by_cases K:(1500:Int)<s.length
 ·rw[B9 K];exact⟨_,rfl⟩
 rw[A6,cond_false,P,cond_true];cases r:(o8 l.length 20&&Fs 400 (l.map elS)) with
 | false=>exact⟨_,rfl⟩
 | true=>
 have f:=Cw1 (s:=s) (by omega) (uS (B3 s)) (w6 (MT s).1 (by omega));have t:=@RZ s;have C:(B3 s).1.user.length+(B3 s).1.rest.length<=s.length+1:=by
  unfold B3;split
  ·exact Nat.zero_le _
  ·exact B97 s
 obtain⟨F,G,x,H⟩:=MO (B95 s);rw[b9,cond_false];cases u:Dg h with
 | false=>exact⟨_,rfl⟩
 | true=>
 rw[b9,cond_false,K3,cond_true];simp only[vl];by_cases v:(B3 s).2=0
 ·have B:=t v;rw[show(uE (B3 s)!=(0:Int))=false by show(((B3 s).2:Int)!=0)=false;rw[v];rfl,cond_false];simp only[f,F,G,x,Dn3 r,cond_true,B31 B,u];have O:A3 (Fq (mkU (uS (B3 s)) (uU (B3 s)) (uK (B3 s)) (uN (B3 s)) (uV (B3 s)) (n8 (uA (B3 s) 0) (uA (B3 s) 1) (uA (B3 s) 2) (uA (B3 s) 3) (uA (B3 s) 4) (uA (B3 s) 5) (uA (B3 s) 6) (uA (B3 s) 7)) (uP (B3 s)) (uR (B3 s)))).length=true:=
   D9 (w6 (Cq7 _) (w6 (DN f F G x) (by omega)))
  obtain⟨c,k⟩:=Bl4 (uS (B3 s)) (uU (B3 s)) (uK (B3 s)) (uN (B3 s)) (uV (B3 s)) (uA (B3 s) 0) (uA (B3 s) 1) (uA (B3 s) 2) (uA (B3 s) 3) (uA (B3 s) 4) (uA (B3 s) 5) (uA (B3 s) 6) (uA (B3 s) 7) (uP (B3 s)) (uR (B3 s)) h n o up m (l.map elS) q;generalize okD (Cf (uS (B3 s)) (uU (B3 s)) (uK (B3 s)) (uN (B3 s)) (uV (B3 s)) (uA (B3 s) 0) (uA (B3 s) 1) (uA (B3 s) 2) (uA (B3 s) 3) (uA (B3 s) 4) (uA (B3 s) 5) (uA (B3 s) 6) (uA (B3 s) 7) (uP (B3 s)) (uR (B3 s)) h n o up m (l.map elS) q)=d at *;rcases k with⟨i,j⟩|⟨w,i,j⟩|⟨i,j,T,U⟩
  ·simp only[c,i,j,O,cond_true,show((0:Int)!=0)=false from rfl,show((1:Int)==1)=true from rfl,cond_false,beq_self_eq_true];exact⟨_,rfl⟩
  ·have R:F3 (uS (B3 s))=true:=by
    rcases Fa w with e|e<;>rw[e]<;>rfl
   have a:CU ⟨upS (B3 s).1.sch,(B3 s).1.user,(B3 s).1.host,upP (B3 s).1.sch (B3 s).1.port,(B3 s).1.rest⟩:=by
    have:=D88 B;rwa [D12] at this
   have D:dU d=U0 ⟨upS (B3 s).1.sch,(B3 s).1.user,(B3 s).1.host,upP (B3 s).1.sch (B3 s).1.port,(B3 s).1.rest⟩:=by
    rw[j,show mkU (upS (uS (B3 s))) _ _ _ _ _ (upP (uS (B3 s)) (uP (B3 s))) _=_ from H _ _];exact Dw1 a
   have g:F3 (upS (B3 s).1.sch)=true:=by
    rcases Fa w with e|e
    ·rw[show(B3 s).1.sch=W5 from e];rfl
    ·rw[show(B3 s).1.sch=bWs from e];rfl
   have b:(dU d).length<=2048:=by
    obtain⟨_,_,J,_,Y,_⟩:=a.sp g;have L:=Av5 g;have M:=Qd J;have N:=CL (show Q1 (upP (B3 s).1.sch (B3 s).1.port)=true from C44 x);rw[D];unfold U0 Ky;simp only at L M N ⊢;rw[if_pos g];simp only[j0,j1];split<;>split<;>simp only[j0,j1,j8]<;>omega
   have Q:B3 (dU d)=(⟨upS (B3 s).1.sch,(B3 s).1.user,(B3 s).1.host,upP (B3 s).1.sch (B3 s).1.port,(B3 s).1.rest⟩,0):=by
    rw[B94 b,D];exact Ae7 a
   obtain⟨w1,W,X,w4⟩:=MO (p:=(⟨upS (B3 s).1.sch,(B3 s).1.user,(B3 s).1.host,upP (B3 s).1.sch (B3 s).1.port,(B3 s).1.rest⟩,0)) a.ok;have V:=C21 f;have S:Br (upS (uS (B3 s))) (uU (B3 s)) (uK (B3 s)) (uN (B3 s)) (uV (B3 s)) (uA (B3 s) 0) (uA (B3 s) 1) (uA (B3 s) 2) (uA (B3 s) 3) (uA (B3 s) 4) (uA (B3 s) 5) (uA (B3 s) 6) (uA (B3 s) 7) (upP (uS (B3 s)) (uP (B3 s))) (uR (B3 s))=true:=by
    unfold Br;rw[show mkU (upS (uS (B3 s))) _ _ _ _ _ (upP (uS (B3 s)) (uP (B3 s))) _=_ from H _ _,show P2 ⟨upS (uS (B3 s)),(B3 s).1.user,(B3 s).1.host,upP (uS (B3 s)) (uP (B3 s)),(B3 s).1.rest⟩=true from HN a,Ch3 R];rfl
   rw[Q,B44 rfl];simp only[c,i,w,D9 (w6 b (by omega)),B09,S,V,w1,W,X,cond_true,show((0:Int)!=0)=false from rfl,show((2:Int)==1)=false from rfl,show((2:Int)==2)=true from rfl,cond_false,beq_self_eq_true,b8];simp only[uE,uS,B09,show(((0:Nat):Int)==0)=true from rfl,b8,cond_true];exact⟨_,rfl⟩
  ·simp only[c,i,j,T,U,cond_true,show((0:Int)!=0)=false from rfl,show((3:Int)==1)=false from rfl,show((3:Int)==2)=false from rfl,show((3:Int)==3)=true from rfl,show((5:Int)==5)=true from rfl,cond_false,b8,j8,show A3 0=true from rfl,show(([]:By)==e0)=true from rfl];exact⟨_,rfl⟩
 ·rw[show(uE (B3 s)!=(0:Int))=true by show(((B3 s).2:Int)!=0)=true;simpa using v,cond_true];exact⟨_,rfl⟩
def Dg2(args:List PV)(h:Md a8 [9,3,4,58,37] args):∃d a,evC (Ah7 LF) d Unit noY 9 args [] ()=some (.s (.bool true),a,()):=by obtain⟨v1,w,rfl,i,C,x,rfl,j,D,y,rfl,m,v,A,rfl,n,F,B,rfl,o,rfl⟩:=h;obtain⟨s,rfl,_⟩:=Da6 i (by kernel_rfl) (by kernel_rfl);obtain⟨f,rfl,_⟩:=Da5 (k:=.i64) j (by kernel_rfl) (by kernel_rfl);obtain⟨q,rfl⟩:=Cn4 m (by kernel_rfl) (by kernel_rfl);obtain⟨t,r,up,b,z,l,rfl,p⟩:=Da4 n (by kernel_rfl) (by kernel_rfl);obtain⟨u,c,g,rfl⟩:=Da3 o (by kernel_rfl) (by kernel_rfl);obtain⟨H,e⟩:=Ct3 s f q t r up b z l u c g p;exact⟨1,H,e⟩
section
def Dr5:B4 a8 GX 125 Bs6:=xf [] (XK LF) II rfl ⟨Br0,D30,trivial⟩ rfl (by kernel_rfl) follows λargs=>by
 unfold II;split
 ·rename_i j k v4 a b c d f g h i;exact λl=>λm=>λn=>(let⟨r,H,e,q⟩:=Cv9 j k v4 a b c d f g h i l m n;⟨rfl,rfl,rfl,r,H,(Cv8 LF noY () 0 j k v4 a b c d f g h i).trans e,q⟩)
 ·trivial
def C81:B4 a8 GX 31 Af7:=xf [] (KG LF) AJ rfl ⟨B19,Dr8,trivial⟩ rfl (by kernel_rfl) follows λargs=>by
 unfold AJ;split
 ·rename_i j k v4 a b c d f g h i;exact λl=>λm=>λn=>(let⟨r,H,e,q⟩:=Cc9 j k v4 a b c d f g h i l m n;⟨rfl,rfl,rfl,r,H,(Cc8 LF noY () 0 j k v4 a b c d f g h i).trans e,q⟩)
 ·trivial
def C74:B4 a8 GX 87 Af6:=xf [] (Y8 LF) AE rfl ⟨DT,Ae2,Dr5,trivial⟩ rfl (by kernel_rfl) follows λargs=>by
 unfold AE;split
 ·rename_i n o j k v4 a b c d f g h i l m;exact λp=>λt=>λu=>λv=>(let⟨r,H,e,q⟩:=B88 n o j k v4 a b c d f g h i l m p t u v;⟨rfl,rfl,rfl,r,H,(B87 LF noY () 0 n o j k v4 a b c d f g h i l m).trans e,q⟩)
 ·trivial
def Cj5:B4 a8 GX 33 AK:=xf [] (X4 LF) Tq rfl ⟨OK,C81,trivial⟩ rfl (by kernel_rfl) follows λargs=>by
 unfold Tq;split
 ·rename_i n o j k v4 a b c d f g h i l m;exact λp=>λt=>λu=>λv=>(let⟨r,H,e,q⟩:=Bi8 n o j k v4 a b c d f g h i l m p t u v;⟨rfl,rfl,rfl,r,H,(Bi7 LF noY () 0 n o j k v4 a b c d f g h i l m).trans e,q⟩)
 ·trivial
end
section
def Ax8:B4 a8 GX 52 HO:=xf [] (KD LF) Zx rfl trivial rfl (by kernel_rfl) follows λargs=>by
 unfold Zx;split
 ·rename_i n;exact⟨rfl,rfl,rfl,_,_,(B42 LF noY () 0 n).trans (Aj2 n ),rfl⟩
 ·trivial
def D27:B4 a8 GX 89 Ck2:=xf [] (A28 LF) TR rfl ⟨Ax8,trivial⟩ rfl (by kernel_rfl) follows λargs=>by
 unfold TR;split
 ·rename_i n a;exact⟨rfl,rfl,rfl,_,_,(Db8 LF noY () 0 n a).trans (B34 n a ),rfl⟩
 ·trivial
def Cj3:B4 a8 GX 30 AI:=xf [] (BI LF) Tn rfl trivial rfl (by kernel_rfl) follows λargs=>by
 unfold Tn;split
 ·rename_i n;exact⟨rfl,rfl,rfl,_,_,(Be7 LF noY () 0 n).trans (ZZ n ),rfl⟩
 ·trivial
def Dt3:B4 a8 GX 171 Bu1:=xf [] (Mt LF) JM rfl trivial rfl (by kernel_rfl) follows λargs=>by
 unfold JM;split
 ·rename_i b a l s;exact λc=>λd=>⟨rfl,rfl,rfl,_,_,(C24 LF noY () 0 b a l s).trans (Bo2 b a l s c d),rfl⟩
 ·trivial
def Dt2:B4 a8 GX 126 Bu0:=xf [] (XV LF) JL rfl ⟨Dt3,trivial⟩ rfl (by kernel_rfl) follows λargs=>by
 unfold JL;split
 ·rename_i b a l s;exact λc=>λd=>⟨rfl,rfl,rfl,_,_,(C22 LF noY () 0 b a l s).trans (Bn7 b a l s c d),rfl⟩
 ·trivial
def D26:B4 a8 GX 88 Ck1:=xf [] (A26 LF) TP rfl ⟨Br0,C65,Dt2,trivial⟩ rfl (by kernel_rfl) follows λargs=>by
 unfold TP;split
 ·rename_i t p up m b a l n o v4 c d f g h i j k;exact λu=>λv=>λw=>λx=>λy=>(let⟨r,H,e,q⟩:=Db2 t p up m b a l n o v4 c d f g h i j k u v w x y;⟨rfl,rfl,rfl,r,H,(Db1 LF noY () 0 t p up m b a l n o v4 c d f g h i j k).trans e,q⟩)
 ·trivial
def Dr4:B4 a8 GX 53 Bs5:=xf [] (Co LF) IH rfl ⟨C90,D50,D90,C74,D26,D27,trivial⟩ rfl (by kernel_rfl) follows λargs=>by
 unfold IH;split
 ·rename_i z C u v v4 c d f g h i j k w y o t A x up m b a l B n p;exact λD=>λF=>λG=>λI=>λJ=>λK=>(let⟨r,H,e,q⟩:=Cu8 z C u v v4 c d f g h i j k w y o t A x up m b a l B n p D F G I J K;⟨rfl,rfl,rfl,r,H,(Cu7 LF noY () 0 z C u v v4 c d f g h i j k w y o t A x up m b a l B n p).trans e,q⟩)
 ·trivial
def C73:B4 a8 GX 26 IG:=xf [0,0] (A38 LF) UT rfl ⟨DT,Ax8,Dr4,trivial⟩ rfl (by kernel_rfl) follows λargs=>by
 unfold UT;split
 ·rename_i z C u v v4 c d f g h i j k w y o t A x up m b a l B n p;exact λD=>λF=>λG=>λI=>λJ=>λK=>(let⟨r,H,e,q⟩:=Dh5 z C u v v4 c d f g h i j k w y o t A x up m b a l B n p D F G I J K;⟨rfl,rfl,rfl,r,H,(Dh4 LF noY () 0 z C u v v4 c d f g h i j k w y o t A x up m b a l B n p).trans e,q⟩)
 ·trivial
def Dr0:B4 a8 GX 24 UO:=xf [] (XG LF) IC rfl ⟨C69,trivial⟩ rfl (by kernel_rfl) follows λargs=>by
 unfold IC;split
 ·rename_i f d up c b a l;exact λg=>(let⟨r,H,e,q⟩:=Ct6 f d up c b a l g;⟨rfl,rfl,rfl,r,H,(Ct5 LF noY () 0 f d up c b a l).trans e,q⟩)
 ·trivial
end
section
def Ag6:HB (evC (QM LF) 1 Unit noY 25 [] [] ())=true:=by kernel_rfl
def Ci9:B4 a8 GX 25 Zw:=
 B4.fix (pf:=Ti) _ (by
  have h:=Br3 (C₀:=QM LF) (N3.ok (l:=[(28,Kv),(26,IG)]) rfl ⟨TN,C73,trivial⟩) (J2 rfl (by kernel_rfl)) follows Ag6;have e:(λargs:List PV=>match args with|[]=>Tr.ret (.s (.bool true)) []|_=>.fail)=Ti:=by
   funext args
   cases args<;>rfl
  rw[<-e];exact h)
end
end
section
open Go Go.ChangeAt Go.ChangeShapes Go.Proofs Go.RowKit Go.WideShapes
set_option maxRecDepth 100000
section
def A97(os:Os)(a:os.Started)(H:Type)(enc:TypeId × Value->H) :
  ReturnsInHanded {} Tryz.checked os 9 .any (λw args=>(Rows.mixedUpgradeKeepsTargetSpec.pre enc a8 x6 Rows.mixedUpgradeKeepsTargetRow.domain false w args/\laidMetH a8 Ft w)/\sizedMet enc a8 x6 (OpenSpec.ofChange Rows.mixedUpgradeKeepsTargetSpec) false w args) (Rows.mixedUpgradeKeepsTargetSpec.post enc a8 x6 false true false false):=
 A91 a (C:=Ah7 LF) (tb:=4) rfl rfl (N3.ok (l:=[(24,UO),(30,AI),(25,Zw),(28,Kv),(26,IG),(32,VQ),(29,VR),(33,AK)]) rfl ⟨Dr0,Cj3,Ci9,TN,C73,Ds6,Ds8,Cj5,trivial⟩) (J2 rfl (by kernel_rfl)) (by kernel_rfl) aa8 (c:=C7 x6) rfl (by kernel_rfl)
  (by
   intro t d;have:t=9\/t=3\/t=4\/t=58\/t=37:=by simpa only[List.mem_cons,List.mem_nil_iff,or_false] using(show t∈[9,3,4,58,37] from d)
   rcases this with rfl|rfl|rfl|rfl|rfl
   all_goals exact⟨⟨by kernel_rfl,of_decide_eq_true (by kernel_rfl)⟩,by kernel_rfl⟩) rfl (by kernel_rfl) rfl
  (λds b=>by
   match ds,b with
   | [e,f,g,i,j],_=>rfl)
  #[(.string ⟨#[]⟩),(.int .i64 0),(.bool false),(.agg #[(.bool false),(.bool false),(.bool false),(.bool false),(.slice none 0 0)]),(.agg #[(.int .i64 0),(.string ⟨#[]⟩),(.bool false)])] 8 (by kernel_rfl) (by kernel_rfl) (by kernel_rfl)
  (λargs h=>Dg2 args h)
set_option maxHeartbeats 4000000 in theorem B74:Rows.MixedUpgradeKeepsTargetSaid:=
 OpenClaim.holds_of_wide 9 x6 rfl rfl rfl rfl rfl rfl rfl ⟨rfl,rfl,rfl,rfl,rfl⟩ rfl rfl rfl rfl rfl (by kernel_rfl) aa8 (by unfold joinedFacts;simp only[k9];(repeat' apply And.intro)<;>as_aux_lemma=>kernel_rfl)
  (of_decide_eq_true (by as_aux_lemma=>kernel_rfl)) (by unfold Func.isWrapper;first|(rw[if_pos (by decide +kernel)];kernel_rfl)|(rw[if_neg (by decide +kernel)];exact⟨rfl,rfl⟩))
  (λos a H enc _=>A97 os a H enc)
theorem lmu_card:Rows.MixedUpgradeKeepsTargetCardSaid:=
 Claim7.holds_tied_plain_at .later [] [.data,.data,.data,.data,.pinned] true (true, "3edcf2d0d4ba03f015f6faca6dbfc35b207af51aad1c65e00543b4f3d9771d1d") false B74 (λ_ h=>by cases h) (by as_aux_lemma=>kernel_rfl) (λ_ h=>by cases h) mixedUpgradeKeepsTarget_row_tie rfl ⟨rfl,rfl⟩ (by as_aux_lemma=>kernel_rfl) rfl
  (λf fn c b=>by
   obtain rfl:f=9:=o9 ((show a8.funcNamed "hstsstore/hstsstorelaw29.MixedUpgradeKeepsTarget" = some 9 by as_aux_lemma=>kernel_rfl).symm.trans c) |>.symm
   obtain rfl:fn=x6:=(o9 (aa8.symm.trans b)).symm;exact⟨by as_aux_lemma=>kernel_rfl,λj t e=>by
    have d:t∈[9,3,4,58,37]:=Array.mem_toList_iff.2 (Array.mem_of_getElem? e);have a:([9,3,4,58,37].all λu=>!a8.wantsStandIn u)=true:=by as_aux_lemma=>kernel_rfl
    exact(show a8.wantsStandIn t=false by simpa using y7.1 a t d)⟩)
  (by as_aux_lemma=>kernel_rfl)
end
end
#print axioms lmu_card
end Go.Proofs.YtfkhfkjcidamaaaGreatDoor.E
