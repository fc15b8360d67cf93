/-
  UrlFunctionsMatchSpec, as its tied card says. Conditions: what the card itself names (the package-level variables that are listed, tied to the program's text).
-/
import Derived.Test.YtcfingekgbbclaaGreatDoorKU6
import Derived.Test.YtcfingekgbbclaaGreatDoorCards
import Derived.Test.YtcfingekgbbclaaGreatDoorTie
open Go.Proofs.Tryz renaming prog->a8,f6->j5,func6->j9,f37->o5
open Bool renaming not_false->b8,and_eq_true->j0,not_true->j6,and_false->j8,and_true->k9
open List renaming length_append->b9,drop_eq_getElem_cons->c9,length_cons->j1,drop_eq_nil_iff->j4,length_nil->j7,map->o7
open Option.some renaming inj->j2
open List.cons renaming inj->o0
open Int renaming toNat->o6
namespace Go.Proofs.YtcfingekgbbclaaGreatDoor.E
set_option linter.all false
section
open Go Go.Proofs
set_option maxRecDepth 100000
theorem OM{u:X6}(h:-1<=u.port):Ei u=X4 u:=by unfold Ei;rw[F9]
theorem Bx3{m n:By}{kd:Int}{a:By}{v4 b c d e f g h i k:Int}{l:By}(h0:smU m n a l=true)(h1:ltN v4 4294967296=true)(j:ok8 b c d e f g h i=true)(o:An k=true) :
  (Ei (mkU m n kd a v4 (n8 b c d e f g h i) k l)).length<=400000000:=by
 obtain⟨r,t,u,v⟩:=DZ h0;have p:=Vd (DL (h0:=kd) (h1:=a) h1 j);rw[BM] at p;have q:=ON (kd:=kd) h0 h1 j o;unfold Ei;split
 ·unfold mkU;simp only;split
  ·split<;>simp only[b9,j1,j7]<;>omega
  ·simp only[b9,j1];omega
 ·exact q
theorem Bv3(d b:By)(o:Int)(c:By)(v4 f g i j k l m n a:Int)(e:By)(h0:smU d b c e=true)(h1:ltN v4 4294967296=true)(y:ok8 f g i j k l m n=true)(B:An a=true) :
  ∃r H,Tt LF d b o c v4 f g i j k l m n a e (λu p=>rv (.s (.str u)) p)=rv r H/\r.stab [] H = .s (.str (Ei (mkU d b o c v4 (n8 f g i j k l m n) a e))):=by
 obtain⟨G,I,J,K⟩:=DZ h0;have F:=Vd (DL (h0:=o) (h1:=c) h1 y);obtain⟨L,M⟩:=Vp.1 B;have D:=Fh 19 a.toNat (by omega) (by omega);have key:∀T:By,Tt LF d b o c v4 f g i j k l m n a e (λu p=>rv (.s (.str u)) p)=rv (.s (.str T)) [bU d b o c v4 f g i j k l m n a e]->T=Ei (mkU d b o c v4 (n8 f g i j k l m n) a e)->∃r H,Tt LF d b o c v4 f g i j k l m n a e (λu p=>rv (.s (.str u)) p)=rv r H/\r.stab [] H = .s (.str (Ei (mkU d b o c v4 (n8 f g i j k l m n) a e))):=λT v w=>⟨_,_,v,by rw[<-w];rfl⟩
 have C:A3 c.length=true:=M8;cases t:J3 d with
 | false=>
  refine key (d++[58]++e) ?_ ?_
  ·unfold Tt;rw[t,G2 (by omega)];simp only[vl,cond_true,b8];rw[G2 (by simp;omega)];rfl
  ·unfold Ei X4 mkU;simp[t]
 | true=>
  have v:(b==([]:List UInt8))=decide (b=[]):=by rw[Bool.eq_iff_iff];simp
  have w:ltI a 0=decide (a<0):=Ll ..;have z:ltI a (-1)=decide (a < -1):=Ll ..;have A:0<=a->ltN a 9223372036854775808=true:=λh=>D9.2 ⟨h,by omega⟩
  by_cases x:b=[]<;>rcases(show a < -1\/a=-1\/0<=a by omega) with q|q|q
  all_goals
   apply key
   ·unfold Tt;rw[t,C,h1,y,v,w,z];simp only[x,decide_true,decide_false,vl,cond_true,cond_false,j6,b8]
    first|rw[decide_eq_true (show a<0 by omega),decide_eq_true q]|rw[decide_eq_true (show a<0 by omega),decide_eq_false (show ¬a < -1 by omega)]|rw[decide_eq_false (show ¬a<0 by omega),A q]
    simp only[vl,cond_true,cond_false,j6,b8]
    repeat rw[G2 (by first|omega|(simp only[b9,j1,j7];omega))]
    simp only[vl,cond_true];rfl
   ·unfold Ei X4 mkU GL Js
    first
     | (simp[t,BM,x,q];done)
     | simp[t,BM,x,show ¬a < -1 by omega,show ¬a<0 by omega,show ¬a=-1 by omega]
theorem Dd0(u:X6):((C0 (Ei u)).2==0&&eqU (C0 (Ei u)).1 u)=Z7 u:=by
 by_cases h:-1<=u.port
 ·rw[OM h];rfl
 ·have a:∀s,eqU (C0 s).1 u=false:=λs=>by
   have b:=(Wc s).port.1;unfold eqU;rw[show((C0 s).1.port==u.port)=false by rw[beq_eq_false_iff_ne];omega];simp
  unfold Z7;rw[a,a,j8,j8]
theorem Ag2(sc us:By)(kd:Int)(nm:By)(v4 a b c d f g h i po:Int)(re:By)(m:smU sc us nm re=true)(k:ltN v4 4294967296=true)(l:ok8 a b c d f g h i=true)(n:An po=true) :
  ∃r H,Wx LF sc us kd nm v4 a b c d f g h i po re (λu o=>rv (.s (.bool u)) o)=rv r H/\r.stab [] H = .s (.bool (Z7 (mkU sc us kd nm v4 (n8 a b c d f g h i) po re))):=by
 have v:=Bx3 (kd:=kd) m k l n;unfold Wx;rw[<-Dd0,m,k,l,n];simp only[vl,cond_true];rw[M8,cond_true];have q:=Wc (Ei (mkU sc us kd nm v4 (n8 a b c d f g h i) po re));have j:=MM (sc:=sc) (us:=us) (kd:=kd) (nm:=nm) (po:=po) (re:=re) k l q;simp only[Nz sc,Nz us,Nz nm,Nz re,Aj kd,Aj v4,Aj a,Aj b,Aj c,Aj d,Aj f,Aj g,Aj h,Aj i,Aj po] at j;rw[j];generalize C0 (Ei (mkU sc us kd nm v4 (n8 a b c d f g h i) po re))=p;obtain⟨t,e⟩:=p;by_cases j:e=0
 ·subst j;exact⟨_,_,rfl,rfl⟩
 ·rw[show(uE (t,e)==(0:Int))=false by simpa using j,show(e==0)=false by simpa using j];exact⟨_,_,rfl,rfl⟩
theorem A98{u:X6}(h:Z7 u=true):-1<=u.port:=by have a:=(Wc (X4 u)).port.1;simp only[Z7,eqU,j0,beq_iff_eq] at h;omega
theorem Ce4(l m:By)(n:Int)(i:By)(v4 a b c d e f g h j:Int)(k:By)(p:smU l m i k=true)(q:ltN v4 4294967296=true)(t:ok8 a b c d e f g h=true)(u:An j=true) :
  ∃r H,Bi7 LF l m n i v4 a b c d e f g h j k (λw o=>rv (.s (.str w)) o)=rv r H/\r.stab [] H = .s (.str (ZA (mkU l m n i v4 (n8 a b c d e f g h) j k))):=by
 unfold Bi7 ZA;rw[p,q,t,u];cases v:Z7 (mkU l m n i v4 (n8 a b c d e f g h) j k) with
 | false=>exact⟨_,_,rfl,rfl⟩
 | true=>
  rw[OM (A98 v)];exact⟨_,_,rfl,rfl⟩
theorem Ce9(a p:By)(k:Int)(l:By)(v4 c d e f g h i j m:Int)(o:By) :
  ∃r H,Bi8 LF a p k l v4 c d e f g h i j m o (λn b=>rv (.s (.bool n)) b)=rv r H/\r.stab [] H = .s (.bool (U2 a)):=by
 unfold Bi8 U2;rw[show(a==([104,116,116,112]:By))=(a==Hm) from rfl,show(a==([119,115]:By))=(a==bWs) from rfl];cases a==Hm<;>exact⟨_,_,rfl,rfl⟩
theorem Cf4(b q:By)(m:Int)(n:By)(v4 d e f g i j k l a:Int)(p:By) :
  ∃r H,Bi9 LF b q m n v4 d e f g i j k l a p (λo c=>rv (.s (.int .i64 o)) c)=rv r H/\r.stab [] H = .s (.int .i64 (prt b a)):=by
 unfold Bi9 prt;cases h:a==-1 with
 | true=>rw[show(a !=(-1:Int))=false by simp[bne,h]];exact⟨_,_,rfl,rfl⟩
 | false=>rw[show(a !=(-1:Int))=true by simp[bne,h]];exact⟨_,_,rfl,rfl⟩
theorem Cf9(g v:By)(p:Int)(q:By)(v4 h i j k l m n o t:Int)(u:By)(w:(not (U2 g))=true) :
  ∃r H,Bj1 LF g v p q v4 h i j k l m n o t u (λD F x G y z A B n8 C b c d e f a=>rv (gU D F x G y z A B n8 C b c d e f) a)=rv r H/\r.stab [] H=gU g v p q v4 h i j k l m n o t u:=by
 unfold Bj1;rw[w];exact⟨_,_,rfl,rfl⟩
section
theorem Ak1:B0 a8 GX 43 FS:=xf [] (GY LF) Yk rfl ⟨KM,C39,Ba2,trivial⟩ rfl (by kernel_rfl) follows λargs=>by
 unfold Yk;split
 ·rename_i n o j k v4 a b c d f g h i l m;exact λp=>λt=>λu=>λv=>(let⟨r,H,e,q⟩:=Bv3 n o j k v4 a b c d f g h i l m p t u v;⟨rfl,rfl,rfl,r,H,(Bv2 LF noY () 0 n o j k v4 a b c d f g h i l m).trans e,q⟩)
 ·trivial
theorem KN:B0 a8 GX 21 Kp:=xf [] (Sn LF) Nq rfl ⟨Ak1,C47,trivial⟩ rfl (by kernel_rfl) follows λargs=>by
 unfold Nq;split
 ·rename_i n o j k v4 a b c d f g h i l m;exact λp=>λt=>λu=>λv=>(let⟨r,H,e,q⟩:=Ag2 n o j k v4 a b c d f g h i l m p t u v;⟨rfl,rfl,rfl,r,H,(Ag1 LF noY () 0 n o j k v4 a b c d f g h i l m).trans e,q⟩)
 ·trivial
theorem C45:B0 a8 GX 20 QQ:=xf [] (TA LF) FL rfl ⟨KN,Ak1,trivial⟩ rfl (by kernel_rfl) follows λargs=>by
 unfold FL;split
 ·rename_i n o j k v4 a b c d f g h i l m;exact λp=>λt=>λu=>λv=>(let⟨r,H,e,q⟩:=Ce4 n o j k v4 a b c d f g h i l m p t u v;⟨rfl,rfl,rfl,r,H,(Ce3 LF noY () 0 n o j k v4 a b c d f g h i l m).trans e,q⟩)
 ·trivial
theorem Bk7:B0 a8 GX 25 DE:=xf [] (TB LF) FN rfl trivial rfl (by kernel_rfl) follows λargs=>by
 unfold FN;split
 ·rename_i n o j k v4 a b c d f g h i l m;exact(let⟨r,H,e,q⟩:=Ce9 n o j k v4 a b c d f g h i l m ; ⟨rfl,rfl,rfl,r,H,(Ce8 LF noY () 0 n o j k v4 a b c d f g h i l m).trans e,q⟩)
 ·trivial
theorem C48:B0 a8 GX 27 QR:=xf [] (TC LF) FP rfl ⟨Bk8,trivial⟩ rfl (by kernel_rfl) follows λargs=>by
 unfold FP;split
 ·rename_i n o j k v4 a b c d f g h i l m;exact(let⟨r,H,e,q⟩:=Cf4 n o j k v4 a b c d f g h i l m ; ⟨rfl,rfl,rfl,r,H,(Cf3 LF noY () 0 n o j k v4 a b c d f g h i l m).trans e,q⟩)
 ·trivial
theorem C51:B0 a8 GX 29 Bd1:=xf [] (TE LF) Uf rfl ⟨Bk7,trivial⟩ rfl (by kernel_rfl) follows λargs=>by
 unfold Uf;split
 ·rename_i n o j k v4 a b c d f g h i l m;exact λp=>(let⟨r,H,e,q⟩:=Cf9 n o j k v4 a b c d f g h i l m p;⟨rfl,rfl,rfl,r,H,(Cf8 LF noY () 0 n o j k v4 a b c d f g h i l m).trans e,q⟩)
 ·trivial
end
section
variable {Z R : Type} (L : Nat) (Y : F7) (Q : Yh Z) (s : Z) (k : Out -> St Z -> Option R)
noncomputable def GR(L:Nat):Cfg:=B4 L [19] (A2 []) [(37,XM)] (A2 [(1,[2]),(0,[1])]) [37] (A2 []) (some [2]) [] [] []
noncomputable def At5{R:Type}(L:Nat)(b c:By)(j:Int)(h:By)(l m n o u8 p d e f g:Int)(a:By)(i:Bool->(List Blk)->Option R):Option R:=cond (List.all [[(SV.str b)],[(SV.str c)],[(SV.str h)],[(SV.str a)]] isS) (i (Mi (1500:Int) (o7 elS [[(SV.str b)],[(SV.str c)],[(SV.str h)],[(SV.str a)]])) [(bU b c j h l m n o u8 p d e f g a)]) none
theorem Bo7(d:Nat)(u0 u1 u2 u3 u4 u5 u6 u7 u8 u9 u10 u11 u12 u13 u14):evC (GR L) (d+1) Z Q 19 [(gU u0 u1 u2 u3 u4 u5 u6 u7 u8 u9 u10 u11 u12 u13 u14)] [] s=At5 L u0 u1 u2 u3 u4 u5 u6 u7 u8 u9 u10 u11 u12 u13 u14 (λb a=>some (pB b,a,s)):=by refine(evE (fn:=Tryz.f19) (by kernel_rfl)).trans ?_;generalize evC (GR L) d=Y;unfold At5;kernel_rfl
noncomputable def Be2(L:Nat):Cfg:=B4 L [6] (A2 []) [(19,EN),(12,Xu),(15,FZ),(20,QQ),(16,Pp),(21,Kp),(22,Ui),(23,Np),(24,RL),(25,DE),(26,Am4),(27,QR),(28,LY),(29,QT)] (A2 [(3,[2]),(2,[2]),(1,[1,3]),(0,[1])]) [19,12,15,20,16,21,22,23,24,25,26,27] (A2 []) (some [2]) [] [] []
noncomputable def luf{R:Type}(L:Nat)(f g:By)(o:Int)(h:By)(i j l m u8 n c d e a:Int)(b:By)(p:Bool->(List Blk)->Option R):Option R:=cond (not (AP f g h b)) (p true [(bU f g o h i j l m u8 n c d e a b)]) (cond (smU f g h b) (cond (ltN i 4294967296) (cond (ok8 j l m u8 n c d e) (cond (An a) (vl (ZA (mkU f g o h i (n8 j l m u8 n c d e) a b)) λq=>cond (smU f g h b) (cond (ltN i 4294967296) (cond (ok8 j l m u8 n c d e) (cond (An a) (vl (ZA (mkU f g o h i (n8 j l m u8 n c d e) a b)) λr=>cond (q==r) (cond (smU f g h b) (cond (ltN i 4294967296) (cond (ok8 j l m u8 n c d e) (cond (An a) (cond (smU f g h b) (cond (ltN i 4294967296) (cond (ok8 j l m u8 n c d e) (cond (An a) (cond ((Z7 (mkU f g o h i (n8 j l m u8 n c d e) a b))==(Z7 (mkU f g o h i (n8 j l m u8 n c d e) a b))) (cond ((J3 f)==(J3 f)) (cond ((U2 f)==(U2 f)) (cond ((prt f a)==(prt f a)) (cond (((upS f)==(upS f))&&((g==g)&&((o==o)&&((h==h)&&((i==i)&&((j==j)&&((l==l)&&((m==m)&&((u8==u8)&&((n==n)&&((c==c)&&((d==d)&&((e==e)&&(((upP f a)==(upP f a))&&((b==b)&&true))))))))))))))) (p true [(bU f g o h i j l m u8 n c d e a b)]) (p false [(bU f g o h i j l m u8 n c d e a b)])) (p false [(bU f g o h i j l m u8 n c d e a b)])) (p false [(bU f g o h i j l m u8 n c d e a b)])) (p false [(bU f g o h i j l m u8 n c d e a b)])) (p false [(bU f g o h i j l m u8 n c d e a b)])) none) none) none) none) none) none) none) none) (p false [(bU f g o h i j l m u8 n c d e a b)])) none) none) none) none) none) none) none) none)
theorem Da1(d:Nat)(u0 u1 u2 u3 u4 u5 u6 u7 u8 u9 u10 u11 u12 u13 u14):evC (Be2 L) (d+1) Z Q 6 [(gU u0 u1 u2 u3 u4 u5 u6 u7 u8 u9 u10 u11 u12 u13 u14)] [] s=luf L u0 u1 u2 u3 u4 u5 u6 u7 u8 u9 u10 u11 u12 u13 u14 (λb a=>some (pB b,a,s)):=by refine(evE (fn:=j5) (by kernel_rfl)).trans ?_;generalize evC (Be2 L) d=Y;unfold luf;kernel_rfl
end
theorem Bo8(c d:By)(n:Int)(a:By)(v4 f g h i j k l m o:Int)(b:By) :
  ∃r H,At5 LF c d n a v4 f g h i j k l m o b (λp e=>rv (.s (.bool p)) e)=rv r H/\r.stab [] H = .s (.bool (AP c d a b)):=
 ⟨_,_,rfl,rfl⟩
section
variable {Z R : Type} (L : Nat) (Y : F7) (Q : Yh Z) (s : Z) (k : Out -> St Z -> Option R)
noncomputable abbrev XZ:Code:=C4 o5
noncomputable def Fw(L:Nat):Cfg:=B4 L [37] (A2 [(2,[0,0,2,0])]) [] (A2 [(6,[4]),(3,[0,0,3]),(5,[4]),(4,[0,0,3,12]),(2,[0,0,3,3]),(1,[0,0,3]),(0,[0,0])]) [] (A2 [(0,[]),(1,[0,0,3])]) (some [4]) [] [] []
noncomputable def Cp{R:Type}(L n:Nat)(n0:Int)(d c:Bool)(b:LL)(a:Int)(e:Unit->Option R)(f:Unit->Option R):Option R:=match n with|0=>none|n+1=>cond (ltI a (b.length:Int)) (cond (inR a b.length) (cond (okE Oz b (o6 a) 0) (cond (ltI n0 (↑(List.length (gX b (o6 a) 0)):Int)) (e ()) (Cp L n n0 d c b (A1 (a+1)) e f)) none) none) (f ())
theorem UC(n n0 l_z1 l_t2 l3 i4):C5 0 ((Fw L).keep 2) (bd (Fw L) Y Q (cd [1,0,1,0,0] XZ)) n ⟨gp [(0,pI n0),(0,.s (.sl l_z1 l_t2 1 l3)),(3,pI i4)] 13,[],s⟩ k =
 Cp L n n0 l_z1 l_t2 l3 i4 (λ_=>k .ret ⟨gp [(4,pB false)] 14,[],s⟩) (λ_=>k (.exit 0) ⟨gp [] 19,[],s⟩):=by
 induction n generalizing n0 l_z1 l_t2 l3 i4 with
 | zero=>rfl
 | succ n a=>rw[Cp];simp only[<-a];kernel_rfl
noncomputable def UB{R:Type}(L:Nat)(n0:Int)(b a:Bool)(d:LL)(c:Bool->Option R):Option R:=Cp L L n0 b a d 0 (λ_=>c false) (λ_=>c true)
theorem Bo6(d:Nat)(n0 l_z1 l_t2 l3):evC (Fw L) (d+1) Z Q 37 [pI n0,.s (.sl l_z1 l_t2 1 l3)] [] s=UB L n0 l_z1 l_t2 l3 (λa=>some (pB a,[],s)):=by refine(evE (fn:=o5) (by kernel_rfl)).trans ?_;generalize evC (Fw L) d=Y;unfold UB;exact(Eq.trans (by kernel_rfl) ((UC L Y Q s (E3 0 (E2 (Fw L) Y Q (cd [1,1] XZ) (F5 (Fw L) o5))) L n0 l_z1 l_t2 l3 0).trans (by kernel_rfl)))
end
end
section
open Go Go.Proofs Go.Sort
set_option maxRecDepth 100000
theorem BS{R:Type}(n:Int)(z t:Bool)(l:List By)(c d:Unit->Option R)(j:l.length<=1000000000):∀(r:List By) (i m:Nat),l.drop i=r->r.length<m->Cp LF m n z t (D4 l) (i:Int) c d=if Mi n r then d () else c ()
 | [],i,m,h,b=>by
  obtain⟨m,rfl⟩:∃q,m=q+1:=⟨m-1,by simp at b;omega⟩
  rw[Cp];have:l.length<=i:=j4.1 h;rw[E1 (by rw[F3];omega)];rfl
 | x::r,i,m,h,b=>by
  obtain⟨m,rfl⟩:∃q,m=q+1:=⟨m-1,by simp at b;omega⟩
  rw[Cp];have a:i<l.length:=Decidable.byContradiction λg=>by
   rw[j4.2 (by omega)] at h;cases h
  have o:l.getD i []=x:=by
   have:=c9 a;rw[h] at this;rw[List.getD_eq_getElem?_getD,List.getElem?_eq_getElem a];exact(o0 this).1.symm
  have k:l.drop (i+1)=r:=by
   have:=c9 a;rw[h] at this;exact(o0 this).2.symm
  rw[B5 (by rw[F3];omega),cond_true,J6 (by omega) (by rw[F3];omega),cond_true,Int.toNat_natCast,Q7 a,cond_true,V6,o];have e:Mi n (x::r)=(!(ltI n (x.length:Int))&&Mi n r):=rfl;rw[e];by_cases f:n<(x.length:Int)
  ·rw[B5 f];rfl
  ·rw[A6,cond_false,A7,b8,Bool.true_and];exact BS n z t l c d j r (i+1) m k (by simp at b;omega)
theorem ZR{R:Type}{b:Bool->Option R}(n:Int)(z t:Bool)(l:LL)(c:l.all isS=true)(d:A3 l.length=true):UB LF n z t l b=b (Mi n (l.map elS)):=by
 have e:=C2;have a:=L6 d;rw[Bj3 c] at a ⊢;generalize l.map elS=q at a ⊢;rw[F3] at a;unfold UB;rw[show(0:Int)=((0:Nat):Int) from rfl,BS n z t q _ _ a q 0 LF rfl (by omega)];have:o7 elS (D4 q)=q:=by
  unfold D4;rw[List.map_map];exact List.map_id'' (λ_=>rfl) q
 rw[this];cases Mi n q<;>rfl
end
section
open Go Go.Proofs
set_option maxRecDepth 100000
section
theorem Cl0:B0 a8 GX 37 XM:=xf [] (Fw LF) Ya rfl trivial rfl (by kernel_rfl) follows λargs=>by
 unfold Ya;split
 ·rename_i n b a l;exact λc=>λd=>⟨rfl,rfl,rfl,_,_,(Bo6 LF noY () 0 n b a l).trans (ZR n b a l c d),rfl⟩
 ·trivial
end
section
theorem Cl1:B0 a8 GX 19 EN:=xf [] (GR LF) Yb rfl ⟨Cl0,trivial⟩ rfl (by kernel_rfl) follows λargs=>by
 unfold Yb;split
 ·rename_i n o j k v4 a b c d f g h i l m;exact(let⟨r,H,e,q⟩:=Bo8 n o j k v4 a b c d f g h i l m ; ⟨rfl,rfl,rfl,r,H,(Bo7 LF noY () 0 n o j k v4 a b c d f g h i l m).trans e,q⟩)
 ·trivial
end
theorem Df0:B0 a8 GX 29 QT:=λargs ret d h=>by
 have a:=C50 args ret d;have b:=C51 args ret d;unfold QT at h;unfold Bd0 at a;unfold Bd1 at b;generalize B8 _ args=l at h a b;unfold Bc9 at h;split at h
 ·rename_i i w t u v4 j k m n o p q r g v;cases c:U2 i with
  | true=>
   refine a ?_;unfold Ue;rw[Y6 c];exact h
  | false=>
   refine b ?_;unfold Uf;rw[Y6 (by rw[c];rfl)];obtain⟨e,f⟩:=Bj6 c g;rw[e,f] at h;exact h
 ·cases h
def Ci9:List Ty:=[.str,.str,.int .i64,.str,.int .u32,.int .u16,.int .u16,.int .u16,.int .u16,.int .u16,.int .u16,.int .u16,.int .u16,.int .i64,.str]
theorem Co5{P:Program}{t:Nat}{v:PV}(h:XF P t v)(e:Nc P 20 t=some Ci9)(D:GJ P t=true) :
  ∃u w p q v4 a b c d f g i j o r,v=gU u w p q v4 a b c d f g i j o r/\ltN v4 4294967296=true/\ok8 a b c d f g i j=true/\An o=true:=by
 obtain⟨Q,l,k,m,n⟩:=h;rw[e] at k;obtain rfl:=j2 k;simp only[Ci9,Ty.ofL] at m;obtain⟨_,_,rfl,⟨u,rfl,_⟩,_,_,rfl,⟨w,rfl,_⟩,_,_,rfl,⟨p,rfl,T,U⟩,_,_,rfl,⟨q,rfl,S⟩,_,_,rfl,⟨v4,rfl,v1,R⟩,_,_,rfl,x,_,_,rfl,k,_,_,rfl,m,_,_,rfl,y,_,_,rfl,z,_,_,rfl,A,_,_,rfl,B,_,_,rfl,C,_,_,rfl,⟨o,rfl,F,G⟩,_,_,rfl,⟨r,rfl,_⟩,rfl⟩:=m;simp[IntKind.min,IntKind.max,IntKind.signed,IntKind.bits] at v1 R F G;obtain⟨a,rfl,H⟩:=Pa x;obtain⟨b,rfl,I⟩:=Pa k;obtain⟨c,rfl,J⟩:=Pa m;obtain⟨d,rfl,K⟩:=Pa y;obtain⟨f,rfl,L⟩:=Pa z;obtain⟨g,rfl,M⟩:=Pa A;obtain⟨i,rfl,N⟩:=Pa B;obtain⟨j,rfl,O⟩:=Pa C;rcases n with⟨_,rfl⟩|⟨n,_⟩
 ·exact⟨u,w,p,q,v4,a,b,c,d,f,g,i,j,o,r,rfl,D9.2 ⟨v1,by omega⟩,by simp[ok8,H,I,J,K,L,M,N,O],Vp.2 ⟨by omega,by omega⟩⟩
 ·rw[D] at n;cases n
theorem Cg5{i j f g:By}(h:AP i j f g=true):smU i j f g=true:=by
 have e:∀x:By,(!ltI 1500 (x.length:Int))=true->x.length<=100000000:=λx h=>by
  rw[Bool.not_eq_true',Jv] at h;omega
 simp only[AP,Mi,List.all_cons,List.all_nil,k9,j0] at h;obtain⟨a,b,c,d⟩:=h;simp only[smU,j0,Nat.ble_eq];exact⟨⟨⟨e _ a,e _ b⟩,e _ c⟩,e _ d⟩
theorem Ct5(args:List PV)(h:Kn a8 [29] args):∃d f,evC (Be2 LF) d Unit noY 6 args [] ()=some (.s (.bool true),f,()):=by
 obtain⟨v1,x,rfl,p,rfl⟩:=h;obtain⟨c,e,r,a,v4,g,i,j,k,l,m,n,o,w,b,rfl,t,u,v⟩:=Co5 p (by kernel_rfl) (by kernel_rfl);refine⟨1,?_⟩;show Tru _;refine Eq.subst (motive:=Tru) (Da1 (Z:=Unit) LF noY () 0 c e r a v4 g i j k l m n o w b).symm ?_;unfold luf;cases q:AP c e a b with
 | false=>exact⟨_,rfl⟩
 | true=>
  rw[Cg5 q,t,u,v];simp only[vl,cond_true,cond_false,j6,beq_self_eq_true,k9];exact⟨_,rfl⟩
section
theorem XV:DW (evC (MK LF) 1 Unit noY 12 [] [] ())=true:=by kernel_rfl
theorem Bz6:B0 a8 GX 12 Xu:=
 B0.fix (pf:=Rk) _ (by
  have h:=Ba5 (C₀:=MK LF) (L5.ok (l:=[(13,GA),(28,LY),(15,FZ)]) rfl ⟨Cm9,C77,Cm7,trivial⟩) (I4 rfl (by kernel_rfl)) follows XV;have e:(λargs:List PV=>match args with|[]=>Tr.ret (.s (.bool true)) []|_=>.fail)=Rk:=by
   funext args
   cases args<;>rfl
  rw[<-e];exact h)
end
end
section
open Go Go.ChangeAt Go.ChangeShapes Go.Proofs Go.RowKit Go.WideShapes
set_option maxRecDepth 100000
section
theorem Av3(os:Os)(a:os.Started)(H:Type)(enc:TypeId × Value->H) :
  ReturnsInHanded {} Tryz.checked os 6 .any (λw args=>(Rows.urlFunctionsMatchSpecSpec.pre enc a8 j5 Rows.urlFunctionsMatchSpecRow.domain false w args/\laidMetH a8 Ef w)/\sizedMet enc a8 j5 (OpenSpec.ofChange Rows.urlFunctionsMatchSpecSpec) false w args) (Rows.urlFunctionsMatchSpecSpec.post enc a8 j5 false true false false):=
 At9 a (C:=Be2 LF) (tb:=4) rfl rfl (L5.ok (l:=[(19,EN),(12,Xu),(15,FZ),(20,QQ),(16,Pp),(21,Kp),(22,Ui),(23,Np),(24,RL),(25,DE),(26,Am4),(27,QR),(28,LY),(29,QT)]) rfl ⟨Cl1,Bz6,Cm7,C45,OT,KN,XA,KM,Cm8,Bk7,Df9,C48,C77,Df0,trivial⟩) (I4 rfl (by kernel_rfl)) (by kernel_rfl) j9 (c:=C4 j5) rfl (by kernel_rfl)
  (by
   intro t d;obtain rfl:t=29:=by simpa using(show t∈[29] from d)
   exact⟨⟨by kernel_rfl,of_decide_eq_true (by kernel_rfl)⟩,by kernel_rfl⟩) rfl (by kernel_rfl) rfl
  (λds b=>by
   match ds,b with
   | [e],_=>rfl)
  #[(.agg #[(.string ⟨#[]⟩),(.string ⟨#[]⟩),(.int .i64 0),(.string ⟨#[]⟩),(.int .u32 0),(.int .u16 0),(.int .u16 0),(.int .u16 0),(.int .u16 0),(.int .u16 0),(.int .u16 0),(.int .u16 0),(.int .u16 0),(.int .i64 0),(.string ⟨#[]⟩)])] 8 (by kernel_rfl) (by kernel_rfl) (by kernel_rfl)
  (λargs h=>Ct5 args h)
theorem Bp8:Rows.UrlFunctionsMatchSpecSaid:=
 OpenClaim.holds_of_wide 6 j5 rfl rfl rfl rfl rfl rfl rfl ⟨rfl,rfl,rfl,rfl,rfl⟩ rfl rfl rfl rfl rfl (by kernel_rfl) j9 (by kernel_rfl)
  (of_decide_eq_true (by kernel_rfl)) (by unfold Func.isWrapper;first|(rw[if_pos (by decide +kernel)];kernel_rfl)|(rw[if_neg (by decide +kernel)];exact⟨rfl,rfl⟩))
  (λos a H enc _=>Av3 os a H enc)
theorem luf_card:Rows.UrlFunctionsMatchSpecCardSaid:=
 Claim7.holds_tied_plain_at .later [] [.data,.data,.data,.data,.pinned] true (true, "0163afbbd4bdcc0cb024432ec76efa84c49da410dbc3a82ef375aee9434dc149") false Bp8 (λ_ h=>by cases h) (by kernel_rfl) (λ_ h=>by cases h) urlFunctionsMatchSpec_row_tie rfl ⟨rfl,rfl⟩ (by kernel_rfl) rfl
  (λf fn c b=>by
   obtain rfl:f=6:=j2 ((show a8.funcNamed "hstsstore/hstsstorelaw15.UrlFunctionsMatchSpec" = some 6 by kernel_rfl).symm.trans c) |>.symm
   obtain rfl:fn=j5:=(j2 (j9.symm.trans b)).symm;exact⟨by kernel_rfl,λj t e=>by
    have d:t∈[29]:=Array.mem_toList_iff.2 (Array.mem_of_getElem? e);have a:([29].all λu=>!a8.wantsStandIn u)=true:=by kernel_rfl
    exact(show a8.wantsStandIn t=false by simpa using List.all_eq_true.1 a t d)⟩)
  (by kernel_rfl)
end
end
#print axioms luf_card
end Go.Proofs.YtcfingekgbbclaaGreatDoor.E
