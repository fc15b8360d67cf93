/-
  MixedNeverPlain, as its tied card says. Conditions: what the card itself names (the package-level variables that are listed, tied to the program's text).
-/
import Derived.Test.YtfkhfkjcidamaaaGreatDoorKMN6
import Derived.Test.YtfkhfkjcidamaaaGreatDoorCards
import Derived.Test.YtfkhfkjcidamaaaGreatDoorTie
open Go.Proofs.Tryz renaming prog->a8,f7->j6,f53->j9,f87->k9,func7->o0,f171->o6
open List renaming map->b8,length->b9,all->j0,all_eq_true->j8
open Eq renaming trans->j1
open Option.some renaming inj->j2
open Bool renaming and_eq_true->j4,not_true->o5
open Nat renaming le_of_ble_eq_true->j5,ble->j7
open Int renaming toNat->o7
namespace Go.Proofs.YtfkhfkjcidamaaaGreatDoor.E
set_option linter.all false
section
open Go Go.Proofs
set_option maxRecDepth 100000
theorem Ct2{a:LL}(h:∀b∈a,Ty.ofL [.str] b):a.all isS=true:=by rw[j8];intro b c;have:=h b c;simp only[Ty.ofL,Ty.of] at this;obtain⟨_,_,rfl,⟨l,rfl,_⟩,rfl⟩:=this;rfl
theorem C08{P:Program}{t:Nat}{v:PV}(h:Rp P t v)(e:Ev P 20 t=some [.bool,.bool,.bool,.bool,.slice [.str]])(m:Nn P t=true) :
  ∃g f up c z l,v = .agg [.s (.bool g),.s (.bool f),.s (.bool up),.s (.bool c),.s (.sl z false 1 l)]/\l.all isS=true:=by
 obtain⟨n,l,i,j,b⟩:=h;rw[e] at i;obtain rfl:=j2 i;simp only[Ty.ofL] at j;obtain⟨_,_,rfl,⟨g,rfl⟩,_,_,rfl,⟨f,rfl⟩,_,_,rfl,⟨up,rfl⟩,_,_,rfl,⟨c,rfl⟩,x,_,rfl,k,rfl⟩:=j;simp only[Ty.of,List.length_cons,List.length_nil] at k;have⟨z,l,ex,hl⟩:∃z l,x = .sl z false 1 l/\l.all isS=true:=by
  rcases k with rfl|⟨d,rfl,_,a⟩
  ·exact⟨true,[],rfl,rfl⟩
  ·exact⟨false,d,rfl,Ct2 a⟩
 subst ex;rcases b with⟨_,rfl⟩|⟨b,_⟩
 ·exact⟨g,f,up,c,z,l,rfl,hl⟩
 ·rw[m] at b;cases b
theorem C07{P:Program}{t:Nat}{v:PV}(h:Rp P t v)(e:Ev P 20 t=some [.int .i64,.str,.bool])(i:Nn P t=true) :
  ∃d b c,v = .agg [.s (.int .i64 d),.s (.str b),.s (.bool c)]:=by
 obtain⟨j,l,f,g,a⟩:=h;rw[e] at f;obtain rfl:=j2 f;simp only[Ty.ofL] at g;obtain⟨_,_,rfl,⟨d,rfl,_,_⟩,_,_,rfl,⟨b,rfl,_⟩,_,_,rfl,⟨c,rfl⟩,rfl⟩:=g;rcases a with⟨_,rfl⟩|⟨a,_⟩
 ·exact⟨d,b,c,rfl⟩
 ·rw[i] at a;cases a
section
def Dz2:List PV->Tr
 | [.agg [.s (.str l),.s (.str m),.s (.int .i64 n),.s (.str i),.s (.int .u32 v4),.s (.int .u16 a),.s (.int .u16 b),.s (.int .u16 c),.s (.int .u16 d),.s (.int .u16 e),.s (.int .u16 f),.s (.int .u16 g),.s (.int .u16 h),.s (.int .i64 j),.s (.str k)]]=>.need (smU l m i k) (.need (ltN v4 4294967296) (.need (ok8 a b c d e f g h) (.need (Ak j) (.ret (.tup [.agg [.s (.str (oS (ofC l m n i v4 a b c d e f g h j k))),.s (.int .i64 (oK (ofC l m n i v4 a b c d e f g h j k))),.s (.str (oN (ofC l m n i v4 a b c d e f g h j k))),.s (.int .u32 (oV (ofC l m n i v4 a b c d e f g h j k))),.s (.int .u16 (oA (ofC l m n i v4 a b c d e f g h j k) 0)),.s (.int .u16 (oA (ofC l m n i v4 a b c d e f g h j k) 1)),.s (.int .u16 (oA (ofC l m n i v4 a b c d e f g h j k) 2)),.s (.int .u16 (oA (ofC l m n i v4 a b c d e f g h j k) 3)),.s (.int .u16 (oA (ofC l m n i v4 a b c d e f g h j k) 4)),.s (.int .u16 (oA (ofC l m n i v4 a b c d e f g h j k) 5)),.s (.int .u16 (oA (ofC l m n i v4 a b c d e f g h j k) 6)),.s (.int .u16 (oA (ofC l m n i v4 a b c d e f g h j k) 7)),.s (.int .i64 (oP (ofC l m n i v4 a b c d e f g h j k)))],.s (.bool (oB (ofC l m n i v4 a b c d e f g h j k)))]) []))))
 | _=>.fail
def GM:List PV->Tr
 | [.agg [.s (.int .i64 j),.s (.str i),.s (.int .u32 v4),.s (.int .u16 a),.s (.int .u16 b),.s (.int .u16 c),.s (.int .u16 d),.s (.int .u16 e),.s (.int .u16 f),.s (.int .u16 g),.s (.int .u16 h)]]=>.need (A3 (b9 i)) (.need (ltN v4 4294967296) (.need (ok8 a b c d e f g h) (.ret (.s (.bool (Ru j i v4 a b c d e f g h))) [])))
 | _=>.fail
def Bl2(args:List PV):Tr:=GM (C0 [[0,0,0,0,0,0,0,0,0,0,0]] args)
def Yu:List PV->Tr
 | [.agg [.s (.str l),.s (.str m),.s (.int .i64 n),.s (.str i),.s (.int .u32 v4),.s (.int .u16 a),.s (.int .u16 b),.s (.int .u16 c),.s (.int .u16 d),.s (.int .u16 e),.s (.int .u16 f),.s (.int .u16 g),.s (.int .u16 h),.s (.int .i64 j),.s (.str k)]]=>.need (smU l m i k) (.need (ltN v4 4294967296) (.need (ok8 a b c d e f g h) (.need (Ak j) (.ret (.s (.bool (Pv l m n i v4 a b c d e f g h j k))) []))))
 | _=>.fail
def ZS(args:List PV):Tr:=Yu (C0 [[0,0,0,0,0,0,0,0,0,0,0,0,0,0,0]] args)
def Yz:List PV->Tr
 | [.agg [.s (.int .i64 j),.s (.str i),.s (.int .u32 v4),.s (.int .u16 a),.s (.int .u16 b),.s (.int .u16 c),.s (.int .u16 d),.s (.int .u16 e),.s (.int .u16 f),.s (.int .u16 g),.s (.int .u16 h)]]=>.need (A3 (b9 i)) (.need (ltN v4 4294967296) (.need (ok8 a b c d e f g h) (.ret (.s (.bool (Ru j i v4 a b c d e f g h))) [])))
 | _=>.fail
def GZ(args:List PV):Tr:=Yz (C0 [[0,0,0,0,0,0,0,0,0,0,0]] args)
end
section
def Yo:List PV->Tr
 | [.s (.int .i64 n)]=>.ret (.s (.bool (Cu n))) []
 | _=>.fail
def FT(args:List PV):Tr:=Yo (C0 [[0]] args)
def RD:List PV->Tr
 | [.s (.int .i64 n),.s (.bool a)]=>.ret (.s (.int .i64 (Ay3 n a))) []
 | _=>.fail
def Cb6(args:List PV):Tr:=RD (C0 [[0],[0]] args)
def Sj:List PV->Tr
 | [.s (.int .i64 n)]=>.ret (.s (.bool (Cu n))) []
 | _=>.fail
def Yy(args:List PV):Tr:=Sj (C0 [[0]] args)
def HP:List PV->Tr
 | [.s (.sl b a 1 l),.s (.str s)]=>.need (j0 l isS) (.need (A3 (b9 l)) (.ret (.s (.int .i64 (By4 (b8 elS l) s))) []))
 | _=>.fail
def Bm7(args:List PV):Tr:=HP (C0 [[1],[0]] args)
def HO:List PV->Tr
 | [.s (.sl b a 1 l),.s (.str s)]=>.need (j0 l isS) (.need (A3 (b9 l)) (.ret (.s (.bool (Bx3 (b8 elS l) s))) []))
 | _=>.fail
def Bm6(args:List PV):Tr:=HO (C0 [[1],[0]] args)
def RA:List PV->Tr
 | [.agg [.s (.bool p),.s (.bool o),.s (.bool up),.s (.bool n),.s (.sl m k 1 l)],.agg [.s (.int .i64 j),.s (.str i),.s (.int .u32 v4),.s (.int .u16 a),.s (.int .u16 b),.s (.int .u16 c),.s (.int .u16 d),.s (.int .u16 e),.s (.int .u16 f),.s (.int .u16 g),.s (.int .u16 h)]]=>.need (j0 l isS) (.need (A3 (b9 l)) (.need (A3 (b9 i)) (.need (ltN v4 4294967296) (.need (ok8 a b c d e f g h) (.ret (.s (.bool (Ag9 (b8 elS l) (mkH j i v4 (n8 a b c d e f g h))))) [])))))
 | _=>.fail
def Cb5(args:List PV):Tr:=RA (C0 [[0,0,0,0,1],[0,0,0,0,0,0,0,0,0,0,0]] args)
def GL:List PV->Tr
 | [.agg [.s (.str m),.s (.str n),.s (.int .i64 r),.s (.str i),.s (.int .u32 v4),.s (.int .u16 a),.s (.int .u16 b),.s (.int .u16 c),.s (.int .u16 d),.s (.int .u16 e),.s (.int .u16 f),.s (.int .u16 g),.s (.int .u16 h),.s (.int .i64 j),.s (.str k)],.s (.int .i64 p),.s (.bool q),.agg [.s (.bool z),.s (.bool t),.s (.bool up),.s (.bool o),.s (.sl w v 1 l)],.agg [.s (.int .i64 u),.s (.str x),.s (.bool y)]]=>.need (smU m n i k) (.need (ltN v4 4294967296) (.need (ok8 a b c d e f g h) (.need (Ak j) (.need (j0 l isS) (.need (A3 (b9 l)) (.ret (.agg [.s (.int .i64 (dA (Pq m n r i v4 a b c d e f g h j k p q t up o (b8 elS l) u))),.s (.int .i64 (dR (Pq m n r i v4 a b c d e f g h j k p q t up o (b8 elS l) u))),.s (.str (dU (Pq m n r i v4 a b c d e f g h j k p q t up o (b8 elS l) u)))]) []))))))
 | _=>.fail
def Bl1(args:List PV):Tr:=GL (C0 [[0,0,0,0,0,0,0,0,0,0,0,0,0,0,0],[0],[0],[0,0,0,0,1],[0,0,0]] args)
def SK:List PV->Tr
 | [.agg [.s (.str m),.s (.str n),.s (.int .i64 r),.s (.str i),.s (.int .u32 v4),.s (.int .u16 a),.s (.int .u16 b),.s (.int .u16 c),.s (.int .u16 d),.s (.int .u16 e),.s (.int .u16 f),.s (.int .u16 g),.s (.int .u16 h),.s (.int .i64 j),.s (.str k)],.s (.int .i64 p),.s (.bool q),.agg [.s (.bool z),.s (.bool t),.s (.bool up),.s (.bool o),.s (.sl w v 1 l)],.agg [.s (.int .i64 u),.s (.str x),.s (.bool y)]]=>.need (smU m n i k) (.need (ltN v4 4294967296) (.need (ok8 a b c d e f g h) (.need (Ak j) (.need (j0 l isS) (.need (A3 (b9 l)) (.ret (.tup [.agg [.s (.int .i64 (dA (EF m n r i v4 a b c d e f g h j k p q t up o (b8 elS l) u))),.s (.int .i64 (dR (EF m n r i v4 a b c d e f g h j k p q t up o (b8 elS l) u))),.s (.str (dU (EF m n r i v4 a b c d e f g h j k p q t up o (b8 elS l) u)))],.s (.int .i64 (dE (EF m n r i v4 a b c d e f g h j k p q t up o (b8 elS l) u)))]) []))))))
 | _=>.fail
def GK(args:List PV):Tr:=SK (C0 [[0,0,0,0,0,0,0,0,0,0,0,0,0,0,0],[0],[0],[0,0,0,0,1],[0,0,0]] args)
def GG:List PV->Tr
 | [.agg [.s (.bool e),.s (.bool d),.s (.bool up),.s (.bool c),.s (.sl b a 1 l)]]=>.need (j0 l isS) (.ret (.s (.bool ((j7 (b9 l) 20)&&(Fc (400:Int) (b8 elS l))))) [])
 | _=>.fail
def SD(args:List PV):Tr:=GG (C0 [[0,0,0,0,1]] args)
def Sd:List PV->Tr
 | []=>.ret (.s (.bool true)) []
 | _=>.fail
def Yn(args:List PV):Tr:=Sd (C0 [] args)
end
section
variable {Z R : Type} (L : Nat) (Q : G0) (Y : Yh Z) (s : Z) (k : Out -> St Z -> Option R)
noncomputable def IH(L:Nat):Cfg:=B7 L [52] (A2 []) [] (A2 [(1,[2]),(0,[0])]) [] (A2 []) (some [2]) [] [] []
noncomputable def VQ{R:Type}(L:Nat)(a:Int)(b:Bool->Option R):Option R:=cond (not (ltI a 1)) (b (not (ltI 22 a))) (b false)
theorem Bw5(d:Nat)(dest0):evC (IH L) (d+1) Z Y 52 [pI dest0] [] s=VQ L dest0 (λa=>some (pB a,[],s)):=by refine(evE (fn:=Tryz.f52) (by kernel_rfl)).trans ?_;generalize evC (IH L) d=Q;unfold VQ;kernel_rfl
noncomputable def Aw3(L:Nat):Cfg:=B7 L [89] (A2 []) [(52,FT)] (A2 [(12,[4]),(11,[4]),(10,[17]),(3,[4]),(6,[4]),(9,[4]),(8,[0,13]),(7,[0,0,9]),(5,[0,0,3,2]),(4,[0,0,3,2]),(2,[0,0,3,0]),(1,[0,0,3]),(0,[0,0])]) [52] (A2 [(0,[0])]) (some [4]) [] [] []
noncomputable def C21{R:Type}(L:Nat)(a:Int)(b:Bool)(c:Int->Option R):Option R:=cond (a==4) (c 1) (cond (a==2) (cond (a==2) (c 2) (cond (a==9) (cond (not b) (c 2) (cond (not (Cu a)) (c 0) (c 3))) (cond (not (Cu a)) (c 0) (c 3)))) (cond (a==20) (c 2) (cond (a==9) (cond (not b) (c 2) (cond (not (Cu a)) (c 0) (c 3))) (cond (not (Cu a)) (c 0) (c 3)))))
theorem C22(d:Nat)(dest0 imageSet1):evC (Aw3 L) (d+1) Z Y 89 [pI dest0,pB imageSet1] [] s=C21 L dest0 imageSet1 (λa=>some (pI a,[],s)):=by refine(evE (fn:=Tryz.f89) (by kernel_rfl)).trans ?_;generalize evC (Aw3 L) d=Q;unfold C21;kernel_rfl
noncomputable def Zw(L:Nat):Cfg:=B7 L [30] (A2 []) [] (A2 [(1,[2]),(0,[0])]) [] (A2 []) (some [2]) [] [] []
noncomputable def FH{R:Type}(L:Nat)(a:Int)(b:Bool->Option R):Option R:=cond (not (ltI a 1)) (b (not (ltI 22 a))) (b false)
theorem A82(d:Nat)(dest0):evC (Zw L) (d+1) Z Y 30 [pI dest0] [] s=FH L dest0 (λa=>some (pB a,[],s)):=by refine(evE (fn:=Tryz.f30) (by kernel_rfl)).trans ?_;generalize evC (Zw L) d=Q;unfold FH;kernel_rfl
noncomputable abbrev Bn8:Code:=C8 o6
noncomputable def Lv(L:Nat):Cfg:=B7 L [171] (A2 [(2,[0,0,2,2,0])]) [] (A2 [(7,[4]),(6,[0,0,5,0]),(5,[4]),(4,[0,0,3,1,0,7]),(3,[0,0,3,1,0]),(2,[0,0,5,0,0]),(1,[0,0,5,0]),(0,[0,0])]) [] (A2 [(0,[]),(1,[0,0,5,0])]) (some [4]) [] [] []
noncomputable def Ia{R:Type}(L n:Nat)(c b:Bool)(d:LL)(h:By)(g a:Int)(e:Int->Option R)(f:Unit->Option R):Option R:=match n with|0=>none|n+1=>cond (ltI a g) (cond (inR a d.length) (cond (okE Oa d (o7 a) 0) (cond (h==(gX d (o7 a) 0)) (e a) (Ia L n c b d h g (A1 (a+1)) e f)) none) none) (f ())
theorem Ap6(n s_z0 s_t1 s2 v3 n4 n5):D0 0 ((Lv L).keep 2) (bd (Lv L) Q Y (cd [1,0,1,0,0] Bn8)) n ⟨gp [(0,.s (.sl s_z0 s_t1 1 s2)),(0,pS v3),(5,pI n4),(0,pI n5)] 10,[],s⟩ k =
 Ia L n s_z0 s_t1 s2 v3 n4 n5 (λn0=>k .ret ⟨gp [(4,pI n0)] 14,[],s⟩) (λ_=>k (.exit 0) ⟨gp [] 19,[],s⟩):=by
 induction n generalizing s_z0 s_t1 s2 v3 n4 n5 with
 | zero=>rfl
 | succ n a=>rw[Ia];simp only[<-a];kernel_rfl
noncomputable def Bt0{R:Type}(L:Nat)(b a:Bool)(d:LL)(e:By)(c:Int->Option R):Option R:=Ia L L b a d e (d.length:Int) 0 c (λ_=>c (-1))
theorem Cs8(d:Nat)(s_z0 s_t1 s2 v3):evC (Lv L) (d+1) Z Y 171 [.s (.sl s_z0 s_t1 1 s2),pS v3] [] s=Bt0 L s_z0 s_t1 s2 v3 (λa=>some (pI a,[],s)):=by refine(evE (fn:=o6) (by kernel_rfl)).trans ?_;generalize evC (Lv L) d=Q;unfold Bt0;exact(j1 (by kernel_rfl) ((Ap6 L Q Y s (E5 0 (E4 (Lv L) Q Y (cd [1,1] Bn8) (F6 (Lv L) o6))) L s_z0 s_t1 s2 v3 (s2.length:Int) 0).trans (by kernel_rfl)))
noncomputable def VE(L:Nat):Cfg:=B7 L [126] (A2 []) [(171,Bm7)] (A2 [(1,[4]),(0,[0,0])]) [171] (A2 []) (some [4]) [] [] []
noncomputable def Bs9{R:Type}(L:Nat)(d c:Bool)(b:LL)(f:By)(e:Bool->Option R):Option R:=cond (j0 b isS) (cond (A3 b.length) (vl (By4 (b8 elS b) f) λa=>e (not (ltI a 0))) none) none
theorem Cs6(d:Nat)(s_z0 s_t1 s2 v3):evC (VE L) (d+1) Z Y 126 [.s (.sl s_z0 s_t1 1 s2),pS v3] [] s=Bs9 L s_z0 s_t1 s2 v3 (λa=>some (pB a,[],s)):=by refine(evE (fn:=Tryz.f126) (by kernel_rfl)).trans ?_;generalize evC (VE L) d=Q;unfold Bs9;kernel_rfl
noncomputable def Aw1(L:Nat):Cfg:=B7 L [88] (A2 []) [(39,RS),(122,As5),(126,Bm6)] (A2 [(1,[4]),(0,[2,0])]) [39,122,126] (A2 []) (some [4]) [] [] [] (nt:=[(58,4,9,1)])
noncomputable def C14{R:Type}(L:Nat)(q r t u j i:Bool)(n:LL)(o:Int)(l:By)(m a b c d e f g h:Int)(v:Bool->(List Blk)->Option R):Option R:=cond (A3 l.length) (cond (ltN m 4294967296) (cond (ok8 a b c d e f g h) (cond (K2 (mkH o l m (n8 a b c d e f g h))) (cond (A3 l.length) (cond (ltN m 4294967296) (cond (ok8 a b c d e f g h) (vl (U0 (mkH o l m (n8 a b c d e f g h))) λp=>cond (j0 n isS) (cond (A3 n.length) (v (Bx3 (b8 elS n) p) [(bCx q r t u j i n),(bH o l m a b c d e f g h)]) none) none) none) none) none) (v false [(bCx q r t u j i n),(bH o l m a b c d e f g h)])) none) none) none
theorem C15(d:Nat)(c0 c1 c2 c3 c_z4 c_t5 c6 h7 h8 h9 h10 h11 h12 h13 h14 h15 h16 h17):evC (Aw1 L) (d+1) Z Y 88 [(gCx c0 c1 c2 c3 c_z4 c_t5 c6),(gH h7 h8 h9 h10 h11 h12 h13 h14 h15 h16 h17)] [] s=C14 L c0 c1 c2 c3 c_z4 c_t5 c6 h7 h8 h9 h10 h11 h12 h13 h14 h15 h16 h17 (λb a=>some (pB b,a,s)):=by refine(evE (fn:=Tryz.f88) (by kernel_rfl)).trans ?_;generalize evC (Aw1 L) d=Q;unfold C14;kernel_rfl
noncomputable abbrev Il:Code:=C8 j9
noncomputable def Cc(L:Nat):Cfg:=B7 L [53] (A2 []) [(84,Au3),(85,Cd7),(86,Ce1),(87,ZS),(88,Cb5),(89,Cb6)] (A2 [(13,[10]),(4,[10]),(6,[10]),(8,[10]),(10,[10]),(12,[10]),(11,[10,3,55]),(9,[1,0,2,2,1,0,1,0,46]),(7,[1,0,2,2,1,0,0,0,0,28]),(5,[1,0,2,2,1,0,0,0,0,18]),(3,[1,0,2,2,1,0,0,0,0,9]),(2,[1,0,2,2,0,0,0,0,0,0]),(1,[1,0,2,2,0,0,0,0]),(0,[1,0,2,2,0,0])]) [84,85,87,88,89] (A2 [(0,[10])]) (some [10]) [] [] [] (nt:=[(58,4,9,1)])
noncomputable def Wq{R:Type}(a A B:By)(u:Int)(C:By)(h i j l m n o p q r:Int)(v:By)(b c d e y x:Bool)(g:LL)(t:Int)(w:By)(f:Bool)(z:Blk->Blk->Blk->By->(List Blk)->Option R):Option R:=z (bU A B u C h i j l m n o p q r v) (bCx b c d e y x g) (bCv t w f) a []
abbrev KG(b:Code):Prop:=∀(k:Out->St Z->Option R) dest0 imageSet1 insecure2 document3 allow4 upgrade5 s6 s7 n8v s9 n10 n11 n12 n13 n14 n15 n16 n17 n18 n19 s20 b21 b22 b23 b24 z25 t26 l27 n28 s29 b30,A9 (Cc L) Q Y b ⟨gp [(1,pI dest0),(0,pB imageSet1),(2,.ptr 0 0 0),(2,.ptr 1 0 0),(1,.ptr 3 0 0),(0,pB insecure2),(0,pB document3),(0,pS allow4),(0,pS upgrade5),(28,pB true)] 48,[(bU s6 s7 n8v s9 n10 n11 n12 n13 n14 n15 n16 n17 n18 n19 s20),(bCx b21 b22 b23 b24 z25 t26 l27),(bCv n28 s29 b30),.box [pI (0:Int),pI (0:Int),pS e0]],s⟩ k=Wq upgrade5 s6 s7 n8v s9 n10 n11 n12 n13 n14 n15 n16 n17 n18 n19 s20 b21 b22 b23 b24 z25 t26 l27 n28 s29 b30 (λa c d f e=>k .ret ⟨gp [(10,.ptr 3 0 0)] 81,(a::c::d::.box [pI (2:Int),pI (3:Int),pS f]::e),s⟩)
theorem Ag5:KG (R:=R) L Q Y s (cd [1,1,1,0,0,1,1,1,1,1] Il):=by intro k f b c a e d F G z H n o p q r t u v w x A g h i j D C m y B l;unfold Wq;kernel_rfl
noncomputable def Kp{R:Type}(H:Int)(A B z:Bool)(C a:By)(K:Bool)(F G:By)(D:Int)(u:By)(h i j l m n o p q r:Int)(v:By)(d c e b y x:Bool)(g:LL)(t:Int)(w:By)(f:Bool)(I:Blk->Blk->Blk->Int->Int->By->(List Blk)->Option R)(J:By->Bool->By->By->Int->By->Int->Int->Int->Int->Int->Int->Int->Int->Int->Int->By->Bool->Bool->Bool->Bool->Bool->Bool->LL->Int->By->Bool->Option R):Option R:=cond K (I (bU F G D u h i j l m n o p q r v) (bCx d c e b y x g) (bCv t w f) 2 3 a []) (cond z (I (bU F G D u h i j l m n o p q r v) (bCx d c e b y x g) (bCv t w f) 1 6 C []) (cond (not c) (I (bU F G D u h i j l m n o p q r v) (bCx d c e b y x g) (bCv t w f) 1 6 C []) (cond B (cond ((Ay3 H A)==2) (cond (D==1) (cond (not b) (I (bU F G D u h i j l m n o p q r v) (bCx d c e b y x g) (bCv t w f) 2 4 a []) (J a (not b) F G D u h i j l m n o p q r v d c e b y x g t w f)) (J a false F G D u h i j l m n o p q r v d c e b y x g t w f)) (J a false F G D u h i j l m n o p q r v d c e b y x g t w f)) (J a false F G D u h i j l m n o p q r v d c e b y x g t w f))))
abbrev KH(b:Code):Prop:=∀(k:Out->St Z->Option R) dest0 imageSet1 insecure2 document3 allow4 upgrade5 b6 s7 s8 h s10 c d e f g n16 n17 n18 n19 n20 s21 b22 b23 b24 b25 z26 t27 l28 n29 s30 b31,A9 (Cc L) Q Y b ⟨gp [(1,pI dest0),(0,pB imageSet1),(2,.ptr 0 0 0),(2,.ptr 1 0 0),(1,.ptr 3 0 0),(0,pB insecure2),(0,pB document3),(0,pS allow4),(0,pS upgrade5),(28,pB b6)] 48,[(bU s7 s8 h s10 c d e f g n16 n17 n18 n19 n20 s21),(bCx b22 b23 b24 b25 z26 t27 l28),(bCv n29 s30 b31),.box [pI (0:Int),pI (0:Int),pS e0]],s⟩ k=Kp dest0 imageSet1 insecure2 document3 allow4 upgrade5 b6 s7 s8 h s10 c d e f g n16 n17 n18 n19 n20 s21 b22 b23 b24 b25 z26 t27 l28 n29 s30 b31 (λz A B F r w C=>k .ret ⟨gp [(10,.ptr 3 0 0)] 81,(z::A::B::.box [pI F,pI r,pS w]::C),s⟩) (λa D I J r w G H t h p c d e f g u i j l m y x o q v n=>k .normal ⟨gp [(10,.ptr 3 0 0),(3,pS a),(55,pB D)] 21,[(bU I J r w G H t h p c d e f g u),(bCx i j l m y x o),(bCv q v n),.box [pI (0:Int),pI (0:Int),pS e0]],s⟩)
theorem Ag6:KH (R:=R) L Q Y s (cd [1,1,1,0,0,1,1,1,1,1] Il):=by intro k f b c a e d F H I G z n o p q r t u v w x A g h i j D C m y B l;unfold Kp;kernel_rfl
noncomputable def Pk{R:Type}(z:Int)(d c b:Bool)(e a:By)(S:Bool)(F H:By)(G:Int)(p:By)(f g h i j l m n o r:Int)(t:By)(v w u x D C:Bool)(q:LL)(A:Int)(B:By)(y:Bool)(I:Blk->Blk->Blk->Int->Int->By->(List Blk)->Option R)(O:By->Bool->By->By->Int->By->Int->Int->Int->Int->Int->Int->Int->Int->Int->Int->By->Bool->Bool->Bool->Bool->Bool->Bool->LL->Int->By->Bool->Option R):Option R:=cond S (I (bU F H G p f g h i j l m n o r t) (bCx v w u x D C q) (bCv A B y) 2 2 a []) (cond (smU F H p t) (cond (ltN f 4294967296) (cond (ok8 g h i j l m n o) (cond (Ak r) (cond (Pv F H G p f g h i j l m n o r t) (I (bU F H G p f g h i j l m n o r t) (bCx v w u x D C q) (bCv A B y) 1 1 e []) (cond (F==[100,97,116,97]) (I (bU F H G p f g h i j l m n o r t) (bCx v w u x D C q) (bCv A B y) 1 1 e []) (cond c (cond u (cond (not b) (Wq a F H G p f g h i j l m n o r t v w u x D C q A B y (λJ K M P N=>I J K M 2 3 P N)) (cond (j0 q isS) (cond (A3 q.length) (cond (A3 p.length) (cond (ltN f 4294967296) (cond (ok8 g h i j l m n o) (Kp z d c b e a (Ag9 (b8 elS q) (mkH G p f (n8 g h i j l m n o))) F H G p f g h i j l m n o r t v w u x D C q A B y I O) none) none) none) none) none)) (Kp z d c b e a false F H G p f g h i j l m n o r t v w u x D C q A B y I O)) (Kp z d c b e a false F H G p f g h i j l m n o r t v w u x D C q A B y I O)))) none) none) none) none)
abbrev Ts(b:Code):Prop:=∀(k:Out->St Z->Option R) dest0 imageSet1 insecure2 document3 allow4 upgrade5 b6 s7 s8 h s10 c d e f g n16 n17 n18 n19 n20 s21 b22 b23 b24 b25 z26 t27 l28 n29 s30 b31,A9 (Cc L) Q Y b ⟨gp [(1,pI dest0),(0,pB imageSet1),(2,.ptr 0 0 0),(2,.ptr 1 0 0),(1,.ptr 3 0 0),(0,pB insecure2),(0,pB document3),(0,pS allow4),(0,pS upgrade5),(9,pB b6)] 67,[(bU s7 s8 h s10 c d e f g n16 n17 n18 n19 n20 s21),(bCx b22 b23 b24 b25 z26 t27 l28),(bCv n29 s30 b31),.box [pI (0:Int),pI (0:Int),pS e0]],s⟩ k=Pk dest0 imageSet1 insecure2 document3 allow4 upgrade5 b6 s7 s8 h s10 c d e f g n16 n17 n18 n19 n20 s21 b22 b23 b24 b25 z26 t27 l28 n29 s30 b31 (λz A B F r w C=>k .ret ⟨gp [(10,.ptr 3 0 0)] 81,(z::A::B::.box [pI F,pI r,pS w]::C),s⟩) (λa D I J r w G H t h p c d e f g u i j l m y x o q v n=>k .normal ⟨gp [(10,.ptr 3 0 0),(3,pS a),(55,pB D)] 21,[(bU I J r w G H t h p c d e f g u),(bCx i j l m y x o),(bCv q v n),.box [pI (0:Int),pI (0:Int),pS e0]],s⟩)
theorem Ag7(a:Code)(i:KG (R:=R) L Q Y s a)(e:KH (R:=R) L Q Y s a):Ts (R:=R) L Q Y s (cd [1,1,1,0,0,1] (G4 [1,1,1,0,0,1,1,1,1,1] a Il)):=by intro k h c d b g f M J K I v l m n o p q r t u B D w x y z H G j C F A;unfold Pk;exact(j1 (by kernel_rfl) (A0 rfl (A0 (A0 (A0 (A0 (A0 rfl (A0 rfl (A0 (A0 (A0 ((i k h c d b g f J K I v l m n o p q r t u B D w x y z H G j C F A).trans (by kernel_rfl)) (A0 (A0 (A0 (A0 (A0 ((e k h c d b g f (Ag9 (b8 elS j) (mkH I v l (n8 m n o p q r t u))) J K I v l m n o p q r t u B D w x y z H G j C F A).trans (by kernel_rfl)) rfl) rfl) rfl) rfl) rfl)) ((e k h c d b g f false J K I v l m n o p q r t u B D w x y z H G j C F A).trans (by kernel_rfl))) ((e k h c d b g f false J K I v l m n o p q r t u B D w x y z H G j C F A).trans (by kernel_rfl))))) rfl) rfl) rfl) rfl)))
theorem Ag8:Ts (R:=R) L Q Y s (cd [1,1,1,0,0,1] Il):=by intro k f b c a e d F H I G z n o p q r t u v w x A g h i j D C m y B l;exact j1 (by kernel_rfl) (Ag7 L Q Y s (cd [1,1,1,0,0,1,1,1,1,1] Il) (Ag5 L Q Y s) (Ag6 L Q Y s) k f b c a e d F H I G z n o p q r t u v w x A g h i j D C m y B l)
noncomputable def Ag4{R:Type}(L:Nat)(u u1:By)(u2:Int)(u3:By)(u4 u5 u6 u7 u8 u9 d e f g:Int)(h:By)(b:Int)(a d8 d9 e1 e2 j i:Bool)(e3:LL)(c:Int)(l:By)(m:Bool)(k0:Int->Int->By->(List Blk)->Option R):Option R:=cond (smU u u1 u3 h) (cond (ltN u4 4294967296) (cond (ok8 u5 u6 u7 u8 u9 d e f) (cond (Ak g) (vl (EG (mkU u u1 u2 u3 u4 (n8 u5 u6 u7 u8 u9 d e f) g h)) λe4=>cond (smU (upS u) u1 u3 h) (cond (ltN u4 4294967296) (cond (ok8 u5 u6 u7 u8 u9 d e f) (cond (Ak (upP u g)) (vl (EG (mkU (upS u) u1 u2 u3 u4 (n8 u5 u6 u7 u8 u9 d e f) (upP u g) h)) λe5=>cond (R1 u) (Pk b a (R1 u) (b==4) e4 e5 (c !=0) u u1 u2 u3 u4 u5 u6 u7 u8 u9 d e f g h d8 d9 e1 e2 j i e3 c l m (λx y z n o r D=>k0 n o r (x::(y::(z::((Blk.box [(PV.s (SV.int .i64 n)),(PV.s (SV.int .i64 o)),(PV.s (SV.str r))])::D))))) (λv e6 c4 c5 V c6 W X a0 a1 a2 a3 a4 a5 a6 a7 c7 G H I J d6 d4 T a9 c8 K=>k0 3 5 e0 [(bU c4 c5 V c6 W X a0 a1 a2 a3 a4 a5 a6 a7 c7),(bCx G H I J d6 d4 T),(bCv a9 c8 K),(Blk.box [(PV.s (SV.int .i64 (3:Int))),(PV.s (SV.int .i64 (5:Int))),(PV.s (SV.str e0))])])) (Pk b a (R1 u) (b==4) e4 e5 false u u1 u2 u3 u4 u5 u6 u7 u8 u9 d e f g h d8 d9 e1 e2 j i e3 c l m (λA B C p q t F=>k0 p q t (A::(B::(C::((Blk.box [(PV.s (SV.int .i64 p)),(PV.s (SV.int .i64 q)),(PV.s (SV.str t))])::F))))) (λw e7 c9 d0 b0 d1 b1 b2 b3 b4 b5 b6 b7 c0 c1 c2 d2 M N O P d7 d5 U c3 d3 S=>k0 3 5 e0 [(bU c9 d0 b0 d1 b1 b2 b3 b4 b5 b6 b7 c0 c1 c2 d2),(bCx M N O P d7 d5 U),(bCv c3 d3 S),(Blk.box [(PV.s (SV.int .i64 (3:Int))),(PV.s (SV.int .i64 (5:Int))),(PV.s (SV.str e0))])]))) none) none) none) none) none) none) none) none
theorem Cl7(e:Code)(c:Ts (R:=PV × List Blk × Z) L Q Y s e)(v y:By)(z:Int)(A:By)(B C D F u8 G p q r t:Int)(u:By)(b:Int)(a j l m n g f:Bool)(o:LL)(d:Int)(h:By)(i:Bool):A9 (Cc L) Q Y (cd [] (G4 [1,1,1,0,0,1] e Il)) ⟨[(gU v y z A B C D F u8 G p q r t u),pI b,pB a,(gCx j l m n g f o),(gCv d h i)]++tps 87,[],s⟩ (F6 (Cc L) j9)=Ag4 L v y z A B C D F u8 G p q r t u b a j l m n g f o d h i (λJ K M I=>some (.agg [pI J,pI K,pS M],I,s)):=by unfold Ag4;exact let H:=(E5 0 (E4 (Cc L) Q Y (cd [1,1,1,1] Il) (F6 (Cc L) j9)));(j1 (by kernel_rfl) (A0 (A0 (A0 (A0 (A4 λw=>(A0 (A0 (A0 (A0 (A4 λx=>(A0 ((c H b a (R1 v) (b==4) w x (d !=0) v y z A B C D F u8 G p q r t u j l m n g f o d h i).trans (by kernel_rfl)) ((c H b a (R1 v) (b==4) w x false v y z A B C D F u8 G p q r t u j l m n g f o d h i).trans (by kernel_rfl)))) rfl) rfl) rfl) rfl)) rfl) rfl) rfl) rfl))
theorem Cl8(d:Nat)(u0 u1 u2 u3 u4 u5 u6 u7 u8 u9 u10 u11 u12 u13 u14 dest15 imageSet16 c17 c18 c19 c20 c_z21 c_t22 c23 cov24 cov25 cov26):evC (Cc L) (d+1) Z Y 53 [(gU u0 u1 u2 u3 u4 u5 u6 u7 u8 u9 u10 u11 u12 u13 u14),pI dest15,pB imageSet16,(gCx c17 c18 c19 c20 c_z21 c_t22 c23),(gCv cov24 cov25 cov26)] [] s=Ag4 L u0 u1 u2 u3 u4 u5 u6 u7 u8 u9 u10 u11 u12 u13 u14 dest15 imageSet16 c17 c18 c19 c20 c_z21 c_t22 c23 cov24 cov25 cov26 (λb c e a=>some (.agg [pI b,pI c,pS e],a,s)):=
 (evE (fn:=j9) (by kernel_rfl)).trans (j1 (by kernel_rfl) (Cl7 L (evC (Cc L) d) Y s (cd [1,1,1,0,0,1] Il) (Ag8 L (evC (Cc L) d) Y s) u0 u1 u2 u3 u4 u5 u6 u7 u8 u9 u10 u11 u12 u13 u14 dest15 imageSet16 c17 c18 c19 c20 c_z21 c_t22 c23 cov24 cov25 cov26))
noncomputable def Ax3(L:Nat):Cfg:=B7 L [26] (A2 []) [(51,Qk),(52,FT),(53,Bl1)] (A2 [(5,[10,0]),(2,[10,0]),(4,[10,0]),(3,[1,0,2,2,0,0,6]),(1,[1,0,2,2,0,0,1]),(0,[1,0,2,2,0,0])]) [51,52] (A2 [(0,[1,0,2,2,0,0])]) (some [10,0]) [] [] [] (nt:=[(58,4,9,1)])
noncomputable def C79{R:Type}(L:Nat)(u v:By)(C:Int)(w:By)(x y z A u8 B g h i j:Int)(l:By)(m:Int)(b t p q r d c:Bool)(n:LL)(a:Int)(e:By)(f:Bool)(D:Int->Int->By->Int->(List Blk)->Option R):Option R:=cond (smU u v w l) (cond (ltN x 4294967296) (cond (ok8 y z A u8 B g h i) (cond (Ak j) (cond (not (Bf (mkU u v C w x (n8 y z A u8 B g h i) j l))) (D 0 0 e0 1 [(bU u v C w x y z A u8 B g h i j l),(bCx t p q r d c n),(bCv a e f),(Blk.box [(PV.s (SV.int .i64 (0:Int))),(PV.s (SV.int .i64 (0:Int))),(PV.s (SV.str e0))])]) (cond (not (Cu m)) (D 0 0 e0 2 [(bU u v C w x y z A u8 B g h i j l),(bCx t p q r d c n),(bCv a e f),(Blk.box [(PV.s (SV.int .i64 (0:Int))),(PV.s (SV.int .i64 (0:Int))),(PV.s (SV.str e0))])]) (cond (smU u v w l) (cond (ltN x 4294967296) (cond (ok8 y z A u8 B g h i) (cond (Ak j) (cond (j0 n isS) (cond (A3 n.length) (vl (Pq u v C w x y z A u8 B g h i j l m b p q r (b8 elS n) a) λo=>D (dA o) (dR o) (dU o) 0 [(bU u v C w x y z A u8 B g h i j l),(bCx t p q r d c n),(bCv a e f),(Blk.box [(PV.s (SV.int .i64 (dA o))),(PV.s (SV.int .i64 (dR o))),(PV.s (SV.str (dU o)))])]) none) none) none) none) none) none))) none) none) none) none
theorem C80(d:Nat)(u0 u1 u2 u3 u4 u5 u6 u7 u8 u9 u10 u11 u12 u13 u14 dest15 imageSet16 c17 c18 c19 c20 c_z21 c_t22 c23 cov24 cov25 cov26):evC (Ax3 L) (d+1) Z Y 26 [(gU u0 u1 u2 u3 u4 u5 u6 u7 u8 u9 u10 u11 u12 u13 u14),pI dest15,pB imageSet16,(gCx c17 c18 c19 c20 c_z21 c_t22 c23),(gCv cov24 cov25 cov26)] [] s=C79 L u0 u1 u2 u3 u4 u5 u6 u7 u8 u9 u10 u11 u12 u13 u14 dest15 imageSet16 c17 c18 c19 c20 c_z21 c_t22 c23 cov24 cov25 cov26 (λb c e f a=>some (.tup [.agg [pI b,pI c,pS e],pI f],a,s)):=by refine(evE (fn:=Tryz.f26) (by kernel_rfl)).trans ?_;generalize evC (Ax3 L) d=Q;unfold C79;kernel_rfl
noncomputable def UR(L:Nat):Cfg:=B7 L [24] (A2 []) [(19,ZR)] (A2 [(1,[2]),(0,[1])]) [19] (A2 []) (some [2]) [] [] [] (nt:=[(58,4,9,1)])
noncomputable def Bq2{R:Type}(L:Nat)(d e f g b a:Bool)(c:LL)(h:Bool->(List Blk)->Option R):Option R:=cond (not (ltI 20 (c.length:Int))) (cond (j0 c isS) (cond (A3 c.length) (h (Fc (400:Int) (b8 elS c)) [(bCx d e f g b a c)]) none) none) (h false [(bCx d e f g b a c)])
theorem Ck6(d:Nat)(c0 c1 c2 c3 c_z4 c_t5 c6):evC (UR L) (d+1) Z Y 24 [(gCx c0 c1 c2 c3 c_z4 c_t5 c6)] [] s=Bq2 L c0 c1 c2 c3 c_z4 c_t5 c6 (λb a=>some (pB b,a,s)):=by refine(evE (fn:=Tryz.f24) (by kernel_rfl)).trans ?_;generalize evC (UR L) d=Q;unfold Bq2;kernel_rfl
end
theorem Ac8{R:Type}{a:Bool->Option R}(n:Int):VQ LF n a=a (Cu n):=by unfold VQ Cu;cases ltI n 1<;>rfl
theorem XN{R:Type}{a:Bool->Option R}(n:Int):FH LF n a=a (Cu n):=by unfold FH Cu;cases ltI n 1<;>rfl
theorem Bv7{R:Type}{b:Int->Option R}(n:Int)(a:Bool):C21 LF n a b=b (Ay3 n a):=by unfold C21 Ay3;cases n==4<;>cases n==2<;>cases n==20<;>cases n==9<;>cases a<;>cases Cu n<;>rfl
theorem Bg7{R:Type}(z t:Bool)(l:List By)(v:By)(a:Int->Option R)(b:Unit->Option R)(k:l.length<=1000000000):∀(r i m:Nat),i+r=l.length->r<m->
  Ia LF m z t (D2 l) v (l.length:Int) (i:Int) a b=match (l.drop i).findIdx? (· == v) with|some j=>a ((i+j:Nat):Int)|none=>b ():=by
 intro r
 induction r with
 | zero=>
  intro i m e f;obtain⟨m,rfl⟩:∃q,m=q+1:=⟨m-1,by omega⟩
  rw[Ia,A6,List.drop_of_length_le (by omega)];rfl
 | succ r g=>
  intro i m e f;obtain⟨m,rfl⟩:∃q,m=q+1:=⟨m-1,by omega⟩
  have c:A1 ((i:Int)+1)=((i+1:Nat):Int):=by rw[A7];rfl
  have d:l.drop i=l.getD i []::l.drop (i+1):=by
   rw[List.getD_eq_getElem?_getD,List.getElem?_eq_getElem (by omega),Option.getD_some,List.getElem_cons_drop]
  rw[Ia,A8,M0 (by omega) (by rw[F0];omega),Int.toNat_natCast,R2 (by omega),U7,c,d,List.findIdx?_cons];simp only[cond_true];by_cases h:l.getD i []=v
  ·rw[h,beq_self_eq_true];simp
  ·rw[show(v==l.getD i [])=false by simpa using λq=>h q.symm,show(l.getD i []==v)=false by simpa using h,cond_false,g (i+1) m (by omega) (by omega)];cases (l.drop (i+1)).findIdx? (· == v) with
   | none=>rfl
   | some j=>simp[Nat.add_assoc,Nat.add_comm 1 j]
theorem Bg8{R:Type}{b:Int->Option R}(z t:Bool)(l:LL)(v:By)(c:l.all isS=true)(d:A3 l.length=true):Bt0 LF z t l v b=b (By4 (l.map elS) v):=by
 have f:=C7;have a:=L3 d;rw[YO c] at a ⊢;generalize l.map elS=q at a ⊢;rw[F0] at a;have e:b8 elS (D2 q)=q:=by
  unfold D2;rw[List.map_map];exact List.map_id'' (λ_=>rfl) q
 unfold Bt0 By4;rw[F0,e];refine(Bg7 z t q v _ _ a q.length 0 LF (by omega) (by omega)).trans ?_;rw[List.drop_zero];cases q.findIdx? (· == v) with
 | none=>rfl
 | some j=>
  show b ((0+j:Nat):Int)=b (j:Int);rw[Nat.zero_add]
theorem C59(l:List By)(v:By):(!ltI (By4 l v) 0)=Bx3 l v:=by
 unfold By4 Bx3;cases h:l.findIdx? (· == v) with
 | none=>
  rw[List.findIdx?_eq_none_iff] at h;show(!ltI (-1) 0)=_;rw[A8];exact(List.any_eq_false.2 λx c=>by rw[h x c];simp).symm
 | some j=>
  show(!ltI (j:Int) 0)=_;rw[A6];exact(List.any_eq_true.2 (by
   obtain⟨a,b,_⟩:=List.findIdx?_eq_some_iff_getElem.1 h;exact⟨_,List.getElem_mem a,b⟩)).symm
theorem Bg3{R:Type}{a:Bool->Option R}(z t:Bool)(l:LL)(v:By)(b:l.all isS=true)(c:A3 l.length=true):Bs9 LF z t l v a=a (Bx3 (l.map elS) v):=by unfold Bs9;rw[b,c,<-C59];rfl
theorem C16(x v up m z t:Bool)(l:LL)(j:Int)(i:By)(v4 a b c d e f g h:Int)(n:l.all isS=true)(o:A3 l.length=true)(p:A3 i.length=true)(q:ltN v4 4294967296=true)(u:ok8 a b c d e f g h=true) :
  ∃r H,C14 LF x v up m z t l j i v4 a b c d e f g h (λw k=>rv (.s (.bool w)) k)=rv r H/\r.stab [] H = .s (.bool (Ag9 (l.map elS) (mkH j i v4 (n8 a b c d e f g h)))):=by
 unfold C14 Ag9;rw[n,o,p,q,u];cases K2 (mkH j i v4 (n8 a b c d e f g h))<;>exact⟨_,_,rfl,rfl⟩
theorem Ck7(f d up b z t:Bool)(l:LL)(c:l.all isS=true) :
  ∃r H,Bq2 LF f d up b z t l (λe a=>rv (.s (.bool e)) a)=rv r H/\r.stab [] H = .s (.bool (j7 l.length 20&&Fc 400 (l.map elS))):=by
 unfold Bq2;by_cases h:l.length<=20
 ·rw[A6,c,K4,Nat.ble_eq_true_of_le h];exact⟨_,_,rfl,rfl⟩
 ·rw[A8,show j7 l.length 20=false by rw[Bool.eq_false_iff];intro q;exact h (j5 q)];exact⟨_,_,rfl,rfl⟩
theorem Dq5{a e c d:By}(h:smU a e c d=true):smU (upS a) e c d=true:=by
 obtain⟨f,g,i,j⟩:=Ri h;have:(upS a).length<=100000000:=by
  cases b:R1 a with
  | false=>rw[(Bt3 b 0).1];exact f
  | true=>rcases Iv b with rfl|rfl<;>decide
 simp only[smU,j4,Nat.ble_eq];exact⟨⟨⟨this,g⟩,i⟩,j⟩
theorem Cl9(a u:By)(o:Int)(b:By)(v4 e f g h j k m n p:Int)(q:By)(v:Int)(y Y A up w z t:Bool)(l:LL)(B:Int)(L:By)(M:Bool)(C:smU a u b q=true)(P:ltN v4 4294967296=true)(Q:ok8 e f g h j k m n=true)(I:Ak p=true)(R:l.all isS=true)(S:A3 l.length=true) :
  ∃r H,Ag4 LF a u o b v4 e f g h j k m n p q v y Y A up w z t l B L M (λV W X J=>rv (.agg [.s (.int .i64 V),.s (.int .i64 W),.s (.str X)]) J)=rv r H/\r.stab [] H = .agg [.s (.int .i64 (dA (Pq a u o b v4 e f g h j k m n p q v y A up w (l.map elS) B))),.s (.int .i64 (dR (Pq a u o b v4 e f g h j k m n p q v y A up w (l.map elS) B))),.s (.str (dU (Pq a u o b v4 e f g h j k m n p q v y A up w (l.map elS) B)))]:=by
 obtain⟨l1,l2,l3,l4⟩:=Ri C;have Z:A3 b.length=true:=K4;have N:=Dq5 C;have O:=Dr1 (s:=a) I;unfold Ag4 Pk Kp Wq Pq;simp only[vl,C,P,Q,I,R,S,Z,N,O,cond_true,show(a==([100,97,116,97]:List UInt8))=(a==Bn1) from rfl,bne];generalize EG (mkU a u o b v4 (n8 e f g h j k m n) p q)=F;generalize EG (mkU (upS a) u o b v4 (n8 e f g h j k m n) (upP a p) q)=G;generalize Pv a u o b v4 e f g h j k m n p q=T;generalize Ag9 (l.map elS) (mkH o b v4 (n8 e f g h j k m n))=U;generalize R1 a=i;generalize (a==Bn1)=d;generalize (B==0)=x;generalize (v==4)=D;generalize (Ay3 v y==2)=c;generalize (o==1)=K;cases i<;>cases x<;>cases T<;>cases d<;>first|exact⟨_,_,rfl,rfl⟩|(cases up<;>cases D<;>cases A<;>first|exact⟨_,_,rfl,rfl⟩|(cases U<;>cases c<;>cases K<;>cases w<;>exact⟨_,_,rfl,rfl⟩))
theorem C81(m n:By)(p:Int)(i:By)(v4 a b c d e f g h j:Int)(k:By)(o:Int)(u N v up q z t:Bool)(l:LL)(w:Int)(y:By)(A:Bool)(B:smU m n i k=true)(C:ltN v4 4294967296=true)(D:ok8 a b c d e f g h=true)(F:Ak j=true)(G:l.all isS=true)(I:A3 l.length=true) :
  ∃r H,C79 LF m n p i v4 a b c d e f g h j k o u N v up q z t l w y A (λJ K L M x=>rv (.tup [.agg [.s (.int .i64 J),.s (.int .i64 K),.s (.str L)],.s (.int .i64 M)]) x)=rv r H/\r.stab [0,0] H = .tup [.agg [.s (.int .i64 (dA (EF m n p i v4 a b c d e f g h j k o u v up q (l.map elS) w))),.s (.int .i64 (dR (EF m n p i v4 a b c d e f g h j k o u v up q (l.map elS) w))),.s (.str (dU (EF m n p i v4 a b c d e f g h j k o u v up q (l.map elS) w)))],.s (.int .i64 (dE (EF m n p i v4 a b c d e f g h j k o u v up q (l.map elS) w)))]:=by
 unfold C79 EF;simp only[vl,B,C,D,F,G,I,cond_true];cases Bf (mkU m n p i v4 (n8 a b c d e f g h) j k)<;>cases Cu o<;>exact⟨_,_,rfl,rfl⟩
section
variable {Z R : Type} (L : Nat) (Q : G0) (Y : Yh Z) (s : Z) (k : Out -> St Z -> Option R)
noncomputable def OF(L:Nat):Cfg:=B7 L [25] (A2 []) [(28,Kc),(26,GK)] (A2 [(7,[0]),(6,[6,0,0,0,0,0]),(5,[1,2,1,0,0,0]),(4,[1,0,1,1,0]),(3,[1,0,1]),(2,[1,0]),(1,[1]),(0,[])]) [] (A2 []) (some [0]) [] [] [] (nt:=[(58,4,9,1)])
noncomputable def Ab3(L:Nat):Cfg:=B7 L [7] (A2 []) [(24,SD),(25,Yn),(28,Kc),(29,TG),(26,GK),(30,Yy),(31,GZ)] (A2 [(11,[10]),(10,[10]),(9,[1,6,2,1,46]),(8,[10]),(7,[1,6,0,1,1,0,32]),(6,[1,6,0,1,1,0]),(5,[10]),(4,[1,0,5,0,1,23]),(3,[1,0,5,0,1,0]),(2,[10]),(1,[0,0,0,5,0,12]),(0,[0,0,0,5,0])]) [24,25,29,30,31] (A2 []) (some [10]) [] [] [] (nt:=[(58,4,9,1)])
noncomputable def lmn{R:Type}(L:Nat)(q:By)(n:Int)(o m i j l g f:Bool)(h:LL)(c:Int)(d:By)(e:Bool)(p:Bool->(List Blk)->Option R):Option R:=cond (ltI 1500 (q.length:Int)) (p true [(bCx m i j l g f h),(bCv c d e)]) (cond (j0 h isS) (cond (not ((j7 h.length 20)&&(Fc (400:Int) (b8 elS h)))) (p true [(bCx m i j l g f h),(bCv c d e)]) (cond (A3 q.length) (vl (F8 q) λa=>cond ((uE a)!=0) (p true [(bCx m i j l g f h),(bCv c d e),(bQ a)]) (cond (not (R1 (uS a))) (p true [(bCx m i j l g f h),(bCv c d e),(bQ a)]) (cond (smU (uS a) (uU a) (uN a) (uR a)) (cond (ltN (uV a) 4294967296) (cond (okQ a) (cond (Ak (uP a)) (cond (j0 h isS) (cond (A3 h.length) (vl (EF (uS a) (uU a) (uK a) (uN a) (uV a) (uA a 0) (uA a 1) (uA a 2) (uA a 3) (uA a 4) (uA a 5) (uA a 6) (uA a 7) (uP a) (uR a) n o i j l (b8 elS h) c) λb=>cond ((dE b)!=0) (cond ((dE b)==2) (cond (not (Cu n)) (p true [(bCx m i j l g f h),(bCv c d e),(bQ a),(Blk.box [(PV.s (SV.int .i64 (dA b))),(PV.s (SV.int .i64 (dR b))),(PV.s (SV.str (dU b)))])]) (p false [(bCx m i j l g f h),(bCv c d e),(bQ a),(Blk.box [(PV.s (SV.int .i64 (dA b))),(PV.s (SV.int .i64 (dR b))),(PV.s (SV.str (dU b)))])])) (p false [(bCx m i j l g f h),(bCv c d e),(bQ a),(Blk.box [(PV.s (SV.int .i64 (dA b))),(PV.s (SV.int .i64 (dR b))),(PV.s (SV.str (dU b)))])])) (cond (c !=0) (cond ((dA b)==2) (cond ((dR b)==2) (p true [(bCx m i j l g f h),(bCv c d e),(bQ a),(Blk.box [(PV.s (SV.int .i64 (dA b))),(PV.s (SV.int .i64 (dR b))),(PV.s (SV.str (dU b)))])]) (p false [(bCx m i j l g f h),(bCv c d e),(bQ a),(Blk.box [(PV.s (SV.int .i64 (dA b))),(PV.s (SV.int .i64 (dR b))),(PV.s (SV.str (dU b)))])])) (p false [(bCx m i j l g f h),(bCv c d e),(bQ a),(Blk.box [(PV.s (SV.int .i64 (dA b))),(PV.s (SV.int .i64 (dR b))),(PV.s (SV.str (dU b)))])])) (cond ((dA b)!=1) (p true [(bCx m i j l g f h),(bCv c d e),(bQ a),(Blk.box [(PV.s (SV.int .i64 (dA b))),(PV.s (SV.int .i64 (dR b))),(PV.s (SV.str (dU b)))])]) (cond (A3 (b9 (uN a))) (cond (ltN (uV a) 4294967296) (cond (okQ a) (cond (Ru (uK a) (uN a) (uV a) (uA a 0) (uA a 1) (uA a 2) (uA a 3) (uA a 4) (uA a 5) (uA a 6) (uA a 7)) (p true [(bCx m i j l g f h),(bCv c d e),(bQ a),(Blk.box [(PV.s (SV.int .i64 (dA b))),(PV.s (SV.int .i64 (dR b))),(PV.s (SV.str (dU b)))])]) (cond (n==4) (p true [(bCx m i j l g f h),(bCv c d e),(bQ a),(Blk.box [(PV.s (SV.int .i64 (dA b))),(PV.s (SV.int .i64 (dR b))),(PV.s (SV.str (dU b)))])]) (cond (not i) (p true [(bCx m i j l g f h),(bCv c d e),(bQ a),(Blk.box [(PV.s (SV.int .i64 (dA b))),(PV.s (SV.int .i64 (dR b))),(PV.s (SV.str (dU b)))])]) (p false [(bCx m i j l g f h),(bCv c d e),(bQ a),(Blk.box [(PV.s (SV.int .i64 (dA b))),(PV.s (SV.int .i64 (dR b))),(PV.s (SV.str (dU b)))])])))) none) none) none)))) none) none) none) none) none) none))) none)) none)
theorem Do7(d:Nat)(s0 dest1 imageSet2 c3 c4 c5 c6 c_z7 c_t8 c9 cov10 cov11 cov12):evC (Ab3 L) (d+1) Z Y 7 [pS s0,pI dest1,pB imageSet2,(gCx c3 c4 c5 c6 c_z7 c_t8 c9),(gCv cov10 cov11 cov12)] [] s=lmn L s0 dest1 imageSet2 c3 c4 c5 c6 c_z7 c_t8 c9 cov10 cov11 cov12 (λb a=>some (pB b,a,s)):=by refine(evE (fn:=j6) (by kernel_rfl)).trans ?_;generalize evC (Ab3 L) d=Q;unfold lmn;kernel_rfl
end
theorem Dd4{l:LL}(h:(j7 l.length 20&&Fc 400 (l.map elS))=true):A3 l.length=true:=by rw[j4] at h;have:=j5 h.1;exact K4
theorem By7{p:U4 × Nat}(a:CU p.1)(b:R1 (uS p)=true):Pv (uS p) (uU p) (uK p) (uN p) (uV p) (uA p 0) (uA p 1) (uA p 2) (uA p 3) (uA p 4) (uA p 5) (uA p 6) (uA p 7) (uP p) (uR p)=Ru (uK p) (uN p) (uV p) (uA p 0) (uA p 1) (uA p 2) (uA p 3) (uA p 4) (uA p 5) (uA p 6) (uA p 7):=by obtain⟨_,_,_,c⟩:=KO a.ok;unfold Pv;rw[show mkU (uS p) _ _ _ _ _ (uP p) _=p.1 from c _ _,ZK a];rcases Iv b with e|e<;>rw[e]<;>rfl
theorem Bv4{p:U4 × Nat}(c:CU p.1)(a:Int)(d e up b:Bool)(l:List By)(f:Int):EF (uS p) (uU p) (uK p) (uN p) (uV p) (uA p 0) (uA p 1) (uA p 2) (uA p 3) (uA p 4) (uA p 5) (uA p 6) (uA p 7) (uP p) (uR p) a d e up b l f=cond (Cu a) (okD (Pq (uS p) (uU p) (uK p) (uN p) (uV p) (uA p 0) (uA p 1) (uA p 2) (uA p 3) (uA p 4) (uA p 5) (uA p 6) (uA p 7) (uP p) (uR p) a d e up b l f)) ⟨0,0,[],2⟩:=by obtain⟨_,_,_,g⟩:=KO c.ok;unfold EF;rw[show mkU (uS p) _ _ _ _ _ (uP p) _=p.1 from g _ _,ZK c];rfl
theorem Ck4(s:By)(a:Int)(j q k up d z:Bool)(l:LL)(m:Int)(n:By)(o:Bool)(u:l.all isS=true) :
  Tru (evC (Ab3 LF) 1 Unit noY 7 [.s (.str s),.s (.int .i64 a),.s (.bool j),gCx q k up d z false l,gCv m n o] [] ()):=by
 refine Eq.subst (motive:=Tru) (Do7 (Z:=Unit) LF noY () 0 s a j q k up d z false l m n o).symm ?_;unfold lmn;by_cases r:(1500:Int)<s.length
 ·rw[B8 r];exact⟨_,rfl⟩
 rw[A6,cond_false,u,cond_true];cases f:(j7 l.length 20&&Fc 400 (l.map elS)) with
 | false=>exact⟨_,rfl⟩
 | true=>
 have b:=Cn2 (s:=s) (by omega) (uS (F8 s)) (Nat.le_trans (KV s).1 (by omega));have v:A3 (b9 (uN (F8 s)))=true:=by
  obtain⟨_,_,l,_⟩:=Ri b;exact K4
 have g:=@PQ s;obtain⟨A,B,C,F⟩:=KO (B16 s);rw[o5,cond_false,K4,cond_true];simp only[vl];by_cases h:(F8 s).2=0
 ·have p:=g h;rw[show(uE (F8 s)!=(0:Int))=false by show(((F8 s).2:Int)!=0)=false;rw[h];rfl,cond_false];cases i:R1 (uS (F8 s)) with
  | false=>exact⟨_,rfl⟩
  | true=>
   have w:=By7 p i;have t:(uS (F8 s)==Bn1)=false:=by rcases Iv i with e|e<;>rw[e]<;>rfl
   simp only[b,A,B,C,Dd4 f,v,cond_true,cond_false,o5,Bv4 p];cases Cu a with
   | false=>exact⟨_,rfl⟩
   | true=>
    unfold Pq;rw[i,w,t];generalize Ru _ _ _ _ _ _ _ _ _ _ _=T;generalize Ag9 _ _=y;simp only[bne];generalize (m==0)=x;generalize (a==4)=D;generalize (Ay3 a j==2)=c;generalize (uK (F8 s)==1)=K;cases x<;>cases T<;>first|exact⟨_,rfl⟩|(cases up<;>cases D<;>cases k<;>first|exact⟨_,rfl⟩|(cases y<;>cases c<;>cases K<;>cases d<;>exact⟨_,rfl⟩))
 ·rw[show(uE (F8 s)!=(0:Int))=true by show(((F8 s).2:Int)!=0)=true;simpa using h,cond_true];exact⟨_,rfl⟩
theorem C68(args:List PV)(h:Li a8 [9,3,4,58,37] args):∃d a,evC (Ab3 LF) d Unit noY 7 args [] ()=some (.s (.bool true),a,()):=by obtain⟨v1,w,rfl,i,C,x,rfl,j,D,y,rfl,m,v,A,rfl,n,F,B,rfl,o,rfl⟩:=h;obtain⟨s,rfl,_⟩:=C10 i (by kernel_rfl) (by kernel_rfl);obtain⟨f,rfl,_⟩:=C09 (k:=.i64) j (by kernel_rfl) (by kernel_rfl);obtain⟨q,rfl⟩:=Ce6 m (by kernel_rfl) (by kernel_rfl);obtain⟨t,r,up,b,z,l,rfl,p⟩:=C08 n (by kernel_rfl) (by kernel_rfl);obtain⟨u,c,g,rfl⟩:=C07 o (by kernel_rfl) (by kernel_rfl);obtain⟨H,e⟩:=Ck4 s f q t r up b z l u c g p;exact⟨1,H,e⟩
section
variable {Z R : Type} (L : Nat) (Q : G0) (Y : Yh Z) (s : Z) (k : Out -> St Z -> Option R)
noncomputable def UV(L:Nat):Cfg:=B7 L [125] (A2 []) [(39,RS),(170,Cb9)] (A2 [(8,[2]),(5,[2]),(7,[2]),(6,[1,12]),(4,[1,5,0]),(3,[1,5]),(2,[2]),(1,[1,3]),(0,[1])]) [39,170] (A2 [(0,[1])]) (some [2]) [] [] []
noncomputable def Br2{R:Type}(L:Nat)(c:Int)(b:By)(d e f g h i j l a:Int)(m:Bool->(List Blk)->Option R):Option R:=cond (A3 b.length) (cond (ltN d 4294967296) (cond (ok8 e f g h i j l a) (cond (not (K2 (mkH c b d (n8 e f g h i j l a)))) (m false [(bH c b d e f g h i j l a)]) (cond (c==2) (vl (EJ .u32 d (24:Int)) λn=>m (n==127) [(bH c b d e f g h i j l a)]) (cond (c==3) (m ((e==0)&&((f==0)&&((g==0)&&((h==0)&&((i==0)&&((j==0)&&((l==0)&&((a==1)&&true)))))))) [(bH c b d e f g h i j l a)]) (cond (A3 b.length) (m (Ce ([108,111,99,97,108,104,111,115,116]:List UInt8) b) [(bH c b d e f g h i j l a)]) none)))) none) none) none
theorem Cm9(d:Nat)(h0 h1 h2 h3 h4 h5 h6 h7 h8 h9 h10):evC (UV L) (d+1) Z Y 125 [(gH h0 h1 h2 h3 h4 h5 h6 h7 h8 h9 h10)] [] s=Br2 L h0 h1 h2 h3 h4 h5 h6 h7 h8 h9 h10 (λb a=>some (pB b,a,s)):=by refine(evE (fn:=Tryz.f125) (by kernel_rfl)).trans ?_;generalize evC (UV L) d=Q;unfold Br2;kernel_rfl
noncomputable abbrev Ol:Code:=C8 k9
noncomputable def X8(L:Nat):Cfg:=B7 L [87] (A2 []) [(51,Qk),(117,EO),(125,Bl2)] (A2 [(10,[2]),(7,[2]),(9,[2]),(8,[1,10]),(6,[1,5,0]),(5,[1,5,0]),(4,[1,5,0]),(3,[1,5]),(2,[2]),(1,[1,3]),(0,[1])]) [51,117,125] (A2 [(0,[1])]) (some [2]) [] [] []
noncomputable def Gh{R:Type}(h:By)(r:Bool)(o:By)(i:Int)(p:By)(j l m g n b c d e f:Int)(a:By)(q:Bool->(List Blk)->Option R)(t:Bool->By->By->Int->By->Int->Int->Int->Int->Int->Int->Int->Int->Int->Int->By->Option R):Option R:=cond r (q true [(bU h o i p j l m g n b c d e f a)]) (cond (h==[97,98,111,117,116]) (cond (a==[98,108,97,110,107]) (q true [(bU h o i p j l m g n b c d e f a)]) (q (a==[115,114,99,100,111,99]) [(bU h o i p j l m g n b c d e f a)])) (t (h==[97,98,111,117,116]) h o i p j l m g n b c d e f a))
abbrev CZ(b:Code):Prop:=∀(k:Out->St Z->Option R) s0 b1 o i p j l m g n a c d e f h,A9 (X8 L) Q Y b ⟨gp [(1,.ptr 0 0 0),(5,pS s0),(0,pB b1)] 21,[(bU s0 o i p j l m g n a c d e f h)],s⟩ k=Gh s0 b1 o i p j l m g n a c d e f h (λq r=>k .ret ⟨gp [(2,pB q)] 27,r,s⟩) (λq t o i p j l m g n a c d e f h=>k .normal ⟨gp [(1,.ptr 0 0 0),(10,pB q)] 17,[(bU t o i p j l m g n a c d e f h)],s⟩)
theorem WY:CZ (R:=R) L Q Y s (cd [1,1,0,1,0,1] Ol):=by intro k o h p i q j l m f n a b c d e g;unfold Gh;kernel_rfl
noncomputable def Gi{R:Type}(o q:By)(n:Int)(m:By)(h i j e l a b c d f:Int)(g:By)(p:Bool->(List Blk)->Option R):Option R:=cond (J3 o) (cond (A3 m.length) (cond (ltN h 4294967296) (cond (ok8 i j e l a b c d) (p (Ru n m h i j e l a b c d) [(bU o q n m h i j e l a b c d f g)]) none) none) none) (p false [(bU o q n m h i j e l a b c d f g)])
abbrev DA(b:Code):Prop:=∀(k:Out->St Z->Option R) a s1 s2 n3 s4 n5 n6 n7 n8v n9 n10 n11 n12 n13 n14 s15,A9 (X8 L) Q Y b ⟨gp [(1,.ptr 0 0 0),(10,pB a)] 17,[(bU s1 s2 n3 s4 n5 n6 n7 n8v n9 n10 n11 n12 n13 n14 s15)],s⟩ k=Gi s1 s2 n3 s4 n5 n6 n7 n8v n9 n10 n11 n12 n13 n14 s15 (λa c=>k .ret ⟨gp [(2,pB a)] 27,c,s⟩)
theorem WZ:DA (R:=R) L Q Y s (cd [1,1,1] Ol):=by intro k h o p i q j l m f n a b c d e g;unfold Gi;kernel_rfl
noncomputable def KR{R:Type}(L:Nat)(f h:By)(u2:Int)(i:By)(j l m n u8 o a b c d:Int)(e:By)(g:Bool->(List Blk)->Option R):Option R:=cond (smU f h i e) (cond (ltN j 4294967296) (cond (ok8 l m n u8 o a b c) (cond (Ak d) (cond (not (Bf (mkU f h u2 i j (n8 l m n u8 o a b c) d e))) (g false [(bU f h u2 i j l m n u8 o a b c d e)]) (cond (f==[104,116,116,112,115]) (Gh f (f==[104,116,116,112,115]) h u2 i j l m n u8 o a b c d e g (λc0 b3 b4 a9 b5 b0 b1 b2 p q r t u v w X=>Gi b3 b4 a9 b5 b0 b1 b2 p q r t u v w X g)) (cond (f==[119,115,115]) (Gh f (f==[119,115,115]) h u2 i j l m n u8 o a b c d e g (λb6 a0 a1 x a2 y z A B C D F G H I a3=>Gi a0 a1 x a2 y z A B C D F G H I a3 g)) (Gh f (f==[102,105,108,101]) h u2 i j l m n u8 o a b c d e g (λb7 a4 a5 J a6 K M N O P S T U V W a7=>Gi a4 a5 J a6 K M N O P S T U V W a7 g))))) none) none) none) none
theorem B08(c:Code)(a:CZ (R:=PV × List Blk × Z) L Q Y s c)(d:Code)(b:DA (R:=PV × List Blk × Z) L Q Y s d)(j u1:By)(u2:Int)(u3:By)(u4 u5 u6 u7 u8 u9 e f g h:Int)(i:By):A9 (X8 L) Q Y (cd [] (G4 [1,1,1] d (G4 [1,1,0,1,0,1] c Ol))) ⟨[(gU j u1 u2 u3 u4 u5 u6 u7 u8 u9 e f g h i)]++tps 29,[],s⟩ (F6 (X8 L) k9)=KR L j u1 u2 u3 u4 u5 u6 u7 u8 u9 e f g h i (λr0 H1=>some (pB r0,H1,s)):=by unfold KR;exact let K0:=(F6 (X8 L) k9);let K1:=(E5 0 (E4 (X8 L) Q Y d K0));(j1 (by kernel_rfl) (A0 (A0 (A0 (A0 (A0 rfl (A0 ((a K1 j (j==[104,116,116,112,115]) u1 u2 u3 u4 u5 u6 u7 u8 u9 e f g h i).trans (congr (congr rfl (by kernel_rfl)) (fx1 λa6=>(fx1 λb2=>(fx1 λb3=>(fx1 λa7=>(fx1 λb4=>(fx1 λa9=>(fx1 λb0=>(fx1 λb1=>(fx1 λn=>(fx1 λo=>(fx1 λp=>(fx1 λq=>(fx1 λr=>(fx1 λt=>(fx1 λu=>(fx1 λV=>(j1 (by kernel_rfl) ((b K0 a6 b2 b3 a7 b4 a9 b0 b1 n o p q r t u V).trans (by kernel_rfl))))))))))))))))))))) (A0 ((a K1 j (j==[119,115,115]) u1 u2 u3 u4 u5 u6 u7 u8 u9 e f g h i).trans (congr (congr rfl (by kernel_rfl)) (fx1 λl=>(fx1 λW=>(fx1 λX=>(fx1 λv=>(fx1 λa0=>(fx1 λw=>(fx1 λx=>(fx1 λy=>(fx1 λz=>(fx1 λA=>(fx1 λB=>(fx1 λC=>(fx1 λD=>(fx1 λF=>(fx1 λG=>(fx1 λa1=>(j1 (by kernel_rfl) ((b K0 l W X v a0 w x y z A B C D F G a1).trans (by kernel_rfl))))))))))))))))))))) ((a K1 j (j==[102,105,108,101]) u1 u2 u3 u4 u5 u6 u7 u8 u9 e f g h i).trans (congr (congr rfl (by kernel_rfl)) (fx1 λm=>(fx1 λa2=>(fx1 λa3=>(fx1 λH=>(fx1 λa4=>(fx1 λI=>(fx1 λJ=>(fx1 λK=>(fx1 λM=>(fx1 λN=>(fx1 λO=>(fx1 λP=>(fx1 λS=>(fx1 λT=>(fx1 λU=>(fx1 λa5=>(j1 (by kernel_rfl) ((b K0 m a2 a3 H a4 I J K M N O P S T U a5).trans (by kernel_rfl)))))))))))))))))))))))) rfl) rfl) rfl) rfl))
theorem B09(d:Nat)(u0 u1 u2 u3 u4 u5 u6 u7 u8 u9 u10 u11 u12 u13 u14):evC (X8 L) (d+1) Z Y 87 [(gU u0 u1 u2 u3 u4 u5 u6 u7 u8 u9 u10 u11 u12 u13 u14)] [] s=KR L u0 u1 u2 u3 u4 u5 u6 u7 u8 u9 u10 u11 u12 u13 u14 (λb a=>some (pB b,a,s)):=
 (evE (fn:=k9) (by kernel_rfl)).trans (j1 (by kernel_rfl) (B08 L (evC (X8 L) d) Y s (cd [1,1,0,1,0,1] Ol) (WY L (evC (X8 L) d) Y s) (cd [1,1,1] Ol) (WZ L (evC (X8 L) d) Y s) u0 u1 u2 u3 u4 u5 u6 u7 u8 u9 u10 u11 u12 u13 u14))
noncomputable def IJ(L:Nat):Cfg:=B7 L [31] (A2 []) [(42,Bl7),(20,Bl5)] (A2 [(8,[2]),(5,[2]),(7,[2]),(6,[1,12]),(4,[1,5,0]),(3,[1,5]),(2,[2]),(1,[1,3]),(0,[1])]) [42,20] (A2 [(0,[1])]) (some [2]) [] [] []
noncomputable def XS{R:Type}(L:Nat)(c:Int)(b:By)(d e f g h i j l a:Int)(m:Bool->(List Blk)->Option R):Option R:=cond (A3 b.length) (cond (ltN d 4294967296) (cond (ok8 e f g h i j l a) (cond (not (K2 (mkH c b d (n8 e f g h i j l a)))) (m false [(bH c b d e f g h i j l a)]) (cond (c==2) (vl (EJ .u32 d (24:Int)) λn=>m (n==127) [(bH c b d e f g h i j l a)]) (cond (c==3) (m ((e==0)&&((f==0)&&((g==0)&&((h==0)&&((i==0)&&((j==0)&&((l==0)&&((a==1)&&true)))))))) [(bH c b d e f g h i j l a)]) (cond (A3 b.length) (m (Ce ([108,111,99,97,108,104,111,115,116]:List UInt8) b) [(bH c b d e f g h i j l a)]) none)))) none) none) none
theorem B48(d:Nat)(h0 h1 h2 h3 h4 h5 h6 h7 h8 h9 h10):evC (IJ L) (d+1) Z Y 31 [(gH h0 h1 h2 h3 h4 h5 h6 h7 h8 h9 h10)] [] s=XS L h0 h1 h2 h3 h4 h5 h6 h7 h8 h9 h10 (λb a=>some (pB b,a,s)):=by refine(evE (fn:=Tryz.f31) (by kernel_rfl)).trans ?_;generalize evC (IJ L) d=Q;unfold XS;kernel_rfl
end
abbrev Dl5(f:Int->By->Int->Int->Int->Int->Int->Int->Int->Int->Int->(Bool->List Blk->Option (PV × List Blk × Unit))->Option (PV × List Blk × Unit))(k:Int)(j:By)(v4 a b c d e g h i:Int):Prop:=
 A3 j.length=true->ltN v4 4294967296=true->ok8 a b c d e g h i=true->∃r H,f k j v4 a b c d e g h i (λm l=>rv (.s (.bool m)) l)=rv r H/\r.stab [] H = .s (.bool (Ru k j v4 a b c d e g h i))
theorem Cn0(a:Int)(j:By)(v4 b c d e f g h i:Int):Dl5 (Br2 LF) a j v4 b c d e f g h i:=λk l m=>by
 unfold Br2 Ru;rw[k,l,m];cases K2 (mkH a j v4 (n8 b c d e f g h i))<;>cases a==2<;>cases a==3<;>exact⟨_,_,rfl,rfl⟩
theorem B49(a:Int)(j:By)(v4 b c d e f g h i:Int):Dl5 (XS LF) a j v4 b c d e f g h i:=λk l m=>by
 unfold XS Ru;rw[k,l,m];cases K2 (mkH a j v4 (n8 b c d e f g h i))<;>cases a==2<;>cases a==3<;>exact⟨_,_,rfl,rfl⟩
theorem B10(a m:By)(n:Int)(b:By)(v4 d e f g h i j k l:Int)(c:By)(o:smU a m b c=true)(q:ltN v4 4294967296=true)(t:ok8 d e f g h i j k=true)(u:Ak l=true) :
  ∃r H,KR LF a m n b v4 d e f g h i j k l c (λv p=>rv (.s (.bool v)) p)=rv r H/\r.stab [] H = .s (.bool (Pv a m n b v4 d e f g h i j k l c)):=by
 obtain⟨x,y,z,A⟩:=Ri o;have w:A3 b.length=true:=K4;unfold KR Gh Gi Pv;simp only[o,q,t,u,w,show(a==([104,116,116,112,115]:List UInt8))=(a==Ey) from rfl,show(a==([119,115,115]:List UInt8))=(a==ED) from rfl,show(a==([102,105,108,101]:List UInt8))=(a==Ce8) from rfl,show(a==([97,98,111,117,116]:List UInt8))=(a==Av3) from rfl];cases Bf (mkU a m n b v4 (n8 d e f g h i j k) l c)<;>cases a==Ey<;>cases a==ED<;>cases a==Ce8<;>cases a==Av3<;>cases J3 a<;>cases c==([98,108,97,110,107]:List UInt8)<;>exact⟨_,_,rfl,rfl⟩
section
theorem Dh6:B3 a8 GX 125 Bl2:=xf [] (UV LF) GM rfl ⟨Bj5,Ds9,trivial⟩ rfl (by kernel_rfl) follows λargs=>by
 unfold GM;split
 ·rename_i j k v4 a b c d f g h i;exact λl=>λm=>λn=>(let⟨r,H,e,q⟩:=Cn0 j k v4 a b c d f g h i l m n;⟨rfl,rfl,rfl,r,H,(Cm9 LF noY () 0 j k v4 a b c d f g h i).trans e,q⟩)
 ·trivial
theorem Cy4:B3 a8 GX 31 GZ:=xf [] (IJ LF) Yz rfl ⟨Di1,Dh9,trivial⟩ rfl (by kernel_rfl) follows λargs=>by
 unfold Yz;split
 ·rename_i j k v4 a b c d f g h i;exact λl=>λm=>λn=>(let⟨r,H,e,q⟩:=B49 j k v4 a b c d f g h i l m n;⟨rfl,rfl,rfl,r,H,(B48 LF noY () 0 j k v4 a b c d f g h i).trans e,q⟩)
 ·trivial
theorem Cx7:B3 a8 GX 87 ZS:=xf [] (X8 LF) Yu rfl ⟨CB,ZG,Dh6,trivial⟩ rfl (by kernel_rfl) follows λargs=>by
 unfold Yu;split
 ·rename_i n o j k v4 a b c d f g h i l m;exact λp=>λt=>λu=>λv=>(let⟨r,H,e,q⟩:=B10 n o j k v4 a b c d f g h i l m p t u v;⟨rfl,rfl,rfl,r,H,(B09 LF noY () 0 n o j k v4 a b c d f g h i l m).trans e,q⟩)
 ·trivial
end
section
theorem Ar4:B3 a8 GX 52 FT:=xf [] (IH LF) Yo rfl trivial rfl (by kernel_rfl) follows λargs=>by
 unfold Yo;split
 ·rename_i n;exact⟨rfl,rfl,rfl,_,_,(Bw5 LF noY () 0 n).trans (Ac8 n ),rfl⟩
 ·trivial
theorem Ds6:B3 a8 GX 89 Cb6:=xf [] (Aw3 LF) RD rfl ⟨Ar4,trivial⟩ rfl (by kernel_rfl) follows λargs=>by
 unfold RD;split
 ·rename_i n a;exact⟨rfl,rfl,rfl,_,_,(C22 LF noY () 0 n a).trans (Bv7 n a ),rfl⟩
 ·trivial
theorem Ca7:B3 a8 GX 30 Yy:=xf [] (Zw LF) Sj rfl trivial rfl (by kernel_rfl) follows λargs=>by
 unfold Sj;split
 ·rename_i n;exact⟨rfl,rfl,rfl,_,_,(A82 LF noY () 0 n).trans (XN n ),rfl⟩
 ·trivial
theorem Dj3:B3 a8 GX 171 Bm7:=xf [] (Lv LF) HP rfl trivial rfl (by kernel_rfl) follows λargs=>by
 unfold HP;split
 ·rename_i b a l s;exact λc=>λd=>⟨rfl,rfl,rfl,_,_,(Cs8 LF noY () 0 b a l s).trans (Bg8 b a l s c d),rfl⟩
 ·trivial
theorem Dj2:B3 a8 GX 126 Bm6:=xf [] (VE LF) HO rfl ⟨Dj3,trivial⟩ rfl (by kernel_rfl) follows λargs=>by
 unfold HO;split
 ·rename_i b a l s;exact λc=>λd=>⟨rfl,rfl,rfl,_,_,(Cs6 LF noY () 0 b a l s).trans (Bg3 b a l s c d),rfl⟩
 ·trivial
theorem Ds5:B3 a8 GX 88 Cb5:=xf [] (Aw1 LF) RA rfl ⟨Bj5,Cw8,Dj2,trivial⟩ rfl (by kernel_rfl) follows λargs=>by
 unfold RA;split
 ·rename_i t p up m b a l n o v4 c d f g h i j k;exact λu=>λv=>λw=>λx=>λy=>(let⟨r,H,e,q⟩:=C16 t p up m b a l n o v4 c d f g h i j k u v w x y;⟨rfl,rfl,rfl,r,H,(C15 LF noY () 0 t p up m b a l n o v4 c d f g h i j k).trans e,q⟩)
 ·trivial
theorem Dh5:B3 a8 GX 53 Bl1:=xf [] (Cc LF) GL rfl ⟨Cz4,Du7,Dy6,Cx7,Ds5,Ds6,trivial⟩ rfl (by kernel_rfl) follows λargs=>by
 unfold GL;split
 ·rename_i z C u v v4 c d f g h i j k w y o t A x up m b a l B n p;exact λD=>λF=>λG=>λI=>λJ=>λK=>(let⟨r,H,e,q⟩:=Cl9 z C u v v4 c d f g h i j k w y o t A x up m b a l B n p D F G I J K;⟨rfl,rfl,rfl,r,H,(Cl8 LF noY () 0 z C u v v4 c d f g h i j k w y o t A x up m b a l B n p).trans e,q⟩)
 ·trivial
theorem Cx6:B3 a8 GX 26 GK:=xf [0,0] (Ax3 LF) SK rfl ⟨CB,Ar4,Dh5,trivial⟩ rfl (by kernel_rfl) follows λargs=>by
 unfold SK;split
 ·rename_i z C u v v4 c d f g h i j k w y o t A x up m b a l B n p;exact λD=>λF=>λG=>λI=>λJ=>λK=>(let⟨r,H,e,q⟩:=C81 z C u v v4 c d f g h i j k w y o t A x up m b a l B n p D F G I J K;⟨rfl,rfl,rfl,r,H,(C80 LF noY () 0 z C u v v4 c d f g h i j k w y o t A x up m b a l B n p).trans e,q⟩)
 ·trivial
theorem Dh1:B3 a8 GX 24 SD:=xf [] (UR LF) GG rfl ⟨Cx2,trivial⟩ rfl (by kernel_rfl) follows λargs=>by
 unfold GG;split
 ·rename_i f d up c b a l;exact λg=>(let⟨r,H,e,q⟩:=Ck7 f d up c b a l g;⟨rfl,rfl,rfl,r,H,(Ck6 LF noY () 0 f d up c b a l).trans e,q⟩)
 ·trivial
end
section
theorem Aa2:FJ (evC (OF LF) 1 Unit noY 25 [] [] ())=true:=by kernel_rfl
theorem Ca2:B3 a8 GX 25 Yn:=
 B3.fix (pf:=Sd) _ (by
  have h:=Bj8 (C₀:=OF LF) (M8.ok (l:=[(28,Kc),(26,GK)]) rfl ⟨QY,Cx6,trivial⟩) (I6 rfl (by kernel_rfl)) follows Aa2;have e:(λargs:List PV=>match args with|[]=>Tr.ret (.s (.bool true)) []|_=>.fail)=Sd:=by
   funext args
   cases args<;>rfl
  rw[<-e];exact h)
end
end
section
open Go Go.ChangeAt Go.ChangeShapes Go.Proofs Go.RowKit Go.WideShapes
set_option maxRecDepth 100000
section
theorem A31(os:Os)(a:os.Started)(H:Type)(enc:TypeId × Value->H) :
  ReturnsInHanded {} Tryz.checked os 7 .any (λw args=>(Rows.mixedNeverPlainSpec.pre enc a8 j6 Rows.mixedNeverPlainRow.domain false w args/\laidMetH a8 Fd w)/\sizedMet enc a8 j6 (OpenSpec.ofChange Rows.mixedNeverPlainSpec) false w args) (Rows.mixedNeverPlainSpec.post enc a8 j6 false true false false):=
 A25 a (C:=Ab3 LF) (tb:=4) rfl rfl (M8.ok (l:=[(24,SD),(25,Yn),(28,Kc),(29,TG),(26,GK),(30,Yy),(31,GZ)]) rfl ⟨Dh1,Ca2,QY,Di7,Cx6,Ca7,Cy4,trivial⟩) (I6 rfl (by kernel_rfl)) (by kernel_rfl) o0 (c:=C8 j6) rfl (by kernel_rfl)
  (by
   intro t d;have:t=9\/t=3\/t=4\/t=58\/t=37:=by simpa only[List.mem_cons,List.mem_nil_iff,or_false] using(show t∈[9,3,4,58,37] from d)
   rcases this with rfl|rfl|rfl|rfl|rfl
   all_goals exact⟨⟨by kernel_rfl,of_decide_eq_true (by kernel_rfl)⟩,by kernel_rfl⟩) rfl (by kernel_rfl) rfl
  (λds b=>by
   match ds,b with
   | [e,f,g,i,j],_=>rfl)
  #[(.string ⟨#[]⟩),(.int .i64 0),(.bool false),(.agg #[(.bool false),(.bool false),(.bool false),(.bool false),(.slice none 0 0)]),(.agg #[(.int .i64 0),(.string ⟨#[]⟩),(.bool false)])] 8 (by kernel_rfl) (by kernel_rfl) (by kernel_rfl)
  (λargs h=>C68 args h)
set_option maxHeartbeats 4000000 in theorem Bz6:Rows.MixedNeverPlainSaid:=
 OpenClaim.holds_of_wide 7 j6 rfl rfl rfl rfl rfl rfl rfl ⟨rfl,rfl,rfl,rfl,rfl⟩ rfl rfl rfl rfl rfl (by kernel_rfl) o0 (by unfold joinedFacts;simp only[j4];(repeat' apply And.intro)<;>as_aux_lemma=>kernel_rfl)
  (of_decide_eq_true (by as_aux_lemma=>kernel_rfl)) (by unfold Func.isWrapper;first|(rw[if_pos (by decide +kernel)];kernel_rfl)|(rw[if_neg (by decide +kernel)];exact⟨rfl,rfl⟩))
  (λos a H enc _=>A31 os a H enc)
theorem lmn_card:Rows.MixedNeverPlainCardSaid:=
 Claim7.holds_tied_plain_at .later [] [.data,.data,.data,.data,.pinned] true (true, "3edcf2d0d4ba03f015f6faca6dbfc35b207af51aad1c65e00543b4f3d9771d1d") false Bz6 (λ_ h=>by cases h) (by as_aux_lemma=>kernel_rfl) (λ_ h=>by cases h) mixedNeverPlain_row_tie rfl ⟨rfl,rfl⟩ (by as_aux_lemma=>kernel_rfl) rfl
  (λf fn c b=>by
   obtain rfl:f=7:=j2 ((show a8.funcNamed "hstsstore/hstsstorelaw29.MixedNeverPlain" = some 7 by as_aux_lemma=>kernel_rfl).symm.trans c) |>.symm
   obtain rfl:fn=j6:=(j2 (o0.symm.trans b)).symm;exact⟨by as_aux_lemma=>kernel_rfl,λj t e=>by
    have d:t∈[9,3,4,58,37]:=Array.mem_toList_iff.2 (Array.mem_of_getElem? e);have a:([9,3,4,58,37].all λu=>!a8.wantsStandIn u)=true:=by as_aux_lemma=>kernel_rfl
    exact(show a8.wantsStandIn t=false by simpa using j8.1 a t d)⟩)
  (by as_aux_lemma=>kernel_rfl)
end
end
#print axioms lmn_card
end Go.Proofs.YtfkhfkjcidamaaaGreatDoor.E
