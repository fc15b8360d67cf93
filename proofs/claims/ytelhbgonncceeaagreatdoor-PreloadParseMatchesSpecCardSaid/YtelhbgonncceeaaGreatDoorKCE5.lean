/-
  Parts of the proof, merged by a program of the prover's own; no condition.
-/
import Derived.Test.YtelhbgonncceeaaGreatDoorKCE4
import Derived.BigQuiet
import Derived.Deep.QuietTactic
import Derived.Ground.SlsfProg
import Derived.LoopTactic
import Derived.Shelf.Abstract
import Derived.Shelf.SlSortCmp.NoneTotal
import Derived.Shelf.SlSortCmp.WholeK
import Derived.Shelf.Strings.LastIndex
import Derived.Test.YtelhbgonncceeaaGreatDoorProg
import Derived.WalkKit
import Derived.WalkMore
namespace Go.Proofs.YtelhbgonncceeaaGreatDoor.E
set_option linter.all false
section
open Go Go.Proofs
set_option maxRecDepth 100000
section
def JH:List PV->Tr
 | [.s (.str s)]=>.ret (.s (.bool false)) []
 | _=>.fail
def A84 (args:List PV):Tr:=JH (E2 [[0]] args)
def JG:List PV->Tr
 | [.s (.int .i64 n)]=>.ret (.s (.bool false)) []
 | _=>.fail
def A83 (args:List PV):Tr:=JG (E2 [[0]] args)
def UX:List PV->Tr
 | [.s (.str s),.s (.str p)]=>.ret (.s (.int .i64 (Y6 s p))) []
 | _=>.fail
def B67 (args:List PV):Tr:=UX (E2 [[0],[0]] args)
def UW:List PV->Tr
 | [.s (.int .i64 n),.s (.int .i64 m)]=>.ret (.s (.int .i64 (LP n m))) []
 | _=>.fail
def B66 (args:List PV):Tr:=UW (E2 [[0],[0]] args)
def JK:List PV->Tr
 | [.s (.str s),.s (.str p)]=>.need (A3 (List.length s)) (.need (A3 (List.length p)) (.ret (.s (.int .i64 (V5 s p))) []))
 | _=>.fail
def A86 (args:List PV):Tr:=JK (E2 [[0],[0]] args)
def Cl9:List PV->Tr
 | [.agg [.s (.str h),.s (.bool b),.s (.int .i64 e)]]=>.need (A3 (List.length h)) (.ret (.s (.bool (Cm8 h e))) [])
 | _=>.fail
def IX:List PV->Tr
 | [.agg [.s (.str h),.s (.bool b)]]=>.need (A3 (List.length h)) (.ret (.s (.bool (not (P7 h)))) [])
 | _=>.fail
def A81 (args:List PV):Tr:=IX (E2 [[0,0]] args)
def VE:List PV->Tr
 | [.agg [.s (.str h),.s (.bool b)],.s (.str s)]=>.need (A3 (List.length h)) (.need (A3 (List.length s)) (.ret (.s (.int .i64 (V5 h s))) []))
 | _=>.fail
def B70 (args:List PV):Tr:=VE (E2 [[0,0],[0]] args)
def IW:List PV->Tr
 | [.s (.sl l_z l_t 2 l),.s (.fn (Fn.func 58) [] [])]=>.need (List.all l Cs) (.need (List.all l smE) (.need (A3 (List.length l)) (.ret (.s (.int .i64 (ixE (List.map V6 l)))) [])))
 | _=>.fail
def A80 (args:List PV):Tr:=IW (E2 [[2],[0]] args)
def IV:List PV->Tr
 | [.s (.sl l_z l_t 2 l),.s (.fn (Fn.func 58) [] [])]=>.need (List.all l Cs) (.need (List.all l smE) (.need (A3 (List.length l)) (.ret (.s (.bool (Bq7 (List.map V6 l)))) [])))
 | _=>.fail
def A79 (args:List PV):Tr:=IV (E2 [[2],[0]] args)
def IU:List PV->Tr
 | [.s (.sl l_z l_t 2 l)]=>.need (A3 (List.length l)) (.need (Ar1 l_z l) (.ret (.fl 0) [.arr l_z 63 2 l]))
 | _=>.fail
def A78 (args:List PV):Tr:=IU (E2 [[2]] args)
def JB:SV->List (List SV)->Bool × List (List SV)
 | .fn (Fn.func 62) [] [],l=>(((List.all l Cs)&&((List.all l smE)&&(A3 (List.length l)))),(J8 (Mh (List.map V6 l))))
 | _,_=>(false,[])
def IT:List PV->Tr
 | [.s (.sl l_z l_t 2 l),.s (.str q),.s (.fn (Fn.func 66) [] [])]=>.need (List.all l Cs) (.need (List.all l smE) (.need (A3 (List.length l)) (.need (A3 (List.length q)) (.ret (.tup [.s (.int .i64 (↑(bsI (List.map Prod.fst (List.map V6 l)) q):Int)),.s (.bool (bsB (List.map Prod.fst (List.map V6 l)) q))]) []))))
 | _=>.fail
def A77 (args:List PV):Tr:=IT (E2 [[2],[0],[0]] args)
def B89:List PV->Tr
 | []=>.ret (.s (.bool true)) []
 | _=>.fail
def Oi:List PV->Tr
 | []=>.ret (.s (.bool true)) []
 | _=>.fail
def Tl (args:List PV):Tr:=Oi (E2 [] args)
def Yx:List PV->Tr
 | [.s (.sl l_z l_t 2 l),.s (.sl m_z m_t 2 m)]=>.need (List.all l Cs) (.need (A3 (List.length l)) (.need (List.all m Cs) (.need (A3 (List.length m)) (.ret (.s (.bool ((List.map V6 l)==(List.map V6 m)))) []))))
 | _=>.fail
def IR (args:List PV):Tr:=Yx (E2 [[2],[2]] args)
def IP:List PV->Tr
 | [.s (.int .u8 c)]=>.ret (.s (.bool (BL c))) []
 | _=>.fail
def A75 (args:List PV):Tr:=IP (E2 [[0]] args)
def Yw:List PV->Tr
 | [.s (.int .u8 c)]=>.ret (.s (.bool (Ic c))) []
 | _=>.fail
def Am3 (args:List PV):Tr:=Yw (E2 [[0]] args)
def Zv:List PV->Tr
 | [.s (.str s)]=>.need (A3 (List.length s)) (.ret (.s (.sl (List.isEmpty (G4 s)) (List.isEmpty (G4 s)) 1 (C6 (G4 s)))) [])
 | _=>.fail
def KN (args:List PV):Tr:=Zv (E2 [[0]] args)
def UY:List PV->Tr
 | [.s (.str s),.s (.str p)]=>.need (A3 (List.length s)) (.need (A3 (List.length p)) (.ret (.s (.bool ((C7 s)==(C7 p)))) []))
 | _=>.fail
def B68 (args:List PV):Tr:=UY (E2 [[0],[0]] args)
def JO:List PV->Tr
 | [.s (.sl w_z w_t 1 w)]=>.need (List.all w isS) (.need (A3 (List.length w)) (.need (List.all (List.map elS w) smL) (.need (not (List.isEmpty w)) (.ret (.tup [.agg [.s (.str (((Fz (List.map elS w))).1).1),.s (.bool (((Fz (List.map elS w))).1).2)],.s (.int .i64 (↑((Fz (List.map elS w))).2:Int))]) []))))
 | _=>.fail
def VJ (args:List PV):Tr:=JO (E2 [[1]] args)
def Zj:List PV->Tr
 | [.s (.int .u8 c)]=>.ret (.s (.bool (BL c))) []
 | _=>.fail
def An0 (args:List PV):Tr:=Zj (E2 [[0]] args)
def Tu:List PV->Tr
 | [.s (.int .u8 c)]=>.ret (.s (.bool (Ic c))) []
 | _=>.fail
def OR (args:List PV):Tr:=Tu (E2 [[0]] args)
def Tz:List PV->Tr
 | [.s (.str s)]=>.need (A3 (List.length s)) (.ret (.s (.sl (List.isEmpty (G4 s)) (List.isEmpty (G4 s)) 1 (C6 (G4 s)))) [])
 | _=>.fail
def OS (args:List PV):Tr:=Tz (E2 [[0]] args)
def JW:List PV->Tr
 | [.s (.str s),.s (.str p)]=>.need (A3 (List.length s)) (.need (A3 (List.length p)) (.ret (.s (.bool ((C7 s)==(C7 p)))) []))
 | _=>.fail
def A91 (args:List PV):Tr:=JW (E2 [[0],[0]] args)
def JQ:List PV->Tr
 | [.s (.str s)]=>.need (A3 (List.length s)) (.ret (.tup [.s (.sl (List.isEmpty ((N0 s)).1) (List.isEmpty ((N0 s)).1) 2 (J8 ((N0 s)).1)),.s (.int .i64 (↑(((N0 s)).2).1:Int)),.s (.int .i64 (↑(((N0 s)).2).2:Int))]) [])
 | _=>.fail
def VK (args:List PV):Tr:=JQ (E2 [[0]] args)
def Zq:List PV->Tr
 | [.s (.str s)]=>.need (A3 (List.length s)) (.ret (.tup [.s (.sl (List.isEmpty ((N0 s)).1) (List.isEmpty ((N0 s)).1) 2 (J8 ((N0 s)).1)),.s (.int .i64 (↑(((N0 s)).2).1:Int)),.s (.int .i64 (↑(((N0 s)).2).2:Int))]) [])
 | _=>.fail
def KA (args:List PV):Tr:=Zq (E2 [[0]] args)
end
section
variable {σ R : Type} (lf : Nat) (cl : G2) (yh : Yh σ) (s : σ) (k : Out -> St σ -> Option R)
noncomputable def WW (lf:Nat):Cfg:=C8 lf [143] (A4 []) [] (A4 [(1,[2]),(0,[0])]) [] (A4 []) (some [2]) [] [] []
noncomputable def Bx1 {R:Type} (lf:Nat) (x0:By) (k0:Bool->Option R):Option R:=k0 (not (x0==x0))
theorem Bx2 (d:Nat) (x0):evC (WW lf) (d+1) σ yh 143 [pS x0] [] s=Bx1 lf x0 (λr0=>some (pB r0,[],s)):=by
 refine (evE (fn:=Tryz.f143) (by kernel_rfl)).trans ?_
 generalize evC (WW lf) d=cl
 unfold Bx1;kernel_rfl
noncomputable def WU (lf:Nat):Cfg:=C8 lf [144] (A4 []) [] (A4 [(1,[2]),(0,[0])]) [] (A4 []) (some [2]) [] [] []
noncomputable def Bw9 {R:Type} (lf:Nat) (x0:Int) (k0:Bool->Option R):Option R:=k0 (x0 != x0)
theorem Bx0 (d:Nat) (x0):evC (WU lf) (d+1) σ yh 144 [pI x0] [] s=Bw9 lf x0 (λr0=>some (pB r0,[],s)):=by
 refine (evE (fn:=Tryz.f144) (by kernel_rfl)).trans ?_
 generalize evC (WU lf) d=cl
 unfold Bw9;kernel_rfl
noncomputable def Bb4 (lf:Nat):Cfg:=C8 lf [98] (A4 []) [(143,A84)] (A4 [(13,[4]),(12,[4]),(11,[19]),(10,[4]),(9,[0,0,14]),(8,[4]),(7,[0,0,11]),(6,[4]),(5,[4]),(4,[12]),(3,[0,0,4,4]),(2,[0,0,3,0]),(1,[0,0,3]),(0,[0,0])]) [143] (A4 []) (some [4]) [] [] []
noncomputable def ccs {R:Type} (lf:Nat) (x0 y1:By) (k0:Int->Option R):Option R:=cond (bytesLess x0 y1) (k0 (-1)) (cond (not ((bytesLess x0 y1) || (x0==y1))) (k0 1) (k0 0))
theorem B99 (d:Nat) (x0 y1):evC (Bb4 lf) (d+1) σ yh 98 [pS x0,pS y1] [] s=ccs lf x0 y1 (λr0=>some (pI r0,[],s)):=by
 refine (evE (fn:=Tryz.f98) (by kernel_rfl)).trans ?_
 generalize evC (Bb4 lf) d=cl
 unfold ccs;kernel_rfl
noncomputable def Bb3 (lf:Nat):Cfg:=C8 lf [99] (A4 []) [(144,A83)] (A4 [(13,[4]),(12,[4]),(11,[19]),(10,[4]),(9,[0,0,14]),(8,[4]),(7,[0,0,11]),(6,[4]),(5,[4]),(4,[12]),(3,[0,0,4,4]),(2,[0,0,3,0]),(1,[0,0,3]),(0,[0,0])]) [144] (A4 []) (some [4]) [] [] []
noncomputable def cci {R:Type} (lf:Nat) (x0 y1:Int) (k0:Int->Option R):Option R:=cond (ltI x0 y1) (k0 (-1)) (cond (ltI y1 x0) (k0 1) (k0 0))
theorem B98 (d:Nat) (x0 y1):evC (Bb3 lf) (d+1) σ yh 99 [pI x0,pI y1] [] s=cci lf x0 y1 (λr0=>some (pI r0,[],s)):=by
 refine (evE (fn:=Tryz.f99) (by kernel_rfl)).trans ?_
 generalize evC (Bb3 lf) d=cl
 unfold cci;kernel_rfl
noncomputable abbrev Ba5:Code:=D8 Tryz.f63
noncomputable def Pi (lf:Nat):Cfg:=C8 lf [63] (A4 [(2,[0,0,2,0,0])]) [(97,Xy),(98,B67),(99,B66)] (A4 [(8,[4]),(7,[0,0]),(6,[0,0,3,0,22]),(5,[4]),(4,[0,0,3,0,0,14]),(3,[0,0,3,0,0]),(2,[0,0,3,0]),(1,[0,0]),(0,[0,0])]) [97,98,99] (A4 [(0,[5,0]),(1,[0,0])]) (some [4]) [] [] []
noncomputable def Ni {R:Type} (lf n:Nat) (a0 b1:By) (k0:Int->Option R) (k1:Int->Int->Option R):Option R:=match n with | 0=>none | n+1=>cond (A3 a0.length) (vl (J4 (u8n (46:Int)) a0) λn'2=>cond (A3 b1.length) (vl (J4 (u8n (46:Int)) b1) λn'3=>cond (P0 (A1 (n'2+1)) (a0.length:Int) a0.length) (vl (cut a0 (A1 (n'2+1)) (a0.length:Int)) λs'6=>cond (P0 (A1 (n'3+1)) (b1.length:Int) b1.length) (vl (cut b1 (A1 (n'3+1)) (b1.length:Int)) λs'7=>cond ((Y6 s'6 s'7) != 0) (k0 (Y6 s'6 s'7)) (cond (ltI n'2 0) (k1 n'2 n'3) (cond (ltI n'3 0) (k1 n'2 n'3) (cond (P0 0 n'2 a0.length) (cond (P0 0 n'3 b1.length) (Ni lf n (cut a0 0 n'2) (cut b1 0 n'3) k0 k1) none) none)))) none) none) none) none
theorem ZR (n a0 b1):E5 0 ((Pi lf).keep 2) (bd (Pi lf) cl yh (cd [1,0,1,1,0,0,0] Ba5)) n ⟨gp [(0,pS a0),(0,pS b1)] 39,[],s⟩ k =
 Ni lf n a0 b1 (λn0=>k .ret ⟨gp [(4,pI n0)] 36,[],s⟩) (λi0 kk1=>k (.exit 0) ⟨gp [(5,pI i0),(0,pI kk1)] 34,[],s⟩):=by
 induction n generalizing a0 b1 with
 | zero=>rfl
 | succ n ih=>rw [Ni];simp only [<-ih];kernel_rfl
noncomputable def Bx9 {R:Type} (lf:Nat) (a0 b1:By) (k0:Int->Option R):Option R:=Ni lf lf a0 b1 (λn'8=>k0 n'8) (λi'9 kk'10=>vl (LP (if ((0:Int)<i'9) then (0:Int) else i'9) (if ((0:Int)<kk'10) then (0:Int) else kk'10)) λn'11=>k0 n'11)
theorem By0 (d:Nat) (a0 b1):evC (Pi lf) (d+1) σ yh 63 [pS a0,pS b1] [] s=Bx9 lf a0 b1 (λr0=>some (pI r0,[],s)):=by
 refine (evE (fn:=Tryz.f63) (by kernel_rfl)).trans ?_
 generalize evC (Pi lf) d=cl
 unfold Bx9;exact (Eq.trans (by kernel_rfl) ((ZR lf cl yh s (F9 0 (G1 (Pi lf) cl yh (cd [1,0,1,1,1] Ba5) (G5 (Pi lf) Tryz.f63))) lf a0 b1).trans (by kernel_rfl)))
noncomputable def WR (lf:Nat):Cfg:=C8 lf [58] (A4 []) [(59,Am2)] (A4 [(1,[2]),(0,[1])]) [59] (A4 []) (some [2]) [] [] []
noncomputable def Bv6 {R:Type} (lf:Nat) (x0:By) (x1:Bool) (k0:Bool->By->Bool->Option R):Option R:=cond (A3 x0.length) (k0 (not (P7 x0)) x0 x1) none
theorem Bv7 (d:Nat) (x0 x1):evC (WR lf) (d+1) σ yh 58 [.agg [pS x0,pB x1]] [] s=Bv6 lf x0 x1 (λr0 s1 b2=>some (pB r0,[.box [pS s1,pB b2]],s)):=by
 refine (evE (fn:=Tryz.f58) (by kernel_rfl)).trans ?_
 generalize evC (WR lf) d=cl
 unfold Bv6;kernel_rfl
noncomputable def Bb6 (lf:Nat):Cfg:=C8 lf [66] (A4 []) [(63,A86)] (A4 [(1,[4]),(0,[1,0])]) [63] (A4 []) (some [4]) [] [] []
noncomputable def lgf {R:Type} (lf:Nat) (x0:By) (x1:Bool) (name2:By) (k0:Int->By->Bool->Option R):Option R:=cond (A3 x0.length) (cond (A3 name2.length) (k0 (V5 x0 name2) x0 x1) none) none
theorem Cb7 (d:Nat) (x0 x1 name2):evC (Bb6 lf) (d+1) σ yh 66 [.agg [pS x0,pB x1],pS name2] [] s=lgf lf x0 x1 name2 (λr0 s1 b2=>some (pI r0,[.box [pS s1,pB b2]],s)):=by
 refine (evE (fn:=Tryz.f66) (by kernel_rfl)).trans ?_
 generalize evC (Bb6 lf) d=cl
 unfold lgf;kernel_rfl
noncomputable abbrev Ba2:Code:=D8 Tryz.f92
noncomputable def Pe (lf:Nat):Cfg:=C8 lf [92] (A4 [(2,[0,0,2,2,0])]) [(58,A81)] (A4 [(7,[4]),(6,[0,0,5,0]),(5,[4]),(4,[0,0,3,1,0,7]),(3,[0,0,3,1,0]),(2,[0,0,5,0,0]),(1,[0,0,5,0]),(0,[0,0])]) [58] (A4 [(0,[]),(1,[0,0,5,0])]) (some [4]) [] [] []
noncomputable def Jo {R:Type} (lf n:Nat) (s_z0 s_t1:Bool) (s2:LL) (n3 n4:Int) (k0:Int->Option R) (k1:Unit->Option R):Option R:=match n with | 0=>none | n+1=>cond (ltI n4 n3) (cond (inR n4 s2.length) (cond (okE ⟨true,true,[.str,.bool]⟩ s2 (Int.toNat n4) 0) (cond (A3 (List.length (gX s2 (Int.toNat n4) 0))) (cond (not (P7 (gX s2 (Int.toNat n4) 0))) (k0 n4) (Jo lf n s_z0 s_t1 s2 n3 (A1 (n4+1)) k0 k1)) none) none) none) (k1 ())
theorem YW (n s_z0 s_t1 s2 n3 n4):E5 0 ((Pe lf).keep 2) (bd (Pe lf) cl yh (cd [1,0,1,0,0] Ba2)) n ⟨gp [(0,.s (.sl s_z0 s_t1 2 s2)),(0,.s (.fn (Fn.func 58) [] [])),(5,pI n3),(0,pI n4)] 10,[],s⟩ k =
 Jo lf n s_z0 s_t1 s2 n3 n4 (λn0=>k .ret ⟨gp [(4,pI n0)] 14,[],s⟩) (λ_=>k (.exit 0) ⟨gp [] 19,[],s⟩):=by
 induction n generalizing s_z0 s_t1 s2 n3 n4 with
 | zero=>rfl
 | succ n ih=>rw [Jo];simp only [<-ih];kernel_rfl
noncomputable def Bv4 {R:Type} (lf:Nat) (l_z l_t:Bool) (l:LL) (k0:Int->Option R):Option R:=Jo lf lf l_z l_t l (l.length:Int) 0 (λn'0=>k0 n'0) (λ_=>k0 (-1))
theorem Bv5 (d:Nat) (l_z l_t l):evC (Pe lf) (d+1) σ yh 92 [.s (.sl l_z l_t 2 l),.s (.fn (Fn.func 58) [] [])] [] s=Bv4 lf l_z l_t l (λr0=>some (pI r0,[],s)):=by
 refine (evE (fn:=Tryz.f92) (by kernel_rfl)).trans ?_
 generalize evC (Pe lf) d=cl
 unfold Bv4;exact (Eq.trans (by kernel_rfl) ((YW lf cl yh s (F9 0 (G1 (Pe lf) cl yh (cd [1,1] Ba2) (G5 (Pe lf) Tryz.f92))) lf l_z l_t l (l.length:Int) 0).trans (by kernel_rfl)))
noncomputable def WQ (lf:Nat):Cfg:=C8 lf [57] (A4 []) [(92,A80)] (A4 [(1,[4]),(0,[0,0])]) [92] (A4 []) (some [4]) [] [] []
noncomputable def Bv1 {R:Type} (lf:Nat) (l_z l_t:Bool) (l:LL) (k0:Bool->Option R):Option R:=cond (List.all l Cs) (cond (List.all l smE) (cond (A3 l.length) (k0 (not (ltI (ixE (List.map V6 l)) (0:Int)))) none) none) none
theorem Bv2 (d:Nat) (l_z l_t l):evC (WQ lf) (d+1) σ yh 57 [.s (.sl l_z l_t 2 l),.s (.fn (Fn.func 58) [] [])] [] s=Bv1 lf l_z l_t l (λr0=>some (pB r0,[],s)):=by
 refine (evE (fn:=Tryz.f57) (by kernel_rfl)).trans ?_
 generalize evC (WQ lf) d=cl
 unfold Bv1;kernel_rfl
noncomputable def WO (lf:Nat):Cfg:=C8 lf [60] (A4 []) [] (A4 [(3,[2]),(2,[2]),(1,[0,3]),(0,[0])]) [] (A4 []) (some [2]) [] [] []
noncomputable def Bu9 {R:Type} (lf:Nat) (l_z l_t:Bool) (l:LL) (k0:Bool->LL->Option R):Option R:=cond l_z (k0 true []) (cond (F1 (0+l.length)) (k0 false l) none)
theorem Bv0 (d:Nat) (l_z l_t l):evC (WO lf) (d+1) σ yh 60 [.s (.sl l_z l_t 2 l)] [] s=Bu9 lf l_z l_t l (λz0 l1=>some (.fl 0,[.arr z0 63 2 l1],s)):=by
 refine (evE (fn:=Tryz.f60) (by kernel_rfl)).trans ?_
 generalize evC (WO lf) d=cl
 unfold Bu9;kernel_rfl
noncomputable abbrev Ba1:Code:=D8 Tryz.f65
noncomputable def Pd (lf:Nat):Cfg:=C8 lf [65] (A4 [(3,[0,0,0,3,0,0,0,0])]) [(66,B70)] (A4 [(8,[6,0]),(6,[0,0,0,5,0,0]),(7,[0,0,0,5,0,0]),(5,[0,0,0,5,0,0,0,19]),(4,[0,0,0,5,0,0,0]),(3,[0,0,0,5,0,0,6]),(2,[0,0,0,5,0,0]),(1,[0,0,0,5]),(0,[0,0,0])]) [66] (A4 [(0,[0,0,0,5,0]),(1,[0,0,0,5,0,0])]) (some [6,0]) [] [] []
noncomputable def Gl {R:Type} (lf n:Nat) (x_z0 x_t1:Bool) (x2:LL) (target3:By) (n4 i5 j6:Int) (k0:Bool->Bool->LL->By->Int->Int->Option R):Option R:=match n with | 0=>none | n+1=>cond (ltI i5 j6) (vl (Ai9 .u64 (Bn8 (A1 (i5+j6))) (1:Int)) λn'1=>cond (inR (A1 n'1) x2.length) (cond (okE ⟨true,true,[.str,.bool]⟩ x2 (Int.toNat (A1 n'1)) 0) (vl (gX x2 (Int.toNat (A1 n'1)) 0) λs'2=>cond (A3 s'2.length) (cond (A3 target3.length) (cond (ltI (V5 s'2 target3) (0:Int)) (vl (A1 ((A1 n'1)+1)) λn'3=>Gl lf n x_z0 x_t1 x2 target3 n4 n'3 j6 k0) (Gl lf n x_z0 x_t1 x2 target3 n4 i5 (A1 n'1) k0)) none) none) none) none) (k0 x_z0 x_t1 x2 target3 n4 i5)
theorem YS (n x_z0 x_t1 x2 target3 n4 i5 j6):E5 0 ((Pd lf).keep 3) (bd (Pd lf) cl yh (cd [1,1,1,0,0,0] Ba1)) n ⟨gp [(0,.s (.sl x_z0 x_t1 2 x2)),(0,pS target3),(0,.s (.fn (Fn.func 66) [] [])),(5,pI n4),(0,pI i5),(0,pI j6)] 38,[],s⟩ k =
 Gl lf n x_z0 x_t1 x2 target3 n4 i5 j6 (λx_z0 x_t1 x2 target3 n4 i5=>k (.exit 0) ⟨gp [(0,.s (.sl x_z0 x_t1 2 x2)),(0,pS target3),(0,.s (.fn (Fn.func 66) [] [])),(5,pI n4),(0,pI i5)] 39,[],s⟩):=by
 induction n generalizing x_z0 x_t1 x2 target3 n4 i5 j6 with
 | zero=>rfl
 | succ n ih=>rw [Gl];simp only [<-ih];kernel_rfl
noncomputable def Bu7 {R:Type} (lf:Nat) (l_z l_t:Bool) (l:LL) (q:By) (k0:Int->Bool->Option R):Option R:=Gl lf lf l_z l_t l q (l.length:Int) 0 (l.length:Int) (λx_z'4 x_t'5 x'6 target'7 n'8 i'9=>cond (ltI i'9 n'8) (cond (inR i'9 x'6.length) (cond (okE ⟨true,true,[.str,.bool]⟩ x'6 (Int.toNat i'9) 0) (vl (gX x'6 (Int.toNat i'9) 0) λs'10=>cond (A3 s'10.length) (cond (A3 target'7.length) (k0 i'9 ((V5 s'10 target'7)==0)) none) none) none) none) (k0 i'9 false))
theorem Bu8 (d:Nat) (l_z l_t l q):evC (Pd lf) (d+1) σ yh 65 [.s (.sl l_z l_t 2 l),pS q,.s (.fn (Fn.func 66) [] [])] [] s=Bu7 lf l_z l_t l q (λr0 r1=>some (.tup [pI r0,pB r1],[],s)):=by
 refine (evE (fn:=Tryz.f65) (by kernel_rfl)).trans ?_
 generalize evC (Pd lf) d=cl
 unfold Bu7;exact (Eq.trans (by kernel_rfl) ((YS lf cl yh s (F9 0 (G1 (Pd lf) cl yh (cd [1,1,1,1] Ba1) (G5 (Pd lf) Tryz.f65))) lf l_z l_t l q (l.length:Int) 0 (l.length:Int)).trans (by kernel_rfl)))
end
end
section
open Go Go.Op
set_option maxRecDepth 100000
theorem Az8 {R:Type} {k0:Bool->Option R} (s:By):Bx1 LF s k0=k0 false:=by unfold Bx1;simp
theorem Az7 {R:Type} {k0:Bool->Option R} (n:Int):Bw9 LF n k0=k0 false:=by unfold Bw9;simp
theorem Bc0 {R:Type} {k0:Int->Option R} (a b:By):ccs LF a b k0=k0 (Y6 a b):=by
 unfold ccs Y6
 cases h:bytesLess a b with
 | true=>rfl
 | false=>
  have e:(not (false || a==b))=bytesLess b a:=by
   rw [W6] at h ⊢
   have h:=of_decide_eq_false h
   by_cases hab:a=b
   ·subst hab;simp
   ·have:b<a:=by
     apply Decidable.byContradiction
     intro g
     exact hab (List.le_antisymm (List.not_lt.1 g) (List.not_lt.1 h))
    simp [hab,this]
  rw [e]
  cases bytesLess b a<;>rfl
theorem Bb9 {R:Type} {k0:Int->Option R} (a b:Int):cci LF a b k0=k0 (LP a b):=by
 unfold cci LP
 cases ltI a b<;>cases ltI b a<;>rfl
theorem Bo:∀ s:By,((46:UInt8)∉s/\J4 46 s = -1)\/∃ p q,s=p++46::q/\(46:UInt8)∉q/\J4 46 s=(p.length:Int)
 | []=>.inl ⟨by simp,rfl⟩
 | b::r=>by
  rcases Bo r with ⟨h1,h2⟩ | ⟨p,q,h1,h2,h3⟩
  ·by_cases hb:b=46
   ·exact .inr ⟨[],r,by rw [hb];rfl,h1,by unfold J4;rw [h2,if_pos (by decide),if_pos hb];rfl⟩
   ·exact .inl ⟨by simp [h1];exact λe=>hb e.symm,by unfold J4;rw [h2,if_pos (by decide),if_neg hb]⟩
  ·refine .inr ⟨b::p,q,by rw [h1];rfl,h2,?_⟩
   unfold J4
   rw [h3,I8]
   simp
theorem CY {s:By} (h:(46:UInt8)∉s):rl s=[s]:=by
 unfold rl pcs
 rw [Ea 46 s [] h]
 rfl
theorem CZ (p:By) {q:By} (h:(46:UInt8)∉q):rl (p++46::q)=q::rl p:=by
 unfold rl pcs
 rw [Ki,Ea 46 q [] h,List.reverse_append]
 rfl
theorem As3 (s:By):rl s≠[]:=by
 unfold rl
 simpa using Vq 46 s
theorem Aa {a b:By} (h:Y6 a b=0):a=b:=by
 unfold Y6 at h
 cases h1:bytesLess a b with
 | true=>rw [h1] at h;cases h
 | false=>
  cases h2:bytesLess b a with
  | true=>rw [h1,h2] at h;cases h
  | false=>
   rw [W6] at h1 h2
   exact List.le_antisymm (List.not_lt.1 (of_decide_eq_false h2)) (List.not_lt.1 (of_decide_eq_false h1))
theorem FI (a:By):bytesLess a a=false:=by rw [W6];simp
def Uv (x y:List By):Int:=cond (BX x y) (-1) (cond (BX y x) 1 0)
theorem Q7 {a b:By} {x y:List By} (h:Y6 a b≠0):Uv (a::x) (b::y)=Y6 a b:=by
 have hne:a≠b:=λe=>h (by rw [e];unfold Y6;rw [FI];rfl)
 have e1:(a==b)=false:=by simpa using hne
 have e2:(b==a)=false:=by simpa using Ne.symm hne
 unfold Uv Y6
 simp only [BX,e1,e2,Bool.false_and,Bool.or_false]
theorem Q6 {a:By} {x y:List By}:Uv (a::x) (a::y)=Uv x y:=by
 unfold Uv
 simp only [BX,FI,beq_self_eq_true,Bool.true_and,Bool.false_or]
theorem GN {R:Type} {k0:Int->Option R}:∀ (n:Nat) (a b:By),a.length<=1000000000->b.length<=1000000000->a.length<n->
  Ni LF n a b k0 (λi k=>k0 (LP (if ((0:Int)<i) then (0:Int) else i) (if ((0:Int)<k) then (0:Int) else k)))=k0 (V5 a b)
 | 0,a,b,_,_,h=>by omega
 | n+1,a,b,ha,hb,h=>by
  have e46:u8n (46:Int)=46:=rfl
  have hcmp:∀ x y:By,V5 x y=Uv (rl x) (rl y):=λx y=>rfl
  rw [Ni]
  simp only [vl,e46]
  rw [F5 ha,F5 hb,cond_true,cond_true,hcmp]
  rcases Bo a with ⟨a1,a2⟩ | ⟨p,q,rfl,a1,a2⟩<;>rcases Bo b with ⟨b1,b2⟩ | ⟨p',q',rfl,b1,b2⟩<;>rw [a2,b2]
  ·have e1:cut a (A1 (-1+1)) (a.length:Int)=a:=by rw [A5,Q8];rfl
   have e2:cut b (A1 (-1+1)) (b.length:Int)=b:=by rw [A5,Q8];rfl
   rw [e1,e2,P5 (by rw [A5];omega) (by rw [A5];omega),P5 (by rw [A5];omega) (by rw [A5];omega),cond_true,cond_true,CY a1,CY b1]
   by_cases hc:Y6 a b=0
   ·rw [show (Y6 a b != 0)=false by rw [hc];rfl,cond_false,A8,cond_true,Aa hc,Q6];rfl
   ·rw [show (Y6 a b != 0)=true by simpa using hc,cond_true,Q7 hc]
  ·have e1:cut a (A1 (-1+1)) (a.length:Int)=a:=by rw [A5,Q8];rfl
   have e2:cut (p'++46::q') (A1 ((p'.length:Int)+1)) ((p'++46::q').length:Int)=q':=by
    simp only [List.length_append,List.length_cons] at hb
    rw [A5,Q8,show (((p'.length:Int)+1).toNat)=p'.length+1 by omega]
    simp
   have hl:(p'++46::q').length=p'.length+(q'.length+1):=by simp
   rw [e1,e2,P5 (by rw [A5];omega) (by rw [A5];omega),P5 (by rw [A5];omega) (by rw [A5];omega),cond_true,cond_true,CY a1,CZ p' b1]
   by_cases hc:Y6 a q'=0
   ·rw [show (Y6 a q' != 0)=false by rw [hc];rfl,cond_false,A8,cond_true,Aa hc,Q6,I8]
    have e3:(if (0:Int)<(p'.length:Int) then (0:Int) else (p'.length:Int))=0:=by split<;>omega
    rw [e3]
    have:Uv [] (rl p') = -1:=by
     unfold Uv
     cases hr:rl p' with
     | nil=>exact absurd hr (As3 p')
     | cons x r=>rfl
    rw [this];rfl
   ·rw [show (Y6 a q' != 0)=true by simpa using hc,cond_true,Q7 hc]
  ·have e1:cut (p++46::q) (A1 ((p.length:Int)+1)) ((p++46::q).length:Int)=q:=by
    simp only [List.length_append,List.length_cons] at ha
    rw [A5,Q8,show (((p.length:Int)+1).toNat)=p.length+1 by omega]
    simp
   have e2:cut b (A1 (-1+1)) (b.length:Int)=b:=by rw [A5,Q8];rfl
   have hl:(p++46::q).length=p.length+(q.length+1):=by simp
   rw [e1,e2,P5 (by rw [A5];omega) (by rw [A5];omega),P5 (by rw [A5];omega) (by rw [A5];omega),cond_true,cond_true,CY b1,CZ p a1]
   by_cases hc:Y6 q b=0
   ·rw [show (Y6 q b != 0)=false by rw [hc];rfl,cond_false,A7,cond_false,A8,cond_true,Aa hc,Q6]
    have e3:(if (0:Int)<(p.length:Int) then (0:Int) else (p.length:Int))=0:=by split<;>omega
    rw [e3,I8]
    have:Uv (rl p) []=1:=by
     unfold Uv
     cases hr:rl p with
     | nil=>exact absurd hr (As3 p)
     | cons x r=>rfl
    rw [this];rfl
   ·rw [show (Y6 q b != 0)=true by simpa using hc,cond_true,Q7 hc]
  ·have e1:cut (p++46::q) (A1 ((p.length:Int)+1)) ((p++46::q).length:Int)=q:=by
    simp only [List.length_append,List.length_cons] at ha
    rw [A5,Q8,show (((p.length:Int)+1).toNat)=p.length+1 by omega]
    simp
   have e2:cut (p'++46::q') (A1 ((p'.length:Int)+1)) ((p'++46::q').length:Int)=q':=by
    simp only [List.length_append,List.length_cons] at hb
    rw [A5,Q8,show (((p'.length:Int)+1).toNat)=p'.length+1 by omega]
    simp
   have hl:(p++46::q).length=p.length+(q.length+1):=by simp
   have hl':(p'++46::q').length=p'.length+(q'.length+1):=by simp
   rw [e1,e2,P5 (by rw [A5];omega) (by rw [A5];omega),P5 (by rw [A5];omega) (by rw [A5];omega),cond_true,cond_true,CZ p a1,CZ p' b1]
   by_cases hc:Y6 q q'=0
   ·rw [show (Y6 q q' != 0)=false by rw [hc];rfl,cond_false,A7,cond_false,A7,cond_false,P5,cond_true,P5,cond_true,Aa hc,Q6,Y7,Y7,Int.toNat_natCast,Int.toNat_natCast,List.take_left,List.take_left,GN n p p' (by omega) (by omega) (by omega)]
    rfl
   ·rw [show (Y6 q q' != 0)=true by simpa using hc,cond_true,Q7 hc]
theorem A06 {R:Type} {k0:Int->Option R} (a b:By) (h0:A3 a.length=true) (h1:A3 b.length=true):Bx9 LF a b k0=k0 (V5 a b):=by
 have hLF:=D7
 have ha:=K8 h0
 unfold Bx9
 exact GN LF a b ha (K8 h1) (by omega)
theorem Bv8 (h:By) (b:Bool) (h0:A3 h.length=true):∃ r H,Bv6 LF h b (λr0 s1 b2=>rv (.s (.bool r0)) [.box [.s (.str s1),.s (.bool b2)]])=rv r H/\r.stab [] H = .s (.bool (not (P7 h))):=by
 unfold Bv6
 rw [h0]
 exact ⟨_,_,rfl,rfl⟩
theorem Cb8 (h:By) (b:Bool) (s:By) (h0:A3 h.length=true) (h1:A3 s.length=true):∃ r H,lgf LF h b s (λr0 s1 b2=>rv (.s (.int .i64 r0)) [.box [.s (.str s1),.s (.bool b2)]])=rv r H/\r.stab [] H = .s (.int .i64 (V5 h s)):=by
 unfold lgf
 rw [h0,h1]
 exact ⟨_,_,rfl,rfl⟩
theorem Ay6 {R:Type} (z t:Bool) (l:List Ent) (hs:(J8 l).all smE=true) (k0:Int->Option R) (k1:Unit->Option R) (hl:l.length<=1000000000):∀ (r i m:Nat),i+r=l.length->r<m->
  Jo LF m z t (J8 l) (l.length:Int) (i:Int) k0 k1=match (l.drop i).findIdx? (λe=>!P7 e.1) with | some j=>k0 ((i+j:Nat):Int) | none=>k1 ():=by
 intro r
 induction r with
 | zero=>
  intro i m hi hm
  obtain ⟨m,rfl⟩:∃ q,m=q+1:=⟨m-1,by omega⟩
  rw [Jo,A7,List.drop_of_length_le (by omega)]
  rfl
 | succ r ih=>
  intro i m hi hm
  obtain ⟨m,rfl⟩:∃ q,m=q+1:=⟨m-1,by omega⟩
  have e1:A1 ((i:Int)+1)=((i+1:Nat):Int):=by rw [A5];rfl
  have hd:l.drop i=l.getD i noE::l.drop (i+1):=by
   rw [List.getD_eq_getElem?_getD,List.getElem?_eq_getElem (by omega),Option.getD_some,List.getElem_cons_drop]
  rw [Jo,A8,K2 (by omega) (by rw [I7];omega),Int.toNat_natCast,Rt (by omega),BC (by omega),NT hs (by omega),e1,hd,List.findIdx?_cons]
  simp only [cond_true]
  cases P7 (l.getD i noE).1 with
  | false=>simp
  | true=>
   rw [Bool.not_true,cond_false,ih (i+1) m (by omega) (by omega)]
   cases (l.drop (i+1)).findIdx? (λe=>!P7 e.1) with
   | none=>rfl
   | some j=>simp [Nat.add_assoc,Nat.add_comm 1 j]
theorem Ay7 {R:Type} {k0:Int->Option R} (z t:Bool) (l:LL) (h0:l.all Cs=true) (h1:l.all smE=true) (h2:A3 l.length=true):Bv4 LF z t l k0=k0 (ixE (l.map V6)):=by
 have hLF:=D7
 have hl:=K8 h2
 rw [Qv h0] at h1 hl ⊢
 generalize l.map V6=q at h1 hl ⊢
 rw [I7] at hl
 unfold Bv4 ixE
 rw [I7,LU]
 refine (Ay6 z t q h1 _ _ hl q.length 0 LF (by omega) (by omega)).trans ?_
 rw [List.drop_zero]
 cases q.findIdx? (λe=>!P7 e.1) with
 | none=>rfl
 | some j=>
  show k0 ((0+j:Nat):Int)=k0 (j:Int)
  rw [Nat.zero_add]
theorem Cb6 (l:List Ent):(!ltI (ixE l) 0)=Bq7 l:=by
 unfold ixE Bq7
 cases h:l.findIdx? (λe=>!P7 e.1) with
 | none=>
  rw [List.findIdx?_eq_none_iff] at h
  show (!ltI (-1) 0)=_
  rw [A8]
  exact (List.any_eq_false.2 λx hx=>by rw [h x hx];simp).symm
 | some j=>
  show (!ltI (j:Int) 0)=_
  rw [A7]
  exact (List.any_eq_true.2 (by
   obtain ⟨hj,hp,_⟩:=List.findIdx?_eq_some_iff_getElem.1 h
   exact ⟨_,List.getElem_mem hj,hp⟩)).symm
theorem Ay3 {R:Type} {k0:Bool->Option R} (z t:Bool) (l:LL) (h0:l.all Cs=true) (h1:l.all smE=true) (h2:A3 l.length=true):Bv1 LF z t l k0=k0 (Bq7 (l.map V6)):=by
 unfold Bv1
 rw [h0,h1,h2,<-Cb6]
 rfl
theorem Cc0 {z:Bool} {l:LL} (h:Ar1 z l=true) (hz:z=true):l=[]:=by
 subst hz
 simpa [Ar1] using h
theorem Ay2 {R:Type} {k0:Bool->LL->Option R} (z t:Bool) (l:LL) (h0:A3 l.length=true) (h1:Ar1 z l=true):Bu9 LF z t l k0=k0 z l:=by
 unfold Bu9
 cases z with
 | true=>rw [Cc0 h1 rfl];rfl
 | false=>
  have:=K8 h0
  rw [E0 (by omega)]
  rfl
theorem Cm6 {a b:Nat} (h:a+b<=4000000000):A1 (Ai9 .u64 (Bn8 (A1 ((a:Int)+(b:Int)))) 1)=(((a+b) / 2:Nat):Int):=by
 have e1:A1 ((a:Int)+(b:Int))=((a+b:Nat):Int):=by rw [A5];omega
 have e2:Bn8 ((a+b:Nat):Int)=((a+b:Nat):Int):=Au0 (by omega) (by omega)
 have e3:Ai9 .u64 ((a+b:Nat):Int) 1=(((a+b) / 2:Nat):Int):=NS .u64 (a+b) 1 (by decide)
 rw [e1,e2,e3,A5]
theorem GE {R:Type} (z t:Bool) (l:List Ent) (s:By) (hs:(J8 l).all smE=true) (h1:A3 s.length=true) (n:Int) (k0:Bool->Bool->LL->By->Int->Int->Option R) (hl:l.length<=1000000000):∀ (r i j m:Nat),j-i<=r->i<=j->j<=l.length->r<m->
  Gl LF m z t (J8 l) s n (i:Int) (j:Int) k0=k0 z t (J8 l) s n ((AF (λi=>V5 ((l.map Prod.fst).getD i []) s) (r+1) i j:Nat):Int):=by
 intro r
 induction r with
 | zero=>
  intro i j m hr hi hj hm
  obtain ⟨m,rfl⟩:∃ q,m=q+1:=⟨m-1,by omega⟩
  rw [Gl,A7]
  unfold AF
  rw [I8]
  rfl
 | succ r ih=>
  intro i j m hr hi hj hm
  obtain ⟨m,rfl⟩:∃ q,m=q+1:=⟨m-1,by omega⟩
  rw [Gl]
  by_cases hij:i<j
  ·have hh:(i+j) / 2<l.length:=by omega
   rw [A8,AF,if_pos hij]
   simp only [vl,cond_true]
   rw [Cm6 (by omega),K2 (by omega) (by rw [I7];omega),Int.toNat_natCast,Rt hh,BC hh,NT hs hh,h1,Ap7 Prod.fst (d:=noE) hh]
   simp only [cond_true]
   have e1:A1 ((((i+j) / 2:Nat):Int)+1)=(((i+j) / 2+1:Nat):Int):=by rw [A5];rfl
   by_cases hc:V5 (l.getD ((i+j) / 2) noE).1 s<0
   ·rw [C2 hc,cond_true,if_pos hc,e1,ih _ _ m (by omega) (by omega) hj (by omega)]
   ·rw [D1 (by omega),cond_false,if_neg hc,ih _ _ m (by omega) (by omega) (by omega) (by omega)]
  ·rw [A7,AF,if_neg hij]
   rfl
theorem Ay1 {R:Type} {k0:Int->Bool->Option R} (z t:Bool) (l:LL) (s:By) (h0:l.all Cs=true) (h1:l.all smE=true) (h2:A3 l.length=true) (h3:A3 s.length=true) :
  Bu7 LF z t l s k0=k0 (bsI ((l.map V6).map Prod.fst) s:Int) (bsB ((l.map V6).map Prod.fst) s):=by
 have hLF:=D7
 have hl:=K8 h2
 rw [Qv h0] at h1 hl ⊢
 generalize l.map V6=q at h1 hl ⊢
 rw [I7] at hl
 unfold Bu7
 rw [I7,LU]
 have hlo:=GE (R:=R) z t q s h1 h3 (q.length:Int)
 refine (GE z t q s h1 h3 _ _ hl q.length 0 q.length LF (by omega) (by omega) (by omega) (by omega)).trans ?_
 have hle:=(KV (λi=>V5 ((q.map Prod.fst).getD i []) s) (q.length+1) 0 q.length (by omega)).2
 have e:bsI (q.map Prod.fst) s=AF (λi=>V5 ((q.map Prod.fst).getD i []) s) (q.length+1) 0 q.length:=by unfold bsI;rw [List.length_map]
 rw [<-e] at hle ⊢
 unfold bsB
 generalize bsI (q.map Prod.fst) s=i at hle ⊢
 rw [List.length_map]
 by_cases hi:i<q.length
 ·simp only [vl]
  rw [A8,K2 (by omega) (by rw [I7];omega),Int.toNat_natCast,Rt hi,BC hi,NT h1 hi,h3,show Nat.blt i q.length=true from Ao5.2 hi,Ap7 Prod.fst (d:=noE) hi,Av2]
  rfl
 ·rw [A7,show Nat.blt i q.length=false by cases hb:Nat.blt i q.length with | false=>rfl | true=>exact absurd (Ao5.1 hb) hi]
  rfl
theorem Cd5 {l:List Ent} (h:(J8 l).all smE=true):∀ e∈l,e.1.length<=1000000000:=λe he=>by
 have:=List.all_eq_true.1 h (Uy e) (List.mem_map.2 ⟨e,he,rfl⟩)
 exact K8 this
theorem AT {α:Type} (d:α) {l:List α} {i:Nat} (h:i<l.length):l.drop i=l.getD i d::l.drop (i+1):=by
 rw [List.getD_eq_getElem?_getD,List.getElem?_eq_getElem h,Option.getD_some,List.getElem_cons_drop]
end
section
open Go Go.Proofs
set_option maxRecDepth 100000
section
variable {σ R : Type} (lf : Nat) (cl : G2) (yh : Yh σ) (s : σ) (k : Out -> St σ -> Option R)
noncomputable def WN (lf:Nat):Cfg:=C8 lf [110] (A4 []) [] (A4 [(1,[2]),(0,[0])]) [] (A4 []) (some [2]) [] [] []
noncomputable def Bu1 {R:Type} (lf:Nat) (b0:Int) (k0:Bool->Option R):Option R:=cond (b0==32) (k0 true) (k0 (b0==9))
theorem Bu2 (d:Nat) (b0):evC (WN lf) (d+1) σ yh 110 [p8 b0] [] s=Bu1 lf b0 (λr0=>some (pB r0,[],s)):=by
 refine (evE (fn:=Tryz.f110) (by kernel_rfl)).trans ?_
 generalize evC (WN lf) d=cl
 unfold Bu1;kernel_rfl
noncomputable def KZ (lf:Nat):Cfg:=C8 lf [83] (A4 []) [(110,A75)] (A4 [(1,[2]),(0,[0])]) [110] (A4 []) (some [2]) [] [] []
noncomputable def Ap4 {R:Type} (lf:Nat) (b0:Int) (k0:Bool->Option R):Option R:=cond (BL b0) (k0 true) (cond (b0==10) (k0 true) (cond (b0==12) (k0 true) (k0 (b0==13))))
theorem Bf1 (d:Nat) (b0):evC (KZ lf) (d+1) σ yh 83 [p8 b0] [] s=Ap4 lf b0 (λr0=>some (pB r0,[],s)):=by
 refine (evE (fn:=Tryz.f83) (by kernel_rfl)).trans ?_
 generalize evC (KZ lf) d=cl
 unfold Ap4;kernel_rfl
noncomputable abbrev Iy:Code:=D8 Tryz.f51
noncomputable def U7 (lf:Nat):Cfg:=C8 lf [51] (A4 [(4,[0,1,0,0,0])]) [(83,Am3)] (A4 [(10,[2]),(5,[0,2,0,0]),(9,[0,2,0,0]),(8,[0,2,1]),(7,[0,2,0,0,19]),(6,[0,2,0,0,16]),(4,[0,2,0,0,3]),(3,[0,2,0,0]),(2,[0,2,0]),(1,[0,2]),(0,[0])]) [83] (A4 [(0,[3]),(1,[0,2,0,0])]) (some [2]) [] [] []
noncomputable def Ir {R:Type} (s0:By) (from1 i2:Int) (l4:LL) (k0:By->Int->Int->LL->Option R):Option R:=cond (ltI from1 i2) (cond (P0 from1 i2 s0.length) (cond (F1 (l4.length+1)) (k0 s0 (A1 (i2+1)) i2 (l4++[[(SV.str (cut s0 from1 i2))]])) none) none) (k0 s0 (A1 (i2+1)) i2 l4)
abbrev Pz (b:Code):Prop:=∀ (k:Out->St σ->Option R) s0 from1 i2 b3 l4,A9 (U7 lf) cl yh b ⟨gp [(0,pS s0),(2,.fl 0),(0,pI from1),(0,pI i2),(16,pB b3)] 13,[.arr true 9 1 l4],s⟩ k=Ir s0 from1 i2 l4 (λs0 from1 i2 l3=>k .normal ⟨gp [(0,pS s0),(2,.fl 0),(0,pI from1),(0,pI i2)] 30,[.arr true 9 1 l3],s⟩)
theorem UL:Pz (R:=R) lf cl yh s (cd [1,1,1,0,1,0,0,1,0,0,1] Iy):=by
 intro k s0 from1 i2 b3 l4;unfold Ir;kernel_rfl
noncomputable def W4 {R:Type} (lf n:Nat) (s0:By) (from1 i2:Int) (l3:LL) (k0:LL->Option R):Option R:=match n with | 0=>none | n+1=>cond (not (ltI (s0.length:Int) i2)) (cond (ltI i2 (s0.length:Int)) (cond (inR i2 s0.length) (cond (not (Ic (bAt s0 i2))) (W4 lf n s0 from1 (A1 (i2+1)) l3 k0) (Ir s0 from1 i2 l3 (λs'0 from'1 i'2 l'3=>W4 lf n s'0 from'1 (A1 (i'2+1)) l'3 k0))) none) (Ir s0 from1 i2 l3 (λs'4 from'5 i'6 l'7=>W4 lf n s'4 from'5 (A1 (i'6+1)) l'7 k0))) (k0 l3)
theorem UM (b_11101001001:Code) (h_words_j0:Pz (R:=R) lf cl yh s b_11101001001) (n:Nat) (s0:By) (from1 i2:Int) (l3:LL):E5 1 ((U7 lf).keep 4) (bd (U7 lf) cl yh (cd [1,1,1,0,1,0,0] (J3 [1,1,1,0,1,0,0,1,0,0,1] b_11101001001 Iy))) n ⟨gp [(0,pS s0),(2,.fl 0),(0,pI from1),(0,pI i2)] 30,[.arr true 9 1 l3],s⟩ k =
 W4 lf n s0 from1 i2 l3 (λl0=>k (.exit 0) ⟨gp [(3,.fl 0)] 32,[.arr true 9 1 l0],s⟩):=by
 induction n generalizing s0 from1 i2 l3 with
 | zero=>rfl
 | succ n ih=>rw [W4];exact let K0:=(F9 1 (G1 (U7 lf) cl yh (cd [1,1,1,0,1,0,0,1,1] Iy) (lpK 1 ((U7 lf).keep 4) (bd (U7 lf) cl yh (cd [1,1,1,0,1,0,0] (J3 [1,1,1,0,1,0,0,1,0,0,1] b_11101001001 Iy))) n k)));(Eq.trans (by kernel_rfl) (A0 (A0 (A0 (A0 (ih s0 from1 (A1 (i2+1)) l3) ((h_words_j0 K0 s0 from1 i2 (not (Ic (bAt s0 i2))) l3).trans (congr rfl (fx4 λs'0 from'1 i'2 l'3=>(Eq.trans (by kernel_rfl) (ih s'0 from'1 (A1 (i'2+1)) l'3)))))) rfl) ((h_words_j0 K0 s0 from1 i2 false l3).trans (congr rfl (fx4 λs'4 from'5 i'6 l'7=>(Eq.trans (by kernel_rfl) (ih s'4 from'5 (A1 (i'6+1)) l'7)))))) rfl))
noncomputable def UK {R:Type} (lf:Nat) (s0:By) (k0:LL->(List Blk)->Option R):Option R:=W4 lf lf s0 0 0 [] (λl'8=>k0 l'8 [])
theorem Bn5 (b_11101001001:Code) (h_words_j0:Pz (R:=PV × List Blk × σ) lf cl yh s b_11101001001) (s0:By):A9 (U7 lf) cl yh (cd [] (J3 [1,1,1,0,1,0,0,1,0,0,1] b_11101001001 Iy)) ⟨[pS s0]++tps 35,[],s⟩ (G5 (U7 lf) Tryz.f51)=UK lf s0 (λl0 H1=>some (.fl 0,(.arr true 9 1 l0::H1),s)):=by
 unfold UK;exact (Eq.trans (by kernel_rfl) ((UM lf cl yh s (F9 0 (G1 (U7 lf) cl yh (cd [1,1,1,1] Iy) (G5 (U7 lf) Tryz.f51))) b_11101001001 h_words_j0 lf s0 0 0 []).trans (by kernel_rfl)))
theorem Bn6 (d:Nat) (s0):evC (U7 lf) (d+1) σ yh 51 [pS s0] [] s=UK lf s0 (λl0 H1=>some (.fl 0,(.arr true 9 1 l0::H1),s)):=
 (evE (fn:=Tryz.f51) (by kernel_rfl)).trans (Eq.trans (by kernel_rfl) (Bn5 lf (evC (U7 lf) d) yh s (cd [1,1,1,0,1,0,0,1,0,0,1] Iy) (UL lf (evC (U7 lf) d) yh s) s0))
noncomputable abbrev At6 (s0:By):Option (PV × List Blk × Unit):=UK LF s0 (λl0 H1=>some (.fl 0,(.arr true 9 1 l0::H1),()))
noncomputable def Bb5 (lf:Nat):Cfg:=C8 lf [84] (A4 []) [(111,IY)] (A4 [(1,[4]),(0,[0,0])]) [111] (A4 []) (some [4]) [] [] []
noncomputable def eqf {R:Type} (lf:Nat) (a0 b1:By) (k0:Bool->Option R):Option R:=cond (A3 a0.length) (cond (A3 b1.length) (k0 ((C7 a0)==(C7 b1))) none) none
theorem Ca4 (d:Nat) (a0 b1):evC (Bb5 lf) (d+1) σ yh 84 [pS a0,pS b1] [] s=eqf lf a0 b1 (λr0=>some (pB r0,[],s)):=by
 refine (evE (fn:=Tryz.f84) (by kernel_rfl)).trans ?_
 generalize evC (Bb5 lf) d=cl
 unfold eqf;kernel_rfl
noncomputable abbrev WD:Code:=D8 Tryz.f52
noncomputable def Lo (lf:Nat):Cfg:=C8 lf [52] (A4 []) [(84,B68),(85,OP)] (A4 [(8,[2,0]),(5,[2,0]),(7,[2,0]),(6,[0,1,1,29]),(4,[0,1,1,0,23]),(3,[0,1,1,0]),(2,[2,0]),(1,[0,1,17]),(0,[0,1])]) [84] (A4 [(0,[0,1,1])]) (some [2,0]) [] [] []
noncomputable def Nj {R:Type} (w2:LL) (k0:Int->By->Bool->(List Blk)->Option R):Option R:=cond (inR 0 w2.length) (cond (okE Gc w2 0 0) (cond (A3 (List.length (gX w2 0 0))) (vl (↑(E6.kind ((C4 (gX w2 0 0))).1):Int) λn'12=>vl (E6.name ((C4 (gX w2 0 0))).1) λs'13=>vl (↑(E6.v4 ((C4 (gX w2 0 0))).1):Int) λn'14=>vl (↑(List.getD (E6.v6 ((C4 (gX w2 0 0))).1) 0 0):Int) λn'15=>vl (↑(List.getD (E6.v6 ((C4 (gX w2 0 0))).1) 1 0):Int) λn'16=>vl (↑(List.getD (E6.v6 ((C4 (gX w2 0 0))).1) 2 0):Int) λn'17=>vl (↑(List.getD (E6.v6 ((C4 (gX w2 0 0))).1) 3 0):Int) λn'18=>vl (↑(List.getD (E6.v6 ((C4 (gX w2 0 0))).1) 4 0):Int) λn'19=>vl (↑(List.getD (E6.v6 ((C4 (gX w2 0 0))).1) 5 0):Int) λn'20=>vl (↑(List.getD (E6.v6 ((C4 (gX w2 0 0))).1) 6 0):Int) λn'21=>vl (↑(List.getD (E6.v6 ((C4 (gX w2 0 0))).1) 7 0):Int) λn'22=>vl (↑((C4 (gX w2 0 0))).2:Int) λn'23=>cond (n'23 != 0) (k0 n'23 ([]:List UInt8) false [(Blk.box [(PV.s (SV.int .i64 n'12)),(PV.s (SV.str s'13)),(PV.s (SV.int .u32 n'14)),(PV.s (SV.int .u16 n'15)),(PV.s (SV.int .u16 n'16)),(PV.s (SV.int .u16 n'17)),(PV.s (SV.int .u16 n'18)),(PV.s (SV.int .u16 n'19)),(PV.s (SV.int .u16 n'20)),(PV.s (SV.int .u16 n'21)),(PV.s (SV.int .u16 n'22))])]) (cond (n'12 != 1) (k0 14 ([]:List UInt8) false [(Blk.box [(PV.s (SV.int .i64 n'12)),(PV.s (SV.str s'13)),(PV.s (SV.int .u32 n'14)),(PV.s (SV.int .u16 n'15)),(PV.s (SV.int .u16 n'16)),(PV.s (SV.int .u16 n'17)),(PV.s (SV.int .u16 n'18)),(PV.s (SV.int .u16 n'19)),(PV.s (SV.int .u16 n'20)),(PV.s (SV.int .u16 n'21)),(PV.s (SV.int .u16 n'22))])]) (k0 0 s'13 ((w2.length:Int)==2) [(Blk.box [(PV.s (SV.int .i64 n'12)),(PV.s (SV.str s'13)),(PV.s (SV.int .u32 n'14)),(PV.s (SV.int .u16 n'15)),(PV.s (SV.int .u16 n'16)),(PV.s (SV.int .u16 n'17)),(PV.s (SV.int .u16 n'18)),(PV.s (SV.int .u16 n'19)),(PV.s (SV.int .u16 n'20)),(PV.s (SV.int .u16 n'21)),(PV.s (SV.int .u16 n'22))])]))) none) none) none
abbrev GO (b:Code):Prop:=∀ (k:Out->St σ->Option R) w_z0 w_t1 w2 b3,A9 (Lo lf) cl yh b ⟨gp [(0,.s (.sl w_z0 w_t1 1 w2)),(1,.ptr 0 0 0),(17,pB b3)] 24,[.box [pS ([]:List UInt8),pB false]],s⟩ k=Nj w2 (λn0 s1 b2 H3=>k .ret ⟨gp [(2,.ptr 0 0 0),(0,pI n0)] 41,(.box [pS s1,pB b2]::H3),s⟩)
theorem Aa2:GO (R:=R) lf cl yh s (cd [1,1] WD):=by
 intro k w_z0 w_t1 w2 b3;unfold Nj;kernel_rfl
noncomputable def Bh2 {R:Type} (lf:Nat) (w_z0 w_t1:Bool) (w2:LL) (k0:By->Bool->Int->(List Blk)->Option R):Option R:=cond (ltI 2 (w2.length:Int)) (k0 ([]:List UInt8) false 4 [(Blk.box [(PV.s (SV.str ([]:List UInt8))),(PV.s (SV.bool false))])]) (cond ((w2.length:Int)==2) (cond (inR 1 w2.length) (cond (okE Gc w2 1 0) (cond (A3 (List.length (gX w2 1 0))) (cond (not ((C7 (gX w2 1 0))==(C7 ([105,110,99,108,117,100,101,45,115,117,98,100,111,109,97,105,110,115]:List UInt8)))) (k0 ([]:List UInt8) false 4 [(Blk.box [(PV.s (SV.str ([]:List UInt8))),(PV.s (SV.bool false))])]) (Nj w2 (λn'24 s'25 b'26 H'27=>k0 s'25 b'26 n'24 ((Blk.box [(PV.s (SV.str s'25)),(PV.s (SV.bool b'26))])::H'27)))) none) none) none) (Nj w2 (λn'28 s'29 b'30 H'31=>k0 s'29 b'30 n'28 ((Blk.box [(PV.s (SV.str s'29)),(PV.s (SV.bool b'30))])::H'31))))
theorem By7 (b_11:Code) (h_pent_j0:GO (R:=PV × List Blk × σ) lf cl yh s b_11) (w_z0 w_t1:Bool) (w2:LL):A9 (Lo lf) cl yh (cd [] (J3 [1,1] b_11 WD)) ⟨[.s (.sl w_z0 w_t1 1 w2)]++tps 44,[],s⟩ (G5 (Lo lf) Tryz.f52)=Bh2 lf w_z0 w_t1 w2 (λr0 r1 r2 H3=>some (.tup [.agg [pS r0,pB r1],pI r2],H3,s)):=by
 unfold Bh2;exact let K0:=(G5 (Lo lf) Tryz.f52);(Eq.trans (by kernel_rfl) (A0 rfl (A0 (A0 (A0 (A0 (A0 rfl ((h_pent_j0 K0 w_z0 w_t1 w2 (not ((C7 (gX w2 1 0))==(C7 ([105,110,99,108,117,100,101,45,115,117,98,100,111,109,97,105,110,115]:List UInt8))))).trans (by kernel_rfl))) rfl) rfl) rfl) ((h_pent_j0 K0 w_z0 w_t1 w2 false).trans (by kernel_rfl)))))
theorem By8 (d:Nat) (w_z0 w_t1 w2):evC (Lo lf) (d+1) σ yh 52 [.s (.sl w_z0 w_t1 1 w2)] [] s=Bh2 lf w_z0 w_t1 w2 (λr0 r1 r2 H3=>some (.tup [.agg [pS r0,pB r1],pI r2],H3,s)):=
 (evE (fn:=Tryz.f52) (by kernel_rfl)).trans (Eq.trans (by kernel_rfl) (By7 lf (evC (Lo lf) d) yh s (cd [1,1] WD) (Aa2 lf (evC (Lo lf) d) yh s) w_z0 w_t1 w2))
noncomputable abbrev Bh3 (w_z0 w_t1:Bool) (w2:LL):Option (PV × List Blk × Unit):=Bh2 LF w_z0 w_t1 w2 (λr0 r1 r2 H3=>some (.tup [.agg [pS r0,pB r1],pI r2],H3,()))
noncomputable def LI (lf:Nat):Cfg:=C8 lf [120] (A4 []) [] (A4 [(1,[2]),(0,[0])]) [] (A4 []) (some [2]) [] [] []
noncomputable def As2 {R:Type} (lf:Nat) (b0:Int) (k0:Bool->Option R):Option R:=cond (b0==32) (k0 true) (k0 (b0==9))
theorem Bj4 (d:Nat) (b0):evC (LI lf) (d+1) σ yh 120 [p8 b0] [] s=As2 lf b0 (λr0=>some (pB r0,[],s)):=by
 refine (evE (fn:=Tryz.f120) (by kernel_rfl)).trans ?_
 generalize evC (LI lf) d=cl
 unfold As2;kernel_rfl
noncomputable def AH (lf:Nat):Cfg:=C8 lf [86] (A4 []) [(120,An0)] (A4 [(1,[2]),(0,[0])]) [120] (A4 []) (some [2]) [] [] []
noncomputable def NI {R:Type} (lf:Nat) (b0:Int) (k0:Bool->Option R):Option R:=cond (BL b0) (k0 true) (cond (b0==10) (k0 true) (cond (b0==12) (k0 true) (k0 (b0==13))))
theorem A32 (d:Nat) (b0):evC (AH lf) (d+1) σ yh 86 [p8 b0] [] s=NI lf b0 (λr0=>some (pB r0,[],s)):=by
 refine (evE (fn:=Tryz.f86) (by kernel_rfl)).trans ?_
 generalize evC (AH lf) d=cl
 unfold NI;kernel_rfl
noncomputable abbrev Ep:Code:=D8 Tryz.f54
noncomputable def Q5 (lf:Nat):Cfg:=C8 lf [54] (A4 [(4,[0,1,0,0,0])]) [(86,OR)] (A4 [(10,[2]),(5,[0,2,0,0]),(9,[0,2,0,0]),(8,[0,2,1]),(7,[0,2,0,0,19]),(6,[0,2,0,0,16]),(4,[0,2,0,0,3]),(3,[0,2,0,0]),(2,[0,2,0]),(1,[0,2]),(0,[0])]) [86] (A4 [(0,[3]),(1,[0,2,0,0])]) (some [2]) [] [] []
noncomputable def Em {R:Type} (s0:By) (from1 i2:Int) (l4:LL) (k0:By->Int->Int->LL->Option R):Option R:=cond (ltI from1 i2) (cond (P0 from1 i2 s0.length) (cond (F1 (l4.length+1)) (k0 s0 (A1 (i2+1)) i2 (l4++[[(SV.str (cut s0 from1 i2))]])) none) none) (k0 s0 (A1 (i2+1)) i2 l4)
abbrev Mg (b:Code):Prop:=∀ (k:Out->St σ->Option R) s0 from1 i2 b3 l4,A9 (Q5 lf) cl yh b ⟨gp [(0,pS s0),(2,.fl 0),(0,pI from1),(0,pI i2),(16,pB b3)] 13,[.arr true 9 1 l4],s⟩ k=Em s0 from1 i2 l4 (λs0 from1 i2 l3=>k .normal ⟨gp [(0,pS s0),(2,.fl 0),(0,pI from1),(0,pI i2)] 30,[.arr true 9 1 l3],s⟩)
theorem NO:Mg (R:=R) lf cl yh s (cd [1,1,1,0,1,0,0,1,0,0,1] Ep):=by
 intro k s0 from1 i2 b3 l4;unfold Em;kernel_rfl
noncomputable def S6 {R:Type} (lf n:Nat) (s0:By) (from1 i2:Int) (l3:LL) (k0:LL->Option R):Option R:=match n with | 0=>none | n+1=>cond (not (ltI (s0.length:Int) i2)) (cond (ltI i2 (s0.length:Int)) (cond (inR i2 s0.length) (cond (not (Ic (bAt s0 i2))) (S6 lf n s0 from1 (A1 (i2+1)) l3 k0) (Em s0 from1 i2 l3 (λs'0 from'1 i'2 l'3=>S6 lf n s'0 from'1 (A1 (i'2+1)) l'3 k0))) none) (Em s0 from1 i2 l3 (λs'4 from'5 i'6 l'7=>S6 lf n s'4 from'5 (A1 (i'6+1)) l'7 k0))) (k0 l3)
theorem NP (b_11101001001:Code) (h_rwords_j0:Mg (R:=R) lf cl yh s b_11101001001) (n:Nat) (s0:By) (from1 i2:Int) (l3:LL):E5 1 ((Q5 lf).keep 4) (bd (Q5 lf) cl yh (cd [1,1,1,0,1,0,0] (J3 [1,1,1,0,1,0,0,1,0,0,1] b_11101001001 Ep))) n ⟨gp [(0,pS s0),(2,.fl 0),(0,pI from1),(0,pI i2)] 30,[.arr true 9 1 l3],s⟩ k =
 S6 lf n s0 from1 i2 l3 (λl0=>k (.exit 0) ⟨gp [(3,.fl 0)] 32,[.arr true 9 1 l0],s⟩):=by
 induction n generalizing s0 from1 i2 l3 with
 | zero=>rfl
 | succ n ih=>rw [S6];exact let K0:=(F9 1 (G1 (Q5 lf) cl yh (cd [1,1,1,0,1,0,0,1,1] Ep) (lpK 1 ((Q5 lf).keep 4) (bd (Q5 lf) cl yh (cd [1,1,1,0,1,0,0] (J3 [1,1,1,0,1,0,0,1,0,0,1] b_11101001001 Ep))) n k)));(Eq.trans (by kernel_rfl) (A0 (A0 (A0 (A0 (ih s0 from1 (A1 (i2+1)) l3) ((h_rwords_j0 K0 s0 from1 i2 (not (Ic (bAt s0 i2))) l3).trans (congr rfl (fx4 λs'0 from'1 i'2 l'3=>(Eq.trans (by kernel_rfl) (ih s'0 from'1 (A1 (i'2+1)) l'3)))))) rfl) ((h_rwords_j0 K0 s0 from1 i2 false l3).trans (congr rfl (fx4 λs'4 from'5 i'6 l'7=>(Eq.trans (by kernel_rfl) (ih s'4 from'5 (A1 (i'6+1)) l'7)))))) rfl))
noncomputable def DH {R:Type} (lf:Nat) (s0:By) (k0:LL->(List Blk)->Option R):Option R:=S6 lf lf s0 0 0 [] (λl'8=>k0 l'8 [])
theorem A50 (b_11101001001:Code) (h_rwords_j0:Mg (R:=PV × List Blk × σ) lf cl yh s b_11101001001) (s0:By):A9 (Q5 lf) cl yh (cd [] (J3 [1,1,1,0,1,0,0,1,0,0,1] b_11101001001 Ep)) ⟨[pS s0]++tps 35,[],s⟩ (G5 (Q5 lf) Tryz.f54)=DH lf s0 (λl0 H1=>some (.fl 0,(.arr true 9 1 l0::H1),s)):=by
 unfold DH;exact (Eq.trans (by kernel_rfl) ((NP lf cl yh s (F9 0 (G1 (Q5 lf) cl yh (cd [1,1,1,1] Ep) (G5 (Q5 lf) Tryz.f54))) b_11101001001 h_rwords_j0 lf s0 0 0 []).trans (by kernel_rfl)))
theorem A51 (d:Nat) (s0):evC (Q5 lf) (d+1) σ yh 54 [pS s0] [] s=DH lf s0 (λl0 H1=>some (.fl 0,(.arr true 9 1 l0::H1),s)):=
 (evE (fn:=Tryz.f54) (by kernel_rfl)).trans (Eq.trans (by kernel_rfl) (A50 lf (evC (Q5 lf) d) yh s (cd [1,1,1,0,1,0,0,1,0,0,1] Ep) (NO lf (evC (Q5 lf) d) yh s) s0))
noncomputable abbrev TN (s0:By):Option (PV × List Blk × Unit):=DH LF s0 (λl0 H1=>some (.fl 0,(.arr true 9 1 l0::H1),()))
noncomputable def WZ (lf:Nat):Cfg:=C8 lf [55] (A4 []) [(87,VR)] (A4 [(1,[4]),(0,[0,0])]) [87] (A4 []) (some [4]) [] [] []
noncomputable def B09 {R:Type} (lf:Nat) (a0 b1:By) (k0:Bool->Option R):Option R:=cond (A3 a0.length) (cond (A3 b1.length) (k0 ((C7 a0)==(C7 b1))) none) none
theorem B13 (d:Nat) (a0 b1):evC (WZ lf) (d+1) σ yh 55 [pS a0,pS b1] [] s=B09 lf a0 b1 (λr0=>some (pB r0,[],s)):=by
 refine (evE (fn:=Tryz.f55) (by kernel_rfl)).trans ?_
 generalize evC (WZ lf) d=cl
 unfold B09;kernel_rfl
noncomputable abbrev Ui:Code:=D8 Tryz.f23
noncomputable def Et (lf:Nat):Cfg:=C8 lf [23] (A4 []) [(49,Ua),(50,Oo),(51,KN),(52,VJ)] (A4 [(17,[2,0,0]),(16,[2,0,0,0,0]),(15,[2,0,0]),(14,[2,0,0,0,0,2,0,29]),(13,[2,0,0,0,0,2,0]),(12,[2,0,0]),(11,[2,0,0,0,0,1,23]),(10,[2,0,0,0,0,1,20]),(9,[2,0,0,0,0,1]),(8,[2,0,0,0,0,0]),(7,[2,0,0,0,0,0]),(6,[2,0,0,0,0,0]),(5,[2,0,0,0,0,8]),(4,[0,1,0,0,0,0]),(3,[0,1,0,0,0]),(2,[2,0,0]),(1,[0,1,0,0,8]),(0,[0,1,0,0])]) [50] (A4 [(0,[2,0,0,0]),(1,[2,0,0,0,0])]) (some [2,0,0]) [] [(106,Iv)] [] (nt:=[(23,0,63,2)]) (fr:=[(12,[0,1],[1]),(15,[0,2],[1])])
noncomputable def Ry {R:Type} (lf:Nat) (x'0:By) (xs:List By) (self:LL->Int->Option R) (l0:LL) (n1:Int) (k0:LL->Int->Option R) (k1:Blk->Int->LL->Blk->Blk->Blk->(List Blk)->Option R) (k2:Blk->Int->Int->LL->Blk->Blk->Blk->Blk->(List Blk)->Option R):Option R:=cond (A3 x'0.length) (vl ((Lib.cut x'0 ([35]:List UInt8))).1 λs'3=>vl (((Lib.cut x'0 ([35]:List UInt8))).2).1 λs'4=>cond (A3 s'3.length) (cond ((↑(List.length (C6 (G4 s'3))):Int)==0) (self l0 (A1 (n1+1))) (cond ((l0.length:Int)==1000) (k1 (Blk.arr true 63 2 []) (A1 (n1+1)) l0 (Blk.box [PV.bad]) (Blk.box [PV.bad]) (Blk.box [PV.bad]) []) (cond (List.all (C6 (G4 s'3)) isS) (cond (A3 (List.length (C6 (G4 s'3)))) (cond (List.all (List.map elS (C6 (G4 s'3))) smL) (cond (not (List.isEmpty (C6 (G4 s'3)))) (vl (((Fz (List.map elS (C6 (G4 s'3))))).1).1 λs'7=>vl (↑((Fz (List.map elS (C6 (G4 s'3))))).2:Int) λn'8=>cond (n'8 != 0) (k2 (Blk.arr true 63 2 []) (A1 (n1+1)) n'8 l0 (Blk.box [PV.bad]) (Blk.box [PV.bad]) (Blk.box [PV.bad]) (Blk.box [(PV.s (SV.str s'7)),(PV.s (SV.bool (((Fz (List.map elS (C6 (G4 s'3))))).1).2))]) []) (cond (F1 (l0.length+1)) (vl (l0++[[(SV.str s'7),(SV.bool (((Fz (List.map elS (C6 (G4 s'3))))).1).2)]]) λl'9=>self l'9 (A1 (n1+1))) none)) none) none) none) none))) none) none
noncomputable def Jv {R:Type} (lf:Nat) (L:List By) (l0:LL) (n1:Int) (k0:LL->Int->Option R) (k1:Blk->Int->LL->Blk->Blk->Blk->(List Blk)->Option R) (k2:Blk->Int->Int->LL->Blk->Blk->Blk->Blk->(List Blk)->Option R):Option R:=Cc7 (α:=LL->Int->Option R) (λl0 n1=>k0 l0 n1) (λx'0 xs self l0 n1=>Ry lf x'0 xs self l0 n1 k0 k1 k2) L l0 n1
theorem GQ {R:Type} (lf:Nat) (x'0:By) (xs:List By) (l0:LL) (n1:Int) (k0:LL->Int->Option R) (k1:Blk->Int->LL->Blk->Blk->Blk->(List Blk)->Option R) (k2:Blk->Int->Int->LL->Blk->Blk->Blk->Blk->(List Blk)->Option R):Jv lf (x'0::xs) l0 n1 k0 k1 k2=Ry lf x'0 xs (λl0 n1=>Jv lf xs l0 n1 k0 k1 k2) l0 n1 k0 k1 k2:=rfl
theorem Aa8 (L:List By) (l0:LL) (n1:Int):X2 #[16] (gp [(2,.ptr 1 0 0),(0,.ptr 2 0 0),(0,.ptr 3 0 0),(0,.ptr 5 0 0),(0,.ptr 6 0 0),(8,.fnr (Fn.func 106) [] [.bad,.bad,.bad])] 32) (bd (Et lf) cl yh (cd [1,1,1,1,0,1,0,0] Ui)) (bd (Et lf) cl yh (cd [1,1,1,1,0,1,0,1] Ui)) (L.map (λ(x'0:By)=>([pS x'0]:List PV))) [.arr true 63 2 [],.box [.fl 0],.box [pI (0:Int)],.box [pI (0:Int)],.arr true 63 2 l0,.box [.fl 4],.box [pI n1],.dead,.dead,.dead] s (rgK (gp [(2,.ptr 1 0 0),(0,.ptr 2 0 0),(0,.ptr 3 0 0),(0,.ptr 5 0 0),(0,.ptr 6 0 0),(8,.fnr (Fn.func 106) [] [.bad,.bad,.bad])] 32) (λH=>Y3 H [8,7,9] [.box [.bad],.box [.bad],.box [.bad]]) k) =
 Jv lf L l0 n1 (λl0 n1=>k .normal ⟨gp [(2,.ptr 1 0 0),(0,.ptr 2 0 0),(0,.ptr 3 0 0),(0,.ptr 5 0 0),(0,.ptr 6 0 0),(8,.fnr (Fn.func 106) [] [.bad,.bad,.bad])] 32,[.arr true 63 2 [],.box [.fl 0],.box [pI (0:Int)],.box [pI (0:Int)],.arr true 63 2 l0,.box [.fl 4],.box [pI n1],.box [.bad],.box [.bad],.box [.bad]],s⟩) (λB0 n1 l2 B3 B4 B5 H6=>k .ret ⟨gp [(2,.ptr 1 0 0),(0,.ptr 2 0 0),(0,.ptr 3 0 0),(0,.ptr 5 0 0),(0,.ptr 6 0 0),(8,.fnr (Fn.func 106) [] [.bad,.bad,.bad])] 32,(B0::.box [.fl 10]::.box [pI n1]::.box [pI (3:Int)]::.arr true 63 2 l2::.box [.fl 4]::.box [pI n1]::B3::B4::B5::.arr true 0 0 []::H6),s⟩) (λB0 n1 n2 l3 B4 B5 B6 B7 H8=>k .ret ⟨gp [(2,.ptr 1 0 0),(0,.ptr 2 0 0),(0,.ptr 3 0 0),(0,.ptr 5 0 0),(0,.ptr 6 0 0),(8,.fnr (Fn.func 106) [] [.bad,.bad,.bad])] 32,(B0::.box [.fl 11]::.box [pI n1]::.box [pI n2]::.arr true 63 2 l3::.box [.fl 4]::.box [pI n1]::B4::B5::B6::B7::.arr true 0 0 []::H8),s⟩):=by
 induction L generalizing l0 n1 with
 | nil=>rfl
 | cons x'0 xs ih=>rw [GQ];unfold Ry;exact (Eq.trans (by kernel_rfl) (A0 (A6 λs'3=>(A6 λs'4=>(A0 (A0 (ih l0 (A1 (n1+1))) (A0 rfl (A0 (A0 (A0 (A0 (A6 λs'7=>(A6 λn'8=>(A0 rfl (A0 (A6 λl'9=>(ih l'9 (A1 (n1+1)))) rfl)))) rfl) rfl) rfl) rfl))) rfl))) rfl))
noncomputable def Yj {R:Type} (lf:Nat) (s0:By) (k0:LL->Int->Option R) (k1:Blk->Int->LL->Blk->Blk->Blk->(List Blk)->Option R) (k2:Blk->Int->Int->LL->Blk->Blk->Blk->Blk->(List Blk)->Option R):Option R:=cond ((A3 s0.length)&&((1==1)&&((0:Int)==0))) (Jv lf (pcs (List.getD ([10]:List UInt8) 0 0) s0) [] 0 k0 k1 k2) none
abbrev GP (b:Code):Prop:=∀ (k:Out->St σ->Option R) s0,A9 (Et lf) cl yh b ⟨gp [(2,.ptr 1 0 0),(0,.ptr 2 0 0),(0,.ptr 3 0 0),(0,.ptr 5 0 0),(0,.ptr 6 0 0),(8,.fnr (Fn.func 106) [] [.ptr 8 0 0,.ptr 7 0 0,.ptr 9 0 0])] 32,[.arr true 63 2 [],.box [.fl 0],.box [pI (0:Int)],.box [pI (0:Int)],.arr true 63 2 [],.box [.fl 4],.box [pI (0:Int)],.box [pS s0],.box [pS ([10]:List UInt8)],.box [pI (0:Int)]],s⟩ k=Yj lf s0 (λl0 n1=>k .normal ⟨gp [(2,.ptr 1 0 0),(0,.ptr 2 0 0),(0,.ptr 3 0 0),(0,.ptr 5 0 0),(0,.ptr 6 0 0),(8,.fnr (Fn.func 106) [] [.bad,.bad,.bad])] 32,[.arr true 63 2 [],.box [.fl 0],.box [pI (0:Int)],.box [pI (0:Int)],.arr true 63 2 l0,.box [.fl 4],.box [pI n1],.box [.bad],.box [.bad],.box [.bad]],s⟩) (λB0 n1 l2 B3 B4 B5 H6=>k .ret ⟨gp [(2,.ptr 1 0 0),(0,.ptr 2 0 0),(0,.ptr 3 0 0),(0,.ptr 5 0 0),(0,.ptr 6 0 0),(8,.fnr (Fn.func 106) [] [.bad,.bad,.bad])] 32,(B0::.box [.fl 10]::.box [pI n1]::.box [pI (3:Int)]::.arr true 63 2 l2::.box [.fl 4]::.box [pI n1]::B3::B4::B5::.arr true 0 0 []::H6),s⟩) (λB0 n1 n2 l3 B4 B5 B6 B7 H8=>k .ret ⟨gp [(2,.ptr 1 0 0),(0,.ptr 2 0 0),(0,.ptr 3 0 0),(0,.ptr 5 0 0),(0,.ptr 6 0 0),(8,.fnr (Fn.func 106) [] [.bad,.bad,.bad])] 32,(B0::.box [.fl 11]::.box [pI n1]::.box [pI n2]::.arr true 63 2 l3::.box [.fl 4]::.box [pI n1]::B4::B5::B6::B7::.arr true 0 0 []::H8),s⟩)
theorem Aa7:GP (R:=R) lf cl yh s (cd [1,1,1,1,0,1,0] Ui):=by
 intro k s0;unfold Yj;exact ((B80 [1,1,1,1,0,1,0] (by kernel_rfl)).trans (by kernel_rfl)).trans (BY (Aa8 lf cl yh s k (pcs (List.getD ([10]:List UInt8) 0 0) s0) [] 0))
noncomputable def Bh7 {R:Type} (lf:Nat) (text0:By) (k0:Blk->Blk->Blk->Blk->(List Blk)->Option R) (k1:Blk->Blk->Blk->Blk->LL->(List Blk)->Option R) (k2:Int->Blk->Blk->Blk->Blk->Blk->Blk->Blk->Blk->Blk->Blk->(List Blk)->Option R) (k3:Int->Int->Blk->Blk->Blk->Blk->Blk->Blk->Blk->Blk->Blk->Blk->Blk->(List Blk)->Option R):Option R:=cond (ltI 524288 (text0.length:Int)) (k0 (Blk.arr true 63 2 []) (Blk.box [(PV.fl 4)]) (Blk.box [(PV.s (SV.int .i64 (0:Int)))]) (Blk.box [(PV.s (SV.int .i64 (3:Int)))]) []) (Yj lf text0 (λl'10 n'11=>k1 (Blk.arr true 63 2 []) (Blk.box [(PV.fl 4)]) (Blk.box [(PV.s (SV.int .i64 (0:Int)))]) (Blk.box [(PV.s (SV.int .i64 (0:Int)))]) l'10 [(Blk.box [(PV.fl 4)]),(Blk.box [(PV.s (SV.int .i64 n'11))]),(Blk.box [PV.bad]),(Blk.box [PV.bad]),(Blk.box [PV.bad])]) (λB'12 n'13 l'14 B'15 B'16 B'17 H'18=>k2 n'13 B'12 (Blk.box [(PV.fl 10)]) (Blk.box [(PV.s (SV.int .i64 n'13))]) (Blk.box [(PV.s (SV.int .i64 (3:Int)))]) (Blk.arr true 63 2 l'14) (Blk.box [(PV.fl 4)]) (Blk.box [(PV.s (SV.int .i64 n'13))]) B'15 B'16 B'17 H'18) (λB'19 n'20 n'21 l'22 B'23 B'24 B'25 B'26 H'27=>k3 n'20 n'21 B'19 (Blk.box [(PV.fl 11)]) (Blk.box [(PV.s (SV.int .i64 n'20))]) (Blk.box [(PV.s (SV.int .i64 n'21))]) (Blk.arr true 63 2 l'22) (Blk.box [(PV.fl 4)]) (Blk.box [(PV.s (SV.int .i64 n'20))]) B'23 B'24 B'25 B'26 H'27))
theorem Bz3 (b_1111010:Code) (h_pprs_e1:GP (R:=PV × List Blk × σ) lf cl yh s b_1111010) (text0:By):A9 (Et lf) cl yh (cd [] (J3 [1,1,1,1,0,1,0] b_1111010 Ui)) ⟨[pS text0]++tps 47,[],s⟩ (G5 (Et lf) Tryz.f23)=Bh7 lf text0 (λB0 B1 B2 B3 H4=>some (.tup [.fl 4,pI (0:Int),pI (3:Int)],(B0::B1::B2::B3::.arr true 0 0 []::H4),s)) (λB0 B1 B2 B3 l4 H5=>some (.tup [.fl 4,pI (0:Int),pI (0:Int)],(B0::B1::B2::B3::.arr true 63 2 l4::H5),s)) (λr0 B1 B2 B3 B4 B5 B6 B7 B8 B9 B10 H11=>some (.tup [.fl 10,pI r0,pI (3:Int)],(B1::B2::B3::B4::B5::B6::B7::B8::B9::B10::.arr true 0 0 []::H11),s)) (λr0 r1 B2 B3 B4 B5 B6 B7 B8 B9 B10 B11 B12 H13=>some (.tup [.fl 11,pI r0,pI r1],(B2::B3::B4::B5::B6::B7::B8::B9::B10::B11::B12::.arr true 0 0 []::H13),s)):=by
 unfold Bh7;exact (Eq.trans (by kernel_rfl) (A0 rfl ((h_pprs_e1 (F9 0 (G1 (Et lf) cl yh (cd [1,1,1,1,1] Ui) (G5 (Et lf) Tryz.f23))) text0).trans (by kernel_rfl))))
theorem Bz4 (d:Nat) (text0):evC (Et lf) (d+1) σ yh 23 [pS text0] [] s=Bh7 lf text0 (λB0 B1 B2 B3 H4=>some (.tup [.fl 4,pI (0:Int),pI (3:Int)],(B0::B1::B2::B3::.arr true 0 0 []::H4),s)) (λB0 B1 B2 B3 l4 H5=>some (.tup [.fl 4,pI (0:Int),pI (0:Int)],(B0::B1::B2::B3::.arr true 63 2 l4::H5),s)) (λr0 B1 B2 B3 B4 B5 B6 B7 B8 B9 B10 H11=>some (.tup [.fl 10,pI r0,pI (3:Int)],(B1::B2::B3::B4::B5::B6::B7::B8::B9::B10::.arr true 0 0 []::H11),s)) (λr0 r1 B2 B3 B4 B5 B6 B7 B8 B9 B10 B11 B12 H13=>some (.tup [.fl 11,pI r0,pI r1],(B2::B3::B4::B5::B6::B7::B8::B9::B10::B11::B12::.arr true 0 0 []::H13),s)):=
 (evE (fn:=Tryz.f23) (by kernel_rfl)).trans (Eq.trans (by kernel_rfl) (Bz3 lf (evC (Et lf) d) yh s (cd [1,1,1,1,0,1,0] Ui) (Aa7 lf (evC (Et lf) d) yh s) text0))
noncomputable abbrev Bh8 (text0:By):Option (PV × List Blk × Unit):=Bh7 LF text0 (λB0 B1 B2 B3 H4=>some (.tup [.fl 4,pI (0:Int),pI (3:Int)],(B0::B1::B2::B3::.arr true 0 0 []::H4),())) (λB0 B1 B2 B3 l4 H5=>some (.tup [.fl 4,pI (0:Int),pI (0:Int)],(B0::B1::B2::B3::.arr true 63 2 l4::H5),())) (λr0 B1 B2 B3 B4 B5 B6 B7 B8 B9 B10 H11=>some (.tup [.fl 10,pI r0,pI (3:Int)],(B1::B2::B3::B4::B5::B6::B7::B8::B9::B10::.arr true 0 0 []::H11),())) (λr0 r1 B2 B3 B4 B5 B6 B7 B8 B9 B10 B11 B12 H13=>some (.tup [.fl 11,pI r0,pI r1],(B2::B3::B4::B5::B6::B7::B8::B9::B10::B11::B12::.arr true 0 0 []::H13),()))
noncomputable abbrev Al:Code:=D8 Tryz.f24
noncomputable def R5 (lf:Nat):Cfg:=C8 lf [24] (A4 [(6,[2,0,0,0,0,0])]) [(53,Hs),(54,OS),(55,A91),(56,EV)] (A4 [(20,[2,0,0]),(7,[5,0,0]),(19,[5,0,0]),(18,[2,0,0]),(17,[5,0,0,0,0,0,59]),(16,[5,0,0,0,0,0]),(15,[5,0,0,0,0,0,57]),(14,[5,0,0,0,0,0]),(13,[2,0,0]),(12,[5,0,0,0,43]),(11,[2,0,0]),(10,[5,0,0,0,26]),(9,[5,0,0,0,23]),(8,[5,0,0,0]),(6,[5,0,0,11]),(5,[5,0,0]),(4,[5,0]),(3,[0,4]),(2,[2,0,0]),(1,[0,12]),(0,[0])]) [55] (A4 [(0,[5]),(1,[5,0,0])]) (some [2,0,0]) [] [] []
noncomputable def Sp {R:Type} (i1:Int) (l4:LL) (n5:Int) (s6:By) (n7 n8v n9 n10 n11 n12 n13 n14 n15:Int) (k0:Int->Blk->Blk->(List Blk)->Option R):Option R:=k0 (A1 (i1+1)) (Blk.arr true 63 2 l4) (Blk.box [(PV.s (SV.int .i64 n5)),(PV.s (SV.str s6)),(PV.s (SV.int .u32 n7)),(PV.s (SV.int .u16 n8v)),(PV.s (SV.int .u16 n9)),(PV.s (SV.int .u16 n10)),(PV.s (SV.int .u16 n11)),(PV.s (SV.int .u16 n12)),(PV.s (SV.int .u16 n13)),(PV.s (SV.int .u16 n14)),(PV.s (SV.int .u16 n15))]) []
abbrev DB (b:Code):Prop:=∀ (k:Out->St σ->Option R) lines0 i1 w_z2 w3 l4 n5 s6 n7 n8v n9 n10 n11 n12 n13 n14 n15,A9 (R5 lf) cl yh b ⟨gp [(5,.fl 0),(0,.s (.sl false false 1 lines0)),(0,pI i1),(0,.s (.sl w_z2 w_z2 1 w3)),(0,.ptr 1 0 0),(0,pI (14:Int))] 73,[.arr true 63 2 l4,.box [pI n5,pS s6,p32 n7,p16 n8v,p16 n9,p16 n10,p16 n11,p16 n12,p16 n13,p16 n14,p16 n15]],s⟩ k=Sp i1 l4 n5 s6 n7 n8v n9 n10 n11 n12 n13 n14 n15 (λn0 B1 B2 H3=>k .ret ⟨gp [(2,.fl 2),(0,pI n0),(0,pI (14:Int))] 79,(B1::B2::.arr true 63 2 []::H3),s⟩)
theorem TC:DB (R:=R) lf cl yh s (cd [1,1,1,1,0,1,0,0,1,0,0,1,1,1,1,1,1] Al):=by
 intro k lines0 i1 w_z2 w3 l4 n5 s6 n7 n8v n9 n10 n11 n12 n13 n14 n15;unfold Sp;kernel_rfl
noncomputable def Mc {R:Type} (lines0:LL) (i1:Int) (w3:LL) (e4:Int) (l6:LL) (n7:Int) (s8:By) (n9 n10 n11 n12 n13 n14 n15 n16 n17:Int) (k0:Int->Int->Blk->Blk->(List Blk)->Option R) (k1:LL->Int->LL->Int->By->Int->Int->Int->Int->Int->Int->Int->Int->Int->Option R):Option R:=cond (e4 != 0) (k0 (A1 (i1+1)) e4 (Blk.arr true 63 2 l6) (Blk.box [(PV.s (SV.int .i64 n7)),(PV.s (SV.str s8)),(PV.s (SV.int .u32 n9)),(PV.s (SV.int .u16 n10)),(PV.s (SV.int .u16 n11)),(PV.s (SV.int .u16 n12)),(PV.s (SV.int .u16 n13)),(PV.s (SV.int .u16 n14)),(PV.s (SV.int .u16 n15)),(PV.s (SV.int .u16 n16)),(PV.s (SV.int .u16 n17))]) []) (cond (F1 (l6.length+1)) (vl (l6++[[(SV.str s8),(SV.bool ((w3.length:Int)==2))]]) λl'36=>k1 lines0 i1 l'36 n7 s8 n9 n10 n11 n12 n13 n14 n15 n16 n17) none)
abbrev DD (b:Code):Prop:=∀ (k:Out->St σ->Option R) lines0 i1 w_z2 w3 e4 b5 l6 n7 s8 n9 n10 n11 n12 n13 n14 n15 n16 n17,A9 (R5 lf) cl yh b ⟨gp [(5,.fl 0),(0,.s (.sl false false 1 lines0)),(0,pI i1),(0,.s (.sl w_z2 w_z2 1 w3)),(0,.ptr 1 0 0),(0,pI e4),(57,pB b5)] 15,[.arr true 63 2 l6,.box [pI n7,pS s8,p32 n9,p16 n10,p16 n11,p16 n12,p16 n13,p16 n14,p16 n15,p16 n16,p16 n17]],s⟩ k=Mc lines0 i1 w3 e4 l6 n7 s8 n9 n10 n11 n12 n13 n14 n15 n16 n17 (λn0 n1 B2 B3 H4=>k .ret ⟨gp [(2,.fl 2),(0,pI n0),(0,pI n1)] 79,(B2::B3::.arr true 63 2 []::H4),s⟩) (λlines0 i1 l2 n3 s4 n5 n6 n7 n8v n9 n10 n11 n12 n13=>k .normal ⟨gp [(5,.fl 0),(0,.s (.sl false false 1 lines0)),(0,pI i1)] 76,[.arr true 63 2 l2,.box [pI n3,pS s4,p32 n5,p16 n6,p16 n7,p16 n8v,p16 n9,p16 n10,p16 n11,p16 n12,p16 n13]],s⟩)
theorem TD:DD (R:=R) lf cl yh s (cd [1,1,1,1,0,1,0,0,1,0,0,1,1,1,1,1,1] Al):=by
 intro k lines0 i1 w_z2 w3 e4 b5 l6 n7 s8 n9 n10 n11 n12 n13 n14 n15 n16 n17;unfold Mc;kernel_rfl
noncomputable def Cw {R:Type} (lines0:LL) (i1:Int) (w3 l5:LL) (k0:Int->Int->Blk->Blk->(List Blk)->Option R) (k1:LL->Int->LL->Int->By->Int->Int->Int->Int->Int->Int->Int->Int->Int->Option R):Option R:=cond (inR 0 w3.length) (cond (okE Gc w3 0 0) (cond (A3 (List.length (gX w3 0 0))) (vl (↑(E6.kind ((C4 (gX w3 0 0))).1):Int) λn'20=>vl (E6.name ((C4 (gX w3 0 0))).1) λs'21=>vl (↑(E6.v4 ((C4 (gX w3 0 0))).1):Int) λn'22=>vl (↑(List.getD (E6.v6 ((C4 (gX w3 0 0))).1) 0 0):Int) λn'23=>vl (↑(List.getD (E6.v6 ((C4 (gX w3 0 0))).1) 1 0):Int) λn'24=>vl (↑(List.getD (E6.v6 ((C4 (gX w3 0 0))).1) 2 0):Int) λn'25=>vl (↑(List.getD (E6.v6 ((C4 (gX w3 0 0))).1) 3 0):Int) λn'26=>vl (↑(List.getD (E6.v6 ((C4 (gX w3 0 0))).1) 4 0):Int) λn'27=>vl (↑(List.getD (E6.v6 ((C4 (gX w3 0 0))).1) 5 0):Int) λn'28=>vl (↑(List.getD (E6.v6 ((C4 (gX w3 0 0))).1) 6 0):Int) λn'29=>vl (↑(List.getD (E6.v6 ((C4 (gX w3 0 0))).1) 7 0):Int) λn'30=>vl (↑((C4 (gX w3 0 0))).2:Int) λn'31=>cond (n'31==0) (cond (n'20 != 1) (Sp i1 l5 n'20 s'21 n'22 n'23 n'24 n'25 n'26 n'27 n'28 n'29 n'30 (λn'32 B'33 B'34 H'35=>k0 n'32 14 B'33 B'34 H'35)) (Mc lines0 i1 w3 n'31 l5 n'20 s'21 n'22 n'23 n'24 n'25 n'26 n'27 n'28 n'29 n'30 (λn'37 n'38 B'39 B'40 H'41=>k0 n'37 n'38 B'39 B'40 H'41) (λlines'42 i'43 l'44 n'45 s'46 n'47 n'48 n'49 n'50 n'51 n'52 n'53 n'54 n'55=>k1 lines'42 i'43 l'44 n'45 s'46 n'47 n'48 n'49 n'50 n'51 n'52 n'53 n'54 n'55))) (Mc lines0 i1 w3 n'31 l5 n'20 s'21 n'22 n'23 n'24 n'25 n'26 n'27 n'28 n'29 n'30 (λn'56 n'57 B'58 B'59 H'60=>k0 n'56 n'57 B'58 B'59 H'60) (λlines'61 i'62 l'63 n'64 s'65 n'66 n'67 n'68 n'69 n'70 n'71 n'72 n'73 n'74=>k1 lines'61 i'62 l'63 n'64 s'65 n'66 n'67 n'68 n'69 n'70 n'71 n'72 n'73 n'74))) none) none) none
abbrev Kb (b:Code):Prop:=∀ (k:Out->St σ->Option R) lines0 i1 w_z2 w3 b4 l5,A9 (R5 lf) cl yh b ⟨gp [(5,.fl 0),(0,.s (.sl false false 1 lines0)),(0,pI i1),(0,.s (.sl w_z2 w_z2 1 w3)),(43,pB b4)] 31,[.arr true 63 2 l5],s⟩ k=Cw lines0 i1 w3 l5 (λn0 n1 B2 B3 H4=>k .ret ⟨gp [(2,.fl 2),(0,pI n0),(0,pI n1)] 79,(B2::B3::.arr true 63 2 []::H4),s⟩) (λlines0 i1 l2 n3 s4 n5 n6 n7 n8v n9 n10 n11 n12 n13=>k .normal ⟨gp [(5,.fl 0),(0,.s (.sl false false 1 lines0)),(0,pI i1)] 76,[.arr true 63 2 l2,.box [pI n3,pS s4,p32 n5,p16 n6,p16 n7,p16 n8v,p16 n9,p16 n10,p16 n11,p16 n12,p16 n13]],s⟩)
theorem TE (b_11110100100111111:Code) (h_rpprs_j0:DB (R:=R) lf cl yh s b_11110100100111111) (h_rpprs_j1:DD (R:=R) lf cl yh s b_11110100100111111):Kb (R:=R) lf cl yh s (cd [1,1,1,1,0,1,0,0,1,0,0,1,1,1,1] (J3 [1,1,1,1,0,1,0,0,1,0,0,1,1,1,1,1,1] b_11110100100111111 Al)):=by
 intro k lines0 i1 w_z2 w3 b4 l5;unfold Cw;exact (Eq.trans (by kernel_rfl) (A0 (A0 (A0 (A6 λn'20=>(A6 λs'21=>(A6 λn'22=>(A6 λn'23=>(A6 λn'24=>(A6 λn'25=>(A6 λn'26=>(A6 λn'27=>(A6 λn'28=>(A6 λn'29=>(A6 λn'30=>(A6 λn'31=>(A0 (A0 ((h_rpprs_j0 k lines0 i1 w_z2 w3 l5 n'20 s'21 n'22 n'23 n'24 n'25 n'26 n'27 n'28 n'29 n'30).trans (by kernel_rfl)) ((h_rpprs_j1 k lines0 i1 w_z2 w3 n'31 (n'20 != 1) l5 n'20 s'21 n'22 n'23 n'24 n'25 n'26 n'27 n'28 n'29 n'30).trans (by kernel_rfl))) ((h_rpprs_j1 k lines0 i1 w_z2 w3 n'31 false l5 n'20 s'21 n'22 n'23 n'24 n'25 n'26 n'27 n'28 n'29 n'30).trans (by kernel_rfl))))))))))))))) rfl) rfl) rfl))
theorem TF:Kb (R:=R) lf cl yh s (cd [1,1,1,1,0,1,0,0,1,0,0,1,1,1,1] Al):=by
 intro k lines0 i1 w_z2 w3 b4 l5;exact Eq.trans (by kernel_rfl) (TE lf cl yh s (cd [1,1,1,1,0,1,0,0,1,0,0,1,1,1,1,1,1] Al) (TC lf cl yh s) (TD lf cl yh s) k lines0 i1 w_z2 w3 b4 l5)
noncomputable def R1 {R:Type} (lf n:Nat) (lines0:LL) (i1:Int) (l2:LL) (k0:Int->Int->Blk->(List Blk)->Option R) (k1:Int->Int->Blk->Blk->(List Blk)->Option R) (k2:LL->Option R):Option R:=match n with | 0=>none | n+1=>cond (ltI i1 (lines0.length:Int)) (cond (inR i1 lines0.length) (cond (okE Gc lines0 (Int.toNat i1) 0) (vl (gX lines0 (Int.toNat i1) 0) λs'5=>cond (A3 s'5.length) (vl (C6 (pcs (u8n (35:Int)) s'5)) λl'6=>cond (inR 0 l'6.length) (cond (okE Gc l'6 0 0) (cond (A3 (List.length (gX l'6 0 0))) (vl (C6 (G4 (gX l'6 0 0))) λl'7=>cond ((l'7.length:Int)==0) (R1 lf n lines0 (A1 (i1+1)) l2 k0 k1 k2) (cond ((l2.length:Int)==1000) (k0 (A1 (i1+1)) 3 (Blk.arr true 63 2 l2) []) (cond (ltI 2 (l'7.length:Int)) (k0 (A1 (i1+1)) 4 (Blk.arr true 63 2 l2) []) (cond ((l'7.length:Int)==2) (cond (inR 1 l'7.length) (cond (okE Gc l'7 1 0) (cond (A3 (List.length (gX l'7 1 0))) (cond (not ((C7 (gX l'7 1 0))==(C7 ([105,110,99,108,117,100,101,45,115,117,98,100,111,109,97,105,110,115]:List UInt8)))) (k0 (A1 (i1+1)) 4 (Blk.arr true 63 2 l2) []) (Cw lines0 i1 l'7 l2 (λn'75 n'76 B'77 B'78 H'79=>k1 n'75 n'76 B'77 B'78 H'79) (λlines'80 i'81 l'82 n'83 s'84 n'85 n'86 n'87 n'88 n'89 n'90 n'91 n'92 n'93=>vl (A1 (i'81+1)) λn'94=>R1 lf n lines'80 n'94 l'82 k0 k1 k2))) none) none) none) (Cw lines0 i1 l'7 l2 (λn'95 n'96 B'97 B'98 H'99=>k1 n'95 n'96 B'97 B'98 H'99) (λlines'100 i'101 l'102 n'103 s'104 n'105 n'106 n'107 n'108 n'109 n'110 n'111 n'112 n'113=>vl (A1 (i'101+1)) λn'114=>R1 lf n lines'100 n'114 l'102 k0 k1 k2)))))) none) none) none) none) none) none) (k2 l2)
theorem TH (b_111101001001111:Code) (h_rpprs_j2:Kb (R:=R) lf cl yh s b_111101001001111) (n:Nat) (lines0:LL) (i1:Int) (l2:LL):E5 1 ((R5 lf).keep 6) (bd (R5 lf) cl yh (cd [1,1,1,1,0,1,0,0] (J3 [1,1,1,1,0,1,0,0,1,0,0,1,1,1,1] b_111101001001111 Al))) n ⟨gp [(5,.fl 0),(0,.s (.sl false false 1 lines0)),(0,pI i1)] 76,[.arr true 63 2 l2],s⟩ k =
 R1 lf n lines0 i1 l2 (λn0 n1 B2 H3=>k .ret ⟨gp [(2,.fl 1),(0,pI n0),(0,pI n1)] 79,(B2::.arr true 63 2 []::H3),s⟩) (λn0 n1 B2 B3 H4=>k .ret ⟨gp [(2,.fl 2),(0,pI n0),(0,pI n1)] 79,(B2::B3::.arr true 63 2 []::H4),s⟩) (λl0=>k (.exit 0) ⟨gp [(5,.fl 0)] 78,[.arr true 63 2 l0],s⟩):=by
 induction n generalizing lines0 i1 l2 with
 | zero=>rfl
 | succ n ih=>rw [R1];exact let K0:=(F9 1 (G1 (R5 lf) cl yh (cd [1,1,1,1,0,1,0,0,1,1] Al) (lpK 1 ((R5 lf).keep 6) (bd (R5 lf) cl yh (cd [1,1,1,1,0,1,0,0] (J3 [1,1,1,1,0,1,0,0,1,0,0,1,1,1,1] b_111101001001111 Al))) n k)));(Eq.trans (by kernel_rfl) (A0 (A0 (A0 (A6 λs'5=>(A0 (A6 λl'6=>(A0 (A0 (A0 (A6 λl'7=>(A0 (ih lines0 (A1 (i1+1)) l2) (A0 rfl (A0 rfl (A0 (A0 (A0 (A0 (A0 rfl ((h_rpprs_j2 K0 lines0 i1 (List.isEmpty (G4 (gX l'6 0 0))) l'7 (not ((C7 (gX l'7 1 0))==(C7 ([105,110,99,108,117,100,101,45,115,117,98,100,111,109,97,105,110,115]:List UInt8)))) l2).trans (congr (congr rfl (by kernel_rfl)) (fx1 λlines'80=>(fx1 λi'81=>(fx1 λl'82=>(fx1 λn'83=>(fx1 λs'84=>(fx1 λn'85=>(fx1 λn'86=>(fx1 λn'87=>(fx1 λn'88=>(fx1 λn'89=>(fx1 λn'90=>(fx1 λn'91=>(fx1 λn'92=>(fx1 λn'93=>(Eq.trans (by kernel_rfl) (A6 λn'94=>(ih lines'80 n'94 l'82)))))))))))))))))))) rfl) rfl) rfl) ((h_rpprs_j2 K0 lines0 i1 (List.isEmpty (G4 (gX l'6 0 0))) l'7 false l2).trans (congr (congr rfl (by kernel_rfl)) (fx1 λlines'100=>(fx1 λi'101=>(fx1 λl'102=>(fx1 λn'103=>(fx1 λs'104=>(fx1 λn'105=>(fx1 λn'106=>(fx1 λn'107=>(fx1 λn'108=>(fx1 λn'109=>(fx1 λn'110=>(fx1 λn'111=>(fx1 λn'112=>(fx1 λn'113=>(Eq.trans (by kernel_rfl) (A6 λn'114=>(ih lines'100 n'114 l'102)))))))))))))))))))))))) rfl) rfl) rfl)) rfl)) rfl) rfl) rfl))
noncomputable def TB {R:Type} (lf:Nat) (text0:By) (k0:Int->LL->(List Blk)->Option R) (k1:Int->Int->Blk->(List Blk)->Option R) (k2:Int->Int->Blk->Blk->(List Blk)->Option R):Option R:=cond (ltI 524288 (text0.length:Int)) (k0 3 [] []) (cond (A3 text0.length) (vl (C6 (pcs (u8n (10:Int)) text0)) λl'1=>R1 lf lf l'1 0 [] (λn'115 n'116 B'117 H'118=>k1 n'115 n'116 B'117 H'118) (λn'119 n'120 B'121 B'122 H'123=>k2 n'119 n'120 B'121 B'122 H'123) (λl'124=>k0 0 l'124 [])) none)
theorem Bk2 (b_111101001001111:Code) (h_rpprs_j2:Kb (R:=PV × List Blk × σ) lf cl yh s b_111101001001111) (text0:By):A9 (R5 lf) cl yh (cd [] (J3 [1,1,1,1,0,1,0,0,1,0,0,1,1,1,1] b_111101001001111 Al)) ⟨[pS text0]++tps 83,[],s⟩ (G5 (R5 lf) Tryz.f24)=TB lf text0 (λr0 l1 H2=>some (.tup [.fl 0,pI (0:Int),pI r0],(.arr true 63 2 l1::H2),s)) (λr0 r1 B2 H3=>some (.tup [.fl 1,pI r0,pI r1],(B2::.arr true 63 2 []::H3),s)) (λr0 r1 B2 B3 H4=>some (.tup [.fl 2,pI r0,pI r1],(B2::B3::.arr true 63 2 []::H4),s)):=by
 unfold TB;exact (Eq.trans (by kernel_rfl) (A0 rfl (A0 (A6 λl'1=>((TH lf cl yh s (F9 0 (G1 (R5 lf) cl yh (cd [1,1,1,1,1] Al) (G5 (R5 lf) Tryz.f24))) b_111101001001111 h_rpprs_j2 lf l'1 0 []).trans (by kernel_rfl))) rfl)))
theorem Bk3 (d:Nat) (text0):evC (R5 lf) (d+1) σ yh 24 [pS text0] [] s=TB lf text0 (λr0 l1 H2=>some (.tup [.fl 0,pI (0:Int),pI r0],(.arr true 63 2 l1::H2),s)) (λr0 r1 B2 H3=>some (.tup [.fl 1,pI r0,pI r1],(B2::.arr true 63 2 []::H3),s)) (λr0 r1 B2 B3 H4=>some (.tup [.fl 2,pI r0,pI r1],(B2::B3::.arr true 63 2 []::H4),s)):=
 (evE (fn:=Tryz.f24) (by kernel_rfl)).trans (Eq.trans (by kernel_rfl) (Bk2 lf (evC (R5 lf) d) yh s (cd [1,1,1,1,0,1,0,0,1,0,0,1,1,1,1] Al) (TF lf (evC (R5 lf) d) yh s) text0))
noncomputable abbrev As9 (text0:By):Option (PV × List Blk × Unit):=TB LF text0 (λr0 l1 H2=>some (.tup [.fl 0,pI (0:Int),pI r0],(.arr true 63 2 l1::H2),())) (λr0 r1 B2 H3=>some (.tup [.fl 1,pI r0,pI r1],(B2::.arr true 63 2 []::H3),())) (λr0 r1 B2 B3 H4=>some (.tup [.fl 2,pI r0,pI r1],(B2::B3::.arr true 63 2 []::H4),()))
noncomputable abbrev An9:Code:=D8 Tryz.f25
noncomputable def Jc (lf:Nat):Cfg:=C8 lf [25] (A4 [(4,[0,0,2,0])]) [] (A4 [(8,[4]),(5,[0,0,3]),(7,[4]),(6,[0,0,3,19]),(4,[0,0,3,8]),(3,[0,0,3]),(2,[4]),(1,[0,0,8]),(0,[0,0])]) [] (A4 [(0,[]),(1,[0,0,3])]) (some [4]) [] [] []
noncomputable def Ff {R:Type} (lf n:Nat) (a_z0 a_t1:Bool) (a2:LL) (b_z3 b_t4:Bool) (b5:LL) (i6:Int) (k0:Unit->Option R) (k1:Unit->Option R):Option R:=match n with | 0=>none | n+1=>cond (ltI i6 (a2.length:Int)) (cond (inR i6 a2.length) (cond (okE ⟨true,true,[.str,.bool]⟩ a2 (Int.toNat i6) 0) (cond (inR i6 b5.length) (cond (okE ⟨true,true,[.str,.bool]⟩ b5 (Int.toNat i6) 0) (cond (not (((gX a2 (Int.toNat i6) 0)==(gX b5 (Int.toNat i6) 0))&&(((gY a2 (Int.toNat i6) 1)==(gY b5 (Int.toNat i6) 1))&&true))) (k0 ()) (Ff lf n a_z0 a_t1 a2 b_z3 b_t4 b5 (A1 (i6+1)) k0 k1)) none) none) none) none) (k1 ())
theorem QY (n:Nat) (a_z0 a_t1:Bool) (a2:LL) (b_z3 b_t4:Bool) (b5:LL) (i6:Int):E5 0 ((Jc lf).keep 4) (bd (Jc lf) cl yh (cd [1,1,0,1,0,0] An9)) n ⟨gp [(0,.s (.sl a_z0 a_t1 2 a2)),(0,.s (.sl b_z3 b_t4 2 b5)),(3,pI i6)] 20,[],s⟩ k =
 Ff lf n a_z0 a_t1 a2 b_z3 b_t4 b5 i6 (λ_=>k .ret ⟨gp [(4,pB false)] 21,[],s⟩) (λ_=>k (.exit 0) ⟨gp [] 26,[],s⟩):=by
 induction n generalizing a_z0 a_t1 a2 b_z3 b_t4 b5 i6 with
 | zero=>rfl
 | succ n ih=>rw [Ff];simp only [<-ih];kernel_rfl
noncomputable def Ap6 {R:Type} (lf:Nat) (a_z0 a_t1:Bool) (a2:LL) (b_z3 b_t4:Bool) (b5:LL) (k0:Bool->Option R):Option R:=cond ((a2.length:Int) != (b5.length:Int)) (k0 false) (Ff lf lf a_z0 a_t1 a2 b_z3 b_t4 b5 0 (λ_=>k0 false) (λ_=>k0 true))
theorem Bf3 (d:Nat) (a_z0 a_t1 a2 b_z3 b_t4 b5):evC (Jc lf) (d+1) σ yh 25 [.s (.sl a_z0 a_t1 2 a2),.s (.sl b_z3 b_t4 2 b5)] [] s=Ap6 lf a_z0 a_t1 a2 b_z3 b_t4 b5 (λr0=>some (pB r0,[],s)):=by
 refine (evE (fn:=Tryz.f25) (by kernel_rfl)).trans ?_
 generalize evC (Jc lf) d=cl
 unfold Ap6;exact (Eq.trans (by kernel_rfl) (A0 rfl ((QY lf cl yh s (F9 0 (G1 (Jc lf) cl yh (cd [1,1,1] An9) (G5 (Jc lf) Tryz.f25))) lf a_z0 a_t1 a2 b_z3 b_t4 b5 0).trans (by kernel_rfl))))
noncomputable def PH (lf:Nat):Cfg:=C8 lf [6] (A4 []) [(22,Tl),(23,VK),(24,KA),(25,IR)] (A4 [(5,[2]),(4,[3,0,0,0,0,0]),(3,[0,2,0,0]),(2,[2]),(1,[0,10]),(0,[0])]) [22,25] (A4 []) (some [2]) [] [] []
noncomputable def lpp {R:Type} (lf:Nat) (text0:By) (k0:Bool->Option R):Option R:=cond (ltI 5000 (text0.length:Int)) (k0 true) (cond (A3 text0.length) (vl (J8 ((N0 text0)).1) λl'3=>vl (↑(((N0 text0)).2).1:Int) λn'4=>vl (↑(((N0 text0)).2).2:Int) λn'5=>cond (A3 text0.length) (vl (J8 ((N0 text0)).1) λl'9=>vl (↑(((N0 text0)).2).1:Int) λn'10=>vl (↑(((N0 text0)).2).2:Int) λn'11=>cond (List.all l'3 Cs) (cond (A3 l'3.length) (cond (List.all l'9 Cs) (cond (A3 l'9.length) (cond ((List.map V6 l'3)==(List.map V6 l'9)) (cond (n'4==n'10) (cond (n'5==n'11) (k0 true) (k0 false)) (k0 false)) (k0 false)) none) none) none) none) none) none)
theorem Cb9 (d:Nat) (text0):evC (PH lf) (d+1) σ yh 6 [pS text0] [] s=lpp lf text0 (λr0=>some (pB r0,[],s)):=by
 refine (evE (fn:=Tryz.f6) (by kernel_rfl)).trans ?_
 generalize evC (PH lf) d=cl
 unfold lpp;kernel_rfl
end
end
section
open Go Go.Op
set_option maxRecDepth 100000
theorem Ax9 {R:Type} {k0:Bool->Option R} (c:Int):Bu1 LF c k0=k0 (BL c):=by unfold Bu1 BL;cases (c==32)<;>rfl
theorem Ae4 {R:Type} {k0:Bool->Option R} (c:Int):As2 LF c k0=k0 (BL c):=by unfold As2 BL;cases (c==32)<;>rfl
theorem YL {R:Type} {k0:Bool->Option R} (c:Int):Ap4 LF c k0=k0 (Ic c):=by unfold Ap4 Ic;cases BL c<;>cases (c==10)<;>cases (c==12)<;>rfl
theorem SL {R:Type} {k0:Bool->Option R} (c:Int):NI LF c k0=k0 (Ic c):=by unfold NI Ic;cases BL c<;>cases (c==10)<;>cases (c==12)<;>rfl
theorem Bd2 {R:Type} {k0:Bool->Option R} (s p:By) (h0:A3 s.length=true) (h1:A3 p.length=true):eqf LF s p k0=k0 (C7 s==C7 p):=by unfold eqf;rw [h0,h1];rfl
theorem A25 {R:Type} {k0:Bool->Option R} (s p:By) (h0:A3 s.length=true) (h1:A3 p.length=true):B09 LF s p k0=k0 (C7 s==C7 p):=by unfold B09;rw [h0,h1];rfl
theorem LQ {s:By} {a b:Nat} (h:a<b) (hb:b<=s.length):(cut s (a:Int) (b:Int)).isEmpty=false:=by
 rw [Gg,List.isEmpty_eq_false_iff]
 intro e
 have:=congrArg List.length e
 simp at this
 omega
theorem Ak6 {R:Type} {k0:LL->Option R} (s:By) (hs:s.length<=1000000000):∀ (r i fr n:Nat) (l:List By),i+r=s.length->r+1<n->fr<=i->l.length<=i->
  W4 LF n s (fr:Int) (i:Int) (C6 l) k0=k0 (C6 (l++Le (cut s (fr:Int) (i:Int)) (s.drop i))):=by
 intro r
 induction r with
 | zero=>
  intro i fr n l hi hn hf hl
  obtain ⟨n,rfl⟩:∃ m,n=m+1:=⟨n-1,by omega⟩
  obtain ⟨n,rfl⟩:∃ m,n=m+1:=⟨n-1,by omega⟩
  have hi':i=s.length:=by omega
  subst hi'
  rw [W4,D1 (by omega),List.drop_length]
  unfold Ir
  have e1:A1 ((s.length:Int)+1)=((s.length+1:Nat):Int):=by rw [A5];rfl
  by_cases hfi:fr<s.length
  ·rw [C2 (by omega),T3 (by omega) (by omega) (by omega),D4,E0 (by omega),e1]
   simp only [Bool.not_false,cond_true,cond_false]
   rw [W4,C2 (by omega),Le,LQ hfi (Nat.le_refl _)]
   simp only [Bool.not_true,cond_false,Bool.false_eq_true,if_false,Fv]
   rfl
  ·obtain rfl:fr=s.length:=by omega
   rw [D1 (by omega),e1]
   simp only [Bool.not_false,cond_true,cond_false]
   rw [W4,C2 (by omega),Le,Db]
   simp
 | succ r ih=>
  intro i fr n l hi hn hf hl
  obtain ⟨n,rfl⟩:∃ m,n=m+1:=⟨n-1,by omega⟩
  have e1:A1 ((i:Int)+1)=((i+1:Nat):Int):=by rw [A5];rfl
  rw [W4,D1 (by omega),C2 (by omega),K2 (by omega) (by omega),F4,F7 s i (by omega),e1]
  simp only [Bool.not_false,cond_true]
  unfold Ir
  have hsp:Ic ((s.getD i 0).toNat:Int)=spB (s.getD i 0):=rfl
  rw [hsp]
  cases hb:spB (s.getD i 0) with
  | false=>
   rw [Bool.not_false,cond_true,ih (i+1) fr n l (by omega) (by omega) (by omega) (by omega),Bc6 s fr i hf (by omega)]
   rw [Le,hb]
   rfl
  | true=>
   rw [Bool.not_true,cond_false,Le,hb,if_pos rfl]
   by_cases hfi:fr<i
   ·rw [C2 (by omega),T3 (by omega) (by omega) (by omega),D4,E0 (by omega),e1,LQ hfi (by omega)]
    simp only [cond_true,Bool.false_eq_true,if_false]
    have:=ih (i+1) (i+1) n (l++[cut s (fr:Int) (i:Int)]) (by omega) (by omega) (by omega) (by simp;omega)
    rw [Db,List.append_assoc] at this
    rw [e1,show C6 l++[[SV.str (cut s (fr:Int) (i:Int))]]=C6 (l++[cut s (fr:Int) (i:Int)]) by rw [Fv];rfl]
    exact this
   ·obtain rfl:fr=i:=by omega
    rw [D1 (by omega),e1,Db]
    simp only [cond_false,List.isEmpty_nil,if_true]
    have:=ih (fr+1) (fr+1) n l (by omega) (by omega) (by omega) (by omega)
    rw [Db] at this
    rw [e1]
    exact this
theorem Bn7 (s:By) (h0:A3 s.length=true):∃ r H,At6 s=rv r H/\r.stab [1] H = .s (.sl (List.isEmpty (G4 s)) (List.isEmpty (G4 s)) 1 (C6 (G4 s))):=by
 have hs:=K8 h0
 have hLF:=D7
 have:=Ak6 (k0:=λl=>some (PV.fl 0,[Blk.arr true 9 1 l],())) s hs s.length 0 0 LF [] (by omega) (by omega) (by omega) (by simp)
 unfold At6 UK
 refine ⟨_,_,this,?_⟩
 rw [Db,List.nil_append,List.drop_zero]
 show PV.stab [1] [Blk.arr true _ 1 (C6 (G4 s))] (.fl 0)=_
 simp only [PV.stab,Ld,PV.snap,List.headD_cons,List.getElem?_cons_zero,Bool.true_and]
 have:(C6 (G4 s)).isEmpty=(G4 s).isEmpty:=by cases G4 s<;>rfl
 rw [this]
 rfl
theorem TM {R:Type} {k0:LL->Option R} (s:By) (hs:s.length<=1000000000):∀ (r i fr n:Nat) (l:List By),i+r=s.length->r+1<n->fr<=i->l.length<=i->
  S6 LF n s (fr:Int) (i:Int) (C6 l) k0=k0 (C6 (l++Le (cut s (fr:Int) (i:Int)) (s.drop i))):=by
 intro r
 induction r with
 | zero=>
  intro i fr n l hi hn hf hl
  obtain ⟨n,rfl⟩:∃ m,n=m+1:=⟨n-1,by omega⟩
  obtain ⟨n,rfl⟩:∃ m,n=m+1:=⟨n-1,by omega⟩
  have hi':i=s.length:=by omega
  subst hi'
  rw [S6,D1 (by omega),List.drop_length]
  unfold Em
  have e1:A1 ((s.length:Int)+1)=((s.length+1:Nat):Int):=by rw [A5];rfl
  by_cases hfi:fr<s.length
  ·rw [C2 (by omega),T3 (by omega) (by omega) (by omega),D4,E0 (by omega),e1]
   simp only [Bool.not_false,cond_true,cond_false]
   rw [S6,C2 (by omega),Le,LQ hfi (Nat.le_refl _)]
   simp only [Bool.not_true,cond_false,Bool.false_eq_true,if_false,Fv]
   rfl
  ·obtain rfl:fr=s.length:=by omega
   rw [D1 (by omega),e1]
   simp only [Bool.not_false,cond_true,cond_false]
   rw [S6,C2 (by omega),Le,Db]
   simp
 | succ r ih=>
  intro i fr n l hi hn hf hl
  obtain ⟨n,rfl⟩:∃ m,n=m+1:=⟨n-1,by omega⟩
  have e1:A1 ((i:Int)+1)=((i+1:Nat):Int):=by rw [A5];rfl
  rw [S6,D1 (by omega),C2 (by omega),K2 (by omega) (by omega),F4,F7 s i (by omega),e1]
  simp only [Bool.not_false,cond_true]
  unfold Em
  have hsp:Ic ((s.getD i 0).toNat:Int)=spB (s.getD i 0):=rfl
  rw [hsp]
  cases hb:spB (s.getD i 0) with
  | false=>
   rw [Bool.not_false,cond_true,ih (i+1) fr n l (by omega) (by omega) (by omega) (by omega),Bc6 s fr i hf (by omega)]
   rw [Le,hb]
   rfl
  | true=>
   rw [Bool.not_true,cond_false,Le,hb,if_pos rfl]
   by_cases hfi:fr<i
   ·rw [C2 (by omega),T3 (by omega) (by omega) (by omega),D4,E0 (by omega),e1,LQ hfi (by omega)]
    simp only [cond_true,Bool.false_eq_true,if_false]
    have:=ih (i+1) (i+1) n (l++[cut s (fr:Int) (i:Int)]) (by omega) (by omega) (by omega) (by simp;omega)
    rw [Db,List.append_assoc] at this
    rw [e1,show C6 l++[[SV.str (cut s (fr:Int) (i:Int))]]=C6 (l++[cut s (fr:Int) (i:Int)]) by rw [Fv];rfl]
    exact this
   ·obtain rfl:fr=i:=by omega
    rw [D1 (by omega),e1,Db]
    simp only [cond_false,List.isEmpty_nil,if_true]
    have:=ih (fr+1) (fr+1) n l (by omega) (by omega) (by omega) (by omega)
    rw [Db] at this
    rw [e1]
    exact this
theorem A52 (s:By) (h0:A3 s.length=true):∃ r H,TN s=rv r H/\r.stab [1] H = .s (.sl (List.isEmpty (G4 s)) (List.isEmpty (G4 s)) 1 (C6 (G4 s))):=by
 have hs:=K8 h0
 have hLF:=D7
 have:=TM (k0:=λl=>some (PV.fl 0,[Blk.arr true 9 1 l],())) s hs s.length 0 0 LF [] (by omega) (by omega) (by omega) (by simp)
 unfold TN DH
 refine ⟨_,_,this,?_⟩
 rw [Db,List.nil_append,List.drop_zero]
 show PV.stab [1] [Blk.arr true _ 1 (C6 (G4 s))] (.fl 0)=_
 simp only [PV.stab,Ld,PV.snap,List.headD_cons,List.getElem?_cons_zero,Bool.true_and]
 have:(C6 (G4 s)).isEmpty=(G4 s).isEmpty:=by cases G4 s<;>rfl
 rw [this]
 rfl
theorem Cj7 (l:List By):(C6 l).map elS=l:=by unfold C6;rw [List.map_map];exact List.map_id'' (λ_=>rfl) _
theorem Ys (n:Nat):((n:Int)==2)=(n==2):=by rw [Bool.eq_iff_iff,beq_iff_eq,beq_iff_eq];omega
theorem ZJ (n:Nat):((n:Int) != 0) = !(n==0):=by rw [Bool.eq_iff_iff,bne_iff_ne,Bool.not_eq_true',beq_eq_false_iff_ne];omega
theorem Bq1 (n:Nat):((n:Int)==0)=(n==0):=by rw [Bool.eq_iff_iff,beq_iff_eq,beq_iff_eq];omega
theorem Ar5 (n:Nat):((n:Int) != 1) = !(n==1):=by rw [Bool.eq_iff_iff,bne_iff_ne,Bool.not_eq_true',beq_eq_false_iff_ne];omega
theorem Aa3 {R:Type} (W:List By) (hw:0<W.length) (s0:A3 (W.getD 0 []).length=true):∃ H,∀ k0:Int->By->Bool->List Blk->Option R,Nj (C6 W) k0=k0 ((V2 W).2:Nat) (V2 W).1.1 (V2 W).1.2 H:=by
 apply Exists.intro;intro k0
 unfold Nj V2
 rw [K2 (by omega) (by rw [D4];omega),L2 hw,O7,s0]
 simp only [cond_true,vl,ZJ,Ar5,D4,Ys]
 by_cases h1:(C4 (W.getD 0 [])).2=0
 ·rw [show ((C4 (W.getD 0 [])).2==0)=true by simpa using h1,if_neg (by simpa using h1)]
  by_cases h2:(C4 (W.getD 0 [])).1.kind=1
  ·rw [show ((C4 (W.getD 0 [])).1.kind==1)=true by simpa using h2,if_neg (by simpa using h2)]
   exact rfl
  ·rw [show ((C4 (W.getD 0 [])).1.kind==1)=false by simpa using h2,if_pos h2]
   rfl
 ·rw [show ((C4 (W.getD 0 [])).2==0)=false by simpa using h1,if_pos h1]
  rfl
theorem By9 (z t:Bool) (w:LL) (h0:w.all isS=true) (h1:A3 w.length=true) (h2:List.all (w.map elS) smL=true) (h3:(!w.isEmpty)=true) :
  ∃ r H,Bh3 z t w=rv r H/\r.stab [0,0] H = .tup [.agg [pS (Fz (w.map elS)).1.1,pB (Fz (w.map elS)).1.2],pI (Fz (w.map elS)).2]:=by
 have hr:=At2 h0
 generalize hW:w.map elS=W at hr h2 ⊢
 subst hr
 have hw:0<W.length:=by
  cases W with
  | nil=>cases h3
  | cons a r=>simp
 have sm:∀ i,i<W.length->A3 (W.getD i []).length=true:=λi hi=>by
  rw [List.getD_eq_getElem?_getD,List.getElem?_eq_getElem hi]
  exact List.all_eq_true.1 h2 _ (List.getElem_mem hi)
 obtain ⟨H,j0⟩:=Aa3 (R:=PV × List Blk × Unit) W hw (sm 0 hw)
 unfold Bh3 Bh2 Fz
 simp only [D4,O7,Ys,j0,show C7 ([105,110,99,108,117,100,101,45,115,117,98,100,111,109,97,105,110,115]:List UInt8)=C7 QC from rfl]
 by_cases c1:2<W.length
 ·rw [C2 (by omega),if_pos c1];exact ⟨_,_,rfl,rfl⟩
 rw [D1 (by omega),if_neg c1,cond_false]
 cases c2:(W.length==2) with
 | false=>exact ⟨_,_,rfl,rfl⟩
 | true=>
  have c2:W.length=2:=eq_of_beq c2
  rw [K2 (by omega) (by omega),L2 (by omega),sm 1 (by omega)]
  simp only [cond_true,Bool.true_and]
  cases c3:(C7 (W.getD 1 [])==C7 QC)<;>exact ⟨_,_,rfl,rfl⟩
abbrev Ci8:Blk:=.arr true 63 2 []
theorem GR {R:Type} (k0:LL->Int->Option R) (k1:Blk->Int->LL->Blk->Blk->Blk->List Blk->Option R) (k2:Blk->Int->Int->LL->Blk->Blk->Blk->Blk->List Blk->Option R):∀ (L:List By) (n:Nat) (out:List Ent),(∀ u∈L,A3 u.length=true)->n+L.length<=1000000000->out.length<=1000->
  (∃ n',Jv LF L (J8 out) (n:Int) k0 k1 k2=k0 (J8 (U5 L n out).1) n'/\(U5 L n out).2=(0,0))\/
  (∃ l B3 B4 B5 H,Jv LF L (J8 out) (n:Int) k0 k1 k2=k1 Ci8 ((U5 L n out).2.1:Nat) l B3 B4 B5 H/\(U5 L n out).1=[]/\(U5 L n out).2.2=3)\/
  (∃ l B3 B4 B5 B6 H,Jv LF L (J8 out) (n:Int) k0 k1 k2=k2 Ci8 ((U5 L n out).2.1:Nat) ((U5 L n out).2.2:Nat) l B3 B4 B5 B6 H/\(U5 L n out).1=[])
 | [],n,out,_,_,_=>.inl ⟨_,rfl,rfl⟩
 | s::r,n,out,hs,hn,ho=>by
  have gs:=hs s (by simp)
  have gc:A3 (Lib.cut s [35]).1.length=true:=F5 (by have:=(PP s).2;have:=K8 gs;omega)
  have e1:A1 ((n:Int)+1)=((n+1:Nat):Int):=by rw [A5];rfl
  have ih:=λout (h:out.length<=1000)=>GR k0 k1 k2 r (n+1) out (λu hu=>hs u (by simp [hu])) (by simp only [List.length_cons] at hn;omega) h
  obtain ⟨w1,w2⟩:=UN gc
  rw [GQ]
  unfold Ry U5
  simp only [vl,gs,gc,cond_true,D4,Bq1,e1,Cj7,Bl2] at w1 w2 ⊢
  simp only [w1,w2,cond_true,I7]
  generalize G4 (Lib.cut s [35]).1=W
  cases W with
  | nil=>exact ih out ho
  | cons a q=>
   rw [show ((a::q).length==0)=false from rfl,show (a::q).isEmpty=false from rfl,show (C6 (a::q)).isEmpty=false from rfl]
   simp only [cond_false,Bool.not_false,cond_true,Bool.false_eq_true,if_false]
   by_cases c1:out.length=1000
   ·rw [show ((out.length:Int)==1000)=true by rw [beq_iff_eq];omega,if_pos c1]
    exact .inr (.inl ⟨_,_,_,_,_,rfl,rfl,rfl⟩)
   ·rw [show ((out.length:Int)==1000)=false by rw [beq_eq_false_iff_ne];omega,if_neg c1,ZJ]
    by_cases c2:(Fz (a::q)).2=0
    ·rw [show ((Fz (a::q)).2==0)=true by simpa using c2,if_neg (by simpa using c2),E0 (by omega)]
     have:=ih (out++[(Fz (a::q)).1]) (by simp;omega)
     rw [show J8 (out++[(Fz (a::q)).1])=J8 out++[[SV.str (Fz (a::q)).1.1,SV.bool (Fz (a::q)).1.2]] by simp [J8,Uy]] at this
     exact this
    ·rw [show ((Fz (a::q)).2==0)=false by simpa using c2,if_pos c2]
     exact .inr (.inr ⟨_,_,_,_,_,_,rfl,rfl⟩)
theorem RD {t:By} (h:t.length<=524288):(∀ u∈pcs 10 t,A3 u.length=true)/\(pcs 10 t).length<=524289:=by
 refine ⟨λu hu=>F5 (by have:=(X1 hu).2;omega),?_⟩
 rw [Ar]
 have:=List.count_le_length (a:=(10:UInt8)) (l:=t)
 omega
abbrev Bx8 (t:By):PV:=.tup [.s (.sl (List.isEmpty (N0 t).1) (List.isEmpty (N0 t).1) 2 (J8 (N0 t).1)),pI (N0 t).2.1,pI (N0 t).2.2]
theorem Ao8 (l:List Ent):(J8 l).isEmpty=l.isEmpty:=by cases l<;>rfl
theorem Bz5 (t:By) (h:A3 t.length=true):∃ r H,Bh8 t=rv r H/\r.stab [2,0,0] H=Bx8 t:=by
 unfold Bh8 Bh7 Bx8 N0
 by_cases c1:524288<t.length
 ·rw [C2 (by omega),if_pos c1]
  exact ⟨_,_,rfl,rfl⟩
 ·rw [D1 (by omega),if_neg c1,cond_false]
  obtain ⟨l1,l2⟩:=RD (t:=t) (by omega)
  unfold Yj
  rw [h]
  simp only [show ((1:Nat)==1)=true from rfl,show ((0:Int)==0)=true from rfl,Bool.and_self,cond_true,show ((1:Int)==1)=true from rfl,Bool.true_and]
  rcases GR (R:=PV × List Blk × Unit) _ _ _ (pcs 10 t) 0 [] l1 (by omega) (Nat.zero_le _) with ⟨n',e,k⟩ | ⟨l,B3,B4,B5,H,e,k,k3⟩ | ⟨l,B3,B4,B5,B6,H,e,k⟩
  ·refine ⟨_,_,e,?_⟩
   rw [k]
   show PV.tup [.s (.sl (true&&(J8 (U5 (pcs 10 t) 0 []).1).isEmpty) (true&&(J8 (U5 (pcs 10 t) 0 []).1).isEmpty) 2 (J8 (U5 (pcs 10 t) 0 []).1)),pI 0,pI 0]=_
   rw [Ao8]
   rfl
  ·refine ⟨_,_,e,?_⟩
   rw [k,k3]
   rfl
  ·refine ⟨_,_,e,?_⟩
   rw [k]
   rfl
theorem BN {R:Type} (z t z2 t2:Bool) (a b:List Ent) (k0 k1:Unit->Option R) (hab:a.length=b.length) (hl:a.length<=1000000000):∀ (r i m:Nat),i+r=a.length->r<m->Ff LF m z t (J8 a) z2 t2 (J8 b) (i:Int) k0 k1=cond (a.drop i==b.drop i) (k1 ()) (k0 ())
 | 0,i,m,hi,hm=>by
  obtain ⟨m,rfl⟩:∃ q,m=q+1:=⟨m-1,by omega⟩
  rw [Ff,D1 (by rw [I7];omega),List.drop_of_length_le (by omega),List.drop_of_length_le (by omega)]
  rfl
 | r+1,i,m,hi,hm=>by
  obtain ⟨m,rfl⟩:∃ q,m=q+1:=⟨m-1,by omega⟩
  have ha:i<a.length:=by omega
  have hb:i<b.length:=by omega
  have e2:A1 ((i:Int)+1)=((i+1:Nat):Int):=by rw [A5];rfl
  rw [Ff,C2 (by rw [I7];omega),K2 (by omega) (by rw [I7];omega),K2 (by omega) (by rw [I7];omega),Int.toNat_natCast,Rt ha,Rt hb,BC ha,BC hb,Bd7 ha,Bd7 hb,e2,BN z t z2 t2 a b k0 k1 hab hl r (i+1) m (by omega) (by omega),AT noE ha,AT noE hb]
  simp only [cond_true]
  have heq:((a.getD i noE::a.drop (i+1))==(b.getD i noE::b.drop (i+1)))=((((a.getD i noE).1==(b.getD i noE).1)&&(((a.getD i noE).2==(b.getD i noE).2)&&true))&&(a.drop (i+1)==b.drop (i+1))):=by
   rw [Bool.and_true];rfl
  rw [heq]
  cases (((a.getD i noE).1==(b.getD i noE).1)&&(((a.getD i noE).2==(b.getD i noE).2)&&true))<;>rfl
theorem YM {R:Type} {k0:Bool->Option R} (z t:Bool) (l:LL) (z2 t2:Bool) (m:LL) (h0:l.all Cs=true) (h1:A3 l.length=true) (h2:m.all Cs=true) (h3:A3 m.length=true):Ap6 LF z t l z2 t2 m k0=k0 (l.map V6==m.map V6):=by
 have hLF:=D7
 have ha:=K8 h1
 have hb:=K8 h3
 have r1:=Qv h0
 have r2:=Qv h2
 generalize l.map V6=A at r1 ⊢
 generalize m.map V6=B at r2 ⊢
 subst r1 r2
 rw [I7] at ha hb
 unfold Ap6
 rw [I7,I7]
 by_cases h:A.length=B.length
 ·rw [show ((A.length:Int) != (B.length:Int))=false by rw [h];simp,cond_false]
  refine Eq.trans (BN z t z2 t2 A B _ _ h ha A.length 0 LF (by omega) (by omega)) ?_
  rw [List.drop_zero,List.drop_zero]
  cases (A==B)<;>rfl
 ·rw [show ((A.length:Int) != (B.length:Int))=true by rw [bne_iff_ne];omega,cond_true,show (A==B)=false by rw [beq_eq_false_iff_ne];rintro rfl;exact h rfl]
end
section
open Go Go.Proofs
set_option maxRecDepth 100000
def Tru (x:Option (PV × List Blk × Unit)):Prop:=∃ H,x=some (.s (.bool true),H,())
end
section
open Go Go.Op
set_option maxRecDepth 100000
theorem TG {R:Type} (lines:LL) (i:Nat) (W:List By) (out:List Ent) (k0:Int->Int->Blk->Blk->List Blk->Option R) (k1:LL->Int->LL->Int->By->Int->Int->Int->Int->Int->Int->Int->Int->Int->Option R) (hw:0<W.length) (s0:A3 (W.getD 0 []).length=true) (ho:out.length<=1000) (hi:i<=1000000000) :
  ((V2 W).2=0->∃ n s a1 a2 a3 a4 a5 a6 a7 a8 a9,Cw lines (i:Int) (C6 W) (J8 out) k0 k1=k1 lines (i:Int) (J8 (out++[(V2 W).1])) n s a1 a2 a3 a4 a5 a6 a7 a8 a9)/\
  ((V2 W).2≠0->∃ B B' H,Cw lines (i:Int) (C6 W) (J8 out) k0 k1=k0 ((i+1:Nat):Int) ((V2 W).2:Nat) B B' H):=by
 have e1:A1 ((i:Int)+1)=((i+1:Nat):Int):=by rw [A5];rfl
 unfold Cw Sp Mc V2
 rw [K2 (by omega) (by rw [D4];omega),L2 hw,O7,s0]
 simp only [cond_true,vl,ZJ,Bq1,Ar5,D4,Ys,I7,e1]
 rw [E0 (by omega)]
 generalize C4 (W.getD 0 [])=p
 by_cases h1:p.2=0
 ·rw [show (p.2==0)=true by simpa using h1,if_neg (by simpa using h1)]
  by_cases h2:p.1.kind=1
  ·rw [show (p.1.kind==1)=true by simpa using h2,if_neg (by simpa using h2)]
   refine ⟨λ_=>⟨(p.1.kind:Int),p.1.name,(p.1.v4:Int),((p.1.v6.getD 0 0:Nat):Int),((p.1.v6.getD 1 0:Nat):Int),((p.1.v6.getD 2 0:Nat):Int),((p.1.v6.getD 3 0:Nat):Int),((p.1.v6.getD 4 0:Nat):Int),((p.1.v6.getD 5 0:Nat):Int),((p.1.v6.getD 6 0:Nat):Int),((p.1.v6.getD 7 0:Nat):Int),?_⟩,λh=>absurd rfl h⟩
   rw [show J8 (out++[(p.1.name,W.length==2)])=J8 out++[[SV.str p.1.name,SV.bool (W.length==2)]] by simp [J8,Uy]]
   rfl
  ·rw [show (p.1.kind==1)=false by simpa using h2,if_pos h2]
   exact ⟨λh=>(by cases h),λ_=>⟨_,_,_,rfl⟩⟩
 ·rw [show (p.2==0)=false by simpa using h1,if_pos h1]
  exact ⟨λh=>absurd h h1,λ_=>⟨_,_,_,rfl⟩⟩
theorem DE {R:Type} (k0:Int->Int->Blk->List Blk->Option R) (k1:Int->Int->Blk->Blk->List Blk->Option R) (k2:LL->Option R) (L:List By) (hs:∀ u∈L,A3 u.length=true) (hL:L.length<=1000000000):∀ (r i m:Nat) (out:List Ent),i+r=L.length->r<m->out.length<=1000->
  (R1 LF m (C6 L) (i:Int) (J8 out) k0 k1 k2=k2 (J8 (U5 (L.drop i) i out).1)/\(U5 (L.drop i) i out).2=(0,0))\/
  (∃ B H,R1 LF m (C6 L) (i:Int) (J8 out) k0 k1 k2=k0 ((U5 (L.drop i) i out).2.1:Nat) ((U5 (L.drop i) i out).2.2:Nat) B H/\(U5 (L.drop i) i out).1=[])\/
  (∃ B B' H,R1 LF m (C6 L) (i:Int) (J8 out) k0 k1 k2=k1 ((U5 (L.drop i) i out).2.1:Nat) ((U5 (L.drop i) i out).2.2:Nat) B B' H/\(U5 (L.drop i) i out).1=[])
 | 0,i,m,out,hi,hm,ho=>by
  obtain ⟨m,rfl⟩:∃ q,m=q+1:=⟨m-1,by omega⟩
  rw [R1,D1 (by rw [D4];omega),List.drop_of_length_le (by omega)]
  exact .inl ⟨rfl,rfl⟩
 | r+1,i,m,out,hi,hm,ho=>by
  obtain ⟨m,rfl⟩:∃ q,m=q+1:=⟨m-1,by omega⟩
  have hlt:i<L.length:=by omega
  have e1:A1 ((i:Int)+1)=((i+1:Nat):Int):=by rw [A5];rfl
  have ih:=λout (h:out.length<=1000)=>DE k0 k1 k2 L hs hL r (i+1) m out (by omega) (by omega) h
  have gs:A3 (L.getD i []).length=true:=by
   rw [List.getD_eq_getElem?_getD,List.getElem?_eq_getElem hlt]
   exact hs _ (List.getElem_mem hlt)
  obtain ⟨ch,cl⟩:=PP (L.getD i [])
  have gc:A3 (Lib.cut (L.getD i []) [35]).1.length=true:=F5 (by have:=K8 gs;omega)
  have hp:0<(pcs 35 (L.getD i [])).length:=List.length_pos_iff.2 (Vq _ _)
  obtain ⟨w1,w2⟩:=UN gc
  rw [R1,C2 (by rw [D4];omega),K2 (by omega) (by rw [D4];omega),Int.toNat_natCast,L2 hlt,O7,AT [] hlt]
  unfold U5
  simp only [cond_true,vl,gs,show u8n (35:Int)=(35:UInt8) from rfl]
  rw [K2 (by omega) (by rw [D4];omega),L2 hp,O7,ch,gc]
  simp only [cond_true,D4,Bq1,Ys,I7,e1]
  have w2:(G4 (Lib.cut (L.getD i []) [35]).1).all smL=true:=by rw [Cj7] at w2;exact w2
  generalize G4 (Lib.cut (L.getD i []) [35]).1=W at w2 ⊢
  have sm:∀ j,j<W.length->A3 (W.getD j []).length=true:=λj hj=>by
   rw [List.getD_eq_getElem?_getD,List.getElem?_eq_getElem hj]
   exact List.all_eq_true.1 w2 _ (List.getElem_mem hj)
  cases W with
  | nil=>exact ih out ho
  | cons a q=>
   rw [show ((a::q).length==0)=false from rfl,show (a::q).isEmpty=false from rfl]
   simp only [cond_false,Bool.false_eq_true,if_false]
   have hw:0<(a::q).length:=by simp
   by_cases c1:out.length=1000
   ·rw [show ((out.length:Int)==1000)=true by rw [beq_iff_eq];omega,if_pos c1]
    exact .inr (.inl ⟨_,_,rfl,rfl⟩)
   rw [show ((out.length:Int)==1000)=false by rw [beq_eq_false_iff_ne];omega,if_neg c1,cond_false]
   unfold Fz
   by_cases c2:2<(a::q).length
   ·rw [C2 (by omega),if_pos c2,if_pos (by simp)]
    exact .inr (.inl ⟨_,_,rfl,rfl⟩)
   rw [D1 (by omega),if_neg c2,cond_false]
   have tail:∀ {k:Option R},(∀ (k1':LL->Int->LL->Int->By->Int->Int->Int->Int->Int->Int->Int->Int->Int->Option R),(∀ l j o n s a1 a2 a3 a4 a5 a6 a7 a8 a9,k1' l j o n s a1 a2 a3 a4 a5 a6 a7 a8 a9=R1 LF m l (A1 (j+1)) o k0 k1 k2)->k=Cw (C6 L) (i:Int) (C6 (a::q)) (J8 out) (λn'75 n'76 B'77 B'78 H'79=>k1 n'75 n'76 B'77 B'78 H'79) k1')->
     (k=k2 (J8 (if (V2 (a::q)).2≠0 then ([],i+1,(V2 (a::q)).2) else U5 (L.drop (i+1)) (i+1) (out++[(V2 (a::q)).1])).1)/\(if (V2 (a::q)).2≠0 then ([],i+1,(V2 (a::q)).2) else U5 (L.drop (i+1)) (i+1) (out++[(V2 (a::q)).1])).2=(0,0))\/
     (∃ B H,k=k0 ((if (V2 (a::q)).2≠0 then ([],i+1,(V2 (a::q)).2) else U5 (L.drop (i+1)) (i+1) (out++[(V2 (a::q)).1])).2.1:Nat) ((if (V2 (a::q)).2≠0 then ([],i+1,(V2 (a::q)).2) else U5 (L.drop (i+1)) (i+1) (out++[(V2 (a::q)).1])).2.2:Nat) B H/\(if (V2 (a::q)).2≠0 then ([],i+1,(V2 (a::q)).2) else U5 (L.drop (i+1)) (i+1) (out++[(V2 (a::q)).1])).1=[])\/
     (∃ B B' H,k=k1 ((if (V2 (a::q)).2≠0 then ([],i+1,(V2 (a::q)).2) else U5 (L.drop (i+1)) (i+1) (out++[(V2 (a::q)).1])).2.1:Nat) ((if (V2 (a::q)).2≠0 then ([],i+1,(V2 (a::q)).2) else U5 (L.drop (i+1)) (i+1) (out++[(V2 (a::q)).1])).2.2:Nat) B B' H/\(if (V2 (a::q)).2≠0 then ([],i+1,(V2 (a::q)).2) else U5 (L.drop (i+1)) (i+1) (out++[(V2 (a::q)).1])).1=[]):=fun {k} hk=>by
    have hk:=hk (λl j o _ _ _ _ _ _ _ _ _ _ _=>R1 LF m l (A1 (j+1)) o k0 k1 k2) (λ_ _ _ _ _ _ _ _ _ _ _ _ _ _=>rfl)
    obtain ⟨j1,j2⟩:=TG (C6 L) i (a::q) out (λn'75 n'76 B'77 B'78 H'79=>k1 n'75 n'76 B'77 B'78 H'79) (λl j o _ _ _ _ _ _ _ _ _ _ _=>R1 LF m l (A1 (j+1)) o k0 k1 k2) hw (sm 0 hw) ho (by omega)
    rw [hk]
    by_cases c4:(V2 (a::q)).2=0
    ·rw [if_neg (by simpa using c4)]
     obtain ⟨_,_,_,_,_,_,_,_,_,_,_,e⟩:=j1 c4
     rw [e]
     simp only [e1]
     exact ih (out++[(V2 (a::q)).1]) (by simp;omega)
    ·rw [if_pos c4]
     obtain ⟨_,_,_,e⟩:=j2 c4
     rw [e]
     exact .inr (.inr ⟨_,_,_,rfl,rfl⟩)
   cases c3:((a::q).length==2) with
   | false=>
    simp only [cond_false,Bool.false_and,Bool.false_eq_true,if_false]
    exact tail λk1' hk1=>by congr 1;funext l j o n s a1 a2 a3 a4 a5 a6 a7 a8 a9;exact (hk1 l j o n s a1 a2 a3 a4 a5 a6 a7 a8 a9).symm
   | true=>
    have c3':(a::q).length=2:=eq_of_beq c3
    rw [K2 (by omega) (by omega),L2 (by omega),O7,sm 1 (by omega)]
    simp only [cond_true,Bool.true_and,show C7 ([105,110,99,108,117,100,101,45,115,117,98,100,111,109,97,105,110,115]:List UInt8)=C7 QC from rfl]
    cases c5:(C7 ((a::q).getD 1 [])==C7 QC) with
    | false=>
     simp only [Bool.not_false,cond_true,if_true]
     rw [if_pos (by simp)]
     exact .inr (.inl ⟨_,_,rfl,rfl⟩)
    | true=>
     simp only [Bool.not_true,cond_false,Bool.false_eq_true,if_false]
     exact tail λk1' hk1=>by congr 1;funext l j o n s a1 a2 a3 a4 a5 a6 a7 a8 a9;exact (hk1 l j o n s a1 a2 a3 a4 a5 a6 a7 a8 a9).symm
theorem Bk4 (t:By) (h:A3 t.length=true):∃ r H,As9 t=rv r H/\r.stab [2,0,0] H=Bx8 t:=by
 have hLF:=D7
 unfold As9 TB Bx8 N0
 by_cases c1:524288<t.length
 ·rw [C2 (by omega),if_pos c1]
  exact ⟨_,_,rfl,rfl⟩
 ·rw [D1 (by omega),if_neg c1,cond_false,h]
  simp only [cond_true,vl,show u8n (10:Int)=(10:UInt8) from rfl]
  obtain ⟨l1,l2⟩:=RD (t:=t) (by omega)
  have:=DE (R:=PV × List Blk × Unit) (λn'115 n'116 B'117 H'118=>some (.tup [.fl 1,pI n'115,pI n'116],(B'117::.arr true 63 2 []::H'118),())) (λn'119 n'120 B'121 B'122 H'123=>some (.tup [.fl 2,pI n'119,pI n'120],(B'121::B'122::.arr true 63 2 []::H'123),())) (λl'124=>some (.tup [.fl 0,pI (0:Int),pI (0:Int)],(.arr true 63 2 l'124::[]),())) (pcs 10 t) l1 (by omega) (pcs 10 t).length 0 LF [] (by omega) (by omega) (Nat.zero_le _)
  rw [List.drop_zero] at this
  rcases this with ⟨e,k⟩ | ⟨B,H,e,k⟩ | ⟨B,B',H,e,k⟩
  ·refine ⟨_,_,e,?_⟩
   rw [k]
   show PV.tup [.s (.sl (true&&(J8 (U5 (pcs 10 t) 0 []).1).isEmpty) (true&&(J8 (U5 (pcs 10 t) 0 []).1).isEmpty) 2 (J8 (U5 (pcs 10 t) 0 []).1)),pI 0,pI 0]=_
   rw [Ao8]
   rfl
  ·refine ⟨_,_,e,?_⟩
   rw [k]
   rfl
  ·refine ⟨_,_,e,?_⟩
   rw [k]
   rfl
theorem Aa4:∀ (L:List By) (n:Nat) (out:List Ent),out.length<=1000->(U5 L n out).1.length<=1000
 | [],n,out,h=>h
 | s::r,n,out,h=>by
  unfold U5
  split
  ·exact Aa4 r (n+1) out h
  ·split
   ·simp
   ·split
    ·simp
    ·exact Aa4 r (n+1) _ (by simp;omega)
theorem A04 (t:By):(N0 t).1.length<=1000:=by
 unfold N0
 split
 ·simp
 ·exact Aa4 _ _ _ (Nat.zero_le _)
theorem Aw2 (l:List Ent):(J8 l).all Cs=true:=by
 rw [List.all_eq_true]
 intro x hx
 obtain ⟨e,_,rfl⟩:=List.mem_map.1 hx
 rfl
theorem Bf7 (t:By):Tru (evC (PH LF) 1 Unit noY 6 [pS t] [] ()):=by
 refine Eq.subst (motive:=Tru) (Cb9 (σ:=Unit) LF noY () 0 t).symm ?_
 unfold lpp
 by_cases c1:(5000:Int)<t.length
 ·rw [C2 c1];exact ⟨_,rfl⟩
 have gt:A3 t.length=true:=F5 (by omega)
 have gl:A3 (J8 (N0 t).1).length=true:=F5 (by rw [I7];have:=A04 t;omega)
 rw [A7,gt]
 simp only [cond_true,cond_false,vl,Aw2,gl,beq_self_eq_true]
 exact ⟨_,rfl⟩
theorem Bw2 (args:List PV) (h:It Tryz.prog [9] args):∃ d Hc,evC (PH LF) d Unit noY 6 args [] ()=some (.s (.bool true),Hc,()):=by
 obtain ⟨v4',q4,rfl,h4,rfl⟩:=h
 obtain ⟨s,rfl,_⟩:=Bq9 h4 (by kernel_rfl) (by kernel_rfl)
 obtain ⟨H,e⟩:=Bf7 s
 exact ⟨1,H,e⟩
end
section
open Go Go.Proofs
set_option maxRecDepth 100000
section
theorem IA:C0 Tryz.prog GX 181 Hq:=λargs ret Hc h=>by
 have:M0 (Hq args)=none:=by unfold Hq Yt;split<;>rfl
 rw [this] at h;cases h
theorem Bo5:C0 Tryz.prog GX 154 VF:=xf [] (WS LF) JA rfl trivial rfl (by kernel_rfl) follows λargs=>by
 unfold JA;split
 ·rename_i s p;exact λh0=>⟨rfl,rfl,rfl,_,_,(Bw4 LF noY () 0 s p).trans (Az3 s p h0),rfl⟩
 ·trivial
theorem Al1:C0 Tryz.prog GX 112 IL:=xf [] (WL LF) IM rfl ⟨Bo5,trivial⟩ rfl (by kernel_rfl) follows λargs=>by
 unfold IM;split
 ·rename_i s p;exact λh0=>⟨rfl,rfl,rfl,_,_,(Bt9 LF noY () 0 s p).trans (Ax2 s p h0),rfl⟩
 ·trivial
theorem Cg0:C0 Tryz.prog GX 180 A82:=xf [] (WT LF) JD rfl trivial rfl (by kernel_rfl) follows λargs=>by
 unfold JD;split
 ·rename_i s p;exact λh0=>⟨rfl,rfl,rfl,_,_,(Bw6 LF noY () 0 s p).trans (Az4 s p h0),rfl⟩
 ·trivial
theorem B50:C0 Tryz.prog GX 157 Am6:=xf [] (LD LF) Zc rfl ⟨Cg0,trivial⟩ rfl (by kernel_rfl) follows λargs=>by
 unfold Zc;split
 ·rename_i s p;exact λh0=>⟨rfl,rfl,rfl,_,_,(Bg1 LF noY () 0 s p).trans (ZD s p h0),rfl⟩
 ·trivial
theorem Au4:C0 Tryz.prog GX 115 KM:=xf [] (LK LF) Zu rfl ⟨B50,trivial⟩ rfl (by kernel_rfl) follows λargs=>by
 unfold Zu;split
 ·rename_i s p;exact λh0=>⟨rfl,rfl,rfl,_,_,(Bm4 LF noY () 0 s p).trans (Aj8 s p h0),rfl⟩
 ·trivial
theorem B47:C0 Tryz.prog GX 169 Am4:=xf [0,0] (LB LF) Yz rfl ⟨Bo5,trivial⟩ rfl (by kernel_rfl) follows λargs=>by
 unfold Yz;split
 ·rename_i s p;exact λh0=>⟨rfl,rfl,rfl,_,_,(Bf6 LF noY () 0 s p).trans (YT s p h0),rfl⟩
 ·trivial
theorem Ce9:C0 Tryz.prog GX 130 A71:=xf [0,0] (WJ LF) ID rfl ⟨B47,trivial⟩ rfl (by kernel_rfl) follows λargs=>by
 unfold ID;split
 ·rename_i s p;exact λh0=>⟨rfl,rfl,rfl,_,_,(Br5 LF noY () 0 s p).trans (Av3 s p h0),rfl⟩
 ·trivial
theorem Bn9:C0 Tryz.prog GX 158 OO:=xf [1] (Cl LF) Tm rfl ⟨IA,Bp5,Al4,trivial⟩ rfl (by kernel_rfl) follows λargs=>by
 unfold Tm;split
 ·rename_i s p v n;exact λh0=>λh1=>λh2=>λh3=>(let ⟨rr,hH,ee,qq⟩:=QK s p v n h0 h1 h2 h3;⟨rfl,rfl,rfl,rr,hH,(FX LF noY () 0 s p v n).trans ee,qq⟩)
 ·trivial
theorem DR:C0 Tryz.prog GX 117 Qd:=xf [1] (AK LF) Ub rfl ⟨Bn9,trivial⟩ rfl (by kernel_rfl) follows λargs=>by
 unfold Ub;split
 ·rename_i s p;exact λh0=>λh1=>⟨rfl,rfl,rfl,_,_,(A55 LF noY () 0 s p).trans (TY s p h0 h1),rfl⟩
 ·trivial
theorem Al2:C0 Tryz.prog GX 111 IY:=xf [] (Pf LF) IZ rfl trivial rfl (by kernel_rfl) follows λargs=>by
 unfold IZ;split
 ·rename_i s;exact λh0=>⟨rfl,rfl,rfl,_,_,(Bw1 LF noY () 0 s).trans (Az0 s h0),rfl⟩
 ·trivial
theorem Bo1:C0 Tryz.prog GX 127 VB:=xf [] (WK LF) IK rfl ⟨Al1,trivial⟩ rfl (by kernel_rfl) follows λargs=>by
 unfold IK;split
 ·rename_i s;exact λh0=>⟨rfl,rfl,rfl,_,_,(Bt8 LF noY () 0 s).trans (Aw9 s h0),rfl⟩
 ·trivial
theorem Ak9:C0 Tryz.prog GX 129 IE:=xf [0,0] (U3 LF) IF rfl trivial rfl (by kernel_rfl) follows λargs=>by
 unfold IF;split
 ·rename_i s base;exact λh0=>λh1=>⟨rfl,rfl,rfl,_,_,(Bs2 LF noY () 0 s base).trans (Av8 s base h0 h1),rfl⟩
 ·trivial
theorem B86:C0 Tryz.prog GX 128 A85:=xf [0,0] (Bb7 LF) VG rfl ⟨Bo1,Ak9,trivial⟩ rfl (by kernel_rfl) follows λargs=>by
 unfold VG;split
 ·rename_i s;exact λh0=>⟨rfl,rfl,rfl,_,_,(Cc1 LF noY () 0 s).trans (Bg7 s h0),rfl⟩
 ·trivial
theorem Au2:C0 Tryz.prog GX 126 JJ:=xf [1] (LE LF) Zd rfl ⟨DR,trivial⟩ rfl (by kernel_rfl) follows λargs=>by
 unfold Zd;split
 ·rename_i s;exact λh0=>⟨rfl,rfl,rfl,_,_,(Bh0 LF noY () 0 s).trans (ZQ s h0),rfl⟩
 ·trivial
theorem Wh:C0 Tryz.prog GX 93 Hr:=xf [] (Uq LF) Ok rfl ⟨Au2,Bo1,B86,Ak9,trivial⟩ rfl (by kernel_rfl) follows λargs=>by
 unfold Ok;split
 ·rename_i s;exact λh0=>⟨rfl,rfl,rfl,_,_,(ZI LF noY () 0 s).trans (MN s h0),rfl⟩
 ·trivial
theorem Cg7:C0 Tryz.prog GX 116 A88:=xf [0,0] (Pj LF) JP rfl ⟨Au2,B86,trivial⟩ rfl (by kernel_rfl) follows λargs=>by
 unfold JP;split
 ·rename_i s;exact λh0=>⟨rfl,rfl,rfl,_,_,(Bz1 LF noY () 0 s).trans (A12 s h0),rfl⟩
 ·trivial
theorem Cl6:C0 Tryz.prog GX 192 B73:=xf [0,0] (AL LF) VW rfl ⟨DR,Ak9,Cf4,trivial⟩ rfl (by kernel_rfl) follows λargs=>by
 unfold VW;split
 ·rename_i s;exact λh0=>⟨rfl,rfl,rfl,_,_,(Ce0 LF noY () 0 s).trans (Bn1 s h0),rfl⟩
 ·trivial
theorem A66:C0 Tryz.prog GX 101 ET:=xf [] (Bf LF) Ol rfl trivial rfl (by kernel_rfl) follows λargs=>by
 unfold Ol;split
 ·rename_i s;exact λh0=>⟨rfl,rfl,rfl,_,_,(Ab9 LF noY () 0 s).trans (NB s h0),rfl⟩
 ·trivial
theorem Bp1:C0 Tryz.prog GX 87 VR:=xf [] (Pl LF) JY rfl trivial rfl (by kernel_rfl) follows λargs=>by
 unfold JY;split
 ·rename_i s;exact λh0=>⟨rfl,rfl,rfl,_,_,(B17 LF noY () 0 s).trans (A34 s h0),rfl⟩
 ·trivial
theorem Mp:C0 Tryz.prog GX 53 Hs:=xf [1] (Eu LF) Tx rfl trivial rfl (by kernel_rfl) follows λargs=>by
 unfold Tx;split
 ·rename_i s c;exact λh0=>λh1=>(let ⟨rr,hH,ee,qq⟩:=TL s c h0 h1;⟨rfl,rfl,rfl,rr,hH,(A44 LF noY () 0 s c).trans ee,qq⟩)
 ·trivial
theorem Ch1:C0 Tryz.prog GX 145 A90:=xf [] (Hd LF) JU rfl trivial rfl (by kernel_rfl) follows λargs=>by
 unfold JU;split
 ·rename_i b;exact λh0=>⟨rfl,rfl,rfl,_,_,(B04 LF noY () 0 b).trans (A22 b h0),rfl⟩
 ·trivial
theorem Bp2:C0 Tryz.prog GX 102 VT:=xf [0,0] (O5 LF) JZ rfl ⟨Ch1,trivial⟩ rfl (by kernel_rfl) follows λargs=>by
 unfold JZ;split
 ·rename_i s;exact λh0=>⟨rfl,rfl,rfl,_,_,(B19 LF noY () 0 s).trans (A35 s h0),rfl⟩
 ·trivial
theorem UV:C0 Tryz.prog GX 100 Zn:=xf [1] (AI LF) Tv rfl ⟨Mp,trivial⟩ rfl (by kernel_rfl) follows λargs=>by
 unfold Tv;split
 ·rename_i s;exact λh0=>⟨rfl,rfl,rfl,_,_,(A38 LF noY () 0 s).trans (SP s h0),rfl⟩
 ·trivial
theorem Al3:C0 Tryz.prog GX 68 Zm:=xf [] (Pm LF) Li rfl ⟨UV,A66,Bp2,trivial⟩ rfl (by kernel_rfl) follows λargs=>by
 unfold Li;split
 ·rename_i s;exact λh0=>⟨rfl,rfl,rfl,_,_,(SO LF noY () 0 s).trans (EM s h0),rfl⟩
 ·trivial
theorem B58:C0 Tryz.prog GX 90 An4:=xf [0,0] (Jg LF) Zp rfl ⟨UV,Bp2,trivial⟩ rfl (by kernel_rfl) follows λargs=>by
 unfold Zp;split
 ·rename_i s;exact λh0=>⟨rfl,rfl,rfl,_,_,(Bk1 LF noY () 0 s).trans (Ag5 s h0),rfl⟩
 ·trivial
theorem Ch0:C0 Tryz.prog GX 188 A89:=xf [0,0] (Pk LF) JT rfl ⟨A64,trivial⟩ rfl (by kernel_rfl) follows λargs=>by
 unfold JT;split
 ·rename_i s;exact λh0=>⟨rfl,rfl,rfl,_,_,(B02 LF noY () 0 s).trans (A21 s h0),rfl⟩
 ·trivial
theorem Ch5:C0 Tryz.prog GX 163 A94:=xf [0,0] (Pn LF) KD rfl ⟨Mp,Ch0,trivial⟩ rfl (by kernel_rfl) follows λargs=>by
 unfold KD;split
 ·rename_i s;exact λh0=>⟨rfl,rfl,rfl,_,_,(B28 LF noY () 0 s).trans (A47 s h0),rfl⟩
 ·trivial
theorem A65:C0 Tryz.prog GX 158 Tn:=by
 refine C0.fix (pf:=Oj) _ (T4 (C₀:=Cl LF) (N6.ok (l:=[(181,Hq),(182,VV),(108,Zs)]) rfl ⟨IA,Bp5,Al4,trivial⟩) (J0 rfl (by kernel_rfl)) follows ?_)
 intro args ret Hc h
 unfold Oj at h
 split at h
 ·rename_i s p v n
  obtain ⟨h0,h⟩:=F3 h
  obtain ⟨h1,h⟩:=F3 h
  obtain ⟨h2,h⟩:=F3 h
  obtain ⟨h3,h⟩:=F3 h
  obtain ⟨rfl,rfl⟩:=L7 h
  have e:=(FX LF noY () 0 s p v n).trans (BF s p v n h0 h1 h2 h3)
  exact ⟨rfl,1,_,[],e,rfl,rfl⟩
 ·cases h
theorem IB:C0 Tryz.prog GX 117 Uc:=by
 refine C0.fix (pf:=Oq) _ (T4 (C₀:=Ut LF) (N6.ok (l:=[(158,Tn)]) rfl ⟨A65,trivial⟩) (J0 rfl (by kernel_rfl)) follows ?_)
 intro args ret Hc h
 unfold Oq at h
 split at h
 ·rename_i s p
  obtain ⟨h0,h⟩:=F3 h
  obtain ⟨h1,h⟩:=F3 h
  obtain ⟨rfl,rfl⟩:=L7 h
  have e:=(Aj5 LF noY () 0 s p).trans (NV s p h0 h1)
  exact ⟨rfl,1,_,[],e,rfl,rfl⟩
 ·cases h
end
section
theorem Cf0:C0 Tryz.prog GX 191 A72:=xf [0,0] (X8 LF) IH rfl trivial rfl (by kernel_rfl) follows λargs=>by
 unfold IH;split
 ·rename_i s;exact λh0=>⟨rfl,rfl,rfl,_,_,(Bt2 LF noY () 0 s).trans (Aw6 s h0),rfl⟩
 ·trivial
theorem B43:C0 Tryz.prog GX 179 Am0:=xf [1,0] (Jb LF) Yu rfl ⟨DR,Cf0,Cl6,trivial⟩ rfl (by kernel_rfl) follows λargs=>by
 unfold Yu;split
 ·rename_i s last;exact λh0=>(let ⟨rr,hH,ee,qq⟩:=YD s last h0;⟨rfl,rfl,rfl,rr,hH,(Be2 LF noY () 0 s last).trans ee,qq⟩)
 ·trivial
theorem Cl7:C0 Tryz.prog GX 155 B74:=xf [0,0] (Wo LF) VX rfl ⟨OF,B43,trivial⟩ rfl (by kernel_rfl) follows λargs=>by
 unfold VX;split
 ·rename_i s;exact λh0=>(let ⟨rr,hH,ee,qq⟩:=Ce3 s h0;⟨rfl,rfl,rfl,rr,hH,(Ce2 LF noY () 0 s).trans ee,qq⟩)
 ·trivial
theorem Ch3:C0 Tryz.prog GX 164 A92:=xf [0,0] (Y0 LF) JX rfl trivial rfl (by kernel_rfl) follows λargs=>by
 unfold JX;split
 ·rename_i s;exact λh0=>⟨rfl,rfl,rfl,_,_,(B15 LF noY () 0 s).trans (A27 s h0),rfl⟩
 ·trivial
theorem B52:C0 Tryz.prog GX 122 Am8:=xf [1,0] (Q4 LF) Zh rfl ⟨Mp,Ch5,Ch3,trivial⟩ rfl (by kernel_rfl) follows λargs=>by
 unfold Zh;split
 ·rename_i s last;exact λh0=>(let ⟨rr,hH,ee,qq⟩:=Ad9 s last h0;⟨rfl,rfl,rfl,rr,hH,(Bj0 LF noY () 0 s last).trans ee,qq⟩)
 ·trivial
theorem A67:C0 Tryz.prog GX 121 EU:=xf [] (Bg LF) Om rfl trivial rfl (by kernel_rfl) follows λargs=>by
 unfold Om;split
 ·rename_i s;exact λh0=>⟨rfl,rfl,rfl,_,_,(Ac0 LF noY () 0 s).trans (ND s h0),rfl⟩
 ·trivial
theorem Ch6:C0 Tryz.prog GX 88 A95:=xf [0,0] (Y1 LF) KE rfl ⟨A67,B52,trivial⟩ rfl (by kernel_rfl) follows λargs=>by
 unfold KE;split
 ·rename_i s;exact λh0=>(let ⟨rr,hH,ee,qq⟩:=B30 s h0;⟨rfl,rfl,rfl,rr,hH,(B29 LF noY () 0 s).trans ee,qq⟩)
 ·trivial
theorem UT:C0 Tryz.prog GX 184 Lh:=xf [] (AG LF) Ts rfl trivial rfl (by kernel_rfl) follows λargs=>by
 unfold Ts;split
 ·rename_i n;exact ⟨rfl,rfl,rfl,_,_,(A13 LF noY () 0 n).trans (RU n ),rfl⟩
 ·trivial
theorem US:C0 Tryz.prog GX 186 Lg:=xf [] (V3 LF) Tq rfl trivial rfl (by kernel_rfl) follows λargs=>by
 unfold Tq;split
 ·rename_i d c f;exact λh0=>λh1=>λh2=>⟨rfl,rfl,rfl,_,_,(A01 LF noY () 0 d c f).trans (RR d c f h0 h1 h2),rfl⟩
 ·trivial
theorem Cg5:C0 Tryz.prog GX 195 VH:=xf [] (WX LF) JM rfl trivial rfl (by kernel_rfl) follows λargs=>by
 unfold JM;split
 ·rename_i d;exact λh0=>⟨rfl,rfl,rfl,_,_,(By4 LF noY () 0 d).trans (A10 d h0),rfl⟩
 ·trivial
theorem Cg9:C0 Tryz.prog GX 202 VM:=xf [] (Hb LF) JS rfl trivial rfl (by kernel_rfl) follows λargs=>by
 unfold JS;split
 ·rename_i b;exact λh0=>⟨rfl,rfl,rfl,_,_,(B00 LF noY () 0 b).trans (A16 b h0),rfl⟩
 ·trivial
end
section
theorem Bo8:C0 Tryz.prog GX 194 Ze:=by
 refine C0.fix (pf:=JR) _ (T4 (C₀:=WY LF) (N6.ok (l:=[]) rfl trivial) (J0 rfl (by kernel_rfl)) follows ?_)
 intro args ret Hc h
 unfold JR at h
 split at h
 ·rename_i b
  obtain ⟨rfl,rfl⟩:=L7 h
  have e:=(Bz6 LF noY () 0 b).trans (A14 b )
  exact ⟨rfl,1,_,[],e,rfl,rfl⟩
 ·cases h
theorem Au5:Wj Tryz.prog GX 201 Mr:=by
 refine Ec (C₀:=LG LF) (N6.ok (l:=[]) rfl trivial) (J0 rfl (by kernel_rfl)) follows ?_
 intro args H ret Hc h
 unfold Mr at h
 split at h
 ·rename_i k b
  obtain ⟨h0,h⟩:=F3 h
  obtain ⟨h1,h⟩:=F3 h
  obtain ⟨rfl,rfl⟩:=L7 h
  refine ⟨rfl,rfl,λσ yh s=>?_⟩
  have e:=(Bh6 LF yh s 0 k b).trans (Aa5 k b h0 h1)
  exact ⟨1,_,e,rfl⟩
 ·cases h
theorem Ch9:Wj Tryz.prog GX 185 JI:=by
 refine Ec (C₀:=Ur LF) (Ko (lx:=[(194,Ze),(195,VH)]) (ly:=[(201,Mr)]) (ls:=[]) rfl rfl rfl ⟨Bo8,Cg5,trivial⟩ ⟨Au5,trivial⟩ trivial) (J0 rfl (by kernel_rfl)) follows ?_
 intro args H ret Hc h
 unfold JI at h
 split at h
 ·rename_i q b z l
  obtain ⟨h0,h⟩:=F3 h
  obtain ⟨h1,h⟩:=F3 h
  obtain ⟨h2,h⟩:=F3 h
  obtain ⟨rfl,rfl⟩:=L7 h
  obtain ⟨x0,x1,e0⟩:=A03 q b z l h0 h1 h2
  exact ⟨rfl,rfl,λσ yh s=>⟨1,_,(Bx7 LF yh s 0 q b z l).trans (e0 _ _),rfl⟩⟩
 ·cases h
theorem Bo7:C0 Tryz.prog GX 161 VI:=by
 refine C0.fix (pf:=JN) _ (R3 [0,0] (C₀:=P3 LF) (Ko (lx:=[(184,Lh),(186,Lg)]) (ly:=[(185,JI)]) (ls:=[]) rfl rfl rfl ⟨UT,US,trivial⟩ ⟨Ch9,trivial⟩ trivial) (J0 rfl (by kernel_rfl)) follows ?_)
 intro args ret Hc h
 unfold JN at h
 split at h
 ·rename_i p_z p_t p
  obtain ⟨h0,h⟩:=F3 h
  obtain ⟨rfl,rfl⟩:=L7 h
  obtain ⟨rr,hH,ee,qq⟩:=By6 p_z p_t p h0
  exact ⟨rfl,rfl,rfl,1,rr,hH,(By5 LF noY () 0 p_z p_t p).trans ee,qq⟩
 ·cases h
end
section
theorem Ch8:Wj Tryz.prog GX 198 IG:=by
 refine Ec (C₀:=Uo LF) (Ko (lx:=[(194,Ze),(202,VM)]) (ly:=[(201,Mr)]) (ls:=[]) rfl rfl rfl ⟨Bo8,Cg9,trivial⟩ ⟨Au5,trivial⟩ trivial) (J0 rfl (by kernel_rfl)) follows ?_
 intro args H ret Hc h
 unfold IG at h
 split at h
 ·rename_i rest n i b st z l
  obtain ⟨h0,h⟩:=F3 h
  obtain ⟨h1,h⟩:=F3 h
  obtain ⟨h2,h⟩:=F3 h
  obtain ⟨rfl,rfl⟩:=L7 h
  obtain ⟨x0,e0⟩:=Aw0 rest n i b st z l h0 h1 h2
  exact ⟨rfl,rfl,λσ yh s=>⟨1,_,(Bs3 LF yh s 0 rest n i b st z l).trans (e0 _ _),rfl⟩⟩
 ·cases h
theorem Bo3:C0 Tryz.prog GX 142 OQ:=xf [] (Es LF) Tp rfl trivial rfl (by kernel_rfl) follows λargs=>by
 unfold Tp;split
 ·rename_i s c;exact λh0=>λh1=>⟨rfl,rfl,rfl,_,_,(Ax7 LF noY () 0 s c).trans (QT s c h0 h1),rfl⟩
 ·trivial
theorem Au1:C0 Tryz.prog GX 97 Xy:=xf [] (LA LF) Yy rfl ⟨Bo3,trivial⟩ rfl (by kernel_rfl) follows λargs=>by
 unfold Yy;split
 ·rename_i s c;exact λh0=>λh1=>⟨rfl,rfl,rfl,_,_,(Bf5 LF noY () 0 s c).trans (YP s c h0 h1),rfl⟩
 ·trivial
end
end
section
open Go Go.Proofs Go.Sort
set_option maxRecDepth 100000
theorem DL {C:Cfg} {σ:Type} {I:σ->(Nat->Prop)->(Nat->Prop)->World->Prop} (hI:HI I) {Γ:Ctx} {Φ:Nat->Prop} {w w':World} {z v1:Bool} {E e1 s1:Nat} {l l' m:LL} {s:σ} (g cap:Nat) (Vs:List Value) (cur:Array Value)
  (hnf:Ji C E=false) (hH:HR Γ [.arr z E 1 l,.arr v1 e1 s1 m] w) (hi:I s Γ.St Φ w) (hd:∀ b g,Γ.nm b=some g->¬ Φ g)
  (hown:Γ.nm 0=some g\/g=w.heap.size) (hgl:g<w'.heap.size) (hoth:∀ k,k<w.heap.size->Γ.nm 0≠some k->w'.heap[k]? = w.heap[k]?) (hsz:w.heap.size<=w'.heap.size) (h1:w'.os=w.os) (h2:w'.tape=w.tape) (h3:w'.output=w.output)
  (hrow:w'.heap[g]? = some (.cells cur E (0,0))) (hE:Els Γ.St w' 1 l' Vs) (hl':l'≠[]) (hc:∀ q,q<Vs.length->cur[q]? = Vs[q]?) (hl:Vs.length<=cur.size) (hcap:l'.length<=cap) (hm:cap<=maxLen) (hcs:cur.size=cap) :
  Ck C I Γ [.arr z E 1 l,.arr v1 e1 s1 m] w Φ (.fl 0) [.arr z E 1 l',.arr v1 e1 s1 m] s (.slice (some ⟨g,0,none⟩) l'.length cap) w':=by
 have hblt:0<[Blk.arr z E 1 l,.arr v1 e1 s1 m].length:=by simp
 have hng:(Γ.re 0 (some g)).nm 0=some g:=by simp [Ctx.re]
 have hnf':¬ Hi C (A2 [Blk.arr z E 1 l,.arr v1 e1 s1 m] 0):=by simp [A2,Blk.shp,Hi,hnf]
 have hk:([Blk.arr z E 1 l,.arr v1 e1 s1 m].map (Blk.kill 0)).set 0 (.arr z E 1 l')=[.arr z E 1 l',.arr v1 e1 s1 m]:=rfl
 have hgS:¬ Γ.St g:=by
  rcases hown with h | h
  ·exact (hH.lt 0 g h).2.2
  ·intro hs
   have:=hH.stlt g hs
   omega
 obtain ⟨q1,q2,q3⟩:=NF (C:=C) (y:=.arr z E 1 l') (ng:=some g) (w':=w') hH hblt hnf' (λk hk=>by
   simp only [Option.some.injEq] at hk;subst hk
   refine ⟨hgl,hgS,λc hc hc2=>?_⟩
   rcases hown with h | h
   ·exact hc (hH.inj c 0 _ hc2 h)
   ·have:=(hH.lt c _ hc2).2.1
    omega)
  (λk hk=>by
   simp only [Option.some.injEq] at hk;subst hk
   rcases hown with h | h
   ·exact .inl h
   ·exact .inr (by omega)) hoth hsz h1 h2 h3
  (BR.els hng hrow hE (by rintro ⟨_,h⟩;exact hl' h) hc hl) rfl
 rw [hk] at q1 q2
 refine ⟨_,Φ,q1.lift Φ,q2,?_,λc hc=>?_,?_,λb g' hb=>?_⟩
 ·refine .fl 0 g z E 1 l'.length cap rfl (λ_ h=>hl' (List.length_eq_zero_iff.1 h)) hng hcap hm ?_
  simp only [World.shape?,hrow,hcs,Nat.mul_one]
 ·simp only [PV.nms,List.mem_singleton] at hc
  subst hc
  simp
 ·refine hI.mono s Γ.St Φ w Γ.St w' hi (λ_ h=>h) (λk hk hp=>(hI.foot _ _ _ _ hi k hp).2 hk) (λk hk=>Nat.lt_of_lt_of_le (hH.stlt k hk) hsz) (λk hk=>?_) hsz h1 h2 h3
  rcases hk with hk | hk
  ·exact hoth k (hH.stlt k hk) (λh=>(hH.lt 0 k h).2.2 hk)
  ·exact hoth k (hI.foot _ _ _ _ hi k hk).1 (λh=>hd 0 k h hk)
 ·simp only [Ctx.re] at hb
  split at hb
  ·simp only [Option.some.injEq] at hb
   subst hb
   rcases hown with h | h
   ·exact hd 0 _ h
   ·intro hp
    have:=(hI.foot _ _ _ _ hi _ hp).1
    omega
  ·exact hd b g' hb
theorem Ax {w:World} {g o e:Nat} {vs:List Value} {cur:Array Value} (hg:w.heap[g]? = some (.cells cur e (0,0))) (hle:o+vs.length<=cur.size) (h1:∀ v∈vs,v.oneCell'=true) :
  (w.setCells g o vs).heap[g]? = some (.cells (G3 cur.toList o vs).toArray e (0,0))/\(∀ k,k≠g->(w.setCells g o vs).heap[k]? = w.heap[k]?)/\(w.setCells g o vs).heap.size=w.heap.size/\(w.setCells g o vs).os=w.os/\(w.setCells g o vs).tape=w.tape/\(w.setCells g o vs).output=w.output:=by
 obtain ⟨w',r1,r2,r3,r4,r5,r6,r7,_⟩:=K3 (P:=Tryz.prog) (o:=o) hg hle h1
 have hcell:∀ j,j<vs.length->∃ v,w.cell? ⟨g,o+0+j,none⟩=some v:=λj hj=>by
  refine ⟨cur[o+j]'(by omega),?_⟩
  simp [World.cell?,hg,Array.getElem?_eq_getElem (show o+j<cur.size by omega)]
 have r:=run_storeCells_cells (P:=Tryz.prog) g o vs 0 w (λj hj=>by obtain ⟨v,h⟩:=hcell j hj;rw [h];rfl) (λj hj=>by simp [World.frozen?,hg]) h1
 rw [r] at r1
 simp only [Nat.add_zero,Result.ok.injEq,true_and] at r1
 rw [r1]
 exact ⟨r2,r3,r4,r5,r6,r7⟩
theorem BJ {St:Nat->Prop} {w:World} {l:LL} {cs:List Value} {i:Nat} {n:Int} (h:Els St w 1 l cs) (hi:i<=l.length):Els St w 1 (Jl l i n) (cs.take i++Value.int .i64 n::cs.drop i):=by
 have hlen:=h.1
 rw [Nat.mul_one] at hlen
 have h1:Els St w 1 (l.take i) (cs.take i):=by
  refine ⟨by rw [List.length_take,List.length_take,hlen,Nat.mul_one],λj hj=>?_⟩
  rw [List.length_take] at hj
  rw [List.getElem_take]
  obtain ⟨a,b⟩:=h.2 j (by omega)
  refine ⟨a,λk hk=>?_⟩
  obtain ⟨U,e,v⟩:=b k hk
  exact ⟨U,by rw [List.getElem?_take_of_lt (by omega)];exact e,v⟩
 have h2:Els St w 1 [[SV.int .i64 n]] [Value.int .i64 n]:=by
  refine ⟨rfl,λj hj=>?_⟩
  have:j=0:=by simpa using hj
  subst this
  refine ⟨rfl,λk hk=>?_⟩
  have:k=0:=by simpa using hk
  subst this
  exact ⟨_,rfl,.int _ _⟩
 have h3:Els St w 1 (l.drop i) (cs.drop i):=by
  refine ⟨by rw [List.length_drop,List.length_drop,hlen,Nat.mul_one],λj hj=>?_⟩
  rw [List.length_drop] at hj
  rw [List.getElem_drop]
  obtain ⟨a,b⟩:=h.2 (i+j) (by omega)
  refine ⟨a,λk hk=>?_⟩
  obtain ⟨U,e,v⟩:=b k hk
  exact ⟨U,by rw [List.getElem?_drop];rw [show i+(j*1+k)=(i+j)*1+k by omega];exact e,v⟩
 have:=(h1.append h2).append h3
 unfold Jl
 simpa using this
theorem BK (l:LL) (i:Nat) (n:Int) (h:i<=l.length):(Jl l i n).length=l.length+1:=by
 unfold Jl
 rw [List.length_append,List.length_cons,List.length_take,List.length_drop]
 omega
theorem MF (l:LL) (i:Nat) (n:Int):Jl l i n≠[]:=by
 unfold Jl
 simp
theorem Ci0:Wj Tryz.prog GX 199 KJ:=by
 intro C hP hG σ I yh yv hI hy args H s ret Hc hpf Γ Φ w Vs hyv hH hg hi hd hc hn
 unfold KJ at hpf
 split at hpf
 ·rename_i i z l nn
  obtain ⟨h0,hpf⟩:=F3 hpf
  obtain ⟨h1,hpf⟩:=F3 hpf
  obtain ⟨rfl,rfl⟩:=L7 hpf
  obtain ⟨i0,i1⟩:=L8.1 h0
  obtain ⟨i,rfl⟩:=Int.eq_ofNat_of_zero_le i0
  have hl:=Nat.le_of_ble_eq_true h1
  have hil:i<=l.length:=by
   have:(i:Int)<((l.length+1:Nat):Int):=i1
   omega
  obtain ⟨S,X0,V,rfl,hs,hx,hv⟩:=hc.arr3
  obtain rfl:=hx.inv_int
  have hnf:Ji C 3=false:=by
   unfold Ji Cfg.sh
   rw [hP]
   kernel_rfl
  obtain ⟨g1,cur1,n1,n2,n3,n4,n5⟩:=hH.arr' (b:=1) rfl (by simp)
  have hvs:∃ cap,V = .slice (some ⟨g1,0,none⟩) 1 cap:=by
   cases hv with
   | flv _ e sz h=>simp [A2,Blk.shp] at h
   | fl _ g v e sz n cap h hv' hg' hcap hm hs'=>
    rw [n1] at hg'
    simp only [Option.some.injEq] at hg'
    subst hg'
    simp only [A2,List.getElem?_cons_succ,List.getElem?_cons_zero,Option.map_some,Blk.shp,Option.some.injEq,Shp.arr.injEq] at h
    obtain ⟨_,_,_,h4⟩:=h
    subst h4
    exact ⟨cap,rfl⟩
  obtain ⟨cap1,rfl⟩:=hvs
  obtain ⟨V1,p1,p2⟩:=n5 0 (by simp) 0 (by simp)
  have p3:V1 = .int .i64 nn:=by cases p2;rfl
  subst p3
  have hvcell:∀ j v,[Value.int .i64 nn][j]? = some v->w.cell? ⟨g1,0+j,none⟩=some v:=by
   intro j v hj
   have:j=0:=by
    have:=(List.getElem?_eq_some_iff.1 hj).1
    simpa using this
   subst this
   simp only [List.getElem?_cons_zero,Option.some.injEq] at hj
   subst hj
   simpa [World.cell?,n2] using p1
  have hv1:∀ v∈[Value.int .i64 nn],v.oneCell'=true:=by simp [Value.oneCell']
  rw [Int.toNat_natCast]
  refine Cj (fn:=Tryz.f199) (by kernel_rfl) (by kernel_rfl) (by kernel_rfl) ?_
  have grownEnd:∀ (base:Option Addr) (c:Nat) (cs:List Value),l.length<=c->c<l.length+1->cs.length=l.length->(base=none->l.length=0)->(∀ a,base=some a->∀ j v,cs[j]? = some v->w.cell? (a.add j)=some v)->Els Γ.St w 1 l cs->
    Calls Tryz.prog 199 #[.slice base l.length c,.int .i64 (l.length:Int),.slice (some ⟨g1,0,none⟩) 1 cap1] w λe w'=>∃ V,e = .returned V/\Ck C I Γ [.arr z 3 1 l,.arr false 3 1 [[SV.int .i64 nn]]] w Φ (.fl 0) [.arr z 3 1 (Jl l l.length nn),.arr false 3 1 [[SV.int .i64 nn]]] s V w':=by
   intro base c cs a1 a2 a3 a4 a5 a6
   refine (Any2.slices_Insert_int_end_grow Tryz.lays2_21 base l.length c g1 0 1 cap1 cs [.int .i64 nn] w (by omega) a1 a2 (by omega) a3 rfl a4 a5 hvcell hv1).mono ?_
   rintro e w' ⟨rfl,rfl⟩
   refine ⟨_,rfl,?_⟩
   obtain ⟨hge,hle⟩:=Gk (w:=w) (need:=l.length+1) (cap:=c) (e:=3) (by omega)
   have hE:=BJ (n:=nn) a6 (Nat.le_refl l.length)
   have hcsl:cs.take l.length++Value.int .i64 nn::cs.drop l.length=cs++[Value.int .i64 nn]:=by
    rw [List.take_of_length_le (by omega),List.drop_of_length_le (by omega)]
   rw [hcsl] at hE
   have hlen:=BK l l.length nn (Nat.le_refl _)
   obtain ⟨r1,r2⟩:=Ve (olds:=cs) (Vs:=[Value.int .i64 nn]) (z:=(Value.int .i64 0).cells) (k:=grownCap w (l.length+1) c 3) (n:=l.length) (m:=1) (size:=1) rfl (by omega) rfl hge
   have hrowE:(cs.toArray++[Value.int .i64 nn].toArray)=(cs++[Value.int .i64 nn]).toArray:=by simp
   rw [hrowE] at r1 r2
   have key:∀ (row:Array Value) (kc:Nat),row.size=kc->(∀ q,q<(cs++[Value.int .i64 nn]).length->row[q]? = (cs++[Value.int .i64 nn])[q]?)->l.length+1<=kc->kc<=maxLen->
     Ck C I Γ [.arr z 3 1 l,.arr false 3 1 [[SV.int .i64 nn]]] w Φ (.fl 0) [.arr z 3 1 (Jl l l.length nn),.arr false 3 1 [[SV.int .i64 nn]]] s (.slice (some ⟨w.heap.size,0,none⟩) (l.length+1) kc) (w.drew.alloc (.cells row 3)):=by
    intro row kc b1 b2 b3 b4
    have hwh:(w.drew.alloc (.cells row 3)).heap=w.heap.push (.cells row 3):=rfl
    have:=DL (C:=C) (w':=w.drew.alloc (.cells row 3)) (l':=Jl l l.length nn) hI w.heap.size kc (cs++[Value.int .i64 nn]) row hnf hH hi hd (.inr rfl) (by rw [hwh];simp) (λk hk _=>I3 hwh hk) (by rw [hwh];simp) rfl rfl rfl (I2 hwh) (hE.mono (λg hg=>I3 hwh (hH.stlt g hg)) (λ_ h=>h)) (MF _ _ _) b2 (by rw [b1,List.length_append,List.length_singleton];omega) (by rw [hlen];exact b3) b4 b1
    rw [hlen] at this
    exact this
   exact key _ _ (r1.trans (Nat.mul_one _)) r2 hge hle
  have two:∀ (row:Array Value) (cs:List Value),cs.length=l.length->i<l.length->l.length+1<=row.size->(∀ q,q<i->row[q]? = cs[q]?)->
    ∀ q,q<(cs.take i++Value.int .i64 nn::cs.drop i).length->(G3 (G3 row.toList i [Value.int .i64 nn]) (i+1) (cs.drop i)).toArray[q]? = (cs.take i++Value.int .i64 nn::cs.drop i)[q]?:=by
   intro row cs a1 a2 a3 a4 q hq
   have hq':q<l.length+1:=by
    rw [List.length_append,List.length_cons,List.length_take,List.length_drop] at hq
    omega
   have ht:(cs.take i).length=i:=by rw [List.length_take];omega
   have hrl:row.toList.length=row.size:=Array.length_toList
   simp only [List.getElem?_toArray]
   rw [M6 _ _ _ (by rw [D6,List.length_drop,hrl];omega),M6 _ _ _ (by rw [List.length_singleton,hrl];omega)]
   by_cases h1:q<i
   ·rw [I8,I8,List.getElem?_append_left (by omega),List.getElem?_take_of_lt h1]
    simpa using a4 q h1
   ·by_cases h2:q=i
    ·subst h2
     rw [I8,if_pos (by rw [List.length_singleton];omega),List.getElem?_append_right (by omega),ht,Nat.sub_self]
     rfl
    ·rw [if_pos (by rw [List.length_drop];omega),List.getElem?_append_right (by omega),ht,show q-i=(q-(i+1))+1 by omega,List.getElem?_cons_succ]
  have grownMid:∀ (g c:Nat) (cs:List Value),i<l.length->l.length<=c->c<l.length+1->cs.length=l.length->(∀ j v,cs[j]? = some v->w.cell? ⟨g,0+j,none⟩=some v)->(∀ v∈cs,v.oneCell'=true)->Els Γ.St w 1 l cs->
    Calls Tryz.prog 199 #[.slice (some ⟨g,0,none⟩) l.length c,.int .i64 (i:Int),.slice (some ⟨g1,0,none⟩) 1 cap1] w λe w'=>∃ V,e = .returned V/\Ck C I Γ [.arr z 3 1 l,.arr false 3 1 [[SV.int .i64 nn]]] w Φ (.fl 0) [.arr z 3 1 (Jl l i nn),.arr false 3 1 [[SV.int .i64 nn]]] s V w':=by
   intro g c cs hi' a1 a2 a3 a4 a5 a6
   refine (Any2.slices_Insert_int_grow Tryz.lays2_21 g 0 l.length c i g1 0 1 cap1 cs [.int .i64 nn] w hi' (by omega) a1 a2 (by omega) a3 rfl a4 hvcell a5 hv1).mono ?_
   rintro e w' ⟨rfl,rfl⟩
   refine ⟨_,rfl,?_⟩
   obtain ⟨hge,hle⟩:=Gk (w:=w) (need:=l.length+1) (cap:=c) (e:=3) (by omega)
   have hE:=BJ (n:=nn) a6 hil
   have hlen:=BK l i nn hil
   have key:∀ (row:Array Value) (kc:Nat),row.size=kc->(∀ q,q<i->row[q]? = cs[q]?)->l.length+1<=kc->kc<=maxLen->
     Ck C I Γ [.arr z 3 1 l,.arr false 3 1 [[SV.int .i64 nn]]] w Φ (.fl 0) [.arr z 3 1 (Jl l i nn),.arr false 3 1 [[SV.int .i64 nn]]] s (.slice (some ⟨w.heap.size,0,none⟩) (l.length+1) kc) (((w.alloc (.cells row 3)).drew.setCells w.heap.size i [Value.int .i64 nn]).drew.setCells w.heap.size (i+1) (cs.drop i)):=by
    intro row kc b1 b2 b3 b4
    have hwh:(w.alloc (.cells row 3)).drew.heap=w.heap.push (.cells row 3):=rfl
    obtain ⟨c1,c2,c3,c4,c5,c6⟩:=Ax (w:=(w.alloc (.cells row 3)).drew) (o:=i) (vs:=[Value.int .i64 nn]) (I2 hwh) (by rw [List.length_singleton];omega) hv1
    generalize hw1:(w.alloc (.cells row 3)).drew.setCells w.heap.size i [Value.int .i64 nn]=w1 at *
    have hs1:(G3 row.toList i [Value.int .i64 nn]).toArray.size=kc:=by rw [List.size_toArray,D6];simpa using b1
    obtain ⟨d1,d2,d3,d4,d5,d6⟩:=Ax (w:=w1.drew) (o:=i+1) (vs:=cs.drop i) c1 (by rw [hs1,List.length_drop];omega) (λv hv=>a5 v (List.mem_of_mem_drop hv))
    have hoth:∀ k,k<w.heap.size->(w1.drew.setCells w.heap.size (i+1) (cs.drop i)).heap[k]? = w.heap[k]?:=λk hk=>by
     rw [d2 k (by omega)]
     exact (c2 k (by omega)).trans (I3 hwh hk)
    have hsz:(w1.drew.setCells w.heap.size (i+1) (cs.drop i)).heap.size=w.heap.size+1:=by
     rw [d3]
     show w1.heap.size=_
     rw [c3,hwh]
     simp
    have:=DL (C:=C) (w':=w1.drew.setCells w.heap.size (i+1) (cs.drop i)) (l':=Jl l i nn) hI w.heap.size kc (cs.take i++Value.int .i64 nn::cs.drop i) _ hnf hH hi hd (.inr rfl) (by rw [hsz];omega) (λk hk _=>hoth k hk) (by rw [hsz];omega) (d4.trans c4) (d5.trans c5) (d6.trans c6) d1 (hE.mono (λg hg=>hoth g (hH.stlt g hg)) (λ_ h=>h)) (MF _ _ _) (two row cs a3 hi' (by omega) b2) (by rw [List.size_toArray,D6,List.length_append,List.length_cons,List.length_take,List.length_drop];simp only [List.size_toArray,D6] at hs1 ⊢;omega) (by rw [hlen];exact b3) b4 (by rw [List.size_toArray,D6];simpa using hs1)
    rw [hlen] at this
    exact this
   have hz1:(Value.int .i64 0).cells.size=1:=rfl
   have ht:(cs.take i).length=i:=by rw [List.length_take];omega
   refine key _ _ ?_ (λq hq=>?_) hge hle
   ·simp only [Array.size_append,List.size_toArray,size_zeroCells,hz1,Nat.mul_one,ht]
    have:l.length+1<=grownCap w (l.length+1) c 3:=hge
    show i+(l.length+1-i)+(grownCap w (l.length+1) c 3-(l.length+1))=grownCap w (l.length+1) c 3
    omega
   ·rw [Array.getElem?_append_left (by simp only [Array.size_append,List.size_toArray,ht];omega),Array.getElem?_append_left (by simp only [List.size_toArray,ht];omega),List.getElem?_toArray,List.getElem?_take_of_lt hq]
  have two':∀ (row:Array Value) (cs:List Value),cs.length=l.length->i<l.length->l.length+1<=row.size->(∀ q,q<i->row[q]? = cs[q]?)->
    ∀ q,q<(cs.take i++Value.int .i64 nn::cs.drop i).length->(G3 (G3 row.toList (i+1) (cs.drop i)) i [Value.int .i64 nn]).toArray[q]? = (cs.take i++Value.int .i64 nn::cs.drop i)[q]?:=by
   intro row cs a1 a2 a3 a4 q hq
   have hq':q<l.length+1:=by
    rw [List.length_append,List.length_cons,List.length_take,List.length_drop] at hq
    omega
   have ht:(cs.take i).length=i:=by rw [List.length_take];omega
   have hrl:row.toList.length=row.size:=Array.length_toList
   simp only [List.getElem?_toArray]
   rw [M6 _ _ _ (by rw [D6,List.length_singleton,hrl];omega),M6 _ _ _ (by rw [List.length_drop,hrl];omega)]
   by_cases h1:q<i
   ·rw [I8,I8,List.getElem?_append_left (by omega),List.getElem?_take_of_lt h1]
    simpa using a4 q h1
   ·by_cases h2:q=i
    ·subst h2
     rw [if_pos (by rw [List.length_singleton];omega),List.getElem?_append_right (by omega),ht,Nat.sub_self]
     rfl
    ·rw [if_neg (by rw [List.length_singleton];omega),if_pos (by rw [List.length_drop];omega),List.getElem?_append_right (by omega),ht,show q-i=(q-(i+1))+1 by omega,List.getElem?_cons_succ]
  cases hs with
  | flv _ e2 sz2 h'=>
   simp only [A2,List.getElem?_cons_zero,Option.map_some,Blk.shp,Option.some.injEq,Shp.arr.injEq] at h'
   obtain ⟨q1,q2,q3,h4⟩:=h'
   obtain rfl:=List.length_eq_zero_iff.1 h4
   obtain rfl:i=0:=by simpa using hil
   exact grownEnd none 0 [] (by simp) (by simp) rfl (λ_=>rfl) (λa h=>by cases h) ⟨rfl,λj hj=>by simp at hj⟩
  | fl _ g z' e2 sz2 n' cap h' hv' hg' hcap hm hs'=>
   simp only [A2,List.getElem?_cons_zero,Option.map_some,Blk.shp,Option.some.injEq,Shp.arr.injEq] at h'
   obtain ⟨rfl,rfl,rfl,rfl⟩:=h'
   have hne:¬ (z=true/\l=[]):=by rintro ⟨q1,q2⟩;exact hv' q1 (by rw [q2];rfl)
   obtain ⟨g',cur,hg2,hh,hsize,hlens,hels⟩:=hH.arr' (b:=0) rfl hne
   obtain rfl:g=g':=by
    rw [hg'] at hg2
    exact Option.some.inj hg2
   have hcs:cur.size=cap:=by
    have:=hs'
    simp only [World.shape?,hh,Option.some.injEq,Prod.mk.injEq,true_and,Nat.mul_one] at this
    exact this
   rw [Nat.mul_one] at hsize
   have hO:Els Γ.St w 1 l (cur.toList.take l.length):=by
    refine ⟨by rw [List.length_take,Array.length_toList (xs:=cur)];omega,λj hj=>⟨hlens j hj,λk hk=>?_⟩⟩
    obtain ⟨U,e1,u⟩:=hels j hj k hk
    refine ⟨U,?_,u⟩
    have hk':k<1:=by rw [<-hlens j hj];exact hk
    rw [List.getElem?_take,V7]
    simpa using e1
   have hol:(cur.toList.take l.length).length=l.length:=by rw [List.length_take,Array.length_toList (xs:=cur)];omega
   have hcell:∀ j v,(cur.toList.take l.length)[j]? = some v->w.cell? ⟨g,0+j,none⟩=some v:=by
    intro j v hj
    have hj':j<l.length:=by
     have:=(List.getElem?_eq_some_iff.1 hj).1
     omega
    rw [List.getElem?_take,if_pos hj'] at hj
    simpa [World.cell?,hh] using hj
   have h1c:∀ v∈cur.toList.take l.length,v.oneCell'=true:=by
    intro v hv
    obtain ⟨j,hj,rfl⟩:=List.getElem_of_mem hv
    have hj':j<l.length:=by omega
    obtain ⟨_,u⟩:=hO.2 j hj'
    obtain ⟨U,e1,u2⟩:=u 0 (by rw [hlens j hj'];exact Nat.one_pos)
    rw [Nat.mul_one,Nat.add_zero,List.getElem?_eq_getElem hj] at e1
    cases e1
    exact u2.oneCell
   have hlen:=BK l i nn hil
   have hE:=BJ (n:=nn) hO hil
   have hsome:∀ j,j<cap->(w.cell? ⟨g,j,none⟩).isSome=true:=by
    intro j hj
    simp only [World.cell?,hh]
    rw [Array.getElem?_eq_getElem (by omega)]
    rfl
   have hfrz:∀ j,w.frozen? ⟨g,j,none⟩=false:=λj=>by simp [World.frozen?,hh]
   have hng1:g1≠g:=λe=>by
    have:=hH.inj 1 0 g (by rw [<-e];exact n1) hg'
    omega
   have hmx:cap<=9223372036854775807:=by
    simp only [maxLen] at hm
    omega
   by_cases hroom:l.length+1<=cap
   ·have key:∀ (w':World) (row:List Value),w'.heap[g]? = some (.cells row.toArray 3 (0,0))->(∀ k,k≠g->w'.heap[k]? = w.heap[k]?)->w'.heap.size=w.heap.size->w'.os=w.os->w'.tape=w.tape->w'.output=w.output->row.length=cap->
      (∀ q,q<((cur.toList.take l.length).take i++Value.int .i64 nn::(cur.toList.take l.length).drop i).length->row.toArray[q]? = ((cur.toList.take l.length).take i++Value.int .i64 nn::(cur.toList.take l.length).drop i)[q]?)->
      Ck C I Γ [.arr z 3 1 l,.arr false 3 1 [[SV.int .i64 nn]]] w Φ (.fl 0) [.arr z 3 1 (Jl l i nn),.arr false 3 1 [[SV.int .i64 nn]]] s (.slice (some ⟨g,0,none⟩) (l.length+1) cap) w':=by
     intro w' row k1 k2 k3 k4 k5 k6 k7 k8
     have hgS:¬ Γ.St g:=(hH.lt 0 g hg').2.2
     have:=DL (C:=C) (w':=w') (l':=Jl l i nn) hI g cap ((cur.toList.take l.length).take i++Value.int .i64 nn::(cur.toList.take l.length).drop i) row.toArray hnf hH hi hd (.inl hg') (by rw [k3];exact (hH.lt 0 g hg').2.1) (λk hk hk2=>k2 k (λe=>hk2 (e ▸ hg'))) (by omega) k4 k5 k6 k1
      (hE.mono (λk hk=>k2 k (λe=>hgS (e ▸ hk))) (λ_ h=>h)) (MF _ _ _) k8
      (by rw [List.size_toArray,k7,List.length_append,List.length_cons,List.length_take,List.length_drop,hol];omega) (by rw [hlen];exact hroom) hm (by rw [List.size_toArray,k7])
     rw [hlen] at this
     exact this
    by_cases hie:i=l.length
    ·subst hie
     refine (Any2.slices_Insert_int_end_room Tryz.lays2_21 g 0 l.length cap g1 0 1 cap1 [.int .i64 nn] w (by omega) hroom hmx rfl (λj hj=>hsome _ (by omega)) (λj hj=>hfrz _) hvcell hv1).mono ?_
     rintro e w' ⟨rfl,rfl⟩
     refine ⟨_,rfl,?_⟩
     obtain ⟨c1,c2,c3,c4,c5,c6⟩:=Ax (w:=w) (o:=0+l.length) (vs:=[Value.int .i64 nn]) hh (by rw [List.length_singleton];omega) hv1
     refine key _ _ c1 c2 c3 c4 c5 c6 (by rw [D6];simpa using hcs) (λq hq=>?_)
     rw [List.take_of_length_le (by omega),List.drop_of_length_le (by omega)] at hq ⊢
     rw [List.length_append,hol,List.length_singleton] at hq
     simp only [List.getElem?_toArray]
     rw [M6 _ _ _ (by rw [List.length_singleton,Array.length_toList (xs:=cur)];omega)]
     by_cases hq2:q<l.length
     ·rw [I8,List.getElem?_append_left (by omega),List.getElem?_take,if_pos hq2]
     ·obtain rfl:q=l.length:=by omega
      rw [if_pos (by rw [List.length_singleton];omega),List.getElem?_append_right (by omega),hol]
      simp
    ·have hi':i<l.length:=by omega
     refine (Any2.slices_Insert_int_shift Tryz.lays2_21 g 0 l.length cap i g1 0 1 cap1 (cur.toList.take l.length) [.int .i64 nn] w hi' (by omega) hroom hmx hng1 hol rfl hcell (λj hj=>hsome _ (by omega)) (λj hj=>hfrz _) hvcell h1c hv1 3 3 cur1.size cur.size (by simp [World.shape?,n2]) (by simp [World.shape?,hh]) (by omega) (by simp [World.frozen?,n2]) (by simp [World.frozen?,n2])).mono ?_
     rintro e w' ⟨rfl,rfl⟩
     refine ⟨_,rfl,?_⟩
     obtain ⟨c1,c2,c3,c4,c5,c6⟩:=Ax (w:=w.drew) (o:=0+(i+1)) (vs:=(cur.toList.take l.length).drop i) hh (by rw [List.length_drop,hol];omega) (λv hv=>h1c v (List.mem_of_mem_drop hv))
     generalize hw1:w.drew.setCells g (0+(i+1)) ((cur.toList.take l.length).drop i)=w1 at *
     have hs1:(G3 cur.toList (0+(i+1)) ((cur.toList.take l.length).drop i)).toArray.size=cap:=by rw [List.size_toArray,D6];simpa using hcs
     obtain ⟨d1,d2,d3,d4,d5,d6⟩:=Ax (w:=w1) (o:=0+i) (vs:=[Value.int .i64 nn]) c1 (by rw [hs1,List.length_singleton];omega) hv1
     refine key _ _ d1 (λk hk=>(d2 k hk).trans (c2 k hk)) (d3.trans c3) (d4.trans c4) (d5.trans c5) (d6.trans c6) (by rw [D6];simpa using hs1) ?_
     rw [Nat.zero_add,Nat.zero_add]
     exact two' cur _ hol hi' (by omega) (λq hq=>by rw [List.getElem?_take,V7];simp)
   ·by_cases hie:i=l.length
    ·subst hie
     exact grownEnd (some ⟨g,0,none⟩) cap (cur.toList.take l.length) hcap (by omega) hol (λh=>by cases h) (λa h j v hj=>by
      obtain rfl:=Option.some.inj h
      rw [L0]
      exact hcell j v hj) hO
    ·exact grownMid g cap _ (by omega) hcap (by omega) hol hcell h1c hO
 ·cases hpf
end
section
open Go Go.Proofs
set_option maxRecDepth 100000
section
theorem B62:Wj Tryz.prog GX 189 Xx:=by
 refine Ec (C₀:=KX LF) (Ko (lx:=[(186,Lg),(184,Lh)]) (ly:=[(198,IG),(199,KJ)]) (ls:=[]) rfl rfl rfl ⟨US,UT,trivial⟩ ⟨Ch8,Ci0,trivial⟩ trivial) (J0 rfl (by kernel_rfl)) follows ?_
 intro args H ret Hc h
 unfold Xx at h
 split at h
 ·rename_i rest n i b st z l
  obtain ⟨h0,h⟩:=F3 h
  obtain ⟨h1,h⟩:=F3 h
  obtain ⟨h2,h⟩:=F3 h
  obtain ⟨h3,h⟩:=F3 h
  obtain ⟨h4,h⟩:=F3 h
  obtain ⟨rfl,rfl⟩:=L7 h
  refine ⟨rfl,rfl,λσ yh s=>?_⟩
  have e:=(Bc9 LF yh s 0 rest n i b st z l).trans (XO rest n i b st z l h0 h1 h2 h3 h4)
  exact ⟨1,_,e,rfl⟩
 ·cases h
theorem Cg4:C0 Tryz.prog GX 170 A87:=by
 refine C0.fix (pf:=JL) _ (R3 [1,0] (C₀:=X9 LF) (Ko (lx:=[(97,Xy)]) (ly:=[(189,Xx)]) (ls:=[]) rfl rfl rfl ⟨Au1,trivial⟩ ⟨B62,trivial⟩ trivial) (J0 rfl (by kernel_rfl)) follows ?_)
 intro args ret Hc h
 unfold JL at h
 split at h
 ·rename_i s
  obtain ⟨h0,h⟩:=F3 h
  obtain ⟨rfl,rfl⟩:=L7 h
  obtain ⟨rr,hH,ee,qq⟩:=By2 s h0
  exact ⟨rfl,rfl,rfl,1,rr,hH,(By1 LF noY () 0 s).trans ee,qq⟩
 ·cases h
end
end
section
open Go Go.Proofs Go.Sort
set_option maxRecDepth 100000
theorem Bp7:C0 Tryz.prog GX 159 OU:=by
 refine C0.fix (pf:=Ue) _ (P8 (fn:=Tryz.f159) (by kernel_rfl) (by kernel_rfl) (by kernel_rfl) ?_)
 intro args ret Hc h
 unfold Ue at h
 split at h
 ·rename_i s
  obtain ⟨h0,h⟩:=F3 h
  obtain ⟨rfl,rfl⟩:=L7 h
  refine ⟨rfl,rfl,λC hP hCG Γ w Vs hG hlt hc=>?_⟩
  obtain ⟨U,rfl,hu⟩:=hc.arr1
  obtain ⟨s',rfl,rfl⟩:=hu.inv_str
  have hs:=K8 h0
  refine (Any.utf8_ValidString Tryz.lays196 s' w (by simp at hs;omega) (Bt0 hG hCG)).mono ?_
  rintro e w' ⟨rfl,hb⟩
  rw [<-Ak4]
  exact ⟨_,rfl,hb,VP.mk_bool _⟩
 ·cases h
theorem Bp6:C0 Tryz.prog GX 160 OT:=by
 refine C0.fix (pf:=Ud) _ (P8 (fn:=Tryz.f160) (by kernel_rfl) (by kernel_rfl) (by kernel_rfl) ?_)
 intro args ret Hc h
 unfold Ud at h
 split at h
 ·rename_i s
  obtain ⟨h0,h⟩:=F3 h
  obtain ⟨rfl,rfl⟩:=L7 h
  refine ⟨rfl,rfl,λC hP hCG Γ w Vs hG hlt hc=>?_⟩
  obtain ⟨U,rfl,hu⟩:=hc.arr1
  obtain ⟨s',rfl,rfl⟩:=hu.inv_str
  have hs:=K8 h0
  refine (Any.utf8_RuneCountInString Tryz.lays195 s' w (by simp at hs;omega)).mono ?_
  rintro e w' ⟨rfl,pos,rfl⟩
  rw [Lib.runeCountL_eq]
  exact ⟨_,rfl,WF _ _ _,VP.mk_int _ _⟩
 ·cases h
theorem B42:C0 Tryz.prog GX 107 Qb:=λargs ret Hc h=>by
 have:M0 (Qb args)=none:=by unfold Qb ON;split<;>rfl
 rw [this] at h;cases h
theorem OH:OM Tryz.prog GX 106 Iv:=by
 refine Xn (C₀:=Z1 LF) ((N6.ok (l:=[(107,Qb),(108,Zs)]) rfl ⟨B42,Al4,trivial⟩)) (J0 rfl (by kernel_rfl)) follows ?_
 intro args H L h σ yh s s' hr
 unfold Iv at h
 split at h
 ·rename_i p t n
  simp only [Option.some.injEq,Prod.mk.injEq] at h
  obtain ⟨h1,rfl⟩:=h
  obtain ⟨t',f⟩:=Aj4 (R:=PV × List Blk × σ) yh p t n s s' h1 hr
  exact ⟨1,_,(Bl0 LF yh 0 p t n s).trans (f _)⟩
 ·cases h
end
section
open Go Go.Proofs
set_option maxRecDepth 100000
section
theorem B48:C0 Tryz.prog GX 131 Am5:=xf [] (Jd LF) Za rfl ⟨Cg4,Bo7,trivial⟩ rfl (by kernel_rfl) follows λargs=>by
 unfold Za;split
 ·rename_i s;exact λh0=>⟨rfl,rfl,rfl,_,_,(Bf8 LF noY () 0 s).trans (ZB s h0),rfl⟩
 ·trivial
theorem Bo6:C0 Tryz.prog GX 94 JE:=xf [] (Ph LF) JF rfl ⟨Ce9,B48,trivial⟩ rfl (by kernel_rfl) follows λargs=>by
 unfold JF;split
 ·rename_i s;exact λh0=>⟨rfl,rfl,rfl,_,_,(Bw8 LF noY () 0 s).trans (Az6 s h0),rfl⟩
 ·trivial
theorem Bo4:C0 Tryz.prog GX 118 VD:=xf [0,0] (Ln LF) IS rfl ⟨Bp7,Bp6,Al2,Bo7,Bo6,trivial⟩ rfl (by kernel_rfl) follows λargs=>by
 unfold IS;split
 ·rename_i s;exact λh0=>(let ⟨rr,hH,ee,qq⟩:=Bu6 s h0;⟨rfl,rfl,rfl,rr,hH,(Bu5 LF noY () 0 s).trans ee,qq⟩)
 ·trivial
theorem Cf1:C0 Tryz.prog GX 156 A73:=xf [] (Ha LF) IJ rfl trivial rfl (by kernel_rfl) follows λargs=>by
 unfold IJ;split
 ·rename_i b;exact λh0=>⟨rfl,rfl,rfl,_,_,(Bt6 LF noY () 0 b).trans (Aw8 b h0),rfl⟩
 ·trivial
theorem Bo0:C0 Tryz.prog GX 114 VA:=xf [0,0] (Pc LF) II rfl ⟨Cf1,trivial⟩ rfl (by kernel_rfl) follows λargs=>by
 unfold II;split
 ·rename_i s;exact λh0=>(let ⟨rr,hH,ee,qq⟩:=Bt4 s h0;⟨rfl,rfl,rfl,rr,hH,(Bt3 LF noY () 0 s).trans ee,qq⟩)
 ·trivial
theorem B44:C0 Tryz.prog GX 113 Am1:=xf [0,0] (KY LF) Yv rfl ⟨Cl7,trivial⟩ rfl (by kernel_rfl) follows λargs=>by
 unfold Yv;split
 ·rename_i s;exact λh0=>λh1=>(let ⟨rr,hH,ee,qq⟩:=Be4 s h0 h1;⟨rfl,rfl,rfl,rr,hH,(Be3 LF noY () 0 s).trans ee,qq⟩)
 ·trivial
theorem Bo2:C0 Tryz.prog GX 85 OP:=xf [0,0] (Er LF) To rfl ⟨Al1,B44,Bo0,Au4,Wh,Cg7,IB,Bo4,Au3,trivial⟩ rfl (by kernel_rfl) follows λargs=>by
 unfold To;split
 ·rename_i s;exact λh0=>(let ⟨rr,hH,ee,qq⟩:=Ax1 s h0;⟨rfl,rfl,rfl,rr,hH,(Ax0 LF noY () 0 s).trans ee,qq⟩)
 ·trivial
theorem B49:C0 Tryz.prog GX 81 JC:=by
 refine C0.fix (pf:=Zb) _ (T4 (C₀:=LC LF) (N6.ok (l:=[]) rfl trivial) (J0 rfl (by kernel_rfl)) follows ?_)
 intro args ret Hc h
 unfold Zb at h
 split at h
 ·rename_i t p n
  obtain ⟨rfl,rfl⟩:=L7 h
  have e:=(Bg0 LF noY () 0 t p n).trans (ZC t p n )
  exact ⟨rfl,1,_,[],e,rfl,rfl⟩
 ·cases h
theorem Al5:C0 Tryz.prog GX 49 Ua:=by
 refine C0.fix (pf:=KL) _ (T4 (C₀:=XB LF) (N6.ok (l:=[(81,JC)]) rfl ⟨B49,trivial⟩) (J0 rfl (by kernel_rfl)) follows ?_)
 intro args ret Hc h
 unfold KL at h
 split at h
 ·rename_i t p
  obtain ⟨rfl,rfl⟩:=L7 h
  have e:=(B34 LF noY () 0 t p).trans (A54 t p )
  exact ⟨rfl,1,_,[],e,rfl,rfl⟩
 ·cases h
theorem B85:C0 Tryz.prog GX 59 Am2:=by
 refine C0.fix (pf:=VC) _ (R3 [] (C₀:=Lm LF) (Ko (lx:=[(93,Hr),(49,Ua),(94,JE)]) (ly:=[]) (ls:=[(106,Iv)]) rfl rfl rfl ⟨Wh,Al5,Bo6,trivial⟩ trivial ⟨OH,trivial⟩) (J0 rfl (by kernel_rfl)) follows ?_)
 intro args ret Hc h
 unfold VC at h
 split at h
 ·rename_i s
  obtain ⟨h0,h⟩:=F3 h
  obtain ⟨rfl,rfl⟩:=L7 h
  obtain ⟨rr,hH,ee,qq⟩:=Cb3 s h0
  exact ⟨rfl,rfl,rfl,1,rr,hH,(Cb2 LF noY () 0 s).trans ee,qq⟩
 ·cases h
theorem Cf2:C0 Tryz.prog GX 41 A74:=by
 refine C0.fix (pf:=IN) _ (T4 (C₀:=WM LF) (N6.ok (l:=[]) rfl trivial) (J0 rfl (by kernel_rfl)) follows ?_)
 intro args ret Hc h
 unfold IN at h
 split at h
 ·rename_i t
  obtain ⟨rfl,rfl⟩:=L7 h
  have e:=(Bu0 LF noY () 0 t).trans (Ax3 t )
  exact ⟨rfl,1,_,[],e,rfl,rfl⟩
 ·cases h
end
section
theorem Cg2:C0 Tryz.prog GX 143 A84:=xf [] (WW LF) JH rfl trivial rfl (by kernel_rfl) follows λargs=>by
 unfold JH;split
 ·rename_i s;exact ⟨rfl,rfl,rfl,_,_,(Bx2 LF noY () 0 s).trans (Az8 s ),rfl⟩
 ·trivial
theorem Cg1:C0 Tryz.prog GX 144 A83:=xf [] (WU LF) JG rfl trivial rfl (by kernel_rfl) follows λargs=>by
 unfold JG;split
 ·rename_i n;exact ⟨rfl,rfl,rfl,_,_,(Bx0 LF noY () 0 n).trans (Az7 n ),rfl⟩
 ·trivial
theorem Ck9:C0 Tryz.prog GX 98 B67:=xf [] (Bb4 LF) UX rfl ⟨Cg2,trivial⟩ rfl (by kernel_rfl) follows λargs=>by
 unfold UX;split
 ·rename_i s p;exact ⟨rfl,rfl,rfl,_,_,(B99 LF noY () 0 s p).trans (Bc0 s p ),rfl⟩
 ·trivial
theorem Ck8:C0 Tryz.prog GX 99 B66:=xf [] (Bb3 LF) UW rfl ⟨Cg1,trivial⟩ rfl (by kernel_rfl) follows λargs=>by
 unfold UW;split
 ·rename_i n m;exact ⟨rfl,rfl,rfl,_,_,(B98 LF noY () 0 n m).trans (Bb9 n m ),rfl⟩
 ·trivial
theorem Cg3:C0 Tryz.prog GX 63 A86:=xf [] (Pi LF) JK rfl ⟨Au1,Ck9,Ck8,trivial⟩ rfl (by kernel_rfl) follows λargs=>by
 unfold JK;split
 ·rename_i s p;exact λh0=>λh1=>⟨rfl,rfl,rfl,_,_,(By0 LF noY () 0 s p).trans (A06 s p h0 h1),rfl⟩
 ·trivial
theorem Cf9:C0 Tryz.prog GX 58 A81:=xf [] (WR LF) IX rfl ⟨B85,trivial⟩ rfl (by kernel_rfl) follows λargs=>by
 unfold IX;split
 ·rename_i h b;exact λh0=>(let ⟨rr,hH,ee,qq⟩:=Bv8 h b h0;⟨rfl,rfl,rfl,rr,hH,(Bv7 LF noY () 0 h b).trans ee,qq⟩)
 ·trivial
theorem Cl3:C0 Tryz.prog GX 66 B70:=xf [] (Bb6 LF) VE rfl ⟨Cg3,trivial⟩ rfl (by kernel_rfl) follows λargs=>by
 unfold VE;split
 ·rename_i h b s;exact λh0=>λh1=>(let ⟨rr,hH,ee,qq⟩:=Cb8 h b s h0 h1;⟨rfl,rfl,rfl,rr,hH,(Cb7 LF noY () 0 h b s).trans ee,qq⟩)
 ·trivial
theorem Cf8:C0 Tryz.prog GX 92 A80:=xf [] (Pe LF) IW rfl ⟨Cf9,trivial⟩ rfl (by kernel_rfl) follows λargs=>by
 unfold IW;split
 ·rename_i l_z l_t l;exact λh0=>λh1=>λh2=>⟨rfl,rfl,rfl,_,_,(Bv5 LF noY () 0 l_z l_t l).trans (Ay7 l_z l_t l h0 h1 h2),rfl⟩
 ·trivial
theorem Cf7:C0 Tryz.prog GX 57 A79:=xf [] (WQ LF) IV rfl ⟨Cf8,trivial⟩ rfl (by kernel_rfl) follows λargs=>by
 unfold IV;split
 ·rename_i l_z l_t l;exact λh0=>λh1=>λh2=>⟨rfl,rfl,rfl,_,_,(Bv2 LF noY () 0 l_z l_t l).trans (Ay3 l_z l_t l h0 h1 h2),rfl⟩
 ·trivial
theorem Cf6:C0 Tryz.prog GX 60 A78:=by
 refine C0.fix (pf:=IU) _ (T4 (C₀:=WO LF) (N6.ok (l:=[]) rfl trivial) (J0 rfl (by kernel_rfl)) follows ?_)
 intro args ret Hc h
 unfold IU at h
 split at h
 ·rename_i l_z l_t l
  obtain ⟨h0,h⟩:=F3 h
  obtain ⟨h1,h⟩:=F3 h
  obtain ⟨rfl,rfl⟩:=L7 h
  have e:=(Bv0 LF noY () 0 l_z l_t l).trans (Ay2 l_z l_t l h0 h1)
  exact ⟨rfl,1,_,[],e,rfl,rfl⟩
 ·cases h
theorem Cf5:C0 Tryz.prog GX 65 A77:=xf [0,0] (Pd LF) IT rfl ⟨Cl3,trivial⟩ rfl (by kernel_rfl) follows λargs=>by
 unfold IT;split
 ·rename_i l_z l_t l q;exact λh0=>λh1=>λh2=>λh3=>⟨rfl,rfl,rfl,_,_,(Bu8 LF noY () 0 l_z l_t l q).trans (Ay1 l_z l_t l q h0 h1 h2 h3),rfl⟩
 ·trivial
end
end
section
open Go
theorem Wt {x:List By} (h:x≠[]):Uv [] x = -1/\Uv x []=1:=by
 cases x with
 | nil=>exact absurd rfl h
 | cons a r=>exact ⟨rfl,rfl⟩
theorem Ri (s:By):(J4 46 s = -1/\s.drop (J4 46 s+1).toNat=s/\rl s=[s])\/(0<=J4 46 s/\J4 46 s<s.length/\rl s=s.drop (J4 46 s+1).toNat::rl (s.take (J4 46 s).toNat)):=by
 rcases Bo s with ⟨h1,h2⟩ | ⟨p,q,rfl,h1,h2⟩
 ·exact .inl ⟨h2,by rw [h2];rfl,CY h1⟩
 ·refine .inr ⟨by omega,by rw [h2];simp;omega,?_⟩
  rw [h2,CZ p h1,show ((p.length:Int)+1).toNat=p.length+1 by omega,Int.toNat_natCast,List.take_left]
  congr 1
  simp
theorem Bc2 (a b:By) (i k:Int) (hi:i=J4 46 a) (hk:k=J4 46 b) :
  (Y6 (a.drop (i+1).toNat) (b.drop (k+1).toNat)≠0->V5 a b=Y6 (a.drop (i+1).toNat) (b.drop (k+1).toNat))/\
  (Y6 (a.drop (i+1).toNat) (b.drop (k+1).toNat)=0->(i<0\/k<0)->V5 a b=LP (min i 0) (min k 0))/\
  (Y6 (a.drop (i+1).toNat) (b.drop (k+1).toNat)=0->0<=i->0<=k->V5 a b=V5 (a.take i.toNat) (b.take k.toNat)):=by
 have hcmp:∀ x y:By,V5 x y=Uv (rl x) (rl y):=λx y=>rfl
 rw [hcmp,hcmp]
 rcases Ri a with ⟨a1,a2,a3⟩ | ⟨a1,a2,a3⟩<;>rcases Ri b with ⟨b1,b2,b3⟩ | ⟨b1,b2,b3⟩<;>rw [<-hi] at a1 a2<;>rw [<-hk] at b1 b2
 ·rw [a2,b2,a3,b3]
  refine ⟨λh=>Q7 h,λh _=>?_,λ_ h=>by omega⟩
  rw [Aa h,Q6,a1,b1]
  rfl
 ·rw [<-hk] at b3
  rw [a2,a3,b3]
  refine ⟨λh=>Q7 h,λh _=>?_,λ_ h=>by omega⟩
  rw [Aa h,Q6,(Wt (As3 _)).1,a1,Int.min_eq_right b1]
  rfl
 ·rw [<-hi] at a3
  rw [b2,b3,a3]
  refine ⟨λh=>Q7 h,λh _=>?_,λ_ _ h=>by omega⟩
  rw [Aa h,Q6,(Wt (As3 _)).2,b1,Int.min_eq_right a1]
  rfl
 ·rw [<-hi] at a3
  rw [<-hk] at b3
  rw [a3,b3]
  refine ⟨λh=>Q7 h,λh hn=>by omega,λh _ _=>?_⟩
  rw [Aa h,Q6]
end
section
open Go Go.Proofs Go.RowKit
set_option maxRecDepth 100000
theorem Ce5 (x:ByteArray) (w:World):Calls Tryz.prog 143 #[.string x] w λe w'=>e = .returned (.bool false)/\w'=w:=by
 go_enter Tryz.func143,Tryz.ntmps143
 go_wp2
 go_ret
 exact ⟨by simp,rfl⟩
theorem Ce4 (x:Int) (w:World):Calls Tryz.prog 144 #[.int .i64 x] w λe w'=>e = .returned (.bool false)/\w'=w:=by
 go_enter Tryz.func144,Tryz.ntmps144
 go_wp2
 go_ret
 exact ⟨by simp,rfl⟩
theorem Br3 (x y:Int):LP x y=if x<y then -1 else if y<x then 1 else 0:=by
 unfold LP
 rw [Vo,Vo]
 by_cases h:x<y<;>by_cases g:y<x<;>simp [h,g]
theorem Ck6 (x y:Int) (w:World):Calls Tryz.prog 99 #[.int .i64 x,.int .i64 y] w λe w'=>e = .returned (.int .i64 (LP x y))/\w'=w:=by
 have e7:∀ args w,(callFunc 144 args).run Tryz.prog w = .ok (.enter 144 args) w:=enters_of Tryz.func144 (by kernel_rfl) rfl
 go_enter Tryz.func99,Tryz.ntmps99
 go_wp2_with (go_at_fn 144;refine (Ce4 _ _).mono ?_;rintro e w' ⟨rfl,hw⟩;rw [hw])
 all_goals (go_ret;refine ⟨?_,rfl⟩;rw [Br3];(repeat' split)<;>first | rfl | (exfalso;omega))
theorem Br2 (x y:ByteArray):Y6 x.data.toList y.data.toList=if Op.bytesLess x.toList y.toList=true then -1 else if (!x.toList==y.toList)=true then 1 else 0:=by
 rw [ByteArray.toList_eq,ByteArray.toList_eq,<-Qg]
 generalize x.data.toList=a
 generalize y.data.toList=b
 unfold Y6
 cases h:bytesLess a b with
 | true=>rfl
 | false=>
  have e:(!a==b)=bytesLess b a:=by
   rw [W6] at h ⊢
   have h:=of_decide_eq_false h
   by_cases hab:a=b
   ·subst hab;simp
   ·have:b<a:=by
     apply Decidable.byContradiction
     intro g
     exact hab (List.le_antisymm (List.not_lt.1 g) (List.not_lt.1 h))
    simp [hab,this]
  rw [e]
  cases bytesLess b a<;>rfl
theorem Ck7 (x y:ByteArray) (w:World):Calls Tryz.prog 98 #[.string x,.string y] w λe w'=>e = .returned (.int .i64 (Y6 x.data.toList y.data.toList))/\w'=w:=by
 have e7:∀ args w,(callFunc 143 args).run Tryz.prog w = .ok (.enter 143 args) w:=enters_of Tryz.func143 (by kernel_rfl) rfl
 go_enter Tryz.func98,Tryz.ntmps98
 go_wp2_with (go_at_fn 143;refine (Ce5 _ _).mono ?_;rintro e w' ⟨rfl,hw⟩;rw [hw])
 all_goals (go_ret;refine ⟨?_,rfl⟩;rw [Br2];(try simp [*]))
theorem Bf4 (s:ByteArray):Lib.lastIndexByte s 46=J4 46 s.data.toList:=by
 have hsz:s.size=s.data.toList.length:=by rw [Array.length_toList];rfl
 have hb:∀ j (hj:j<s.data.toList.length),((s.data[j]!).toNat:Int)=46↔s.data.toList[j]=46:=λj hj=>by
  have hj':j<s.data.size:=by simpa using hj
  rw [getElem!_pos s.data j hj',Array.getElem_toList]
  constructor
  ·intro h
   exact UInt8.toNat_inj.1 (show s.data[j].toNat=46 by omega)
  ·intro h
   rw [h]
   rfl
 rcases Lib.lastIndexByte_spec s 46 with ⟨e,hn⟩ | ⟨i,hi,e,hc,hn⟩
 ·rw [e]
  rcases Bo s.data.toList with ⟨_,h2⟩ | ⟨p,q,h1,h2,h3⟩
  ·exact h2.symm
  ·have hp:p.length<s.data.toList.length:=by rw [h1];simp
   exact absurd ((hb p.length hp).2 (by simp [h1])) (hn p.length (by omega))
 ·rw [e]
  have hi':i<s.data.toList.length:=by omega
  have hci:=(hb i hi').1 hc
  rcases Bo s.data.toList with ⟨h1,_⟩ | ⟨p,q,h1,h2,h3⟩
  ·exact absurd (hci ▸ List.getElem_mem hi') h1
  ·rw [h3]
   have hp:p.length<s.data.toList.length:=by rw [h1];simp
   have hcp:=(hb p.length hp).2 (by simp [h1])
   by_cases h4:i<p.length
   ·exact absurd hcp (hn p.length h4 (by omega))
   ·by_cases h5:p.length<i
    ·refine absurd ?_ h2
     have:s.data.toList[i]? = some 46:=by rw [List.getElem?_eq_getElem hi',hci]
     rw [h1,List.getElem?_append_right (by omega),show i-p.length=(i-p.length-1)+1 by omega,List.getElem?_cons_succ] at this
     exact List.mem_of_getElem? this
    ·omega
theorem Bn3 (s:ByteArray) (hs:s.size<4611686018427387904) (w:World):Calls Tryz.prog 97 #[.string s,.int .u8 46] w λe w'=>e = .returned (.int .i64 (J4 46 s.data.toList))/\w'=w:=by
 rw [<-Bf4]
 exact Any.strings_LastIndexByte Tryz.lays149 s 46 hs w
theorem UB (s:ByteArray) (l:Int) (h0:0<=l) (h1:l<=s.size) (w:World):(Instr.sliceAt 9 (.string s) (some (.int .i64 l)) none none).run Tryz.prog w = .ok (.string (s.extract l.toNat s.size)) w:=by
 simp [Instr.sliceAt,Instr.slice,run_underlying Tryz.underlying9,Instr.sliceBounds,run_sliceBound,Result.andThen,h0,h1]
theorem Bl4 (s:ByteArray) (l:Int) (h0:0<=l) (h1:l<=s.size) (w:World):(Instr.sliceAt 9 (.string s) none (some (.int .i64 l)) none).run Tryz.prog w = .ok (.string (s.extract 0 l.toNat)) w:=by
 simp [Instr.sliceAt,Instr.slice,run_underlying Tryz.underlying9,Instr.sliceBounds,run_sliceBound,Result.andThen,h0,h1]
theorem PZ (s:ByteArray) (n:Nat):(s.extract n s.size).data.toList=s.data.toList.drop n:=by
 rw [ByteArray.data_extract,Array.toList_extract]
 simp only [List.extract]
 exact List.take_of_length_le (by rw [List.length_drop,Array.length_toList];exact Nat.le_refl _)
theorem Bd3 (s:ByteArray) (n:Nat):(s.extract 0 n).data.toList=s.data.toList.take n:=by
 rw [ByteArray.data_extract,Array.toList_extract]
 simp [List.extract]
set_option maxHeartbeats 4000000 in theorem Ce7 (a b:ByteArray) (ha:a.size<=1000000000) (hb:b.size<=1000000000) (w:World):Calls Tryz.prog 63 #[.string a,.string b] w λe w'=>e = .returned (.int .i64 (V5 a.data.toList b.data.toList))/\∃ q,w'=w.drewN q:=by
 have eL:∀ args w,(callFunc 97 args).run Tryz.prog w = .ok (.enter 97 args) w:=enters_of Tryz.func97 (by kernel_rfl) rfl
 have eS:∀ args w,(callFunc 98 args).run Tryz.prog w = .ok (.enter 98 args) w:=enters_of Tryz.func98 (by kernel_rfl) rfl
 have eI:∀ args w,(callFunc 99 args).run Tryz.prog w = .ok (.enter 99 args) w:=enters_of Tryz.func99 (by kernel_rfl) rfl
 go_enter Tryz.func63,Tryz.ntmps63
 go_wp2
 go_step3
 go_wp2
 try go_step3
 try go_wp2
 go_loopw [0,1] (λva vb wr=>∃ (x y:ByteArray) (n:Nat),va = .string x/\vb = .string y/\x.size<=1000000000/\y.size<=1000000000/\wr=w.drewN n/\Hid (V5 a.data.toList b.data.toList=V5 x.data.toList y.data.toList)) (λva _ _=>match va with | .string x=>x.size | _=>0)
 case atStart=>exact ⟨a,b,0,rfl,rfl,ha,hb,rfl,rfl⟩
 case round=>
  obtain ⟨x,y,n,rfl,rfl,hx,hy,hwr,hh⟩:=hrel
  obtain ⟨i,hi⟩:∃ i,i=J4 46 x.data.toList:=⟨_,rfl⟩
  obtain ⟨k,hk⟩:∃ k,k=J4 46 y.data.toList:=⟨_,rfl⟩
  have hxl:x.data.toList.length=x.size:=by rw [Array.length_toList];rfl
  have hyl:y.data.toList.length=y.size:=by rw [Array.length_toList];rfl
  have hi1:-1<=i/\i<x.size:=by rcases Ri x.data.toList with ⟨h,_⟩ | ⟨h,h',_⟩<;>omega
  have hk1:-1<=k/\k<y.size:=by rcases Ri y.data.toList with ⟨h,_⟩ | ⟨h,h',_⟩<;>omega
  obtain ⟨hi1,hi2⟩:=hi1
  obtain ⟨hk1,hk2⟩:=hk1
  have wx:∀ w,Calls Tryz.prog 97 #[.string x,.int .u8 46] w λe w'=>e = .returned (.int .i64 i)/\w'=w:=by rw [hi];exact Bn3 x (by omega)
  have wy:∀ w,Calls Tryz.prog 97 #[.string y,.int .u8 46] w λe w'=>e = .returned (.int .i64 k)/\w'=w:=by rw [hk];exact Bn3 y (by omega)
  have HI:Hid (i=J4 46 x.data.toList):=hi
  have HK:Hid (k=J4 46 y.data.toList):=hk
  have HW:Hid (wr=w.drewN n):=hwr
  clear hi hk hxl hyl hwr
  go_wp2_with (go_at_fn 97;refine (wx _).mono ?_;rintro e w' ⟨rfl,hw⟩;rw [hw])
  clear wx
  go_wp2_with (go_at_fn 97;refine (wy _).mono ?_;rintro e w' ⟨rfl,hw⟩;rw [hw])
  clear wy
  have ei:IntKind.i64.wrap (i+1)=i+1:=by simp [IntKind.wrap,IntKind.bits,IntKind.signed];omega
  have ek:IntKind.i64.wrap (k+1)=k+1:=by simp [IntKind.wrap,IntKind.bits,IntKind.signed];omega
  have s1:=UB x (i+1) (by omega) (by omega)
  have s2:=UB y (k+1) (by omega) (by omega)
  go_quiet (first | (go_at_call 98;exact Calls.quiet_of_same (Ck7 _ _ _)))
  rw [PZ,PZ]
  obtain ⟨c,hc⟩:∃ c,c=Y6 (x.data.toList.drop (i+1).toNat) (y.data.toList.drop (k+1).toNat):=⟨_,rfl⟩
  rw [<-hc]
  have HC:Hid (c=Y6 (x.data.toList.drop (i+1).toNat) (y.data.toList.drop (k+1).toNat)):=hc
  clear hc s1 s2 ei ek eS
  obtain ⟨w2,hw2⟩:∃ w2,w2=wr.drewN nq:=⟨_,rfl⟩
  rw [<-hw2]
  have HW2:Hid (w2=w.drewN (n+nq)):=by rw [hw2,HW.out,World.drewN_drewN];rfl
  clear hw2
  generalize n+nq=n2 at HW2
  have FIN:Hid (∀ v,v=V5 x.data.toList y.data.toList->(Ending.returned (.int .i64 v)=Ending.returned (.int .i64 (V5 a.data.toList b.data.toList))/\∃ m,w2=w.drewN m)):=λv hv=>⟨by rw [hh.out,hv],n2,HW2.out⟩
  have st:=Bc2 x.data.toList y.data.toList i k HI.out HK.out
  rw [<-HC.out] at st
  have ST:Hid (_/\_/\_):=st
  clear st
  go_wp2_with (go_at_fn 99;refine (Ck6 _ _ _).mono ?_;rintro e w' ⟨rfl,hw⟩;rw [hw])
  ·have hc0:c≠0:=by simpa using ‹(c != 0)=true›
   simp only [Exit.noGoto_ret]
   go_ret
   exact FIN.out _ (ST.out.1 hc0).symm
  ·have hc0:c=0:=by simpa using ‹(c != 0)=false›
   simp only [Exit.noGoto_ret]
   go_ret
   exact FIN.out _ (ST.out.2.1 hc0 (by omega)).symm
  ·have hc0:c=0:=by simpa using ‹(c != 0)=false›
   have s3:=Bl4 x i (by omega) (by omega)
   have s4:=Bl4 y k (by omega) (by omega)
   have E:=ST.out.2.2 hc0 (by omega) (by omega)
   have HE:Hid (V5 x.data.toList y.data.toList=V5 (x.data.toList.take i.toNat) (y.data.toList.take k.toNat)):=E
   clear E
   go_quiet (fail)
   go_wp2
   go_roundw
   case rel=>exact ⟨x.extract 0 i.toNat,y.extract 0 k.toNat,n2+nq,rfl,rfl,by simp [ByteArray.size_extract];omega,by simp [ByteArray.size_extract];omega,by rw [HW2.out,World.drewN_drewN],by rw [hh.out,HE.out,Bd3,Bd3];rfl⟩
   case measure=>simp [ByteArray.size_extract];omega
  ·have hc0:c=0:=by simpa using ‹(c != 0)=false›
   simp only [Exit.noGoto_ret]
   go_ret
   exact FIN.out _ (ST.out.2.1 hc0 (by omega)).symm
theorem Bd9 (w:World) (A B:Obj) (n:Nat):((w.alloc A).alloc B).drewN n=Sort.grow (w.drewN n) #[A,B]:=by
 have h:(w.heap.push A).push B=w.heap++#[A,B]:=by apply Array.toList_inj.1;simp
 show ({ (w.drewN n) with heap:=(w.heap.push A).push B }:World) = { (w.drewN n) with heap:=w.heap++#[A,B] }
 rw [h]
theorem Ce6 (a b:ByteArray) (p q:Bool) (ha:a.size<=1000000000) (hb:b.size<=1000000000) (w:World):Calls Tryz.prog 62 #[.agg #[.string a,.bool p],.agg #[.string b,.bool q]] w λe w'=>e = .returned (.int .i64 (V5 a.data.toList b.data.toList))/\∃ n os,w'=Sort.grow (w.drewN n) os:=by
 have eC:∀ args w,(callFunc 63 args).run Tryz.prog w = .ok (.enter 63 args) w:=enters_of Tryz.func63 (by kernel_rfl) rfl
 go_enter Tryz.func62,Tryz.ntmps62
 go_wp2_with (go_at_fn 63;refine (Ce7 _ _ ha hb _).mono ?_;rintro e w' ⟨rfl,m0,hw⟩;rw [hw])
 go_ret
 refine ⟨rfl,m0,#[.cells #[.string a,.bool p] 63,.cells #[.string b,.bool q] 63],?_⟩
 exact Bd9 _ _ _ _
end
end Go.Proofs.YtelhbgonncceeaaGreatDoor.E
namespace Go.Proofs
open Go.Shelf
def Tryz.sortEnt_ren:Go.Shelf.Ren:=⟨fun | 6=>61 | 15=>96 | 14=>95 | 28=>140 | 29=>141 | 20=>132 | 21=>133 | 22=>134 | 23=>135 | 24=>136 | 25=>137 | 26=>138 | 27=>139 | 46=>171 | 47=>172 | 48=>173 | 49=>174 | 50=>175 | 57=>190 | n=>n,fun | 22=>23 | 24=>63 | 25=>103 | 3=>3 | 39=>139 | 0=>0 | 53=>24 | 55=>168 | 4=>4 | 46=>161 | 45=>160 | 50=>84 | 5=>5 | 9=>9 | 66=>182 | 70=>186 | 76=>201 | 77=>202 | n=>n,fun | n=>n⟩
theorem Tryz.sortEnt:Go.Proofs.SlLaysF0.n6 Tryz.prog Tryz.sortEnt_ren:={
 mixed:=by kernel_rfl
 f6:=⟨Tryz.f61.name,by decide,Tryz.func61.trans (congrArg some (by kernel_rfl))⟩
 f14:=⟨Tryz.f95.name,by decide,Tryz.func95.trans (congrArg some (by kernel_rfl))⟩
 f15:=Tryz.func96.trans (congrArg some (by kernel_rfl))
 f20:=⟨Tryz.f132.name,by decide,Tryz.func132.trans (congrArg some (by kernel_rfl))⟩
 f21:=⟨Tryz.f133.name,by decide,Tryz.func133.trans (congrArg some (by kernel_rfl))⟩
 f22:=⟨Tryz.f134.name,by decide,Tryz.func134.trans (congrArg some (by kernel_rfl))⟩
 f23:=⟨Tryz.f135.name,by decide,Tryz.func135.trans (congrArg some (by kernel_rfl))⟩
 f24:=⟨Tryz.f136.name,by decide,Tryz.func136.trans (congrArg some (by kernel_rfl))⟩
 f25:=⟨Tryz.f137.name,by decide,Tryz.func137.trans (congrArg some (by kernel_rfl))⟩
 f26:=⟨Tryz.f138.name,by decide,Tryz.func138.trans (congrArg some (by kernel_rfl))⟩
 f27:=⟨Tryz.f139.name,by decide,Tryz.func139.trans (congrArg some (by kernel_rfl))⟩
 f28:=Tryz.func140.trans (congrArg some (by kernel_rfl))
 f29:=Tryz.func141.trans (congrArg some (by kernel_rfl))
 f46:=⟨Tryz.f171.name,by decide,Tryz.func171.trans (congrArg some (by kernel_rfl))⟩
 f47:=Tryz.func172.trans (congrArg some (by kernel_rfl))
 f48:=Tryz.func173.trans (congrArg some (by kernel_rfl))
 f49:=⟨Tryz.f174.name,by decide,Tryz.func174.trans (congrArg some (by kernel_rfl))⟩
 f50:=⟨Tryz.f175.name,by decide,Tryz.func175.trans (congrArg some (by kernel_rfl))⟩
 f57:=⟨Tryz.f190.name,by decide,Tryz.func190.trans (congrArg some (by kernel_rfl))⟩
 t0:=Tryz.underlying0
 a0:=Tryz.isAgg0
 z0:=Tryz.sizeOf0
 v0:=Tryz.zeroValue0
 t3:=Tryz.underlying3
 a3:=Tryz.isAgg3
 z3:=Tryz.sizeOf3
 v3:=Tryz.zeroValue3
 t4:=Tryz.underlying4
 a4:=Tryz.isAgg4
 z4:=Tryz.sizeOf4
 v4:=Tryz.zeroValue4
 t5:=Tryz.underlying5
 a5:=Tryz.isAgg5
 z5:=Tryz.sizeOf5
 v5:=Tryz.zeroValue5
 t9:=Tryz.underlying9
 a9:=Tryz.isAgg9
 z9:=Tryz.sizeOf9
 v9:=Tryz.zeroValue9
 t22:=Tryz.underlying23
 a22:=Tryz.isAgg23
 z22:=Tryz.sizeOf23
 v22:=Tryz.zeroValue23
 t25:=Tryz.underlying103
 a25:=Tryz.isAgg103
 z25:=Tryz.sizeOf103
 v25:=Tryz.zeroValue103
 t39:=Tryz.underlying139
 a39:=Tryz.isAgg139
 z39:=Tryz.sizeOf139
 v39:=Tryz.zeroValue139
 t45:=Tryz.underlying160
 a45:=Tryz.isAgg160
 z45:=Tryz.sizeOf160
 v45:=Tryz.zeroValue160
 t46:=Tryz.underlying161
 a46:=Tryz.isAgg161
 z46:=Tryz.sizeOf161
 v46:=Tryz.zeroValue161
 t50:=Tryz.underlying84
 a50:=Tryz.isAgg84
 z50:=Tryz.sizeOf84
 v50:=Tryz.zeroValue84
 t53:=Tryz.underlying24
 a53:=Tryz.isAgg24
 z53:=Tryz.sizeOf24
 v53:=Tryz.zeroValue24
 t55:=Tryz.underlying168
 a55:=Tryz.isAgg168
 z55:=Tryz.sizeOf168
 v55:=Tryz.zeroValue168
 t66:=Tryz.underlying182
 a66:=Tryz.isAgg182
 z66:=Tryz.sizeOf182
 v66:=Tryz.zeroValue182
 t70:=Tryz.underlying186
 a70:=Tryz.isAgg186
 z70:=Tryz.sizeOf186
 v70:=Tryz.zeroValue186
 t76:=Tryz.underlying201
 a76:=Tryz.isAgg201
 z76:=Tryz.sizeOf201
 v76:=Tryz.zeroValue201
 t77:=Tryz.underlying202
 a77:=Tryz.isAgg202
 z77:=Tryz.sizeOf202
 v77:=Tryz.zeroValue202 }
end Go.Proofs
namespace Go.Proofs.YtelhbgonncceeaaGreatDoor.E
set_option linter.all false
section
open Go Go.Proofs Go.RowKit Go.Sort
set_option maxRecDepth 100000
abbrev cfE:Oh->Oh->Int:=λx y=>V5 x.1.1 y.1.1
def Qs (e:Oh):List Value:=[.string ⟨e.1.1.toArray⟩,.bool e.1.2]
theorem Bc1 (blk off size:Nat) (w:World):CmpLays Tryz.prog 62 #[] Qs 2 cfE blk off size w:=by
 intro m os dk hs x y
 have h:=Ce6 ⟨x.1.1.toArray⟩ ⟨y.1.1.toArray⟩ x.1.2 y.1.2 (by have:=x.2;simpa [ByteArray.size] using this) (by have:=y.2;simpa [ByteArray.size] using this) (sortWorldK Qs 2 w blk off m dk os)
 exact h
theorem Bh9 {w:World} {blk e:Nat} {cur:Array Value} {fr:Nat × Nat} (h:w.heap[blk]? = some (.cells cur e fr)) (d:Array Oh) :
  (putRowK Qs 2 w blk 0 d).heap[blk]? = some (.cells (putCells id 0 (flatK Qs 2 d) cur) e fr)/\(∀ k,k≠blk->(putRowK Qs 2 w blk 0 d).heap[k]? = w.heap[k]?):=by
 unfold putRowK putRow mapBlock
 constructor
 ·simp only [Array.getElem?_modify,if_true,h,Option.map_some,onCells]
 ·intro k hk
  simp only [Array.getElem?_modify]
  rw [if_neg (λe=>hk e.symm)]
theorem Bz7 {cur:Array Value} {d:Array Oh} {i j:Nat} (hi:i<d.size) (hj:j<2) (hs:d.size*2<=cur.size):(putCells id 0 (flatK Qs 2 d) cur)[i*2+j]? = some ((Qs d[i]!)[j]!):=by
 have hlt:i*2+j<d.size*2:=by omega
 have hc:i*2+j<cur.size:=by omega
 unfold putCells
 rw [Array.getElem?_mapIdx,Array.getElem?_eq_getElem hc]
 simp only [Option.map_some,size_flatK,Nat.zero_le,true_and,Nat.zero_add,hlt,if_true,Nat.sub_zero,id]
 rw [get_flatK _ _ _ _ hlt,show (i*2+j) / 2=i by omega,show (i*2+j) % 2=j by omega]
theorem B64:OW Tryz.prog 61 JB:=by
 intro St w x X els hx h
 generalize hp:JB x els=pr at h ⊢
 obtain ⟨b,L⟩:=pr
 dsimp only at h ⊢
 unfold JB at hp
 split at hp
 case h_2=>
  obtain ⟨rfl,_⟩:=Prod.mk.inj hp
  cases h
 have eX:X = .func (.func 62) #[] #[]:=by
  cases hx with
  | fn _ _ _ A B As Bs _ hA hB _ _ _ _=>
   have:A = #[]:=by simpa using hA
   have:B = #[]:=by simpa using hB
   simp_all
 subst eX
 obtain ⟨hb,hL⟩:=Prod.mk.inj hp
 rw [<-hb] at h
 simp only [Bool.and_eq_true] at h
 obtain ⟨h0,h1,h2⟩:=h
 have none':∀ (p:Option Addr) cap,O4 Tryz.prog ((callFunc 61 #[.slice p 0 cap,.func (.func 62) #[] #[]]).run Tryz.prog w) λV w'=>V=undef/\w'=w:=λp cap=>
  Cj (fn:=Tryz.f61) (by kernel_rfl) (by kernel_rfl) (by kernel_rfl) ((AnyF.slices_SortFunc_none Tryz.sortEnt p cap _ w).mono λe w' ⟨he,hw⟩=>⟨_,he,rfl,hw⟩)
 obtain ⟨E,rfl⟩:∃ E,els=J8 E:=⟨_,Qv h0⟩
 rw [LU] at hL
 subst hL
 have hsm:=Cd5 h1
 have hlen:=(Aj0 hsm).length_eq
 refine ⟨λhn=>?_,?_⟩
 ·have hE:E=[]:=by
   cases E with
   | nil=>rfl
   | cons a r=>cases hn
  subst hE
  refine (none' none 0).mono λV w' ⟨hv,hw⟩=>⟨hv,?_,hw ▸ L6.refl _⟩
  have:Mh []=[]:=List.length_eq_zero_iff.1 hlen
  rw [this];rfl
 intro g0 cur e sz cap hg hcs hle hcap hst hlt hsz hcells
 by_cases hn:E=[]
 ·subst hn
  have hs0:Mh []=[]:=List.length_eq_zero_iff.1 hlen
  refine (none' _ cap).mono λV w' ⟨hv,hw⟩=>?_
  rw [hw]
  rw [hs0]
  exact ⟨hv,rfl,w,cur,hg,rfl,λ_ _=>rfl,rfl,rfl,rfl,rfl,λi h=>absurd h (Nat.not_lt_zero _),λi h=>absurd h (Nat.not_lt_zero _),L6.refl _⟩
 have hE:0<E.length:=List.length_pos_iff.2 hn
 have hel:∀ i (h:i<(J8 E).length),(J8 E)[i]=Uy (E[i]'(by simpa using h)):=λi h=>by simp [J8]
 have hs2:sz=2:=by
  have:=hsz 0 (by simpa using hE)
  rw [<-this,hel];rfl
 subst hs2
 obtain ⟨d,hd⟩:∃ d,(E.map mkS).toArray=d:=⟨_,rfl⟩
 have dsz:d.size=E.length:=by rw [<-hd];simp
 have dval:∀ i (hi:i<E.length),(d[i]!).1=E[i]:=λi hi=>by
  subst hd
  rw [getElem!_pos _ _ (by simpa using hi)]
  simp only [List.getElem_toArray,List.getElem_map]
  exact Aq9 (hsm _ (List.getElem_mem hi))
 have hcell:∀ t,t<d.size*2->cur[t]? = some ((Qs d[t / 2]!)[t % 2]!):=λt ht=>by
  have hi:t / 2<E.length:=by omega
  have hi':t / 2<(J8 E).length:=by simpa using hi
  have hl:((J8 E)[t / 2]).length=2:=by rw [hel];rfl
  obtain ⟨V,hV,hs⟩:=hcells (t / 2) hi' (t % 2) (by rw [hl];omega)
  rw [show t / 2*2+t % 2=t by omega] at hV
  have hx:((J8 E)[t / 2][t % 2]'(by rw [hl];omega))=(Uy E[t / 2])[t % 2]'(by show t % 2<2;omega):=by simp only [hel]
  rw [hx] at hs
  rw [hV]
  have dv:=dval _ hi
  rcases (show t % 2=0\/t % 2=1 by omega) with h | h
  ·have hs:VS St w (.str (E[t / 2]).1) V:=by simpa [h,Uy] using hs
   obtain ⟨s,hV2,hs2⟩:=hs.inv_str
   rw [hV2,h]
   show _=some (Value.string ⟨(d[t / 2]!).1.1.toArray⟩)
   rw [dv,<-hs2]
  ·have hs:VS St w (.bool (E[t / 2]).2) V:=by simpa [h,Uy] using hs
   rw [hs.inv_bool,h]
   show _=some (Value.bool (d[t / 2]!).1.2)
   rw [dv]
 have hH:HoldsK Qs 2 w g0 0 d:=λj hj=>by
  have hj':j<d.size*2:=by simpa using hj
  constructor
  ·simp only [World.cell?,hg,Nat.zero_add]
   rw [get_flatK _ _ _ _ hj']
   exact hcell j hj'
  ·simp [World.frozen?,hg]
 have hblk:g0<w.heap.size:=(Array.getElem?_eq_some_iff.1 hg).1
 have eg:∀ args w,(callFunc 62 args).run Tryz.prog w = .ok (.enter 62 args) w:=enters_of Tryz.func62 (by kernel_rfl) rfl
 have hm:cap<=9223372036854775807:=hcap
 have h2:(A3 (J8 E).length)=true:=h2
 have hb:d.size<4611686018427387904:=by
  have:=K8 h2
  rw [I7] at this
  omega
 have hh:=AnyQ.slices_SortFunc_eq Tryz.sortEnt 2 (λw=>by kernel_rfl) (λw=>by kernel_rfl) Qs (λ_=>rfl) (λx v hv=>by simp [Qs] at hv;rcases hv with rfl | rfl<;>rfl) cfE (UC λx:Oh=>x.1.1) 62 #[] g0 0 cap d w eg (Bc1 g0 0 d.size w) hH hblk hb
 have hsrt:=TU d
 have hS:Mh E=(Kj d).toList.map (·.1):=by unfold Mh;rw [hd]
 have ssz:(Kj d).size=d.size:=hsrt.2.1
 rw [show (J8 E).length=d.size by rw [I7,dsz]]
 refine Cj (fn:=Tryz.f61) (by kernel_rfl) (by kernel_rfl) (by kernel_rfl) (hh.mono λe' w' ⟨he,n,os,hw⟩=>⟨_,he,rfl,by rw [I7,hlen,dsz],?_⟩)
 have hcur:cur.size=cap*2:=hcs
 have hcap2:d.size*2<=cur.size:=by
  have:(J8 E).length<=cap:=hle
  rw [I7] at this
  omega
 obtain ⟨p1,p2⟩:=Bh9 hg (Kj d)
 have hel2:∀ i (h:i<(J8 (Mh E)).length),(J8 (Mh E))[i]=Uy ((Kj d)[i]!).1:=λi h=>by
  have hi:i<(Kj d).size:=by rw [I7,hlen] at h;omega
  rw [getElem!_pos (Kj d) i hi]
  simp [J8,hS]
 refine ⟨putRowK Qs 2 w g0 0 (Kj d),putCells id 0 (flatK Qs 2 (Kj d)) cur,p1,by simp [putCells],p2,by simp [putRowK,putRow,mapBlock],rfl,rfl,rfl,λi h=>by rw [hel2];rfl,λi h j h'=>?_,?_⟩
 ·have hl:((J8 (Mh E))[i]).length=2:=by rw [hel2];rfl
  have hj:j<2:=by rw [<-hl];exact h'
  have hi:i<(Kj d).size:=by rw [I7,hlen] at h;omega
  refine ⟨_,Bz7 hi hj (by omega),?_⟩
  have hx:(J8 (Mh E))[i][j]=(Uy ((Kj d)[i]!).1)[j]'(by show j<2;exact hj):=by simp only [hel2]
  rw [hx]
  rcases (show j=0\/j=1 by omega) with rfl | rfl
  ·have:=VS.str (St:=St) (w:=putRowK Qs 2 w g0 0 (Kj d)) ⟨((Kj d)[i]!).1.1.toArray⟩
   exact this
  ·exact VS.bool _
 ·rw [hw]
  refine ⟨⟨λg hgl=>heap_grow_old _ _ hgl,by simp only [sortWorldK,grow,Array.size_append];exact Nat.le_add_right _ _⟩,rfl,rfl,rfl⟩
end
section
open Go Go.Proofs Go.Sort
set_option maxRecDepth 100000
theorem B63:OM Tryz.prog GX 76 IO:=by
 refine Xn (C₀:=Mu LF) ((N6.ok (l:=[(59,Am2),(50,Oo)]) rfl ⟨B85,OF,trivial⟩)) (J0 rfl (by kernel_rfl)) follows ?_
 intro args H L h σ yh s s' hr
 unfold IO at h
 split at h
 ·rename_i t
  simp only [Option.some.injEq,Prod.mk.injEq] at h
  obtain ⟨h1,rfl⟩:=h
  obtain ⟨t',f⟩:=YK (R:=PV × List Blk × σ) yh t s s' h1 hr
  exact ⟨1,_,(Be7 LF yh 0 t s).trans (f _)⟩
 ·cases h
end
section
open Go Go.Proofs
set_option maxRecDepth 100000
section
variable {σ R : Type} (lf : Nat) (cl : G2) (yh : Yh σ) (s : σ) (k : Out -> St σ -> Option R)
noncomputable def AJ (lf:Nat):Cfg:=C8 lf [165] (A4 []) [] (A4 [(1,[2]),(0,[0])]) [] (A4 []) (some [2]) [] [] []
noncomputable def NL {R:Type} (lf:Nat) (n0:Int) (k0:Bool->Option R):Option R:=cond (not (ltI n0 0)) (cond (not (ltI 1114111 n0)) (cond (ltI n0 55296) (k0 true) (k0 (ltI 57343 n0))) (k0 false)) (k0 false)
theorem A39 (d:Nat) (n0):evC (AJ lf) (d+1) σ yh 165 [pI n0] [] s=NL lf n0 (λr0=>some (pB r0,[],s)):=by
 refine (evE (fn:=Tryz.f165) (by kernel_rfl)).trans ?_
 generalize evC (AJ lf) d=cl
 unfold NL;kernel_rfl
noncomputable abbrev Ll:Code:=D8 Tryz.f168
noncomputable def V4 (lf:Nat):Cfg:=C8 lf [168] (A4 [(6,[0,5,0])]) [] (A4 [(9,[6]),(8,[0,6]),(7,[0,6]),(6,[0,6,11]),(5,[0,6]),(4,[0]),(2,[0,0]),(3,[0,0]),(1,[0,0,6]),(0,[0,0,0])]) [] (A4 [(0,[0,6]),(1,[0,6])]) (some [6]) [] [] []
noncomputable def Ek {R:Type} (lf n:Nat) (delta0 kk1:Int) (k0:Int->Int->Option R):Option R:=match n with | 0=>none | n+1=>cond (ltI 455 delta0) (vl (A1 (Int.tdiv delta0 (35:Int))) λn'6=>vl (A1 (kk1+36)) λn'7=>Ek lf n n'6 n'7 k0) (k0 delta0 kk1)
theorem MZ (n delta0 kk1):E5 0 ((V4 lf).keep 6) (bd (V4 lf) cl yh (cd [1,1,1,1,0,0,0] Ll)) n ⟨gp [(0,pI delta0),(6,pI kk1)] 23,[],s⟩ k =
 Ek lf n delta0 kk1 (λdelta0 kk1=>k (.exit 0) ⟨gp [(0,pI delta0),(6,pI kk1)] 23,[],s⟩):=by
 induction n generalizing delta0 kk1 with
 | zero=>rfl
 | succ n ih=>rw [Ek];simp only [<-ih];kernel_rfl
noncomputable def Ej {R:Type} (lf:Nat) (delta0 n1:Int) (k0:Int->Option R):Option R:=cond (n1 != 0) (vl (A1 (Int.tdiv delta0 n1)) λn'5=>Ek lf lf (A1 (delta0+n'5)) 0 (λdelta'8 kk'9=>vl (A1 ((36:Int)*delta'8)) λn'10=>vl (A1 (delta'8+38)) λn'11=>cond (n'11 != 0) (vl (A1 (Int.tdiv n'10 n'11)) λn'12=>k0 (A1 (kk'9+n'12))) none)) none
abbrev Xi (b:Code):Prop:=∀ (k:Out->St σ->Option R) delta0 n1,A9 (V4 lf) cl yh b ⟨gp [(0,pI delta0),(0,pI n1)] 29,[],s⟩ k=Ej lf delta0 n1 (λn0=>k .ret ⟨gp [(6,pI n0)] 24,[],s⟩)
theorem MY:Xi (R:=R) lf cl yh s (cd [1,1] Ll):=by
 intro k delta0 n1;unfold Ej;exact (Eq.trans (by kernel_rfl) (A0 (A6 λn'5=>((MZ lf cl yh s (F9 0 (G1 (V4 lf) cl yh (cd [1,1,1,1,1] Ll) k)) lf (A1 (delta0+n'5)) 0).trans (by kernel_rfl))) rfl))
noncomputable def CQ {R:Type} (lf:Nat) (delta0 n1:Int) (first2:Bool) (k0:Int->Option R):Option R:=cond first2 (vl (A1 (Int.tdiv delta0 (700:Int))) λn'2=>Ej lf n'2 n1 (λn'13=>k0 n'13)) (vl (A1 (Int.tdiv delta0 (2:Int))) λn'3=>Ej lf n'3 n1 (λn'14=>k0 n'14))
theorem A17 (b_11:Code) (h_radapt_j0:Xi (R:=PV × List Blk × σ) lf cl yh s b_11) (delta0 n1:Int) (first2:Bool):A9 (V4 lf) cl yh (cd [] (J3 [1,1] b_11 Ll)) ⟨[pI delta0,pI n1,pB first2]++tps 28,[],s⟩ (G5 (V4 lf) Tryz.f168)=CQ lf delta0 n1 first2 (λr0=>some (pI r0,[],s)):=by
 unfold CQ;exact let K0:=(G5 (V4 lf) Tryz.f168);(Eq.trans (by kernel_rfl) (A0 (A6 λn'2=>((h_radapt_j0 K0 n'2 n1).trans (by kernel_rfl))) (A6 λn'3=>((h_radapt_j0 K0 n'3 n1).trans (by kernel_rfl)))))
theorem A18 (d:Nat) (delta0 n1 first2):evC (V4 lf) (d+1) σ yh 168 [pI delta0,pI n1,pB first2] [] s=CQ lf delta0 n1 first2 (λr0=>some (pI r0,[],s)):=
 (evE (fn:=Tryz.f168) (by kernel_rfl)).trans (Eq.trans (by kernel_rfl) (A17 lf (evC (V4 lf) d) yh s (cd [1,1] Ll) (MY lf (evC (V4 lf) d) yh s) delta0 n1 first2))
noncomputable def XA (lf:Nat):Cfg:=C8 lf [166] (A4 []) [] (A4 [(1,[4]),(0,[0,0])]) [] (A4 []) (some [4]) [] [] []
noncomputable def B25 {R:Type} (lf:Nat) (kk0 bias1:Int) (k0:Int->Option R):Option R:=vl (A1 ((36:Int)*(A1 (kk0+1)))) λn'0=>vl (if ((if ((A1 (n'0-bias1))<(26:Int)) then (A1 (n'0-bias1)) else (26:Int)) > (1:Int)) then (if ((A1 (n'0-bias1))<(26:Int)) then (A1 (n'0-bias1)) else (26:Int)) else (1:Int)) λn'1=>k0 n'1
theorem B26 (d:Nat) (kk0 bias1):evC (XA lf) (d+1) σ yh 166 [pI kk0,pI bias1] [] s=B25 lf kk0 bias1 (λr0=>some (pI r0,[],s)):=by
 refine (evE (fn:=Tryz.f166) (by kernel_rfl)).trans ?_
 generalize evC (XA lf) d=cl
 unfold B25;kernel_rfl
noncomputable def LH (lf:Nat):Cfg:=C8 lf [167] (A4 []) [] (A4 [(3,[2]),(2,[2]),(1,[0,3]),(0,[0])]) [] (A4 []) (some [2]) [] [] []
noncomputable def As0 {R:Type} (lf:Nat) (d0:Int) (k0:Int->Option R):Option R:=cond (ltI d0 26) (vl (wu8 (A1 ((97:Int)+d0))) λn'0=>k0 n'0) (vl (A1 ((A1 ((48:Int)+d0))-26)) λn'1=>k0 (wu8 n'1))
theorem Bi2 (d:Nat) (d0):evC (LH lf) (d+1) σ yh 167 [pI d0] [] s=As0 lf d0 (λr0=>some (p8 r0,[],s)):=by
 refine (evE (fn:=Tryz.f167) (by kernel_rfl)).trans ?_
 generalize evC (LH lf) d=cl
 unfold As0;kernel_rfl
noncomputable abbrev Pa:Code:=D8 Tryz.f176
noncomputable def He (lf:Nat):Cfg:=C8 lf [176] (A4 []) [] (A4 [(7,[2]),(2,[2]),(4,[2]),(6,[2]),(5,[0,22]),(3,[0,12]),(1,[0,2]),(0,[0])]) [] (A4 [(0,[])]) (some [2]) [] [] []
noncomputable def Su {R:Type} (b0:Int) (b1:Bool) (k0:Int->Option R) (k1:Int->Bool->Option R):Option R:=cond b1 (vl (A1 (wu8 (b0-65))) λn'1=>k0 n'1) (cond (not (ltI b0 48)) (cond (not (ltI 57 b0)) (vl (A1 (wu8 (b0-48))) λn'2=>vl (A1 (n'2+26)) λn'3=>k0 n'3) (k1 b0 (not (ltI 57 b0)))) (k1 b0 false))
abbrev HO (b:Code):Prop:=∀ (k:Out->St σ->Option R) b0 b1,A9 (He lf) cl yh b ⟨gp [(0,p8 b0),(12,pB b1)] 20,[],s⟩ k=Su b0 b1 (λn0=>k .ret ⟨gp [(2,pI n0)] 31,[],s⟩) (λb0 b1=>k .normal ⟨gp [(0,p8 b0),(22,pB b1)] 10,[],s⟩)
theorem Ai5:HO (R:=R) lf cl yh s (cd [1,0,0,1,1,1] Pa):=by
 intro k b0 b1;unfold Su;kernel_rfl
noncomputable def Sv {R:Type} (b0:Int) (b1:Bool) (k0:Int->Option R) (k1:Int->Bool->Option R):Option R:=cond b1 (vl (A1 (wu8 (b0-97))) λn'0=>k0 n'0) (cond (not (ltI b0 65)) (Su b0 (not (ltI 90 b0)) (λn'4=>k0 n'4) (λb'5 b'6=>k1 b'5 b'6)) (Su b0 false (λn'7=>k0 n'7) (λb'8 b'9=>k1 b'8 b'9)))
abbrev Wa (b:Code):Prop:=∀ (k:Out->St σ->Option R) b0 b1,A9 (He lf) cl yh b ⟨gp [(0,p8 b0),(2,pB b1)] 30,[],s⟩ k=Sv b0 b1 (λn0=>k .ret ⟨gp [(2,pI n0)] 31,[],s⟩) (λb0 b1=>k .normal ⟨gp [(0,p8 b0),(22,pB b1)] 10,[],s⟩)
theorem Ai6 (b_100111:Code) (h_rval_j0:HO (R:=R) lf cl yh s b_100111):Wa (R:=R) lf cl yh s (cd [1,0,0,1] (J3 [1,0,0,1,1,1] b_100111 Pa)):=by
 intro k b0 b1;unfold Sv;simp only [<-h_rval_j0 k];kernel_rfl
theorem Ai7:Wa (R:=R) lf cl yh s (cd [1,0,0,1] Pa):=by
 intro k b0 b1;exact Eq.trans (by kernel_rfl) (Ai6 lf cl yh s (cd [1,0,0,1,1,1] Pa) (Ai5 lf cl yh s) k b0 b1)
noncomputable def Bk7 {R:Type} (lf:Nat) (b0:Int) (k0:Int->Option R):Option R:=cond (not (ltI b0 97)) (Sv b0 (not (ltI 122 b0)) (λn'10=>k0 n'10) (λb'11 b'12=>k0 (-1))) (Sv b0 false (λn'13=>k0 n'13) (λb'14 b'15=>k0 (-1)))
theorem B31 (b_1001:Code) (h_rval_j1:Wa (R:=PV × List Blk × σ) lf cl yh s b_1001) (b0:Int):A9 (He lf) cl yh (cd [] (J3 [1,0,0,1] b_1001 Pa)) ⟨[p8 b0]++tps 33,[],s⟩ (G5 (He lf) Tryz.f176)=Bk7 lf b0 (λr0=>some (pI r0,[],s)):=by
 unfold Bk7;exact let K0:=(F9 0 (G1 (He lf) cl yh (cd [1,1] Pa) (G5 (He lf) Tryz.f176)));(Eq.trans (by kernel_rfl) (A0 ((h_rval_j1 K0 b0 (not (ltI 122 b0))).trans (by kernel_rfl)) ((h_rval_j1 K0 b0 false).trans (by kernel_rfl))))
theorem B32 (d:Nat) (b0):evC (He lf) (d+1) σ yh 176 [p8 b0] [] s=Bk7 lf b0 (λr0=>some (pI r0,[],s)):=
 (evE (fn:=Tryz.f176) (by kernel_rfl)).trans (Eq.trans (by kernel_rfl) (B31 lf (evC (He lf) d) yh s (cd [1,0,0,1] Pa) (Ai7 lf (evC (He lf) d) yh s) b0))
noncomputable abbrev Ak:Code:=D8 Tryz.f125
noncomputable def M4 (lf:Nat):Cfg:=C8 lf [125] (A4 [(32,[0,1,0,0,1,0,0,0,0,2,0,0]),(25,[0,1,0,0,1,0,0,0,0,2]),(18,[0,1,0,0,1,0,0,0,0,0,0]),(15,[0,1,0,0,1,0,0,0,0]),(5,[0,1,0,0,0])]) [(165,Qc),(166,VU),(167,Am7),(168,Zf)] (A4 [(43,[2,0]),(42,[0,3,1,0,0,0,0]),(41,[0,3,1,0,0,0,0]),(26,[0,3,1,0,0,0,0,2]),(40,[0,3,1,0,0,0,0,2]),(39,[0,3,1,0,0,0,0,2]),(38,[0,3,1,0,0,1,2]),(37,[0,3,1,0,0,0,3]),(36,[0,3,1,0,0,0,0,2,0,0]),(35,[0,3,1,0,0,0,0,2,0,0]),(34,[0,3,1,0,0,0,0,2,0,0,0]),(33,[0,3,1,0,0,0,0,2,0,0,0]),(32,[0,3,1,0,0,0,0,2,0,0,94]),(31,[0,3,1,0,0,0,0,2,0,0]),(30,[0,3,1,0,0,0,0,2,0]),(29,[0,3,1,0,0,0,0,2,90]),(28,[0,3,1,0,0,0,0,2]),(27,[0,3,1,0,0,0,0,2,82]),(25,[0,3,1,0,0,0,0,2,74]),(24,[0,3,1,0,0,0,0,2]),(23,[0,3,1,0,0,0,0]),(22,[0,3,1,0,1,0,0]),(19,[0,3,1,0,0,0,0,0,0]),(21,[0,3,1,0,0,0,0,0,0]),(20,[0,3,1,0,0,0,0,0,0,56]),(18,[0,3,1,0,0,0,0,0,0,48]),(17,[0,3,1,0,0,0,0,0,0]),(16,[0,3,1,0,0,0,0,0]),(15,[0,3,1,0,0,0,0,46]),(14,[0,3,1,0,0,0,0]),(13,[0,3,1,0]),(12,[0,3,1,0,42]),(11,[0,3,1,0]),(6,[0,3,0]),(10,[0,3,0]),(9,[0,3,0,30]),(8,[2,0]),(7,[0,3,0,25]),(5,[0,3,0,17]),(4,[0,3,0]),(3,[0,3]),(2,[2,0]),(1,[0,18]),(0,[0])]) [165,166,167,168] (A4 [(2,[4]),(3,[0,3,1,0,0,0,0]),(6,[0,3,1,0,0,0,0]),(7,[0,3,1,0,0,0,0,2]),(8,[0,3,1,0,0,0,3,0]),(9,[0,3,1,0,0,0,0,2,0,0]),(4,[0,3,1,0,0,0,0,0]),(5,[0,3,1,0,0,0,0,0,0]),(0,[0,3]),(1,[0,3,0])]) (some [2,0]) [] [] []
noncomputable def T2 {R:Type} (lf n:Nat) (points_z0 points_t1:Bool) (points2:LL) (i3:Int) (l4:LL) (k0:LL->Option R) (k1:Bool->Bool->LL->LL->Option R):Option R:=match n with | 0=>none | n+1=>cond (ltI i3 (points2.length:Int)) (cond (inR i3 points2.length) (cond (okE Il points2 (Int.toNat i3) 0) (vl (gE points2 (Int.toNat i3) 0) λn'1=>cond (not (ptI n'1)) (k0 l4) (cond (inR i3 points2.length) (cond (okE Il points2 (Int.toNat i3) 0) (vl (gE points2 (Int.toNat i3) 0) λn'3=>cond (ltI n'3 128) (cond (inR i3 points2.length) (cond (okE Il points2 (Int.toNat i3) 0) (vl (gE points2 (Int.toNat i3) 0) λn'4=>cond (F1 (l4.length+1)) (T2 lf n points_z0 points_t1 points2 (A1 (i3+1)) (l4++[[(SV.int .u8 (wu8 n'4))]]) k0 k1) none) none) none) (T2 lf n points_z0 points_t1 points2 (A1 (i3+1)) l4 k0 k1)) none) none)) none) none) (k1 points_z0 points_t1 points2 l4)
theorem Ac7 (n points_z0 points_t1 points2 i3 l4):E5 1 ((M4 lf).keep 5) (bd (M4 lf) cl yh (cd [1,1,1,0,1,0,0] Ak)) n ⟨gp [(0,.s (.sl points_z0 points_t1 1 points2)),(3,.fl 0),(0,pI i3)] 148,[.arr true 5 1 l4],s⟩ k =
 T2 lf n points_z0 points_t1 points2 i3 l4 (λl0=>k .ret ⟨gp [(2,pS ([]:List UInt8)),(0,pI (2:Int))] 150,[.arr true 5 1 l0],s⟩) (λpoints_z0 points_t1 points2 l3=>k (.exit 0) ⟨gp [(0,.s (.sl points_z0 points_t1 1 points2)),(3,.fl 0)] 149,[.arr true 5 1 l3],s⟩):=by
 induction n generalizing points_z0 points_t1 points2 i3 l4 with
 | zero=>rfl
 | succ n ih=>rw [T2];simp only [<-ih];kernel_rfl
noncomputable def Gs {R:Type} (lf n:Nat) (points_z0 points_t1:Bool) (points2:LL) (done3 basic4 n5 delta6 bias7 least8 i9:Int) (l10:LL) (k0:Bool->Bool->LL->Int->Int->Int->Int->Int->Int->LL->Option R):Option R:=match n with | 0=>none | n+1=>cond (ltI i9 (points2.length:Int)) (cond (inR i9 points2.length) (cond (okE Il points2 (Int.toNat i9) 0) (vl (gE points2 (Int.toNat i9) 0) λn'14=>cond (not (ltI n'14 n5)) (cond (inR i9 points2.length) (cond (okE Il points2 (Int.toNat i9) 0) (vl (gE points2 (Int.toNat i9) 0) λn'15=>vl (if (n'15<least8) then n'15 else least8) λn'16=>Gs lf n points_z0 points_t1 points2 done3 basic4 n5 delta6 bias7 n'16 (A1 (i9+1)) l10 k0) none) none) (Gs lf n points_z0 points_t1 points2 done3 basic4 n5 delta6 bias7 least8 (A1 (i9+1)) l10 k0)) none) none) (k0 points_z0 points_t1 points2 done3 basic4 n5 delta6 bias7 least8 l10)
theorem Ac8 (n points_z0 points_t1 points2 done3 basic4 n5 delta6 bias7 least8 i9 l10):E5 1 ((M4 lf).keep 18) (bd (M4 lf) cl yh (cd [1,1,1,1,1,1,1,0,0,0,1,0,1,0,1,0,0] Ak)) n ⟨gp [(0,.s (.sl points_z0 points_t1 1 points2)),(3,.fl 0),(1,pI done3),(0,pI basic4),(0,pI n5),(0,pI delta6),(0,pI bias7),(0,pI least8),(0,pI i9)] 141,[.arr true 5 1 l10],s⟩ k =
 Gs lf n points_z0 points_t1 points2 done3 basic4 n5 delta6 bias7 least8 i9 l10 (λpoints_z0 points_t1 points2 done3 basic4 n5 delta6 bias7 least8 l9=>k (.exit 4) ⟨gp [(0,.s (.sl points_z0 points_t1 1 points2)),(3,.fl 0),(1,pI done3),(0,pI basic4),(0,pI n5),(0,pI delta6),(0,pI bias7),(0,pI least8)] 142,[.arr true 5 1 l9],s⟩):=by
 induction n generalizing points_z0 points_t1 points2 done3 basic4 n5 delta6 bias7 least8 i9 l10 with
 | zero=>rfl
 | succ n ih=>rw [Gs];simp only [<-ih];kernel_rfl
noncomputable def Dr {R:Type} (lf n:Nat) (points_z0 points_t1:Bool) (points2:LL) (done3 basic4 n5 delta6 bias7 i8 q9 kk10:Int) (l11:LL) (k0:Bool->Bool->LL->Int->Int->Int->Int->Int->Int->LL->Option R):Option R:=match n with | 0=>none | n+1=>cond (ltN kk10 10000000000) (cond (ltN bias7 1000000) (vl (K9 (Int.mul (36:Int) kk10) bias7) λn'40=>cond (not (ltI q9 n'40)) (cond (ltN kk10 10000000000) (cond (ltN bias7 1000000) (vl (K9 (Int.mul (36:Int) kk10) bias7) λn'42=>vl (A1 ((36:Int)-n'42)) λn'46=>cond (n'46 != 0) (vl (Int.tmod (A1 (q9-n'42)) n'46) λn'47=>cond (ltN (A1 (n'42+n'47)) 36) (vl (↑(UInt8.toNat (Y8 (Int.toNat (A1 (n'42+n'47))))):Int) λn'48=>cond (F1 (l11.length+1)) (vl (A1 ((36:Int)-n'42)) λn'49=>cond (n'49 != 0) (vl (A1 (Int.tdiv (A1 (q9-n'42)) n'49)) λn'50=>vl (A1 (kk10+1)) λn'51=>Dr lf n points_z0 points_t1 points2 done3 basic4 n5 delta6 bias7 i8 n'50 n'51 (l11++[[(SV.int .u8 n'48)]]) k0) none) none) none) none) none) none) (k0 points_z0 points_t1 points2 done3 basic4 n5 delta6 i8 q9 l11)) none) none
theorem CT (n points_z0 points_t1 points2 done3 basic4 n5 delta6 bias7 i8 q9 kk10 l11):E5 1 ((M4 lf).keep 32) (bd (M4 lf) cl yh (cd [1,1,1,1,1,1,1,0,0,0,1,0,1,1,1,1,0,1,0,0,1,0,0,1,1,1,1,0,0,0] Ak)) n ⟨gp [(0,.s (.sl points_z0 points_t1 1 points2)),(3,.fl 0),(1,pI done3),(0,pI basic4),(0,pI n5),(0,pI delta6),(0,pI bias7),(2,pI i8),(0,pI q9),(0,pI kk10)] 138,[.arr true 5 1 l11],s⟩ k =
 Dr lf n points_z0 points_t1 points2 done3 basic4 n5 delta6 bias7 i8 q9 kk10 l11 (λpoints_z0 points_t1 points2 done3 basic4 n5 delta6 i7 q8 l9=>k (.exit 8) ⟨gp [(0,.s (.sl points_z0 points_t1 1 points2)),(3,.fl 0),(1,pI done3),(0,pI basic4),(0,pI n5),(0,pI delta6),(3,pI i7),(0,pI q8)] 139,[.arr true 5 1 l9],s⟩):=by
 induction n generalizing points_z0 points_t1 points2 done3 basic4 n5 delta6 bias7 i8 q9 kk10 l11 with
 | zero=>rfl
 | succ n ih=>rw [Dr];simp only [<-ih];kernel_rfl
noncomputable def Z3 {R:Type} (lf n:Nat) (points_z0 points_t1:Bool) (points2:LL) (done3 basic4 n5 delta6 bias7 i8:Int) (l9:LL) (k0:Bool->Bool->LL->Int->Int->Int->Int->Int->LL->Option R):Option R:=match n with | 0=>none | n+1=>cond (ltI i8 (points2.length:Int)) (cond (inR i8 points2.length) (cond (okE Il points2 (Int.toNat i8) 0) (vl (gE points2 (Int.toNat i8) 0) λn'33=>cond (ltI n'33 n5) (vl (A1 (delta6+1)) λn'34=>cond (inR i8 points2.length) (cond (okE Il points2 (Int.toNat i8) 0) (vl (gE points2 (Int.toNat i8) 0) λn'36=>cond (n'36 != n5) (Z3 lf n points_z0 points_t1 points2 done3 basic4 n5 n'34 bias7 (A1 (i8+1)) l9 k0) (Dr lf lf points_z0 points_t1 points2 done3 basic4 n5 n'34 bias7 i8 n'34 0 l9 (λpoints_z'52 points_t'53 points'54 done'55 basic'56 n'57 delta'58 i'59 q'60 l'61=>cond (ltN q'60 36) (vl (↑(UInt8.toNat (Y8 (Int.toNat q'60))):Int) λn'63=>cond (F1 (l'61.length+1)) (vl (A1 (done'55+1)) λn'64=>cond (ltN delta'58 1152921504606846976) (cond (ltN n'64 1000000) (cond (ltI 0 n'64) (vl (↑(P2 (Int.toNat delta'58) (Int.toNat n'64) (done'55==basic'56)):Int) λn'65=>vl (A1 (done'55+1)) λn'66=>vl (A1 (i'59+1)) λn'67=>Z3 lf n points_z'52 points_t'53 points'54 n'66 basic'56 n'57 0 n'65 n'67 (l'61++[[(SV.int .u8 n'63)]]) k0) none) none) none) none) none))) none) none) (cond (inR i8 points2.length) (cond (okE Il points2 (Int.toNat i8) 0) (vl (gE points2 (Int.toNat i8) 0) λn'38=>cond (n'38 != n5) (Z3 lf n points_z0 points_t1 points2 done3 basic4 n5 delta6 bias7 (A1 (i8+1)) l9 k0) (Dr lf lf points_z0 points_t1 points2 done3 basic4 n5 delta6 bias7 i8 delta6 0 l9 (λpoints_z'68 points_t'69 points'70 done'71 basic'72 n'73 delta'74 i'75 q'76 l'77=>cond (ltN q'76 36) (vl (↑(UInt8.toNat (Y8 (Int.toNat q'76))):Int) λn'79=>cond (F1 (l'77.length+1)) (vl (A1 (done'71+1)) λn'80=>cond (ltN delta'74 1152921504606846976) (cond (ltN n'80 1000000) (cond (ltI 0 n'80) (vl (↑(P2 (Int.toNat delta'74) (Int.toNat n'80) (done'71==basic'72)):Int) λn'81=>vl (A1 (done'71+1)) λn'82=>vl (A1 (i'75+1)) λn'83=>Z3 lf n points_z'68 points_t'69 points'70 n'82 basic'72 n'73 0 n'81 n'83 (l'77++[[(SV.int .u8 n'79)]]) k0) none) none) none) none) none))) none) none)) none) none) (k0 points_z0 points_t1 points2 done3 basic4 n5 delta6 bias7 l9)
theorem Ac9 (n points_z0 points_t1 points2 done3 basic4 n5 delta6 bias7 i8 l9):E5 1 ((M4 lf).keep 25) (bd (M4 lf) cl yh (cd [1,1,1,1,1,1,1,0,0,0,1,0,1,1,1,1,0,1,0,0] Ak)) n ⟨gp [(0,.s (.sl points_z0 points_t1 1 points2)),(3,.fl 0),(1,pI done3),(0,pI basic4),(0,pI n5),(0,pI delta6),(0,pI bias7),(2,pI i8)] 140,[.arr true 5 1 l9],s⟩ k =
 Z3 lf n points_z0 points_t1 points2 done3 basic4 n5 delta6 bias7 i8 l9 (λpoints_z0 points_t1 points2 done3 basic4 n5 delta6 bias7 l8=>k (.exit 6) ⟨gp [(0,.s (.sl points_z0 points_t1 1 points2)),(3,.fl 0),(1,pI done3),(0,pI basic4),(0,pI n5),(0,pI delta6),(0,pI bias7)] 143,[.arr true 5 1 l8],s⟩):=by
 induction n generalizing points_z0 points_t1 points2 done3 basic4 n5 delta6 bias7 i8 l9 with
 | zero=>rfl
 | succ n ih=>rw [Z3];exact let K0:=(F9 8 (G1 (M4 lf) cl yh (cd [1,1,1,1,1,1,1,0,0,0,1,0,1,1,1,1,0,1,0,0,1,0,0,1,1,1,1,1] Ak) (F9 7 (G1 (M4 lf) cl yh (cd [1,1,1,1,1,1,1,0,0,0,1,0,1,1,1,1,0,1,0,0,1,1] Ak) (lpK 1 ((M4 lf).keep 25) (bd (M4 lf) cl yh (cd [1,1,1,1,1,1,1,0,0,0,1,0,1,1,1,1,0,1,0,0] Ak)) n k)))));(Eq.trans (by kernel_rfl) (A0 (A0 (A0 (A6 λn'33=>(A0 (A6 λn'34=>(A0 (A0 (A6 λn'36=>(A0 (ih points_z0 points_t1 points2 done3 basic4 n5 n'34 bias7 (A1 (i8+1)) l9) ((CT lf cl yh s K0 lf points_z0 points_t1 points2 done3 basic4 n5 n'34 bias7 i8 n'34 0 l9).trans (congr rfl (Bs9 λpoints_z'52 points_t'53 points'54 done'55 basic'56 n'57 delta'58 i'59 q'60 l'61=>(Eq.trans (by kernel_rfl) (A0 (A6 λn'63=>(A0 (A6 λn'64=>(A0 (A0 (A0 (A6 λn'65=>(A6 λn'66=>(A6 λn'67=>(ih points_z'52 points_t'53 points'54 n'66 basic'56 n'57 0 n'65 n'67 (l'61++[[(SV.int .u8 n'63)]]))))) rfl) rfl) rfl)) rfl)) rfl))))))) rfl) rfl)) (A0 (A0 (A6 λn'38=>(A0 (ih points_z0 points_t1 points2 done3 basic4 n5 delta6 bias7 (A1 (i8+1)) l9) ((CT lf cl yh s K0 lf points_z0 points_t1 points2 done3 basic4 n5 delta6 bias7 i8 delta6 0 l9).trans (congr rfl (Bs9 λpoints_z'68 points_t'69 points'70 done'71 basic'72 n'73 delta'74 i'75 q'76 l'77=>(Eq.trans (by kernel_rfl) (A0 (A6 λn'79=>(A0 (A6 λn'80=>(A0 (A0 (A0 (A6 λn'81=>(A6 λn'82=>(A6 λn'83=>(ih points_z'68 points_t'69 points'70 n'82 basic'72 n'73 0 n'81 n'83 (l'77++[[(SV.int .u8 n'79)]]))))) rfl) rfl) rfl)) rfl)) rfl))))))) rfl) rfl))) rfl) rfl) rfl))
noncomputable def Dt {R:Type} (lf n:Nat) (points_z0 points_t1:Bool) (points2:LL) (done3 basic4 n5 delta6 bias7:Int) (l8:LL) (k0:LL->Option R):Option R:=match n with | 0=>none | n+1=>cond (ltI done3 (points2.length:Int)) (Gs lf lf points_z0 points_t1 points2 done3 basic4 n5 delta6 bias7 1073741824 0 l8 (λpoints_z'17 points_t'18 points'19 done'20 basic'21 n'22 delta'23 bias'24 least'25 l'26=>vl (A1 (done'20+1)) λn'29=>vl (A1 ((A1 (least'25-n'22))*n'29)) λn'30=>Z3 lf lf points_z'17 points_t'18 points'19 done'20 basic'21 least'25 (A1 (delta'23+n'30)) bias'24 0 l'26 (λpoints_z'84 points_t'85 points'86 done'87 basic'88 n'89 delta'90 bias'91 l'92=>vl (A1 (delta'90+1)) λn'93=>vl (A1 (n'89+1)) λn'94=>Dt lf n points_z'84 points_t'85 points'86 done'87 basic'88 n'94 n'93 bias'91 l'92 k0))) (k0 l8)
theorem CU (n points_z0 points_t1 points2 done3 basic4 n5 delta6 bias7 l8):E5 1 ((M4 lf).keep 15) (bd (M4 lf) cl yh (cd [1,1,1,1,1,1,1,0,0,0] Ak)) n ⟨gp [(0,.s (.sl points_z0 points_t1 1 points2)),(3,.fl 0),(1,pI done3),(0,pI basic4),(0,pI n5),(0,pI delta6),(0,pI bias7)] 143,[.arr true 5 1 l8],s⟩ k =
 Dt lf n points_z0 points_t1 points2 done3 basic4 n5 delta6 bias7 l8 (λl0=>k (.exit 2) ⟨gp [(4,.fl 0)] 149,[.arr true 5 1 l0],s⟩):=by
 induction n generalizing points_z0 points_t1 points2 done3 basic4 n5 delta6 bias7 l8 with
 | zero=>rfl
 | succ n ih=>rw [Dt];exact (Eq.trans (by kernel_rfl) (A0 ((Ac8 lf cl yh s (F9 4 (G1 (M4 lf) cl yh (cd [1,1,1,1,1,1,1,0,0,0,1,0,1,1] Ak) (F9 3 (lpK 1 ((M4 lf).keep 15) (bd (M4 lf) cl yh (cd [1,1,1,1,1,1,1,0,0,0] Ak)) n k)))) lf points_z0 points_t1 points2 done3 basic4 n5 delta6 bias7 1073741824 0 l8).trans (congr rfl (Bs9 λpoints_z'17 points_t'18 points'19 done'20 basic'21 n'22 delta'23 bias'24 least'25 l'26=>(Eq.trans (by kernel_rfl) (A6 λn'29=>(A6 λn'30=>((Ac9 lf cl yh s (F9 6 (G1 (M4 lf) cl yh (cd [1,1,1,1,1,1,1,0,0,0,1,0,1,1,1,1,1] Ak) (F9 3 (lpK 1 ((M4 lf).keep 15) (bd (M4 lf) cl yh (cd [1,1,1,1,1,1,1,0,0,0] Ak)) n k)))) lf points_z'17 points_t'18 points'19 done'20 basic'21 least'25 (A1 (delta'23+n'30)) bias'24 0 l'26).trans (congr rfl (fx9 λpoints_z'84 points_t'85 points'86 done'87 basic'88 n'89 delta'90 bias'91 l'92=>(Eq.trans (by kernel_rfl) (A6 λn'93=>(A6 λn'94=>(ih points_z'84 points_t'85 points'86 done'87 basic'88 n'94 n'93 bias'91 l'92))))))))))))) rfl))
noncomputable def SC {R:Type} (lf:Nat) (points_z0 points_t1:Bool) (points2:LL) (k0:Unit->Option R) (k1:By->Int->LL->Option R):Option R:=cond (ltI 256 (points2.length:Int)) (k0 ()) (T2 lf lf points_z0 points_t1 points2 0 [] (λl'5=>k1 ([]:List UInt8) 2 l'5) (λpoints_z'6 points_t'7 points'8 l'9=>vl (l'9.length:Int) λn'12=>vl (l'9.length:Int) λn'13=>cond (ltI 0 n'13) (cond (F1 (l'9.length+1)) (Dt lf lf points_z'6 points_t'7 points'8 n'12 n'13 128 0 72 (l'9++[[(SV.int .u8 (45:Int))]]) (λl'95=>cond (List.all l'95 Lt) (k1 (List.map Lc l'95) 0 l'95) none)) none) (Dt lf lf points_z'6 points_t'7 points'8 n'12 n'13 128 0 72 l'9 (λl'96=>cond (List.all l'96 Lt) (k1 (List.map Lc l'96) 0 l'96) none))))
theorem B06 (d:Nat) (points_z0 points_t1 points2):evC (M4 lf) (d+1) σ yh 125 [.s (.sl points_z0 points_t1 1 points2)] [] s=SC lf points_z0 points_t1 points2 (λ_=>some (.tup [pS ([]:List UInt8),pI (3:Int)],[],s)) (λr0 r1 l2=>some (.tup [pS r0,pI r1],[.arr true 5 1 l2],s)):=by
 refine (evE (fn:=Tryz.f125) (by kernel_rfl)).trans ?_
 generalize evC (M4 lf) d=cl
 unfold SC;exact let K0:=(F9 2 (G1 (M4 lf) cl yh (cd [1,1,1,1,1,1,1,1] Ak) (G5 (M4 lf) Tryz.f125)));(Eq.trans (by kernel_rfl) (A0 rfl ((Ac7 lf cl yh s (F9 0 (G1 (M4 lf) cl yh (cd [1,1,1,1] Ak) (G5 (M4 lf) Tryz.f125))) lf points_z0 points_t1 points2 0 []).trans (congr (congr rfl (by kernel_rfl)) (fx4 λpoints_z'6 points_t'7 points'8 l'9=>(Eq.trans (by kernel_rfl) (A6 λn'12=>(A6 λn'13=>(A0 (A0 ((CU lf cl yh s K0 lf points_z'6 points_t'7 points'8 n'12 n'13 128 0 72 (l'9++[[(SV.int .u8 (45:Int))]])).trans (by kernel_rfl)) rfl) ((CU lf cl yh s K0 lf points_z'6 points_t'7 points'8 n'12 n'13 128 0 72 l'9).trans (by kernel_rfl)))))))))))
noncomputable abbrev W5:Code:=D8 Tryz.f146
noncomputable def J5 (lf:Nat):Cfg:=C8 lf [146] (A4 [(27,[0,1,0,2,1,0,0,0,0,0,0,0]),(23,[0,1,0,2,1,0,0,0,0]),(13,[0,1,0,0,1,0]),(5,[0,1,0,0,0])]) [(176,A96),(166,VU),(168,Zf),(165,Qc)] (A4 [(51,[2,0]),(50,[0,5,1,0,0,0,0]),(49,[2,0]),(48,[0,5,1,0,0,0,0,118]),(47,[0,5,1,0,0,0,0]),(46,[2,0]),(45,[0,5,1,0,0,0,0,103]),(44,[0,5,1,0,0,0,0]),(43,[0,5,1,0,0,0,0]),(42,[0,5,1,0,0,0,0]),(41,[0,5,1,0,0,0]),(26,[0,5,1,0,0,0,0,0,0,0]),(40,[2,0]),(39,[0,5,1,0,0,0,0,0,0,0,77]),(38,[0,5,1,0,0,0,0,0,0,0]),(37,[0,5,1,0,0,0,0,0,0,0,1,69]),(36,[0,5,1,0,0,0,0,0,0,0,0,0]),(35,[2,0]),(34,[0,5,1,0,0,0,0,0,0,0,0,64]),(33,[0,5,1,0,0,0,0,0,0,0,0]),(32,[2,0]),(31,[0,5,1,0,0,0,0,0,0,0,0,57]),(30,[0,5,1,0,0,0,0,0,0,0,0]),(29,[0,5,1,0,0,0,0,0,0,0,0]),(28,[2,0]),(27,[0,5,1,0,0,0,0,0,0,0,50]),(25,[0,5,1,0,0,0,0,0,0,0]),(24,[0,5,1,0,0,0,0,0,0]),(23,[0,5,1,0,0,0,0,46]),(22,[0,5,1,0,0,0,0]),(21,[0,5,1,0,0,0]),(20,[0,5,1]),(19,[0,5,1,44]),(18,[0,3,1,1]),(17,[2,0]),(16,[0,3,1,43]),(14,[0,3,1,0]),(15,[0,3,1,0]),(13,[0,3,1,0,30]),(12,[0,3,1,0]),(11,[0,3,1]),(6,[0,3,0]),(10,[0,3,0]),(9,[0,3,0,28]),(8,[2,0]),(7,[0,3,0,24]),(5,[0,3,0,18]),(4,[0,3,0]),(3,[0,3]),(2,[2,0]),(1,[0,19]),(0,[0])]) [176,166,168,165] (A4 [(4,[6]),(5,[0,5,1,0,0,0,0]),(6,[0,5,1,0,0,1,0]),(7,[0,5,1,0,0,0,0,0,0,0]),(2,[0,3,1]),(3,[0,3,1,0]),(0,[0,3]),(1,[0,3,0])]) (some [2,0]) [] [] [] (rw:=[(47,6)])
noncomputable def Cu {R:Type} (lf n:Nat) (s0:By) (cut1 i2:Int) (k0:Unit->Option R) (k1:By->Int->Option R):Option R:=match n with | 0=>none | n+1=>cond (ltI i2 (s0.length:Int)) (cond (inR i2 s0.length) (cond (not (ltI (bAt s0 i2) (128:Int))) (k0 ()) (cond (inR i2 s0.length) (cond ((bAt s0 i2)==45) (Cu lf n s0 i2 (A1 (i2+1)) k0 k1) (Cu lf n s0 cut1 (A1 (i2+1)) k0 k1)) none)) none) (k1 s0 cut1)
theorem SQ (n s0 cut1 i2):E5 0 ((J5 lf).keep 5) (bd (J5 lf) cl yh (cd [1,1,1,0,1,0,0] W5)) n ⟨gp [(0,pS s0),(3,pI cut1),(0,pI i2)] 129,[],s⟩ k =
 Cu lf n s0 cut1 i2 (λ_=>k .ret ⟨gp [(2,.fl 0),(0,pI (4:Int))] 131,[.arr true 3 1 []],s⟩) (λs0 cut1=>k (.exit 0) ⟨gp [(0,pS s0),(3,pI cut1)] 130,[],s⟩):=by
 induction n generalizing s0 cut1 i2 with
 | zero=>rfl
 | succ n ih=>rw [Cu];simp only [<-ih];kernel_rfl
noncomputable def Fq {R:Type} (lf n:Nat) (s0:By) (cut1 i2:Int) (l3:LL) (k0:By->Int->LL->Option R):Option R:=match n with | 0=>none | n+1=>cond (ltI i2 cut1) (cond (inR i2 s0.length) (cond (F1 (l3.length+1)) (Fq lf n s0 cut1 (A1 (i2+1)) (l3++[[(SV.int .i64 (A1 (bAt s0 i2)))]]) k0) none) none) (k0 s0 cut1 l3)
theorem SU (n s0 cut1 i2 l3):E5 1 ((J5 lf).keep 13) (bd (J5 lf) cl yh (cd [1,1,1,1,1,0,1,0,0] W5)) n ⟨gp [(0,pS s0),(3,pI cut1),(1,.fl 0),(0,pI i2)] 127,[.arr true 3 1 l3],s⟩ k =
 Fq lf n s0 cut1 i2 l3 (λs0 cut1 l2=>k (.exit 2) ⟨gp [(0,pS s0),(3,pI cut1),(1,.fl 0)] 128,[.arr true 3 1 l2],s⟩):=by
 induction n generalizing s0 cut1 i2 l3 with
 | zero=>rfl
 | succ n ih=>rw [Fq];simp only [<-ih];kernel_rfl
noncomputable def T8 {R:Type} (lf n:Nat) (s0:By) (out1:LL) (at2 n3 i4 bias5 old6 w7 kk8:Int) (l9:LL) (k0:Int->LL->Option R) (k1:By->LL->Int->Int->Int->Int->LL->Option R):Option R:=match n with | 0=>none | n+1=>cond (not (ltI at2 (s0.length:Int))) (k0 4 l9) (cond (inR at2 s0.length) (cond (inR (bAt s0 at2) 256) (vl (E1 (u8n (bAt s0 at2))) λn'8=>cond (ltI n'8 0) (k0 4 l9) (vl (A1 (i4+(A1 (n'8*w7)))) λn'10=>cond (ltI 1099511627776 n'10) (k0 19 l9) (cond (ltN kk8 10000000000) (cond (ltN bias5 1000000) (vl (K9 (Int.mul (36:Int) kk8) bias5) λn'12=>cond (ltI n'8 n'12) (k1 s0 out1 (A1 (at2+1)) n3 n'10 old6 l9) (vl (A1 ((36:Int)-n'12)) λn'13=>cond (ltI 1099511627776 (A1 (w7*n'13))) (k0 19 l9) (T8 lf n s0 out1 (A1 (at2+1)) n3 n'10 bias5 old6 (A1 (w7*n'13)) (A1 (kk8+1)) l9 k0 k1))) none) none))) none) none)
theorem SW (n s0 out1 at2 n3 i4 bias5 old6 w7 kk8 l9):E5 1 ((J5 lf).keep 27) (bd (J5 lf) cl yh (cd [1,1,1,1,1,1,1,1,1,1,1,0,0,0,1,0,1,0,1,0,0] W5)) n ⟨gp [(0,pS s0),(5,.s (.sl false false 1 out1)),(1,pI at2),(0,pI n3),(0,pI i4),(0,pI bias5),(0,pB false),(0,pI old6),(0,pI w7),(0,pI kk8)] 119,[.arr true 3 1 l9],s⟩ k =
 T8 lf n s0 out1 at2 n3 i4 bias5 old6 w7 kk8 l9 (λn0 l1=>k .ret ⟨gp [(2,.fl 1),(0,pI n0)] 131,[.arr true 3 1 l1,.arr true 3 1 []],s⟩) (λs0 out1 at2 n3 i4 old5 l6=>k (.exit 6) ⟨gp [(0,pS s0),(5,.s (.sl false false 1 out1)),(1,pI at2),(0,pI n3),(0,pI i4),(1,pB false),(0,pI old5)] 121,[.arr true 3 1 l6],s⟩):=by
 induction n generalizing s0 out1 at2 n3 i4 bias5 old6 w7 kk8 l9 with
 | zero=>rfl
 | succ n ih=>rw [T8];simp only [<-ih];kernel_rfl
noncomputable def O2 {R:Type} (lf n:Nat) (s0:By) (out1:LL) (at2 n3 i4 bias5:Int) (l6:LL) (k0:Int->LL->Option R) (k1:LL->LL->Option R) (k2:LL->LL->Option R):Option R:=match n with | 0=>none | n+1=>cond (ltI at2 (s0.length:Int)) (T8 lf lf s0 out1 at2 n3 i4 bias5 i4 1 0 l6 (λn'14 l'15=>k0 n'14 l'15) (λs'16 out'17 at'18 n'19 i'20 old'21 l'22=>vl (A1 ((out'17.length:Int)+1)) λn'25=>cond (ltN (A1 (i'20-old'21)) 1152921504606846976) (cond (ltN n'25 1000000) (cond (ltI 0 n'25) (vl (↑(P2 (Int.toNat (A1 (i'20-old'21))) (Int.toNat n'25) false):Int) λn'26=>vl (A1 ((out'17.length:Int)+1)) λn'29=>cond (n'29 != 0) (vl (A1 (Int.tdiv i'20 n'29)) λn'30=>vl (A1 ((out'17.length:Int)+1)) λn'32=>cond (n'32 != 0) (cond (not (ptI (A1 (n'19+n'30)))) (k0 2 l'22) (cond (P0 0 (Int.tmod i'20 n'32) out'17.length) (vl (cut out'17 0 (Int.tmod i'20 n'32)) λl'33=>cond (P0 (Int.tmod i'20 n'32) (out'17.length:Int) out'17.length) (vl (cut out'17 (Int.tmod i'20 n'32) (out'17.length:Int)) λl'34=>cond (F1 (0+l'33.length)) (cond (F1 (l'33.length+1)) (cond (F1 ((List.length (l'33++[[(SV.int .i64 (A1 (n'19+n'30)))]]))+l'34.length)) (cond (ltI 256 (↑(List.length ((l'33++[[(SV.int .i64 (A1 (n'19+n'30)))]])++l'34)):Int)) (k1 l'22 ((l'33++[[(SV.int .i64 (A1 (n'19+n'30)))]])++l'34)) (vl (A1 ((Int.tmod i'20 n'32)+1)) λn'35=>O2 lf n s'16 ((l'33++[[(SV.int .i64 (A1 (n'19+n'30)))]])++l'34) at'18 (A1 (n'19+n'30)) n'35 n'26 l'22 k0 k1 k2)) none) none) none) none) none)) none) none) none) none) none)) (k2 out1 l6)
theorem SX (n s0 out1 at2 n3 i4 bias5 l6):E5 1 ((J5 lf).keep 23) (bd (J5 lf) cl yh (cd [1,1,1,1,1,1,1,1,1,1,1,0,0,0] W5)) n ⟨gp [(0,pS s0),(5,.s (.sl false false 1 out1)),(1,pI at2),(0,pI n3),(0,pI i4),(0,pI bias5),(0,pB false)] 122,[.arr true 3 1 l6],s⟩ k =
 O2 lf n s0 out1 at2 n3 i4 bias5 l6 (λn0 l1=>k .ret ⟨gp [(2,.fl 1),(0,pI n0)] 131,[.arr true 3 1 l1,.arr true 3 1 []],s⟩) (λl0 l1=>k .ret ⟨gp [(2,.fl 2),(0,pI (3:Int))] 131,[.arr true 3 1 l0,.arr false 3 1 l1,.arr true 3 1 []],s⟩) (λout0 l1=>k (.exit 4) ⟨gp [(6,.s (.sl false false 1 out0))] 128,[.arr true 3 1 l1],s⟩):=by
 induction n generalizing s0 out1 at2 n3 i4 bias5 l6 with
 | zero=>rfl
 | succ n ih=>rw [O2];exact (Eq.trans (by kernel_rfl) (A0 ((SW lf cl yh s (F9 6 (G1 (J5 lf) cl yh (cd [1,1,1,1,1,1,1,1,1,1,1,0,0,0,1,0,1,1] W5) (F9 5 (lpK 1 ((J5 lf).keep 23) (bd (J5 lf) cl yh (cd [1,1,1,1,1,1,1,1,1,1,1,0,0,0] W5)) n k)))) lf s0 out1 at2 n3 i4 bias5 i4 1 0 l6).trans (congr (congr rfl (by kernel_rfl)) (fx7 λs'16 out'17 at'18 n'19 i'20 old'21 l'22=>(Eq.trans (by kernel_rfl) (A6 λn'25=>(A0 (A0 (A0 (A6 λn'26=>(A6 λn'29=>(A0 (A6 λn'30=>(A6 λn'32=>(A0 (A0 rfl (A0 (A6 λl'33=>(A0 (A6 λl'34=>(A0 (A0 (A0 (A0 rfl (A6 λn'35=>(ih s'16 ((l'33++[[(SV.int .i64 (A1 (n'19+n'30)))]])++l'34) at'18 (A1 (n'19+n'30)) n'35 n'26 l'22))) rfl) rfl) rfl)) rfl)) rfl)) rfl))) rfl))) rfl) rfl) rfl)))))) rfl))
noncomputable def T9 {R:Type} (lf n:Nat) (s0:By) (at1 i2 w3 kk4:Int) (l5:LL) (k0:Int->LL->Option R) (k1:By->Int->Int->LL->Option R):Option R:=match n with | 0=>none | n+1=>cond (not (ltI at1 (s0.length:Int))) (k0 4 l5) (cond (inR at1 s0.length) (cond (inR (bAt s0 at1) 256) (vl (E1 (u8n (bAt s0 at1))) λn'37=>cond (ltI n'37 0) (k0 4 l5) (vl (A1 (i2+(A1 (n'37*w3)))) λn'39=>cond (ltI 1099511627776 n'39) (k0 19 l5) (cond (ltN kk4 10000000000) (cond (ltN 72 1000000) (vl (K9 (Int.mul (36:Int) kk4) (72:Int)) λn'41=>cond (ltI n'37 n'41) (k1 s0 (A1 (at1+1)) n'39 l5) (vl (A1 ((36:Int)-n'41)) λn'42=>cond (ltI 1099511627776 (A1 (w3*n'42))) (k0 19 l5) (T9 lf n s0 (A1 (at1+1)) n'39 (A1 (w3*n'42)) (A1 (kk4+1)) l5 k0 k1))) none) none))) none) none)
theorem SY (n s0 at1 i2 w3 kk4 l5):E5 1 ((J5 lf).keep 27) (bd (J5 lf) cl yh (cd [1,1,1,1,1,1,1,1,1,1,1,0,0,0,1,0,1,0,1,0,0] W5)) n ⟨gp [(0,pS s0),(5,.fl 0),(1,pI at1),(0,pI (128:Int)),(0,pI i2),(0,pI (72:Int)),(0,pB true),(0,pI (0:Int)),(0,pI w3),(0,pI kk4)] 119,[.arr true 3 1 l5],s⟩ k =
 T9 lf n s0 at1 i2 w3 kk4 l5 (λn0 l1=>k .ret ⟨gp [(2,.fl 1),(0,pI n0)] 131,[.arr true 3 1 l1,.arr true 3 1 []],s⟩) (λs0 at1 i2 l3=>k (.exit 6) ⟨gp [(0,pS s0),(5,.fl 0),(1,pI at1),(0,pI (128:Int)),(0,pI i2),(1,pB true),(0,pI (0:Int))] 121,[.arr true 3 1 l3],s⟩):=by
 induction n generalizing s0 at1 i2 w3 kk4 l5 with
 | zero=>rfl
 | succ n ih=>rw [T9];simp only [<-ih];kernel_rfl
noncomputable def K6 {R:Type} (lf n:Nat) (s0:By) (at1:Int) (l2:LL) (k0:Int->LL->Option R) (k1:LL->LL->Option R) (k2:LL->LL->Option R) (k3:LL->Option R):Option R:=match n with | 0=>none | n+1=>cond (ltI at1 (s0.length:Int)) (T9 lf lf s0 at1 0 1 0 l2 (λn'43 l'44=>k0 n'43 l'44) (λs'45 at'46 i'47 l'48=>vl (A1 (i'47-0)) λn'52=>vl (A1 ((l'48.length:Int)+1)) λn'53=>cond (ltN n'52 1152921504606846976) (cond (ltN n'53 1000000) (cond (ltI 0 n'53) (vl (↑(P2 (Int.toNat n'52) (Int.toNat n'53) true):Int) λn'54=>vl (A1 ((l'48.length:Int)+1)) λn'58=>cond (n'58 != 0) (vl (A1 (Int.tdiv i'47 n'58)) λn'59=>vl (A1 ((128:Int)+n'59)) λn'60=>vl (A1 ((l'48.length:Int)+1)) λn'62=>cond (n'62 != 0) (cond (not (ptI n'60)) (k0 2 l'48) (cond (P0 0 (Int.tmod i'47 n'62) l'48.length) (cond (P0 (Int.tmod i'47 n'62) (l'48.length:Int) l'48.length) (cond (F1 (0+(List.length (List.take ((Int.toNat (Int.tmod i'47 n'62))-0) (List.drop 0 l'48))))) (cond (F1 ((List.length (List.take ((Int.toNat (Int.tmod i'47 n'62))-0) (List.drop 0 l'48)))+1)) (vl ((List.take ((Int.toNat (Int.tmod i'47 n'62))-0) (List.drop 0 l'48))++[[(SV.int .i64 n'60)]]) λl'63=>cond (F1 (l'63.length+(List.length (List.take ((Int.toNat (l'48.length:Int))-(Int.toNat (Int.tmod i'47 n'62))) (List.drop (Int.toNat (Int.tmod i'47 n'62)) l'48))))) (vl (l'63++(List.take ((Int.toNat (l'48.length:Int))-(Int.toNat (Int.tmod i'47 n'62))) (List.drop (Int.toNat (Int.tmod i'47 n'62)) l'48))) λl'64=>cond (ltI 256 (l'64.length:Int)) (k1 l'48 l'64) (vl (A1 ((Int.tmod i'47 n'62)+1)) λn'65=>O2 lf n s'45 l'64 at'46 n'60 n'65 n'54 l'48 (λn'66 l'67=>k0 n'66 l'67) (λl'68 l'69=>k1 l'68 l'69) (λout'70 l'71=>k2 out'70 l'71))) none) none) none) none) none)) none) none) none) none) none)) (k3 l2)
theorem Xl (n s0 at1 l2):E5 1 ((J5 lf).keep 23) (bd (J5 lf) cl yh (cd [1,1,1,1,1,1,1,1,1,1,1,0,0,0] W5)) n ⟨gp [(0,pS s0),(5,.fl 0),(1,pI at1),(0,pI (128:Int)),(0,pI (0:Int)),(0,pI (72:Int)),(0,pB true)] 122,[.arr true 3 1 l2],s⟩ k =
 K6 lf n s0 at1 l2 (λn0 l1=>k .ret ⟨gp [(2,.fl 1),(0,pI n0)] 131,[.arr true 3 1 l1,.arr true 3 1 []],s⟩) (λl0 l1=>k .ret ⟨gp [(2,.fl 2),(0,pI (3:Int))] 131,[.arr true 3 1 l0,.arr false 3 1 l1,.arr true 3 1 []],s⟩) (λout0 l1=>k (.exit 4) ⟨gp [(6,.s (.sl false false 1 out0))] 128,[.arr true 3 1 l1],s⟩) (λl0=>k (.exit 4) ⟨gp [(6,.fl 0)] 128,[.arr true 3 1 l0],s⟩):=by
 induction n generalizing s0 at1 l2 with
 | zero=>rfl
 | succ n ih=>rw [K6];exact (Eq.trans (by kernel_rfl) (A0 ((SY lf cl yh s (F9 6 (G1 (J5 lf) cl yh (cd [1,1,1,1,1,1,1,1,1,1,1,0,0,0,1,0,1,1] W5) (F9 5 (lpK 1 ((J5 lf).keep 23) (bd (J5 lf) cl yh (cd [1,1,1,1,1,1,1,1,1,1,1,0,0,0] W5)) n k)))) lf s0 at1 0 1 0 l2).trans (congr (congr rfl (by kernel_rfl)) (fx4 λs'45 at'46 i'47 l'48=>(Eq.trans (by kernel_rfl) (A6 λn'52=>(A6 λn'53=>(A0 (A0 (A0 (A6 λn'54=>(A6 λn'58=>(A0 (A6 λn'59=>(A6 λn'60=>(A6 λn'62=>(A0 (A0 rfl (A0 (A0 (A0 (A0 (A6 λl'63=>(A0 (A6 λl'64=>(A0 rfl (A6 λn'65=>((SX lf cl yh s k n s'45 l'64 at'46 n'60 n'65 n'54 l'48).trans (congr (congr (congr rfl (fx2 λn'66 l'67=>rfl)) (fx2 λl'68 l'69=>rfl)) (fx2 λout'70 l'71=>rfl)))))) rfl)) rfl) rfl) rfl) rfl)) rfl)))) rfl))) rfl) rfl) rfl))))))) rfl))
noncomputable def As7 {R:Type} (lf:Nat) (s0:By) (k0:Int->LL->Option R) (k1:Int->LL->Option R) (k2:LL->LL->Option R) (k3:LL->LL->Option R):Option R:=cond (ltI 1024 (s0.length:Int)) (k0 3 []) (Cu lf lf s0 0 0 (λ_=>k0 4 []) (λs'0 cut'1=>Fq lf lf s'0 cut'1 0 [] (λs'2 cut'3 l'4=>cond (ltI 256 (l'4.length:Int)) (k1 3 l'4) (cond (ltI 0 cut'3) (vl (A1 (cut'3+1)) λn'6=>K6 lf lf s'2 n'6 l'4 (λn'72 l'73=>k1 n'72 l'73) (λl'74 l'75=>k2 l'74 l'75) (λout'76 l'77=>k3 out'76 l'77) (λl'78=>k0 0 l'78)) (K6 lf lf s'2 cut'3 l'4 (λn'79 l'80=>k1 n'79 l'80) (λl'81 l'82=>k2 l'81 l'82) (λout'83 l'84=>k3 out'83 l'84) (λl'85=>k0 0 l'85))))))
theorem Bj9 (d:Nat) (s0):evC (J5 lf) (d+1) σ yh 146 [pS s0] [] s=As7 lf s0 (λr0 l1=>some (.tup [.fl 0,pI r0],[.arr true 3 1 l1],s)) (λr0 l1=>some (.tup [.fl 1,pI r0],[.arr true 3 1 l1,.arr true 3 1 []],s)) (λl0 l1=>some (.tup [.fl 2,pI (3:Int)],[.arr true 3 1 l0,.arr false 3 1 l1,.arr true 3 1 []],s)) (λr0 l1=>some (.tup [.s (.sl false false 1 r0),pI (0:Int)],[.arr true 3 1 l1],s)):=by
 refine (evE (fn:=Tryz.f146) (by kernel_rfl)).trans ?_
 generalize evC (J5 lf) d=cl
 unfold As7;exact let K0:=(F9 4 (G1 (J5 lf) cl yh (cd [1,1,1,1,1,1,1,1,1,1,1,1] W5) (G5 (J5 lf) Tryz.f146)));(Eq.trans (by kernel_rfl) (A0 rfl ((SQ lf cl yh s (F9 0 (G1 (J5 lf) cl yh (cd [1,1,1,1] W5) (G5 (J5 lf) Tryz.f146))) lf s0 0 0).trans (congr (congr rfl (by kernel_rfl)) (fx2 λs'0 cut'1=>(Eq.trans (by kernel_rfl) ((SU lf cl yh s (F9 2 (G1 (J5 lf) cl yh (cd [1,1,1,1,1,1] W5) (G5 (J5 lf) Tryz.f146))) lf s'0 cut'1 0 []).trans (congr rfl (fx3 λs'2 cut'3 l'4=>(Eq.trans (by kernel_rfl) (A0 rfl (A0 (A6 λn'6=>((Xl lf cl yh s K0 lf s'2 n'6 l'4).trans (by kernel_rfl))) ((Xl lf cl yh s K0 lf s'2 cut'3 l'4).trans (by kernel_rfl))))))))))))))
noncomputable abbrev X7:Code:=D8 Tryz.f124
noncomputable def N7 (lf:Nat):Cfg:=C8 lf [124] (A4 [(17,[0,1,0,0,0,1,0,0,0]),(3,[0,1,0,0,0])]) [(165,Qc)] (A4 [(27,[2,0]),(26,[0,3,0]),(25,[0,3,0,1]),(24,[2,0]),(23,[0,3,0,1,0,77]),(18,[0,3,0,1,0,0,0]),(22,[0,3,0,1,0,0,0]),(21,[2,0]),(20,[0,3,0,1,0,0,0,0,61]),(19,[0,3,0,1,0,0,0,0]),(17,[0,3,0,1,0,0,0,48]),(16,[0,3,0,1,0,0,0]),(15,[2,0]),(14,[0,3,0,1,0,0,46]),(9,[0,3,0,1,0,0]),(11,[0,3,0,1,0,0]),(13,[0,3,0,1,0,0]),(6,[2,0]),(12,[0,3,0,0,35]),(10,[0,3,0,0,26]),(8,[0,3,0,0,17]),(7,[0,3,0,0,0,0,0,11]),(5,[0,3,0,0,0,0,0]),(4,[0,3,0,0]),(3,[0,3,0,9]),(2,[0,3,0]),(1,[0,3]),(0,[0])]) [165] (A4 [(0,[4]),(1,[0,3,0]),(3,[0,3,0,1,0,0]),(4,[0,3,0,1,0,0,0]),(2,[0,3,0,1,0,0])]) (some [2,0]) [] [] []
noncomputable def Sr {R:Type} (lf n:Nat) (s0:By) (i1 v2:Int) (l3:LL) (k0:By->Int->Int->LL->Option R):Option R:=match n with | 0=>none | n+1=>k0 s0 i1 v2 l3
theorem Ah4 (n s0 i1 v2 l3):E5 1 ((N7 lf).keep 17) (bd (N7 lf) cl yh (cd [1,1,0,1,0,0,1,0,1,1,1,1,0,1,0,0] X7)) n ⟨gp [(0,pS s0),(3,.fl 0),(0,pI i1),(1,pI (1:Int)),(0,pI v2),(0,pI (0:Int)),(0,pI (1:Int))] 84,[.arr true 3 1 l3],s⟩ k =
 Sr lf n s0 i1 v2 l3 (λs0 i1 v2 l3=>k (.exit 3) ⟨gp [(0,pS s0),(3,.fl 0),(0,pI i1),(1,pI (1:Int)),(0,pI v2),(0,pI (0:Int))] 85,[.arr true 3 1 l3],s⟩):=by
 induction n generalizing s0 i1 v2 l3 with
 | zero=>rfl
 | succ n ih=>rw [Sr];kernel_rfl
noncomputable def Sq {R:Type} (lf:Nat) (s0:By) (i1 b2:Int) (l4:LL) (k0:LL->Option R) (k1:By->Int->LL->Option R):Option R:=vl (A1 ((s0.length:Int)-i1)) λn'1=>cond (ltI n'1 1) (k0 l4) (Sr lf lf s0 i1 b2 l4 (λs'2 i'3 v'4 l'5=>cond (ltI v'4 0) (k0 l'5) (cond (not (ptI v'4)) (k0 l'5) (cond (F1 (l'5.length+1)) (k1 s'2 (A1 (i'3+1)) (l'5++[[(SV.int .i64 v'4)]])) none))))
abbrev Vy (b:Code):Prop:=∀ (k:Out->St σ->Option R) s0 i1 b2 b3 l4,A9 (N7 lf) cl yh b ⟨gp [(0,pS s0),(3,.fl 0),(0,pI i1),(0,pI b2),(0,pI (1:Int)),(0,pI b2),(0,pI (0:Int)),(11,pB b3)] 73,[.arr true 3 1 l4],s⟩ k=Sq lf s0 i1 b2 l4 (λl0=>k .ret ⟨gp [(2,.fl 1),(0,pB false)] 91,[.arr true 3 1 l0,.arr true 3 1 []],s⟩) (λs0 i1 l2=>k .normal ⟨gp [(0,pS s0),(3,.fl 0),(0,pI i1)] 89,[.arr true 3 1 l2],s⟩)
theorem Ag8:Vy (R:=R) lf cl yh s (cd [1,1,0,1,0,0,1,0,1,1,1] X7):=by
 intro k s0 i1 b2 b3 l4;unfold Sq;exact (Eq.trans (by kernel_rfl) (A6 λn'1=>(A0 rfl ((Ah4 lf cl yh s (F9 3 (G1 (N7 lf) cl yh (cd [1,1,0,1,0,0,1,0,1,1,1,1,1] X7) k)) lf s0 i1 b2 l4).trans (by kernel_rfl)))))
noncomputable def Kc {R:Type} (s0:By) (i1 b2:Int) (b3:Bool) (l4:LL) (k0:By->Int->Int->Int->Int->LL->Option R) (k1:LL->Option R):Option R:=cond b3 (vl (A1 (b2-224)) λn'11=>k0 s0 i1 3 n'11 2048 l4) (cond (not (ltI b2 240)) (cond (ltI b2 245) (vl (A1 (b2-240)) λn'12=>k0 s0 i1 4 n'12 65536 l4) (k1 l4)) (k1 l4))
abbrev HM (b:Code):Prop:=∀ (k:Out->St σ->Option R) s0 i1 b2 b3 l4,A9 (N7 lf) cl yh b ⟨gp [(0,pS s0),(3,.fl 0),(0,pI i1),(0,pI b2),(26,pB b3)] 61,[.arr true 3 1 l4],s⟩ k=Kc s0 i1 b2 b3 l4 (λs0 i1 n2 v3 least4 l5=>k .normal ⟨gp [(0,pS s0),(3,.fl 0),(0,pI i1),(1,pI n2),(0,pI v3),(0,pI least4)] 85,[.arr true 3 1 l5],s⟩) (λl0=>k .ret ⟨gp [(2,.fl 1),(0,pB false)] 91,[.arr true 3 1 l0,.arr true 3 1 []],s⟩)
theorem Ah0:HM (R:=R) lf cl yh s (cd [1,1,0,1,0,0,1,0,1,1,0,0,1,1,1,1,1] X7):=by
 intro k s0 i1 b2 b3 l4;unfold Kc;kernel_rfl
noncomputable def Kd {R:Type} (s0:By) (i1 b2:Int) (b3:Bool) (l4:LL) (k0:By->Int->Int->Int->Int->LL->Option R) (k1:LL->Option R):Option R:=cond b3 (vl (A1 (b2-192)) λn'10=>k0 s0 i1 2 n'10 128 l4) (cond (not (ltI b2 224)) (Kc s0 i1 b2 (ltI b2 240) l4 (λs'13 i'14 n'15 v'16 least'17 l'18=>k0 s'13 i'14 n'15 v'16 least'17 l'18) (λl'19=>k1 l'19)) (Kc s0 i1 b2 false l4 (λs'20 i'21 n'22 v'23 least'24 l'25=>k0 s'20 i'21 n'22 v'23 least'24 l'25) (λl'26=>k1 l'26)))
abbrev Nr (b:Code):Prop:=∀ (k:Out->St σ->Option R) s0 i1 b2 b3 l4,A9 (N7 lf) cl yh b ⟨gp [(0,pS s0),(3,.fl 0),(0,pI i1),(0,pI b2),(17,pB b3)] 70,[.arr true 3 1 l4],s⟩ k=Kd s0 i1 b2 b3 l4 (λs0 i1 n2 v3 least4 l5=>k .normal ⟨gp [(0,pS s0),(3,.fl 0),(0,pI i1),(1,pI n2),(0,pI v3),(0,pI least4)] 85,[.arr true 3 1 l5],s⟩) (λl0=>k .ret ⟨gp [(2,.fl 1),(0,pB false)] 91,[.arr true 3 1 l0,.arr true 3 1 []],s⟩)
theorem Ah1 (b_11010010110011111:Code) (h_rpts_j1:HM (R:=R) lf cl yh s b_11010010110011111):Nr (R:=R) lf cl yh s (cd [1,1,0,1,0,0,1,0,1,1,0,0,1,1,1] (J3 [1,1,0,1,0,0,1,0,1,1,0,0,1,1,1,1,1] b_11010010110011111 X7)):=by
 intro k s0 i1 b2 b3 l4;unfold Kd;simp only [<-h_rpts_j1 k];kernel_rfl
theorem Ah2:Nr (R:=R) lf cl yh s (cd [1,1,0,1,0,0,1,0,1,1,0,0,1,1,1] X7):=by
 intro k s0 i1 b2 b3 l4;exact Eq.trans (by kernel_rfl) (Ah1 lf cl yh s (cd [1,1,0,1,0,0,1,0,1,1,0,0,1,1,1,1,1] X7) (Ah0 lf cl yh s) k s0 i1 b2 b3 l4)
noncomputable def Dx {R:Type} (lf n:Nat) (s0:By) (i1 n2 v3 least4 kk5:Int) (l6:LL) (k0:LL->Option R) (k1:By->Int->Int->Int->Int->LL->Option R):Option R:=match n with | 0=>none | n+1=>cond (ltI kk5 n2) (cond (inR (A1 (i1+kk5)) s0.length) (vl (bAt s0 (A1 (i1+kk5))) λn'37=>cond (ltI (A1 n'37) (128:Int)) (k0 l6) (cond (ltI 191 (A1 n'37)) (k0 l6) (vl (A1 ((A1 (v3*64))+(A1 n'37))) λn'38=>vl (A1 (n'38-128)) λn'39=>Dx lf n s0 i1 n2 n'39 least4 (A1 (kk5+1)) l6 k0 k1))) none) (k1 s0 i1 n2 v3 least4 l6)
theorem Ah6 (n s0 i1 n2 v3 least4 kk5 l6):E5 1 ((N7 lf).keep 17) (bd (N7 lf) cl yh (cd [1,1,0,1,0,0,1,0,1,1,1,1,0,1,0,0] X7)) n ⟨gp [(0,pS s0),(3,.fl 0),(0,pI i1),(1,pI n2),(0,pI v3),(0,pI least4),(0,pI kk5)] 84,[.arr true 3 1 l6],s⟩ k =
 Dx lf n s0 i1 n2 v3 least4 kk5 l6 (λl0=>k .ret ⟨gp [(2,.fl 1),(0,pB false)] 91,[.arr true 3 1 l0,.arr true 3 1 []],s⟩) (λs0 i1 n2 v3 least4 l5=>k (.exit 3) ⟨gp [(0,pS s0),(3,.fl 0),(0,pI i1),(1,pI n2),(0,pI v3),(0,pI least4)] 85,[.arr true 3 1 l5],s⟩):=by
 induction n generalizing s0 i1 n2 v3 least4 kk5 l6 with
 | zero=>rfl
 | succ n ih=>rw [Dx];simp only [<-ih];kernel_rfl
noncomputable def Cg {R:Type} (lf:Nat) (s0:By) (i1 n2 v3 least4:Int) (l5:LL) (k0:LL->Option R) (k1:By->Int->LL->Option R):Option R:=vl (A1 ((s0.length:Int)-i1)) λn'35=>cond (ltI n'35 n2) (k0 l5) (Dx lf lf s0 i1 n2 v3 least4 1 l5 (λl'40=>k0 l'40) (λs'41 i'42 n'43 v'44 least'45 l'46=>cond (ltI v'44 least'45) (k0 l'46) (cond (not (ptI v'44)) (k0 l'46) (cond (F1 (l'46.length+1)) (k1 s'41 (A1 (i'42+n'43)) (l'46++[[(SV.int .i64 v'44)]])) none))))
abbrev Vz (b:Code):Prop:=∀ (k:Out->St σ->Option R) s0 i1 n2 v3 least4 l5,A9 (N7 lf) cl yh b ⟨gp [(0,pS s0),(3,.fl 0),(0,pI i1),(1,pI n2),(0,pI v3),(0,pI least4)] 85,[.arr true 3 1 l5],s⟩ k=Cg lf s0 i1 n2 v3 least4 l5 (λl0=>k .ret ⟨gp [(2,.fl 1),(0,pB false)] 91,[.arr true 3 1 l0,.arr true 3 1 []],s⟩) (λs0 i1 l2=>k .normal ⟨gp [(0,pS s0),(3,.fl 0),(0,pI i1)] 89,[.arr true 3 1 l2],s⟩)
theorem Ah3:Vz (R:=R) lf cl yh s (cd [1,1,0,1,0,0,1,0,1,1,1] X7):=by
 intro k s0 i1 n2 v3 least4 l5;unfold Cg;exact (Eq.trans (by kernel_rfl) (A6 λn'35=>(A0 rfl ((Ah6 lf cl yh s (F9 3 (G1 (N7 lf) cl yh (cd [1,1,0,1,0,0,1,0,1,1,1,1,1] X7) k)) lf s0 i1 n2 v3 least4 1 l5).trans (by kernel_rfl)))))
noncomputable def X4 {R:Type} (lf n:Nat) (s0:By) (i1:Int) (l2:LL) (k0:LL->Option R) (k1:LL->Option R):Option R:=match n with | 0=>none | n+1=>cond (ltI i1 (s0.length:Int)) (cond (inR i1 s0.length) (cond (ltI (A1 (bAt s0 i1)) (128:Int)) (Sq lf s0 i1 (A1 (bAt s0 i1)) l2 (λl'6=>k0 l'6) (λs'7 i'8 l'9=>X4 lf n s'7 i'8 l'9 k0 k1)) (cond (not (ltI (A1 (bAt s0 i1)) (194:Int))) (Kd s0 i1 (A1 (bAt s0 i1)) (ltI (A1 (bAt s0 i1)) (224:Int)) l2 (λs'27 i'28 n'29 v'30 least'31 l'32=>Cg lf s'27 i'28 n'29 v'30 least'31 l'32 (λl'47=>k0 l'47) (λs'48 i'49 l'50=>X4 lf n s'48 i'49 l'50 k0 k1)) (λl'33=>k0 l'33)) (Kd s0 i1 (A1 (bAt s0 i1)) false l2 (λs'51 i'52 n'53 v'54 least'55 l'56=>Cg lf s'51 i'52 n'53 v'54 least'55 l'56 (λl'58=>k0 l'58) (λs'59 i'60 l'61=>X4 lf n s'59 i'60 l'61 k0 k1)) (λl'57=>k0 l'57)))) none) (k1 l2)
theorem Ah7 (b_11010010111:Code) (h_rpts_j0:Vy (R:=R) lf cl yh s b_11010010111) (h_rpts_j3:Vz (R:=R) lf cl yh s b_11010010111) (b_110100101100111:Code) (h_rpts_j2:Nr (R:=R) lf cl yh s b_110100101100111) (n:Nat) (s0:By) (i1:Int) (l2:LL):E5 1 ((N7 lf).keep 3) (bd (N7 lf) cl yh (cd [1,1,0,1,0,0] (J3 [1,1,0,1,0,0,1,0,1,1,0,0,1,1,1] b_110100101100111 (J3 [1,1,0,1,0,0,1,0,1,1,1] b_11010010111 X7)))) n ⟨gp [(0,pS s0),(3,.fl 0),(0,pI i1)] 89,[.arr true 3 1 l2],s⟩ k =
 X4 lf n s0 i1 l2 (λl0=>k .ret ⟨gp [(2,.fl 1),(0,pB false)] 91,[.arr true 3 1 l0,.arr true 3 1 []],s⟩) (λl0=>k (.exit 0) ⟨gp [(4,.fl 0)] 90,[.arr true 3 1 l0],s⟩):=by
 induction n generalizing s0 i1 l2 with
 | zero=>rfl
 | succ n ih=>rw [X4];exact let K0:=(F9 1 (lpK 1 ((N7 lf).keep 3) (bd (N7 lf) cl yh (cd [1,1,0,1,0,0] (J3 [1,1,0,1,0,0,1,0,1,1,0,0,1,1,1] b_110100101100111 (J3 [1,1,0,1,0,0,1,0,1,1,1] b_11010010111 X7)))) n k));let K1:=(F9 2 (G1 (N7 lf) cl yh b_11010010111 K0));(Eq.trans (by kernel_rfl) (A0 (A0 (A0 ((h_rpts_j0 K0 s0 i1 (A1 (bAt s0 i1)) (ltI (A1 (bAt s0 i1)) (128:Int)) l2).trans (congr (congr rfl (by kernel_rfl)) (fx3 λs'7 i'8 l'9=>(Eq.trans (by kernel_rfl) (ih s'7 i'8 l'9))))) (A0 ((h_rpts_j2 K1 s0 i1 (A1 (bAt s0 i1)) (ltI (A1 (bAt s0 i1)) (224:Int)) l2).trans (congr (congr rfl (fx6 λs'27 i'28 n'29 v'30 least'31 l'32=>(Eq.trans (by kernel_rfl) ((h_rpts_j3 K0 s'27 i'28 n'29 v'30 least'31 l'32).trans (congr (congr rfl (by kernel_rfl)) (fx3 λs'48 i'49 l'50=>(Eq.trans (by kernel_rfl) (ih s'48 i'49 l'50)))))))) (by kernel_rfl))) ((h_rpts_j2 K1 s0 i1 (A1 (bAt s0 i1)) false l2).trans (congr (congr rfl (fx6 λs'51 i'52 n'53 v'54 least'55 l'56=>(Eq.trans (by kernel_rfl) ((h_rpts_j3 K0 s'51 i'52 n'53 v'54 least'55 l'56).trans (congr (congr rfl (by kernel_rfl)) (fx3 λs'59 i'60 l'61=>(Eq.trans (by kernel_rfl) (ih s'59 i'60 l'61)))))))) (by kernel_rfl))))) rfl) rfl))
noncomputable def B21 {R:Type} (lf:Nat) (s0:By) (k0:LL->Option R) (k1:LL->Option R):Option R:=X4 lf lf s0 0 [] (λl'62=>k0 l'62) (λl'63=>k1 l'63)
theorem B22 (b_11010010111:Code) (h_rpts_j0:Vy (R:=PV × List Blk × σ) lf cl yh s b_11010010111) (h_rpts_j3:Vz (R:=PV × List Blk × σ) lf cl yh s b_11010010111) (b_110100101100111:Code) (h_rpts_j2:Nr (R:=PV × List Blk × σ) lf cl yh s b_110100101100111) (s0:By):A9 (N7 lf) cl yh (cd [] (J3 [1,1,0,1,0,0,1,0,1,1,0,0,1,1,1] b_110100101100111 (J3 [1,1,0,1,0,0,1,0,1,1,1] b_11010010111 X7))) ⟨[pS s0]++tps 94,[],s⟩ (G5 (N7 lf) Tryz.f124)=B21 lf s0 (λl0=>some (.tup [.fl 1,pB false],[.arr true 3 1 l0,.arr true 3 1 []],s)) (λl0=>some (.tup [.fl 0,pB true],[.arr true 3 1 l0],s)):=by
 unfold B21;exact (Eq.trans (by kernel_rfl) ((Ah7 lf cl yh s (F9 0 (G1 (N7 lf) cl yh (cd [1,1,1] X7) (G5 (N7 lf) Tryz.f124))) b_11010010111 h_rpts_j0 h_rpts_j3 b_110100101100111 h_rpts_j2 lf s0 0 []).trans (by kernel_rfl)))
theorem B23 (d:Nat) (s0):evC (N7 lf) (d+1) σ yh 124 [pS s0] [] s=B21 lf s0 (λl0=>some (.tup [.fl 1,pB false],[.arr true 3 1 l0,.arr true 3 1 []],s)) (λl0=>some (.tup [.fl 0,pB true],[.arr true 3 1 l0],s)):=
 (evE (fn:=Tryz.f124) (by kernel_rfl)).trans (Eq.trans (by kernel_rfl) (B22 lf (evC (N7 lf) d) yh s (cd [1,1,0,1,0,0,1,0,1,1,1] X7) (Ag8 lf (evC (N7 lf) d) yh s) (Ah3 lf (evC (N7 lf) d) yh s) (cd [1,1,0,1,0,0,1,0,1,1,0,0,1,1,1] X7) (Ah2 lf (evC (N7 lf) d) yh s) s0))
noncomputable abbrev Ao4:Code:=D8 Tryz.f103
noncomputable def Jh (lf:Nat):Cfg:=C8 lf [103] (A4 [(6,[0,1,0,1,0])]) [(146,An3),(125,VO)] (A4 [(12,[2]),(11,[0,4,1,0]),(7,[0,2,1,0]),(10,[2]),(9,[0,2,1,0,34]),(8,[0,2,1,0]),(6,[0,2,1,0,12]),(5,[0,2,1,0]),(4,[0,2,1]),(3,[2]),(2,[0,2,11]),(1,[0,2,0]),(0,[0])]) [125] (A4 [(0,[0,2,1]),(1,[0,2,1,0])]) (some [2]) [] [] []
noncomputable def W0 {R:Type} (lf n:Nat) (rest0:By) (p_z1:Bool) (p2:LL) (other3:Bool) (i4:Int) (k0:Unit->Option R) (k1:By->Bool->LL->Bool->Option R):Option R:=match n with | 0=>none | n+1=>cond (ltI i4 (p2.length:Int)) (cond other3 (cond (inR i4 p2.length) (cond (okE Il p2 (Int.toNat i4) 0) (cond (not (ltI (gE p2 (Int.toNat i4) 0) (65:Int))) (cond (inR i4 p2.length) (cond (okE Il p2 (Int.toNat i4) 0) (cond (not (ltI 90 (gE p2 (Int.toNat i4) 0))) (k0 ()) (W0 lf n rest0 p_z1 p2 true (A1 (i4+1)) k0 k1)) none) none) (W0 lf n rest0 p_z1 p2 true (A1 (i4+1)) k0 k1)) none) none) (cond (inR i4 p2.length) (cond (okE Il p2 (Int.toNat i4) 0) (cond (inR i4 p2.length) (cond (okE Il p2 (Int.toNat i4) 0) (cond (not (ltI (gE p2 (Int.toNat i4) 0) (65:Int))) (cond (inR i4 p2.length) (cond (okE Il p2 (Int.toNat i4) 0) (cond (not (ltI 90 (gE p2 (Int.toNat i4) 0))) (k0 ()) (W0 lf n rest0 p_z1 p2 (not (ltI (gE p2 (Int.toNat i4) 0) (128:Int))) (A1 (i4+1)) k0 k1)) none) none) (W0 lf n rest0 p_z1 p2 (not (ltI (gE p2 (Int.toNat i4) 0) (128:Int))) (A1 (i4+1)) k0 k1)) none) none) none) none)) (k1 rest0 p_z1 p2 other3)
theorem TJ (n rest0 p_z1 p2 other3 i4):E5 0 ((Jh lf).keep 6) (bd (Jh lf) cl yh (cd [1,1,1,1,0,1,0,0] Ao4)) n ⟨gp [(0,pS rest0),(2,.s (.sl p_z1 p_z1 1 p2)),(1,pB other3),(0,pI i4)] 50,[],s⟩ k =
 W0 lf n rest0 p_z1 p2 other3 i4 (λ_=>k .ret ⟨gp [(2,pB false)] 54,[],s⟩) (λrest0 p_z1 p2 other3=>k (.exit 0) ⟨gp [(0,pS rest0),(2,.s (.sl p_z1 p_z1 1 p2)),(1,pB other3)] 51,[],s⟩):=by
 induction n generalizing rest0 p_z1 p2 other3 i4 with
 | zero=>rfl
 | succ n ih=>rw [W0];simp only [<-ih];kernel_rfl
noncomputable def At0 {R:Type} (lf:Nat) (rest0:By) (k0:Bool->Option R):Option R:=cond (A3 rest0.length) (vl (↑((M8 rest0)).2:Int) λn'1=>cond (n'1 != 0) (k0 false) (W0 lf lf rest0 (List.isEmpty ((M8 rest0)).1) (Jr ((M8 rest0)).1) false 0 (λ_=>k0 false) (λrest'2 p_z'3 p'4 other'5=>cond (List.all p'4 Kv) (vl ((U4 (List.map elI p'4))).1 λs'8=>vl (↑((U4 (List.map elI p'4))).2:Int) λn'9=>cond (n'9==0) (cond (s'8==rest'2) (k0 other'5) (k0 false)) (k0 false)) none))) none
theorem Bk5 (d:Nat) (rest0):evC (Jh lf) (d+1) σ yh 103 [pS rest0] [] s=At0 lf rest0 (λr0=>some (pB r0,[],s)):=by
 refine (evE (fn:=Tryz.f103) (by kernel_rfl)).trans ?_
 generalize evC (Jh lf) d=cl
 unfold At0;exact (Eq.trans (by kernel_rfl) (A0 (A6 λn'1=>(A0 rfl ((TJ lf cl yh s (F9 0 (G1 (Jh lf) cl yh (cd [1,1,1,1,1] Ao4) (G5 (Jh lf) Tryz.f103))) lf rest0 (List.isEmpty ((M8 rest0)).1) (Jr ((M8 rest0)).1) false 0).trans (by kernel_rfl)))) rfl))
noncomputable abbrev Ao2:Code:=D8 Tryz.f69
noncomputable def Jf (lf:Nat):Cfg:=C8 lf [69] (A4 [(4,[0,1,0])]) [(103,An5)] (A4 [(9,[2]),(5,[0,2]),(8,[2]),(7,[0,2,52]),(6,[0,2,0]),(4,[0,2,24]),(3,[0,2]),(2,[2]),(1,[0,23]),(0,[0])]) [103] (A4 [(0,[0]),(1,[0,2])]) (some [2]) [] [] []
noncomputable def N1 {R:Type} (lf n:Nat) (s0:By) (i1:Int) (k0:Unit->Option R) (k1:By->Option R):Option R:=match n with | 0=>none | n+1=>cond (ltI i1 (s0.length:Int)) (cond (inR i1 s0.length) (cond (not (ltI (bAt s0 i1) (97:Int))) (cond (not (ltI 122 (bAt s0 i1))) (N1 lf n s0 (A1 (i1+1)) k0 k1) (cond (not (ltI (bAt s0 i1) (48:Int))) (cond (not (ltI 57 (bAt s0 i1))) (N1 lf n s0 (A1 (i1+1)) k0 k1) (cond ((bAt s0 i1)==45) (N1 lf n s0 (A1 (i1+1)) k0 k1) (cond (not ((bAt s0 i1)==95)) (k0 ()) (N1 lf n s0 (A1 (i1+1)) k0 k1)))) (cond ((bAt s0 i1)==45) (N1 lf n s0 (A1 (i1+1)) k0 k1) (cond (not ((bAt s0 i1)==95)) (k0 ()) (N1 lf n s0 (A1 (i1+1)) k0 k1))))) (cond (not (ltI (bAt s0 i1) (48:Int))) (cond (not (ltI 57 (bAt s0 i1))) (N1 lf n s0 (A1 (i1+1)) k0 k1) (cond ((bAt s0 i1)==45) (N1 lf n s0 (A1 (i1+1)) k0 k1) (cond (not ((bAt s0 i1)==95)) (k0 ()) (N1 lf n s0 (A1 (i1+1)) k0 k1)))) (cond ((bAt s0 i1)==45) (N1 lf n s0 (A1 (i1+1)) k0 k1) (cond (not ((bAt s0 i1)==95)) (k0 ()) (N1 lf n s0 (A1 (i1+1)) k0 k1))))) none) (k1 s0)
theorem SM (n s0 i1):E5 0 ((Jf lf).keep 4) (bd (Jf lf) cl yh (cd [1,1,0,1,0,0] Ao2)) n ⟨gp [(0,pS s0),(2,pI i1)] 66,[],s⟩ k =
 N1 lf n s0 i1 (λ_=>k .ret ⟨gp [(2,pB false)] 67,[],s⟩) (λs0=>k (.exit 0) ⟨gp [(0,pS s0)] 69,[],s⟩):=by
 induction n generalizing s0 i1 with
 | zero=>rfl
 | succ n ih=>rw [N1];simp only [<-ih];kernel_rfl
noncomputable def As5 {R:Type} (lf:Nat) (s0:By) (k0:Bool->Option R):Option R:=cond (s0==[]) (k0 false) (cond (ltI 63 (s0.length:Int)) (k0 false) (cond (inR 0 s0.length) (cond ((bAt s0 (0:Int))==45) (k0 false) (vl (A1 ((s0.length:Int)-1)) λn'1=>cond (inR n'1 s0.length) (cond ((bAt s0 n'1)==45) (k0 false) (N1 lf lf s0 0 (λ_=>k0 false) (λs'2=>cond (ltI (s'2.length:Int) (4:Int)) (k0 true) (cond (P0 0 (4:Int) s'2.length) (vl (cut s'2 0 (4:Int)) λs'3=>cond (not (s'3==[120,110,45,45])) (k0 true) (cond (P0 4 (s'2.length:Int) s'2.length) (vl (cut s'2 4 (s'2.length:Int)) λs'4=>cond (A3 s'4.length) (k0 (Ce s'4)) none) none)) none)))) none)) none))
theorem Bj6 (d:Nat) (s0):evC (Jf lf) (d+1) σ yh 69 [pS s0] [] s=As5 lf s0 (λr0=>some (pB r0,[],s)):=by
 refine (evE (fn:=Tryz.f69) (by kernel_rfl)).trans ?_
 generalize evC (Jf lf) d=cl
 unfold As5;exact (Eq.trans (by kernel_rfl) (A0 rfl (A0 rfl (A0 (A0 rfl (A6 λn'1=>(A0 (A0 rfl ((SM lf cl yh s (F9 0 (G1 (Jf lf) cl yh (cd [1,1,1] Ao2) (G5 (Jf lf) Tryz.f69))) lf s0 0).trans (by kernel_rfl))) rfl))) rfl))))
noncomputable def LJ (lf:Nat):Cfg:=C8 lf [91] (A4 []) [(124,A93),(87,VR),(125,VO),(69,An2)] (A4 [(15,[2,0]),(14,[2,0]),(13,[6,37]),(12,[6]),(11,[2,0]),(10,[9,29]),(9,[9,0]),(8,[7]),(7,[6,20]),(6,[0,3,1]),(5,[2,0]),(4,[0,3,15]),(3,[2,0]),(2,[0,3,12]),(1,[0,3,0]),(0,[0])]) [87,125,69] (A4 []) (some [2,0]) [] [] []
noncomputable def As4 {R:Type} (lf:Nat) (s0:By) (k0:By->Int->Option R):Option R:=cond (A3 s0.length) (cond (not (Option.isSome (Bx s0))) (k0 ([]:List UInt8) 4) (cond (ltI 256 (↑(List.length (Jr (Nv s0))):Int)) (k0 ([]:List UInt8) 3) (cond (A3 s0.length) (cond (ltI (↑(List.length (Jr (Nv s0))):Int) (s0.length:Int)) (cond (A3 (List.length (C7 s0))) (cond (List.all (Jr (Nv (C7 s0))) Kv) (vl ((U4 (List.map elI (Jr (Nv (C7 s0)))))).1 λs'0=>vl (↑((U4 (List.map elI (Jr (Nv (C7 s0)))))).2:Int) λn'1=>cond (n'1 != 0) (k0 ([]:List UInt8) 14) (cond (Kr 4 s'0.length) (vl (([120,110,45,45]:List UInt8)++s'0) λs'2=>cond (A3 s'2.length) (cond (not (K4 s'2)) (k0 ([]:List UInt8) 14) (k0 s'2 0)) none) none)) none) none) (cond (A3 (List.length (C7 s0))) (cond (not (K4 (C7 s0))) (k0 ([]:List UInt8) 14) (k0 (C7 s0) 0)) none)) none))) none
theorem Bj5 (d:Nat) (s0):evC (LJ lf) (d+1) σ yh 91 [pS s0] [] s=As4 lf s0 (λr0 r1=>some (.tup [pS r0,pI r1],[],s)):=by
 refine (evE (fn:=Tryz.f91) (by kernel_rfl)).trans ?_
 generalize evC (LJ lf) d=cl
 unfold As4;kernel_rfl
end
theorem TA {R:Type} {k0:Bool->Option R} (n:Int):NL LF n k0=k0 (ptI n):=by
 unfold NL
 by_cases h:n<0
 ·rw [C2 h]
  have:ptI n=false:=by
   cases n with
   | ofNat m=>exact absurd h (by simp)
   | negSucc m=>rfl
  grind
 ·obtain ⟨m,rfl⟩:=Int.eq_ofNat_of_zero_le (show 0<=n by omega)
  rw [A7,Jw]
  unfold T7
  by_cases h1:1114111<m
  ·rw [A8]
   have:Nat.ble m 1114111=false:=by rw [Bool.eq_false_iff,ne_eq,Nat.ble_eq];omega
   grind
  ·rw [A7]
   have:Nat.ble m 1114111=true:=by rw [Nat.ble_eq];omega
   rw [this]
   by_cases h2:m<55296
   ·rw [A8]
    have:Nat.blt m 55296=true:=by rw [Nat.blt_eq];omega
    grind
   ·rw [A7]
    have e:Nat.blt m 55296=false:=by rw [Bool.eq_false_iff,ne_eq,Nat.blt_eq];omega
    rw [e]
    simp only [Bool.not_false,cond_true,cond_false,Bool.false_or,Bool.true_and]
    congr 1
theorem RX {R:Type} {k0:Int->Int->Option R}:∀ (d n k:Nat),d<2305843009213693952->d<n->k+d<=4611686018427387904->
  ∃ d' k',d'<=455/\k'<=k+d/\Ug d k=k'+36*d' / (d'+38)/\Ek LF n (d:Int) (k:Int) k0=k0 (d':Int) (k':Int):=by
 intro d
 induction d using Nat.strongRecOn with
 | _ d ih=>
  intro n k hd hn hk
  obtain ⟨n,rfl⟩:∃ m,n=m+1:=⟨n-1,by omega⟩
  rw [Ek]
  by_cases h:455<d
  ·obtain ⟨d',k',h1,h2,h3,h4⟩:=ih (d / 35) (by omega) n (k+36) (by omega) (by omega) (by omega)
   refine ⟨d',k',h1,by omega,by rw [Zx h];exact h3,?_⟩
   have e:Int.tdiv (d:Int) 35=((d / 35:Nat):Int):=L9 d 35
   have e1:A1 ((d / 35:Nat):Int)=((d / 35:Nat):Int):=A5
   have e2:A1 ((k:Int)+36)=((k+36:Nat):Int):=by rw [A5];rfl
   rw [A8]
   simp only [cond_true,vl,e,e1,e2]
   exact h4
  ·refine ⟨d,k,by omega,by omega,Ot h,?_⟩
   rw [A7]
   rfl
theorem RY {R:Type} {k0:Int->Option R} (d c:Int) (f:Bool) (h0:ltN d 1152921504606846976=true) (h1:ltN c 1000000=true) (h2:ltI 0 c=true):CQ LF d c f k0=k0 (P2 d.toNat c.toNat f:Nat):=by
 obtain ⟨hd0,hd1⟩:=L8.1 h0
 obtain ⟨hc0,hc1⟩:=L8.1 h1
 obtain ⟨d,rfl⟩:=Int.eq_ofNat_of_zero_le hd0
 obtain ⟨c,rfl⟩:=Int.eq_ofNat_of_zero_le hc0
 have hc:=Aq4.1 h2
 have hLF:=D7
 have key:∀ x:Nat,x<1152921504606846976->Ej LF (x:Int) (c:Int) k0=k0 ((Ug (x+x / c) 0:Nat):Int):=by
  intro x hx
  have hxc:x / c<=x:=Nat.div_le_self _ _
  unfold Ej
  have e1:Int.tdiv (x:Int) (c:Int)=((x / c:Nat):Int):=L9 x c
  generalize x / c=q at *
  have e2:A1 (q:Int)=(q:Int):=A5
  have e3:A1 ((x:Int)+(q:Int))=((x+q:Nat):Int):=by rw [A5];rfl
  rw [show ((c:Int) != 0)=true by simp;omega]
  simp only [cond_true,vl,e1,e2,e3]
  obtain ⟨d',k',g1,g2,g3,g4⟩:=RX (R:=R) (k0:=λdelta'7 k'8=>vl (A1 ((36)*delta'7)) λn'9=>vl (A1 (delta'7+(38))) λn'10=>cond (n'10 != (0)) (vl (A1 (Int.tdiv n'9 n'10)) λn'11=>k0 (A1 (k'8+n'11))) none) (x+q) LF 0 (by omega) (by omega) (by omega)
  refine Eq.trans g4 ?_
  have hq:36*d' / (d'+38)<=36*d':=Nat.div_le_self _ _
  have f1:A1 (36*(d':Int))=((36*d':Nat):Int):=by rw [A5];rfl
  have f2:A1 ((d':Int)+38)=((d'+38:Nat):Int):=by rw [A5];rfl
  have f3:Int.tdiv ((36*d':Nat):Int) ((d'+38:Nat):Int)=((36*d' / (d'+38):Nat):Int):=L9 _ _
  have f4:A1 ((36*d' / (d'+38):Nat):Int)=((36*d' / (d'+38):Nat):Int):=A5
  have f5:A1 ((k':Int)+((36*d' / (d'+38):Nat):Int))=((k'+36*d' / (d'+38):Nat):Int):=by rw [A5];rfl
  simp only [vl,f1,f2,f3,f4,f5]
  rw [show (((d'+38:Nat):Int) != 0)=true by simp;omega,g3]
  rfl
 unfold CQ P2
 rw [Int.toNat_natCast,Int.toNat_natCast]
 cases f with
 | true=>
  have e1:Int.tdiv (d:Int) 700=((d / 700:Nat):Int):=L9 d 700
  have e2:A1 ((d / 700:Nat):Int)=((d / 700:Nat):Int):=A5
  simp only [cond_true,vl,e1,e2,if_true]
  exact key _ (by omega)
 | false=>
  have e1:Int.tdiv (d:Int) 2=((d / 2:Nat):Int):=L9 d 2
  have e2:A1 ((d / 2:Nat):Int)=((d / 2:Nat):Int):=A5
  simp only [cond_false,vl,e1,e2,Bool.false_eq_true,if_false]
  exact key _ (by omega)
theorem Ab5 {R:Type} {k0:Int->Option R} (d:Int) (h0:ltN d 36=true):As0 LF d k0=k0 ((Y8 d.toNat).toNat:Nat):=by
 obtain ⟨hd0,hd1⟩:=L8.1 h0
 obtain ⟨d,rfl⟩:=Int.eq_ofNat_of_zero_le hd0
 unfold As0
 rw [Int.toNat_natCast,FO (by omega)]
 by_cases h:d<26
 ·rw [A8,if_pos h]
  simp only [cond_true,vl]
  congr 1
  rw [A5,N2]
  rfl
 ·rw [A7,if_neg h]
  simp only [cond_false,vl]
  congr 1
  rw [D3 (n:=48+(d:Int)) (by omega) (by omega),A5,N2]
  omega
theorem A49 {R:Type} {k0:Int->Option R} (b:Int) (h0:inR b 256=true):Bk7 LF b k0=k0 (E1 (u8n b)):=by
 simp only [inR,Bool.and_eq_true,decide_eq_true_eq] at h0
 have hc:b=((u8n b).toNat:Int):=by
  unfold u8n
  simp
  omega
 generalize u8n b=c at *
 subst hc
 have hbt:=c.toNat_lt
 unfold Bk7 E1
 simp only [Sv,Su,vl]
 rcases Xr c with ⟨h1,h2,e⟩ | ⟨h1,h2,e⟩ | ⟨h1,h2,e⟩ | ⟨h1,h2,h3,e⟩
 ·have e2:A1 (wu8 ((c.toNat:Int)-97))=((c.toNat-97:Nat):Int):=by
   rw [N2,A5];omega
  simp (disch:=omega) only [C2,D1,Bool.not_true,Bool.not_false,cond_false,cond_true,e2,e]
 ·have e2:A1 (wu8 ((c.toNat:Int)-65))=((c.toNat-65:Nat):Int):=by
   rw [N2,A5];omega
  simp (disch:=omega) only [C2,D1,Bool.not_true,Bool.not_false,cond_false,cond_true,e2,e]
 ·have e2:A1 (A1 (wu8 ((c.toNat:Int)-48))+26)=((c.toNat-22:Nat):Int):=by
   rw [N2,D3 (n:=(c.toNat:Int)-48) (by omega) (by omega),A5];omega
  simp (disch:=omega) only [C2,D1,Bool.not_true,Bool.not_false,cond_false,cond_true,e2,e]
 ·rw [e]
  by_cases c1:c.toNat<48
  ·simp (disch:=omega) only [C2,D1,Bool.not_true,Bool.not_false,cond_false,cond_true]
  ·by_cases c2:c.toNat<65
   ·simp (disch:=omega) only [C2,D1,Bool.not_true,Bool.not_false,cond_false,cond_true]
   ·by_cases c3:c.toNat<97
    ·simp (disch:=omega) only [C2,D1,Bool.not_true,Bool.not_false,cond_false,cond_true]
    ·simp (disch:=omega) only [C2,D1,Bool.not_true,Bool.not_false,cond_false,cond_true]
theorem A45 {R:Type} {k0:Int->Option R} (k b:Int) (h0:ltN k 10000000000=true) (h1:ltN b 1000000=true):B25 LF k b k0=k0 (K9 (Int.mul 36 k) b):=by
 obtain ⟨k1,k2⟩:=L8.1 h0
 obtain ⟨b1,b2⟩:=L8.1 h1
 unfold B25 K9
 have e1:A1 (k+1)=k+1:=A5
 have e2:A1 ((36:Int)*(k+1))=36*(k+1):=A5
 have e3:A1 (36*(k+1)-b)=36*(k+1)-b:=A5
 grind
theorem Bi6 (z t:Bool) (pts:LL) (done basic nn delta i:Int) (b:Nat) (hb:b<1000000):∀ (r q k n:Nat) (l:LL),q<10 ^ r->q<1152921504606846976->k+r<=1000->r<n->l.length+r<=200000->
  ∃ (q':Nat) (pre:By),q'<36/\O6 q k b=pre++[Y8 q']/\∀ (R:Type) (k0:Bool->Bool->LL->Int->Int->Int->Int->Int->Int->LL->Option R),Dr LF n z t pts done basic nn delta (b:Int) i (q:Int) (k:Int) l k0=k0 z t pts done basic nn delta i (q':Int) (l++pre.map E3):=by
 have hthr:∀ k:Nat,K9 (Int.mul 36 (k:Int)) (b:Int)=(thr k b:Int):=λk=>by
  rw [show Int.mul 36 (k:Int)=((36*k:Nat):Int) from rfl,Tc]
 have fin:∀ (q k n:Nat) (l:LL),q<thr k b->k<=1000->∃ (q':Nat) (pre:By),q'<36/\O6 q k b=pre++[Y8 q']/\∀ (R:Type) (k0:Bool->Bool->LL->Int->Int->Int->Int->Int->Int->LL->Option R),Dr LF (n+1) z t pts done basic nn delta (b:Int) i (q:Int) (k:Int) l k0=k0 z t pts done basic nn delta i (q':Int) (l++pre.map E3):=by
  intro q k n l hq hk
  have ht:=U1 k b
  refine ⟨q,[],by omega,by rw [Na hq];rfl,λR k0=>?_⟩
  rw [Dr]
  have hq':ltI (q:Int) (thr k b:Int)=true:=A8
  rw [N4,N4,hthr]
  grind
 intro r
 induction r with
 | zero=>
  intro q k n l h _ hk hn hl
  have ht:=U1 k b
  obtain ⟨n,rfl⟩:∃ m,n=m+1:=⟨n-1,by omega⟩
  exact fin q k n l (by simp at h;omega) (by omega)
 | succ r ih=>
  intro q k n l h hq60 hk hn hl
  have ht:=U1 k b
  obtain ⟨n,rfl⟩:∃ m,n=m+1:=⟨n-1,by omega⟩
  by_cases hq:q<thr k b
  ·exact fin q k n l hq (by omega)
  ·have hd:(q-thr k b) / (36-thr k b)<10 ^ r:=LT (by omega) (by rw [Nat.pow_succ] at h;omega)
   have hd2:(q-thr k b) / (36-thr k b)<=q:=Nat.le_trans (Nat.div_le_self _ _) (by omega)
   have hm2:(q-thr k b) % (36-thr k b)<36-thr k b:=Nat.mod_lt _ (by omega)
   obtain ⟨q',pre,e0,e1,e⟩:=ih ((q-thr k b) / (36-thr k b)) (k+1) n (l++[E3 (Y8 (thr k b+(q-thr k b) % (36-thr k b)))]) hd (by omega) (by omega) (by omega) (by rw [List.length_append,List.length_singleton];omega)
   refine ⟨q',Y8 (thr k b+(q-thr k b) % (36-thr k b))::pre,e0,by rw [Ux hq,e1];rfl,λR k0=>?_⟩
   rw [Dr]
   have c1:A1 ((q:Int)-(thr k b:Int))=((q-thr k b:Nat):Int):=by rw [A5];omega
   have c2:A1 ((36:Int)-(thr k b:Int))=((36-thr k b:Nat):Int):=by rw [A5];omega
   have c3:Int.tmod ((q-thr k b:Nat):Int) ((36-thr k b:Nat):Int)=(((q-thr k b) % (36-thr k b):Nat):Int):=Fx _ _
   have c4:Int.tdiv ((q-thr k b:Nat):Int) ((36-thr k b:Nat):Int)=(((q-thr k b) / (36-thr k b):Nat):Int):=L9 _ _
   have c7:((((36-thr k b:Nat):Int)) != 0)=true:=by rw [bne_iff_ne];omega
   have c8:A1 ((k:Int)+1)=((k+1:Nat):Int):=by rw [A5];rfl
   have hq':ltI (q:Int) (thr k b:Int)=false:=A7
   rw [N4,N4,hthr]
   simp only [vl,hq',c1,c2,c3,c4,c7,c8,cond_true,cond_false,Bool.not_false]
   generalize hA:(q-thr k b) / (36-thr k b)=A at *
   generalize hB:(q-thr k b) % (36-thr k b)=B at *
   have c5:A1 ((thr k b:Int)+(B:Int))=((thr k b+B:Nat):Int):=by rw [A5];rfl
   have c6:A1 (A:Int)=(A:Int):=A5
   rw [c5,c6,N4,E0 (by omega),Int.toNat_natCast]
   refine Eq.trans (e R k0) ?_
   simp [List.append_assoc,E3]
theorem B07 (z t:Bool) (pts:List Nat) (basic m:Nat) (hm:m<=1114112) (hl:pts.length<=256):∀ (r i n:Nat) (s:IC),i+r=pts.length->r<n->s.delta+r<=1000000000000->s.bias<=500->s.out.length+20*r<=90000->s.done+r<=1000->basic<=256->
  (∀ (R:Type) (k0:Bool->Bool->LL->Int->Int->Int->Int->Int->LL->Option R),Z3 LF n z t (C1 pts) (s.done:Int) (basic:Int) (m:Int) (s.delta:Int) (s.bias:Int) (i:Int) (s.out.map E3) k0 =
   k0 z t (C1 pts) ((I1 m basic (pts.drop i) s).done:Int) (basic:Int) (m:Int) ((I1 m basic (pts.drop i) s).delta:Int) ((I1 m basic (pts.drop i) s).bias:Int) ((I1 m basic (pts.drop i) s).out.map E3))/\
  (I1 m basic (pts.drop i) s).bias<=500/\(I1 m basic (pts.drop i) s).out.length<=s.out.length+20*(pts.drop i).countP (· == m)/\(I1 m basic (pts.drop i) s).done=s.done+(pts.drop i).countP (· == m)/\
  (I1 m basic (pts.drop i) s).delta<=(if 0<(pts.drop i).countP (· == m) then r else s.delta+r):=by
 have hLF:=D7
 intro r
 induction r with
 | zero=>
  intro i n s hi hn h1 h2 h3 h4 hb
  obtain ⟨n,rfl⟩:∃ m,n=m+1:=⟨n-1,by omega⟩
  rw [List.drop_of_length_le (by omega)]
  refine ⟨λR k0=>?_,h2,by simp [I1],by simp [I1],by simp [I1]⟩
  rw [Z3]
  rw [D2,A7]
  rfl
 | succ r ih=>
  intro i n s hi hn h1 h2 h3 h4 hb
  obtain ⟨n,rfl⟩:∃ m,n=m+1:=⟨n-1,by omega⟩
  rw [Qq pts i (by omega)]
  have hg:=Vd pts i (by omega)
  have ok:=Nf (l:=pts) (i:=i) (by omega)
  have hin:inR (i:Int) (C1 pts).length=true:=K2 (by omega) (by rw [D2];omega)
  have hlt:ltI (i:Int) ((C1 pts).length:Int)=true:=C2 (by rw [D2];omega)
  generalize pts.getD i 0=p at *
  have e1:A1 ((i:Int)+1)=((i+1:Nat):Int):=by rw [A5];rfl
  have e2:A1 ((s.delta:Int)+1)=((s.delta+1:Nat):Int):=by rw [A5];rfl
  have e3:A1 ((s.done:Int)+1)=((s.done+1:Nat):Int):=by rw [A5];rfl
  by_cases hp:p<m
  ·have hne:(p==m)=false:=by rw [beq_eq_false_iff_ne];omega
   have hs:I1 m basic (p::pts.drop (i+1)) s=I1 m basic (pts.drop (i+1)) { s with delta:=s.delta+1 }:=by rw [I1,if_pos hp]
   obtain ⟨q1,q2,q3,q4,q5⟩:=ih (i+1) n { s with delta:=s.delta+1 } (by omega) (by omega) (by simp only;omega) h2 (by simp only;omega) (by simp only;omega) hb
   rw [hs,List.countP_cons_of_neg (by rw [hne];simp)]
   refine ⟨λR k0=>?_,q2,q3,q4,?_⟩
   ·rw [Z3]
    rw [Int.toNat_natCast]
    simp only [hin,hlt,ok,cond_true,vl,hg,e1,e2]
    rw [A8,cond_true,show ((p:Int) != (m:Int))=true by rw [bne_iff_ne];omega,cond_true]
    exact q1 R k0
   ·simp only at q5
    split at q5<;>split<;>omega
  ·by_cases hq:p=m
   ·subst hq
    have hn20:=FR (q:=s.delta) (k:=0) (b:=s.bias) (by omega)
    have had:=Lj s.delta (s.done+1) (s.done==basic) (by omega)
    have hs:I1 p basic (p::pts.drop (i+1)) s=I1 p basic (pts.drop (i+1)) { delta:=0,bias:=P2 s.delta (s.done+1) (s.done==basic),done:=s.done+1,out:=s.out++O6 s.delta 0 s.bias }:=by rw [I1,if_neg hp,if_pos rfl]
    obtain ⟨q1,q2,q3,q4,q5⟩:=ih (i+1) n { delta:=0,bias:=P2 s.delta (s.done+1) (s.done==basic),done:=s.done+1,out:=s.out++O6 s.delta 0 s.bias } (by omega) (by omega) (by simp only;omega) had (by simp only [List.length_append];omega) (by simp only;omega) hb
    obtain ⟨q',pre,f1,f2,f3⟩:=Bi6 z t (C1 pts) (s.done:Int) (basic:Int) (p:Int) (s.delta:Int) (i:Int) s.bias (by omega) 19 s.delta 0 LF (s.out.map E3) (by omega) (by omega) (by omega) (by omega) (by rw [List.length_map];omega)
    rw [hs,List.countP_cons_of_pos (by simp)]
    refine ⟨λR k0=>?_,q2,?_,?_,?_⟩
    ·rw [Z3]
     have hbeq:((s.done:Int)==(basic:Int))=(s.done==basic):=by
      rw [Bool.eq_iff_iff,beq_iff_eq,beq_iff_eq];omega
     rw [Int.toNat_natCast]
     simp only [hin,hlt,ok,cond_true,vl,hg,e1,e3]
     rw [A7,cond_false,bne_self_eq_false,cond_false]
     refine Eq.trans (f3 R _) ?_
     have hpl:pre.length+1=(O6 s.delta 0 s.bias).length:=by rw [f2];simp
     rw [N4,Int.toNat_natCast,E0 (by rw [List.length_append,List.length_map,List.length_map];omega)]
     simp only [vl,cond_true,e1,e3]
     rw [N4,N4,A8,hbeq]
     simp only [cond_true,Int.toNat_natCast]
     have hrow:s.out.map E3++pre.map E3++[[SV.int .u8 (((Y8 q').toNat:Nat):Int)]]=(s.out++O6 s.delta 0 s.bias).map E3:=by
      rw [f2,List.map_append,List.map_append,List.append_assoc];rfl
     rw [hrow]
     exact q1 R k0
    ·simp only [List.length_append] at q3;omega
    ·simp only at q4;omega
    ·simp only at q5
     rw [V7]
     split at q5<;>omega
   ·have hne:(p==m)=false:=by rw [beq_eq_false_iff_ne];omega
    have hs:I1 m basic (p::pts.drop (i+1)) s=I1 m basic (pts.drop (i+1)) s:=by rw [I1,if_neg hp,if_neg hq]
    obtain ⟨q1,q2,q3,q4,q5⟩:=ih (i+1) n s (by omega) (by omega) (by omega) h2 (by omega) (by omega) hb
    rw [hs,List.countP_cons_of_neg (by rw [hne];simp)]
    refine ⟨λR k0=>?_,q2,q3,q4,?_⟩
    ·rw [Z3]
     rw [Int.toNat_natCast]
     simp only [hin,hlt,ok,cond_true,vl,hg,e1]
     rw [A7,cond_false,show ((p:Int) != (m:Int))=true by rw [bne_iff_ne];omega,cond_true]
     exact q1 R k0
    ·split at q5<;>split<;>omega
theorem Ad0 {R:Type} {k0:Bool->Bool->LL->Int->Int->Int->Int->Int->Int->LL->Option R} (z t:Bool) (pts:List Nat) (hl:pts.length<=256) (n0:Nat) (basic delta bias done:Int) (l:LL):∀ (r i n m:Nat),i+r=pts.length->r<n->
  Gs LF n z t (C1 pts) done basic (n0:Int) delta bias (m:Int) (i:Int) l k0=k0 z t (C1 pts) done basic (n0:Int) delta bias ((H9 n0 (pts.drop i) m:Nat):Int) l:=by
 intro r
 induction r with
 | zero=>
  intro i n m hi hn
  obtain ⟨n,rfl⟩:∃ m,n=m+1:=⟨n-1,by omega⟩
  rw [Gs]
  rw [D2,A7,List.drop_of_length_le (by omega)]
  rfl
 | succ r ih=>
  intro i n m hi hn
  obtain ⟨n,rfl⟩:∃ m,n=m+1:=⟨n-1,by omega⟩
  have hg:=Vd pts i (by omega)
  have ok:=Nf (l:=pts) (i:=i) (by omega)
  have hin:inR (i:Int) (C1 pts).length=true:=K2 (by omega) (by rw [D2];omega)
  have hlt:ltI (i:Int) ((C1 pts).length:Int)=true:=C2 (by rw [D2];omega)
  rw [Gs,Qq pts i (by omega)]
  generalize pts.getD i 0=p at *
  have e1:A1 ((i:Int)+1)=((i+1:Nat):Int):=by rw [A5];rfl
  rw [Int.toNat_natCast]
  simp only [hin,hlt,ok,cond_true,vl,hg,e1,H9]
  by_cases h:n0<=p
  ·rw [if_pos h,A7,Bool.not_false,cond_true]
   have:(if (p:Int)<(m:Int) then (p:Int) else (m:Int))=((min m p:Nat):Int):=by split<;>omega
   rw [this]
   exact ih (i+1) n (min m p) (by omega) (by omega)
  ·rw [if_neg h,A8,Bool.not_true,cond_false]
   exact ih (i+1) n m (by omega) (by omega)
theorem Bi7 (z t:Bool) (pts:List Nat) (basic:Nat) (hl:pts.length<=256) (hb:basic<=256) (hall:∀ p∈pts,p<=1114111):∀ (f n n':Nat) (s:IC),s.done=pts.countP (λp=>decide (p<n))->pts.length<=s.done+f->f<n'->s.delta<=300->s.bias<=500->s.out.length+20*(pts.length-s.done)<=80000->n<=1114112->
  ∀ (R:Type) (k0:LL->Option R),Dt LF n' z t (C1 pts) (s.done:Int) (basic:Int) (n:Int) (s.delta:Int) (s.bias:Int) (s.out.map E3) k0=k0 ((Q1 pts basic f n s).out.map E3):=by
 intro f
 have hLF:=D7
 induction f with
 | zero=>
  intro n n' s hd hf hn h1 h2 h3 h4 R k0
  obtain ⟨n',rfl⟩:∃ m,n'=m+1:=⟨n'-1,by omega⟩
  rw [Dt]
  rw [D2,A7]
  rfl
 | succ f ih=>
  intro n n' s hd hf hn h1 h2 h3 h4 R k0
  obtain ⟨n',rfl⟩:∃ m,n'=m+1:=⟨n'-1,by omega⟩
  rw [Dt]
  rw [D2]
  have hcl:pts.countP (λp=>decide (p<n))<=pts.length:=List.countP_le_length
  by_cases hlt:s.done<pts.length
  ·obtain ⟨p0,hp0,hp1⟩:=XD (n:=n) (l:=pts) (by omega)
   obtain ⟨g1,g2,g3⟩:=Ct n pts 1114112
   obtain ⟨b1,b2,b3⟩:=Ct n pts 1073741824
   have g4:=g3 p0 hp0 hp1
   have b4:=b3 p0 hp0 hp1
   have g5:=hall p0 hp0
   have hmem:H9 n pts 1114112∈pts/\n<=H9 n pts 1114112:=by grind
   have bmem:H9 n pts 1073741824∈pts/\n<=H9 n pts 1073741824:=by grind
   have heq:H9 n pts 1073741824=H9 n pts 1114112:=by grind
   have he:Q1 pts basic (f+1) n s=Q1 pts basic f (H9 n pts 1114112+1) { I1 (H9 n pts 1114112) basic pts { s with delta:=s.delta+(H9 n pts 1114112-n)*(s.done+1) } with delta:=(I1 (H9 n pts 1114112) basic pts { s with delta:=s.delta+(H9 n pts 1114112-n)*(s.done+1) }).delta+1 }:=by
    rw [Q1,if_pos hlt]
   rw [he,A8,cond_true]
   have hleast:=λ(K:Bool->Bool->LL->Int->Int->Int->Int->Int->Int->LL->Option R)=>Ad0 (k0:=K) z t pts hl n (basic:Int) (s.delta:Int) (s.bias:Int) (s.done:Int) (s.out.map E3) pts.length 0 LF 1073741824 (by omega) (by omega)
   rw [List.drop_zero,heq] at hleast
   refine Eq.trans (hleast _) ?_
   clear hleast heq b1 b2 b3 b4 bmem
   generalize H9 n pts 1114112=m at *
   have hmul:(m-n)*(s.done+1)<=1114112*256:=Nat.mul_le_mul (by omega) (by omega)
   have e1:A1 ((s.done:Int)+1)=((s.done+1:Nat):Int):=by rw [A5];rfl
   have e2:A1 ((m:Int)-(n:Int))=((m-n:Nat):Int):=by rw [A5];omega
   have e3:A1 (((m-n:Nat):Int)*((s.done+1:Nat):Int))=(((m-n)*(s.done+1):Nat):Int):=by
    rw [<-Int.natCast_mul]
    exact A5
   have e4:A1 ((s.delta:Int)+(((m-n)*(s.done+1):Nat):Int))=((s.delta+(m-n)*(s.done+1):Nat):Int):=by
    rw [A5];rfl
   simp only [vl,e1,e2,e3,e4]
   have hin:=B07 z t pts basic m (by omega) hl pts.length 0 LF { s with delta:=s.delta+(m-n)*(s.done+1) } (by omega) (by omega) (by simp only;omega) h2 (by simp only;omega) (by simp only;omega) hb
   rw [List.drop_zero] at hin
   obtain ⟨q1,q2,q3,q4,q5⟩:=hin
   refine Eq.trans (q1 R _) ?_
   have hcnt:0<pts.countP (· == m):=List.countP_pos_iff.2 ⟨m,hmem.1,by simp⟩
   rw [if_pos hcnt] at q5
   have hstep:=Qj hmem.2 pts g3
   generalize I1 m basic pts { s with delta:=s.delta+(m-n)*(s.done+1) } = s' at *
   simp only at q3 q4
   have e5:A1 ((s'.delta:Int)+1)=((s'.delta+1:Nat):Int):=by rw [A5];rfl
   have e6:A1 ((m:Int)+1)=((m+1:Nat):Int):=by rw [A5];rfl
   have hcl2:pts.countP (λp=>decide (p<m+1))<=pts.length:=List.countP_le_length
   simp only [e5,e6]
   exact ih (m+1) n' { s' with delta:=s'.delta+1 } (by simp only;omega) (by simp only;omega) (by omega) (by simp only;omega) q2 (by simp only;omega) (by omega) R k0
  ·rw [A7]
   rw [Q1,if_neg hlt]
   rfl
theorem Ac5 (z t:Bool) (P:List Int) (hl:P.length<=256):∀ (r i n:Nat) (out:By),i+r=P.length->r<n->out.length+r<=1000->
  ((P.drop i).all ptI=true->∀ (R:Type) (k0:LL->Option R) (k1:Bool->Bool->LL->LL->Option R),T2 LF n z t (Z4 P) (i:Int) (out.map E3) k0 k1=k1 z t (Z4 P) ((out++U2 (P.drop i)).map E3))/\
  ((P.drop i).all ptI=false->∃ l,∀ (R:Type) (k0:LL->Option R) (k1:Bool->Bool->LL->LL->Option R),T2 LF n z t (Z4 P) (i:Int) (out.map E3) k0 k1=k0 l):=by
 intro r
 induction r with
 | zero=>
  intro i n out hi hn ho
  obtain ⟨n,rfl⟩:∃ m,n=m+1:=⟨n-1,by omega⟩
  rw [List.drop_of_length_le (by omega)]
  refine ⟨λ_ R k0 k1=>?_,λh=>(by cases h)⟩
  rw [T2]
  rw [T5,A7]
  simp [U2]
 | succ r ih=>
  intro i n out hi hn ho
  obtain ⟨n,rfl⟩:∃ m,n=m+1:=⟨n-1,by omega⟩
  have hg:=XT P i (by omega)
  have ok:=MO (l:=P) (i:=i) (by omega)
  have hin:inR (i:Int) (Z4 P).length=true:=K2 (by omega) (by rw [T5];omega)
  have hlt:ltI (i:Int) ((Z4 P).length:Int)=true:=C2 (by rw [T5];omega)
  rw [PW P i (by omega)]
  generalize P.getD i 0=x at *
  have e1:A1 ((i:Int)+1)=((i+1:Nat):Int):=by rw [A5];rfl
  cases hx:ptI x with
  | false=>
   refine ⟨λh=>?_,λ_=>⟨out.map E3,λR k0 k1=>?_⟩⟩
   ·rw [List.all_cons,hx] at h;cases h
   ·rw [T2]
    rw [Int.toNat_natCast]
    simp only [hin,hlt,ok,cond_true,vl,hg,hx,Bool.not_false]
  | true=>
   obtain ⟨p0,p1⟩:=Pr hx
   rw [List.all_cons,hx,Bool.true_and]
   by_cases h128:x<128
   ·have hbs:U2 (x::P.drop (i+1))=UInt8.ofNat x.toNat::U2 (P.drop (i+1)):=by
     unfold U2;rw [List.filter_cons_of_pos (by simpa using h128)];rfl
    have hrow:out.map E3++[[SV.int .u8 (wu8 x)]]=(out++[UInt8.ofNat x.toNat]).map E3:=by rw [Bm6 x p0 h128];simp
    obtain ⟨q1,q2⟩:=ih (i+1) n (out++[UInt8.ofNat x.toNat]) (by omega) (by omega) (by simp;omega)
    have step:∀ (R:Type) (k0:LL->Option R) (k1:Bool->Bool->LL->LL->Option R),T2 LF (n+1) z t (Z4 P) (i:Int) (out.map E3) k0 k1=T2 LF n z t (Z4 P) ((i+1:Nat):Int) ((out++[UInt8.ofNat x.toNat]).map E3) k0 k1:=by
     intro R k0 k1
     rw [T2]
     rw [Int.toNat_natCast]
     simp only [hin,hlt,ok,cond_true,vl,hg,hx,Bool.not_true,cond_false,e1]
     rw [C2 h128,List.length_map,E0 (by omega),hrow]
     rfl
    refine ⟨λh R k0 k1=>?_,λh=>?_⟩
    ·rw [step,q1 h,hbs];simp
    ·obtain ⟨l,e⟩:=q2 h
     exact ⟨l,λR k0 k1=>by rw [step];exact e R k0 k1⟩
   ·have hbs:U2 (x::P.drop (i+1))=U2 (P.drop (i+1)):=by
     unfold U2;rw [List.filter_cons_of_neg (by simpa using h128)]
    obtain ⟨q1,q2⟩:=ih (i+1) n out (by omega) (by omega) (by omega)
    have step:∀ (R:Type) (k0:LL->Option R) (k1:Bool->Bool->LL->LL->Option R),T2 LF (n+1) z t (Z4 P) (i:Int) (out.map E3) k0 k1=T2 LF n z t (Z4 P) ((i+1:Nat):Int) (out.map E3) k0 k1:=by
     intro R k0 k1
     rw [T2]
     rw [Int.toNat_natCast]
     simp only [hin,hlt,ok,cond_true,vl,hg,hx,Bool.not_true,cond_false,e1]
     rw [A7]
     rfl
    refine ⟨λh R k0 k1=>?_,λh=>?_⟩
    ·rw [step,q1 h,hbs]
    ·obtain ⟨l,e⟩:=q2 h
     exact ⟨l,λR k0 k1=>by rw [step];exact e R k0 k1⟩
theorem Ac6 (z t:Bool) (P:List Int):(U4 P=([],3)/\∀ (R:Type) (k0:Unit->Option R) (k1:By->Int->LL->Option R),SC LF z t (Z4 P) k0 k1=k0 ())\/
  (∃ l,∀ (R:Type) (k0:Unit->Option R) (k1:By->Int->LL->Option R),SC LF z t (Z4 P) k0 k1=k1 (U4 P).1 ((U4 P).2:Nat) l):=by
 have hLF:=D7
 by_cases hl:256<P.length
 ·refine .inl ⟨by unfold U4;rw [if_pos hl],λR k0 k1=>?_⟩
  unfold SC
  rw [T5,A8]
  rfl
 ·right
  obtain ⟨q1,q2⟩:=Ac5 z t P (by omega) P.length 0 LF [] (by omega) (by omega) (by simp;omega)
  rw [List.drop_zero] at q1 q2
  cases ha:P.all ptI with
  | false=>
   obtain ⟨l,e⟩:=q2 ha
   refine ⟨l,λR k0 k1=>?_⟩
   unfold SC
   rw [T5,A7,cond_false]
   refine Eq.trans (e R _ _) ?_
   unfold U4
   rw [if_neg hl,ha]
   rfl
  | true=>
   obtain ⟨pts,rfl,hp1,hp2⟩:=Ar9 ha
   rw [List.length_map] at hl
   have hen:U4 (pts.map λn:Nat=>(n:Int))=Bj pts:=by
    unfold U4
    rw [List.length_map,if_neg hl,ha]
    simp [Function.comp_def]
   have hbl:=Pb pts
   have hbc:pts.countP (λp=>decide (p<128))<=pts.length:=List.countP_le_length
   have main:∀ (o:By),o.length<=300->∀ (R:Type) (k0:LL->Option R),Dt LF LF z t (C1 pts) ((I4 pts).length:Int) ((I4 pts).length:Int) 128 0 72 (o.map E3) k0=k0 ((Q1 pts (I4 pts).length 256 128 { delta:=0,bias:=72,done:=(I4 pts).length,out:=o }).out.map E3):=by
    intro o ho R k0
    exact Bi7 z t pts (I4 pts).length (by omega) (by omega) hp2 256 128 LF { delta:=0,bias:=72,done:=(I4 pts).length,out:=o } hbl (by simp only;omega) (by omega) (by simp) (by simp) (by simp only;omega) (by omega) R k0
   have he2:Bj pts=((Q1 pts (I4 pts).length 256 128 { delta:=0,bias:=72,done:=(I4 pts).length,out:=if (I4 pts).isEmpty then [] else I4 pts++[45] }).out,0):=by
    unfold Bj
    grind
   refine ⟨(Bj pts).1.map E3,λR k0 k1=>?_⟩
   unfold SC
   rw [T5,List.length_map,A7,cond_false,hen]
   have q1':=q1 ha R
   refine Eq.trans (q1' _ _) ?_
   rw [List.nil_append,AC,Nd]
   simp only [vl,List.length_map]
   by_cases hbe:I4 pts=[]
   ·rw [hbe,List.length_nil,A7,cond_false]
    have mm:=main [] (by simp) R
    rw [hbe,List.length_nil] at mm
    rw [List.map_nil] at mm
    refine Eq.trans (mm _) ?_
    rw [hbe] at he2
    rw [he2]
    simp only [List.isEmpty_nil,if_true,List.length_nil]
    rw [Y5,Y9]
    rfl
   ·have hpos:0<(I4 pts).length:=List.length_pos_iff.2 hbe
    rw [A8,cond_true,E0 (by omega),cond_true]
    have hrow:(I4 pts).map E3++[[SV.int .u8 (45:Int)]]=(I4 pts++[45]).map E3:=by rw [List.map_append];rfl
    rw [hrow]
    refine Eq.trans (main (I4 pts++[45]) (by simp;omega) R _) ?_
    rw [he2,if_neg (by simpa using hbe)]
    rw [Y5,Y9]
    rfl
theorem B08 (z t:Bool) (p:LL) (h0:p.all Kv=true):∃ r H,SC LF z t p (λ_=>rv (.tup [.s (.str []),.s (.int .i64 3)]) []) (λr0 r1 l=>rv (.tup [.s (.str r0),.s (.int .i64 r1)]) [.arr true 5 1 l])=rv r H/\
  r.stab [0,0] H = .tup [.s (.str (U4 (p.map elI)).1),.s (.int .i64 ((U4 (p.map elI)).2:Nat))]:=by
 obtain ⟨P,rfl⟩:=Ap3 h0
 rw [PX]
 rcases Ac6 z t P with ⟨h1,h2⟩ | ⟨l,h2⟩
 ·exact ⟨_,_,h2 _ _ _,by rw [h1];rfl⟩
 ·exact ⟨_,_,h2 _ _ _,rfl⟩
end
end Go.Proofs.YtelhbgonncceeaaGreatDoor.E
