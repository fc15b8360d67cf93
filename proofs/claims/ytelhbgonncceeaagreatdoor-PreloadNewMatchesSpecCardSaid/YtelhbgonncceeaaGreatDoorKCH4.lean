/-
  Parts of the proof, merged by a program of the prover's own; no condition.
-/
import Derived.Test.YtelhbgonncceeaaGreatDoorKCH3
import Derived.Lib.TrimUEq
import Derived.Lib.ValidLaws
namespace Go.Proofs.YtelhbgonncceeaaGreatDoor.E
set_option linter.all false
section
open Go Go.Proofs
set_option maxRecDepth 100000
section
variable {σ R : Type} (lf : Nat) (cl : D5) (yh : Yh σ) (s : σ) (k : Out -> St σ -> Option R)
noncomputable def ZM {R:Type} (lf n:Nat) (l_m0:Nat) (n1 n2:Int) (l3:LL) (k0:Int->LL->Option R) (k1:Nat->LL->Option R):Option R:=match n with | 0=>none | n+1=>cond (ltI n2 n1) (cond (inR n2 l_m0) (cond (okE Dx l3 (0+(Int.toNat n2)) 0) (vl (gX l3 (0+(Int.toNat n2)) 0) λs'33=>cond (A3 s'33.length) (vl (↑((Ke s'33)).2:Int) λn'35=>cond (n'35 != 0) (k0 n'35 l3) (cond (inR n2 l_m0) (cond (decide ((0+(Int.toNat n2))<l3.length)) (vl (List.set l3 (0+(Int.toNat n2)) (F1 (List.getD l3 (0+(Int.toNat n2)) []) 0 [(SV.str ((Ke s'33)).1)])) λl'36=>ZM lf n l_m0 n1 (A1 (n2+1)) l'36 k0 k1) none) none)) none) none) none) (k1 l_m0 l3)
noncomputable abbrev WK:Code:=E1 Tryz.f131
noncomputable def Gv (lf:Nat):Cfg:=C6 lf [131] (A5 [(6,[0,1,0,1,10,0,0])]) [(170,Ai9),(161,OB)] (A5 [(13,[2]),(12,[0,3,0,2]),(11,[0,2,1,10,0,0]),(10,[0,2,1,10,0,0]),(9,[2]),(8,[0,2,1,1,8,0,0,8]),(7,[0,2,1,1,8,0,0]),(6,[0,2,1,10,0,0,0]),(5,[0,2,1,10,0,0]),(4,[0,2,1]),(3,[2]),(2,[0,2,11]),(1,[0,2,0]),(0,[0])]) [161] (A5 [(0,[0,2,1]),(1,[0,2,1,10,0,0])]) (some [2]) [] [] []
noncomputable def R1 {R:Type} (lf n:Nat) (s0:By) (points_z1:Bool) (points2:LL) (basic3:Bool) (n4 n5:Int) (k0:Unit->Option R) (k1:By->Bool->LL->Bool->Option R):Option R:=match n with | 0=>none | n+1=>cond (ltI n5 n4) (cond (inR n5 points2.length) (cond (okE Gk points2 (Int.toNat n5) 0) (vl (gE points2 (Int.toNat n5) 0) λn'1=>cond (not (ltI n'1 65)) (cond (not (ltI 90 n'1)) (k0 ()) (cond basic3 (R1 lf n s0 points_z1 points2 (ltI n'1 128) n4 (A1 (n5+1)) k0 k1) (R1 lf n s0 points_z1 points2 false n4 (A1 (n5+1)) k0 k1))) (cond basic3 (R1 lf n s0 points_z1 points2 (ltI n'1 128) n4 (A1 (n5+1)) k0 k1) (R1 lf n s0 points_z1 points2 false n4 (A1 (n5+1)) k0 k1))) none) none) (k1 s0 points_z1 points2 basic3)
theorem KP (n s0 points_z1 points2 basic3 n4 n5):D6 0 ((Gv lf).keep 6) (bd (Gv lf) cl yh (cd [1,1,1,1,0,1,0,0] WK)) n ⟨gp [(0,pS s0),(2,.s (.sl points_z1 points_z1 1 points2)),(1,pB basic3),(10,.s (.sl points_z1 points_z1 1 points2)),(0,pI n4),(0,pI n5)] 31,[],s⟩ k =
 R1 lf n s0 points_z1 points2 basic3 n4 n5 (λ_=>k .ret ⟨gp [(2,pB false)] 47,[],s⟩) (λs0 points_z1 points2 basic3=>k (.exit 0) ⟨gp [(0,pS s0),(2,.s (.sl points_z1 points_z1 1 points2)),(1,pB basic3)] 44,[],s⟩):=by
 induction n generalizing s0 points_z1 points2 basic3 n4 n5 with
 | zero=>rfl
 | succ n ih=>rw [R1];simp only [<-ih];kernel_rfl
noncomputable def XJ {R:Type} (lf:Nat) (s0:By) (k0:Bool->Option R):Option R:=cond (A3 s0.length) (cond ((↑((J8 s0)).2:Int) != 0) (k0 false) (R1 lf lf s0 (List.isEmpty ((J8 s0)).1) (Sc ((J8 s0)).1) true (↑(List.length (Sc ((J8 s0)).1)):Int) 0 (λ_=>k0 false) (λs'2 points_z'3 points'4 basic'5=>cond (List.all points'4 Jm) (vl ((R0 (List.map elI points'4))).1 λs'8=>vl (↑((R0 (List.map elI points'4))).2:Int) λn'9=>cond (not basic'5) (cond (n'9==0) (k0 (s'8==s'2)) (k0 false)) (k0 false)) none))) none
theorem Aq2 (d:Nat) (s0):evC (Gv lf) (d+1) σ yh 131 [pS s0] [] s=XJ lf s0 (λr0=>some (pB r0,[],s)):=by
 refine (evE (fn:=Tryz.f131) (by kernel_rfl)).trans ?_
 generalize evC (Gv lf) d=cl
 unfold XJ;exact (Eq.trans (by kernel_rfl) (A0 (A0 rfl ((KP lf cl yh s (G3 0 (G9 (Gv lf) cl yh (cd [1,1,1,1,1] WK) (I8 (Gv lf) Tryz.f131))) lf s0 (List.isEmpty ((J8 s0)).1) (Sc ((J8 s0)).1) true (↑(List.length (Sc ((J8 s0)).1)):Int) 0).trans (by kernel_rfl))) rfl))
noncomputable abbrev Ak8:Code:=E1 Tryz.f94
noncomputable def Mp (lf:Nat):Cfg:=C6 lf [94] (A5 [(4,[0,1,26,0])]) [(130,Ah7),(131,VU)] (A5 [(11,[2]),(10,[5,0]),(9,[0,28,0]),(8,[2]),(7,[0,28,0,28]),(6,[0,3,24,0]),(5,[0,2,25,0]),(4,[0,28,0,0]),(3,[0,28,0]),(2,[2]),(1,[0,26]),(0,[0])]) [130,131] (A5 [(0,[0]),(1,[0,28,0])]) (some [2]) [] [] []
noncomputable def N4 {R:Type} (lf n:Nat) (s0:By) (n1 n2:Int) (k0:Unit->Option R) (k1:By->Option R):Option R:=match n with | 0=>none | n+1=>cond (ltI n2 n1) (cond (inR n2 s0.length) (cond (not (ltI (bAt s0 n2) (97:Int))) (cond (not (not (ltI 122 (bAt s0 n2)))) (cond (not (ltI (bAt s0 n2) (48:Int))) (cond (not (not (ltI 57 (bAt s0 n2)))) (cond ((bAt s0 n2) != 45) (cond ((bAt s0 n2) != 95) (k0 ()) (N4 lf n s0 n1 (A1 (n2+1)) k0 k1)) (N4 lf n s0 n1 (A1 (n2+1)) k0 k1)) (N4 lf n s0 n1 (A1 (n2+1)) k0 k1)) (cond ((bAt s0 n2) != 45) (cond ((bAt s0 n2) != 95) (k0 ()) (N4 lf n s0 n1 (A1 (n2+1)) k0 k1)) (N4 lf n s0 n1 (A1 (n2+1)) k0 k1))) (N4 lf n s0 n1 (A1 (n2+1)) k0 k1)) (cond (not (ltI (bAt s0 n2) (48:Int))) (cond (not (not (ltI 57 (bAt s0 n2)))) (cond ((bAt s0 n2) != 45) (cond ((bAt s0 n2) != 95) (k0 ()) (N4 lf n s0 n1 (A1 (n2+1)) k0 k1)) (N4 lf n s0 n1 (A1 (n2+1)) k0 k1)) (N4 lf n s0 n1 (A1 (n2+1)) k0 k1)) (cond ((bAt s0 n2) != 45) (cond ((bAt s0 n2) != 95) (k0 ()) (N4 lf n s0 n1 (A1 (n2+1)) k0 k1)) (N4 lf n s0 n1 (A1 (n2+1)) k0 k1)))) none) (k1 s0)
theorem RG (n s0 n1 n2):D6 0 ((Mp lf).keep 4) (bd (Mp lf) cl yh (cd [1,1,0,1,0,0] Ak8)) n ⟨gp [(0,pS s0),(28,pI n1),(0,pI n2)] 41,[],s⟩ k =
 N4 lf n s0 n1 n2 (λ_=>k .ret ⟨gp [(2,pB false)] 69,[],s⟩) (λs0=>k (.exit 0) ⟨gp [(0,pS s0)] 71,[],s⟩):=by
 induction n generalizing s0 n1 n2 with
 | zero=>rfl
 | succ n ih=>rw [N4];simp only [<-ih];kernel_rfl
noncomputable def A50 {R:Type} (lf:Nat) (s0:By) (k0:Bool->Option R):Option R:=cond (ltI (s0.length:Int) (1:Int)) (k0 false) (cond (ltI 63 (s0.length:Int)) (k0 false) (cond (inR 0 s0.length) (cond ((bAt s0 (0:Int))==45) (k0 false) (vl (A1 ((s0.length:Int)-1)) λn'1=>cond (inR n'1 s0.length) (cond ((bAt s0 n'1)==45) (k0 false) (N4 lf lf s0 (s0.length:Int) 0 (λ_=>k0 false) (λs'2=>cond (A3 s'2.length) (vl (Wr s'2 ([120,110,45,45]:List UInt8)) λs'3=>cond (not (List.isPrefixOf ([120,110,45,45]:List UInt8) s'2)) (k0 true) (cond (A3 s'3.length) (k0 (Ap s'3)) none)) none))) none)) none))
theorem A51 (d:Nat) (s0):evC (Mp lf) (d+1) σ yh 94 [pS s0] [] s=A50 lf s0 (λr0=>some (pB r0,[],s)):=by
 refine (evE (fn:=Tryz.f94) (by kernel_rfl)).trans ?_
 generalize evC (Mp lf) d=cl
 unfold A50;exact (Eq.trans (by kernel_rfl) (A0 rfl (A0 rfl (A0 (A0 rfl (A7 λn'1=>(A0 (A0 rfl ((RG lf cl yh s (G3 0 (G9 (Mp lf) cl yh (cd [1,1,1] Ak8) (I8 (Mp lf) Tryz.f94))) lf s0 (s0.length:Int) 0).trans (by kernel_rfl))) rfl))) rfl))))
noncomputable abbrev OJ:Code:=E1 Tryz.f118
noncomputable def Ja (lf:Nat):Cfg:=C6 lf [118] (A5 [(9,[2,0,1,20])]) [(159,IQ),(160,IP),(111,NX),(161,OB),(94,DV)] (A5 [(18,[2,0]),(17,[2,0]),(16,[4,41]),(15,[4]),(14,[2,0]),(13,[8,32]),(12,[8,0]),(11,[5,20]),(10,[5,1,18]),(9,[5,20,0,0]),(8,[5,20]),(7,[4,0]),(6,[4,19]),(5,[0,3]),(2,[2,0]),(4,[2,0]),(3,[0,13]),(1,[0,9]),(0,[0])]) [159,160,111,161,94] (A5 [(1,[5]),(2,[5,20]),(0,[0])]) (some [2,0]) [] [] []
noncomputable def Bz {R:Type} (lf n:Nat) (l0:LL) (s1:By) (m2:Nat) (k0:LL->By->Nat->Option R):Option R:=match n with | 0=>none | n+1=>cond (decide (m2<s1.length)) (vl ((Utf8.decode ⟨List.toArray s1⟩ m2)).1 λn'4=>cond (D9 (l0.length+1)) (Bz lf n (l0++[[(SV.int .i64 (A1 n'4))]]) s1 (m2+((Utf8.decode ⟨List.toArray s1⟩ m2)).2) k0) none) (k0 l0 s1 m2)
theorem QM (n:Nat) (l0:LL) (s1:By) (m2:Nat):D6 2 ((Ja lf).keep 9) (bd (Ja lf) cl yh (cd [1,1,1,0,1,0,1,0,1,0,0] OJ)) n ⟨gp [(5,.fl 0),(20,.it 1)] 21,[.arr true 3 1 l0,.iter s1 m2],s⟩ k =
 Bz lf n l0 s1 m2 (λl0 s1 m2=>k (.exit 1) ⟨gp [(5,.fl 0)] 42,[.arr true 3 1 l0,.iter s1 m2],s⟩):=by
 induction n generalizing l0 s1 m2 with
 | zero=>rfl
 | succ n ih=>rw [Bz];simp only [<-ih];kernel_rfl
noncomputable def KK {R:Type} (lf:Nat) (s0:By) (k0:By->Int->Option R) (k1:By->Int->LL->By->Nat->Option R):Option R:=cond (A3 s0.length) (cond (not (Option.isSome (Dl s0))) (k0 ([]:List UInt8) 4) (cond (A3 s0.length) (vl (↑(Lib.runeCountL s0):Int) λn'1=>cond (ltI 256 n'1) (k0 ([]:List UInt8) 3) (cond (A3 s0.length) (cond (A3 s0.length) (vl (↑(Lib.runeCountL s0):Int) λn'3=>cond (ltI n'3 (s0.length:Int)) (Bz lf lf [] (E8 s0) 0 (λl'5 s'6 m'7=>cond (List.all l'5 Jm) (vl ((R0 (List.map elI l'5))).1 λs'8=>vl (↑((R0 (List.map elI l'5))).2:Int) λn'9=>cond (n'9 != 0) (k1 ([]:List UInt8) 14 l'5 s'6 m'7) (cond (Nr 4 s'8.length) (vl (([120,110,45,45]:List UInt8)++s'8) λs'10=>cond (A3 s'10.length) (cond (not (L1 s'10)) (k1 ([]:List UInt8) 14 l'5 s'6 m'7) (k1 s'10 0 l'5 s'6 m'7)) none) none)) none)) (cond (A3 (List.length (E8 s0))) (cond (not (L1 (E8 s0))) (k0 ([]:List UInt8) 14) (k0 (E8 s0) 0)) none)) none) none)) none)) none
theorem A27 (d:Nat) (s0):evC (Ja lf) (d+1) σ yh 118 [pS s0] [] s=KK lf s0 (λr0 r1=>some (.tup [pS r0,pI r1],[],s)) (λr0 r1 l2 s3 m4=>some (.tup [pS r0,pI r1],[.arr true 3 1 l2,.iter s3 m4],s)):=by
 refine (evE (fn:=Tryz.f118) (by kernel_rfl)).trans ?_
 generalize evC (Ja lf) d=cl
 unfold KK;exact (Eq.trans (by kernel_rfl) (A0 (A0 rfl (A0 (A7 λn'1=>(A0 rfl (A0 (A0 (A7 λn'3=>(A0 ((QM lf cl yh s (G3 1 (G9 (Ja lf) cl yh (cd [1,1,1,0,1,0,1,1] OJ) (G9 (Ja lf) cl yh (cd [1,1,1,1] OJ) (I8 (Ja lf) Tryz.f118)))) lf [] (E8 s0) 0).trans (by kernel_rfl)) (A0 (A0 rfl rfl) rfl))) rfl) rfl))) rfl)) rfl))
noncomputable abbrev Mc:Code:=E1 Tryz.f156
noncomputable def Ew (lf:Nat):Cfg:=C6 lf [156] (A5 []) [] (A5 [(7,[2]),(2,[2]),(4,[2]),(6,[2]),(5,[0,23]),(3,[0,12]),(1,[0,2]),(0,[0])]) [] (A5 [(0,[])]) (some [2]) [] [] []
noncomputable def Oh {R:Type} (b0:Int) (b1:Bool) (k0:Int->Option R) (k1:Int->Bool->Option R):Option R:=cond b1 (vl (A1 (wu8 (b0-97))) λn'1=>vl (A1 (n'1+10)) λn'2=>k0 n'2) (cond (not (ltI b0 65)) (cond (not (ltI 70 b0)) (vl (A1 (wu8 (b0-65))) λn'3=>vl (A1 (n'3+10)) λn'4=>k0 n'4) (k1 b0 (not (ltI 70 b0)))) (k1 b0 false))
abbrev AZ (b:Code):Prop:=∀ (k:Out->St σ->Option R) b0 b1,B2 (Ew lf) cl yh b ⟨gp [(0,p8 b0),(12,pB b1)] 21,[],s⟩ k=Oh b0 b1 (λn0=>k .ret ⟨gp [(2,pI n0)] 32,[],s⟩) (λb0 b1=>k .normal ⟨gp [(0,p8 b0),(23,pB b1)] 10,[],s⟩)
theorem QC:AZ (R:=R) lf cl yh s (cd [1,0,0,1,1,1] Mc):=by
 intro k b0 b1;unfold Oh;kernel_rfl
noncomputable def Oi {R:Type} (b0:Int) (b1:Bool) (k0:Int->Option R) (k1:Int->Bool->Option R):Option R:=cond b1 (vl (A1 (wu8 (b0-48))) λn'0=>k0 n'0) (cond (not (ltI b0 97)) (Oh b0 (not (ltI 102 b0)) (λn'5=>k0 n'5) (λb'6 b'7=>k1 b'6 b'7)) (Oh b0 false (λn'8=>k0 n'8) (λb'9 b'10=>k1 b'9 b'10)))
abbrev Rs (b:Code):Prop:=∀ (k:Out->St σ->Option R) b0 b1,B2 (Ew lf) cl yh b ⟨gp [(0,p8 b0),(2,pB b1)] 31,[],s⟩ k=Oi b0 b1 (λn0=>k .ret ⟨gp [(2,pI n0)] 32,[],s⟩) (λb0 b1=>k .normal ⟨gp [(0,p8 b0),(23,pB b1)] 10,[],s⟩)
theorem QD (b_100111:Code) (h_hdig_j0:AZ (R:=R) lf cl yh s b_100111):Rs (R:=R) lf cl yh s (cd [1,0,0,1] (P5 [1,0,0,1,1,1] b_100111 Mc)):=by
 intro k b0 b1;unfold Oi;simp only [<-h_hdig_j0 k];kernel_rfl
theorem QE:Rs (R:=R) lf cl yh s (cd [1,0,0,1] Mc):=by
 intro k b0 b1;exact Eq.trans (by kernel_rfl) (QD lf cl yh s (cd [1,0,0,1,1,1] Mc) (QC lf cl yh s) k b0 b1)
noncomputable def Ao6 {R:Type} (lf:Nat) (b0:Int) (k0:Int->Option R):Option R:=cond (not (ltI b0 48)) (Oi b0 (not (ltI 57 b0)) (λn'11=>k0 n'11) (λb'12 b'13=>k0 (-1))) (Oi b0 false (λn'14=>k0 n'14) (λb'15 b'16=>k0 (-1)))
theorem A16 (b_1001:Code) (h_hdig_j1:Rs (R:=PV × List Blk × σ) lf cl yh s b_1001) (b0:Int):B2 (Ew lf) cl yh (cd [] (P5 [1,0,0,1] b_1001 Mc)) ⟨[p8 b0]++tps 34,[],s⟩ (I8 (Ew lf) Tryz.f156)=Ao6 lf b0 (λr0=>some (pI r0,[],s)):=by
 unfold Ao6;exact let K0:=(G3 0 (G9 (Ew lf) cl yh (cd [1,1] Mc) (I8 (Ew lf) Tryz.f156)));(Eq.trans (by kernel_rfl) (A0 ((h_hdig_j1 K0 b0 (not (ltI 57 b0))).trans (by kernel_rfl)) ((h_hdig_j1 K0 b0 false).trans (by kernel_rfl))))
theorem A17 (d:Nat) (b0):evC (Ew lf) (d+1) σ yh 156 [p8 b0] [] s=Ao6 lf b0 (λr0=>some (pI r0,[],s)):=
 (evE (fn:=Tryz.f156) (by kernel_rfl)).trans (Eq.trans (by kernel_rfl) (A16 lf (evC (Ew lf) d) yh s (cd [1,0,0,1] Mc) (QE lf (evC (Ew lf) d) yh s) b0))
noncomputable abbrev Ak1:Code:=E1 Tryz.f114
noncomputable def Mj (lf:Nat):Cfg:=C6 lf [114] (A5 [(3,[0,1,0,0,0])]) [(156,Ah9)] (A5 [(14,[2,0]),(4,[0,3,0]),(13,[0,3,0]),(12,[0,3,0]),(11,[2,0]),(10,[0,3,0,0,0,39]),(9,[0,3,0,0,0]),(8,[2,0]),(7,[0,3,0,25]),(6,[0,3,0]),(5,[0,3,0,14]),(3,[0,3,0,8]),(2,[0,3,0]),(1,[0,3]),(0,[0])]) [156] (A5 [(0,[4]),(1,[0,3,0])]) (some [2,0]) [] [] []
noncomputable def N8 {R:Type} (lf n:Nat) (s0:By) (i1:Int) (l2:LL) (k0:LL->Option R) (k1:LL->Option R):Option R:=match n with | 0=>none | n+1=>cond (ltI i1 (s0.length:Int)) (cond (inR i1 s0.length) (cond ((bAt s0 i1) != 37) (cond (inR i1 s0.length) (cond (D9 (l2.length+1)) (N8 lf n s0 (A1 (i1+1)) (l2++[[(SV.int .u8 (bAt s0 i1))]]) k0 k1) none) none) (cond (not (ltI (A1 (i1+2)) (s0.length:Int))) (k0 l2) (cond (inR (A1 (i1+1)) s0.length) (vl (bAt s0 (A1 (i1+1))) λn'2=>cond (inR n'2 256) (cond (inR (A1 (i1+2)) s0.length) (vl (bAt s0 (A1 (i1+2))) λn'3=>cond (inR n'3 256) (cond (ltI (Jg (u8n n'2)) (0:Int)) (k0 l2) (cond (ltI (Jg (u8n n'3)) (0:Int)) (k0 l2) (vl (A1 ((16:Int)*(Jg (u8n n'2)))) λn'4=>vl (A1 (n'4+(Jg (u8n n'3)))) λn'5=>cond (D9 (l2.length+1)) (vl (A1 ((A1 (i1+2))+1)) λn'6=>N8 lf n s0 n'6 (l2++[[(SV.int .u8 (wu8 n'5))]]) k0 k1) none))) none) none) none) none))) none) (k1 l2)
theorem QB (n s0 i1 l2):D6 1 ((Mj lf).keep 3) (bd (Mj lf) cl yh (cd [1,0,1,1,0,1,0,0] Ak1)) n ⟨gp [(0,pS s0),(3,.fl 0),(0,pI i1)] 54,[.arr false 5 1 l2],s⟩ k =
 N8 lf n s0 i1 l2 (λl0=>k .ret ⟨gp [(2,pS ([]:List UInt8)),(0,pB false)] 56,[.arr false 5 1 l0],s⟩) (λl0=>k (.exit 0) ⟨gp [(4,.fl 0)] 55,[.arr false 5 1 l0],s⟩):=by
 induction n generalizing s0 i1 l2 with
 | zero=>rfl
 | succ n ih=>rw [N8];simp only [<-ih];kernel_rfl
noncomputable def Ao5 {R:Type} (lf:Nat) (s0:By) (k0:By->Bool->LL->Option R):Option R:=cond ((decide ((0:Int)<=(s0.length:Int)))&&(D9 (Int.toNat (s0.length:Int)))) (N8 lf lf s0 0 [] (λl'7=>k0 ([]:List UInt8) false l'7) (λl'8=>cond (List.all l'8 Uc) (k0 (List.map Rj l'8) true l'8) none)) none
theorem A14 (d:Nat) (s0):evC (Mj lf) (d+1) σ yh 114 [pS s0] [] s=Ao5 lf s0 (λr0 r1 l2=>some (.tup [pS r0,pB r1],[.arr false 5 1 l2],s)):=by
 refine (evE (fn:=Tryz.f114) (by kernel_rfl)).trans ?_
 generalize evC (Mj lf) d=cl
 unfold Ao5;exact (Eq.trans (by kernel_rfl) (A0 ((QB lf cl yh s (G3 0 (G9 (Mj lf) cl yh (cd [1,0,1,1,1] Ak1) (I8 (Mj lf) Tryz.f114))) lf s0 0 []).trans (by kernel_rfl)) rfl))
noncomputable def Oj {R:Type} (lf:Nat) (h0:Int) (h1:By) (h2 h3 h4 h5 h6 h7 h8 h9 h10:Int) (k0:Bool->Int->By->Int->Int->Int->Int->Int->Int->Int->Int->Int->LL->Option R):Option R:=cond (h0==1) (cond (A3 h1.length) (cond (J0 h1) (cond (h2==0) (k0 ((h3==0)&&((h4==0)&&((h5==0)&&((h6==0)&&((h7==0)&&((h8==0)&&((h9==0)&&((h10==0)&&true)))))))) h0 h1 h2 h3 h4 h5 h6 h7 h8 h9 h10 (List.replicate 8 [(SV.int .u16 (0:Int))])) (k0 false h0 h1 h2 h3 h4 h5 h6 h7 h8 h9 h10 (List.replicate 8 [(SV.int .u16 (0:Int))]))) (k0 false h0 h1 h2 h3 h4 h5 h6 h7 h8 h9 h10 (List.replicate 8 [(SV.int .u16 (0:Int))]))) none) (cond (h0==2) (cond (h1==[]) (k0 ((h3==0)&&((h4==0)&&((h5==0)&&((h6==0)&&((h7==0)&&((h8==0)&&((h9==0)&&((h10==0)&&true)))))))) h0 h1 h2 h3 h4 h5 h6 h7 h8 h9 h10 (List.replicate 8 [(SV.int .u16 (0:Int))])) (k0 false h0 h1 h2 h3 h4 h5 h6 h7 h8 h9 h10 (List.replicate 8 [(SV.int .u16 (0:Int))]))) (cond (h0==3) (cond (h1==[]) (k0 (h2==0) h0 h1 h2 h3 h4 h5 h6 h7 h8 h9 h10 (List.replicate 8 [(SV.int .u16 (0:Int))])) (k0 false h0 h1 h2 h3 h4 h5 h6 h7 h8 h9 h10 (List.replicate 8 [(SV.int .u16 (0:Int))]))) (k0 false h0 h1 h2 h3 h4 h5 h6 h7 h8 h9 h10 (List.replicate 8 [(SV.int .u16 (0:Int))]))))
end
section
variable {σ R : Type} (lf : Nat) (cl : D5) (yh : Yh σ) (s : σ) (k : Out -> St σ -> Option R)
noncomputable def PC (lf:Nat):Cfg:=C6 lf [194] (A5 []) [] (A5 [(2,[2]),(1,[1,1]),(0,[1])]) [] (A5 []) (some [2]) [] [] []
noncomputable def Bi4 {R:Type} (lf:Nat) (b:Int) (k0:Int->Option R):Option R:=k0 b
theorem A72 (d:Nat) (b):evC (PC lf) (d+1) σ yh 194 [pI b] [] s=Bi4 lf b (λn0=>some (.fnr (Fn.func 201) [] [.ptr 1 0 0,.ptr 0 0 0],[.box [pI n0],.box [pI (0:Int)]],s)):=by
 refine (evE (fn:=Tryz.f194) (by kernel_rfl)).trans ?_
 generalize evC (PC lf) d=cl
 unfold Bi4;kernel_rfl
noncomputable def FM (lf:Nat):Cfg:=C6 lf [201] (A5 []) [] (A5 [(2,[2]),(1,[0,0]),(0,[0,0])]) [] (A5 []) (some [2]) [] [] []
noncomputable def XU {R:Type} (lf:Nat) (k b:Int) (k0:Int->Int->Int->Option R):Option R:=vl (A1 ((A1 (k+36))-b)) λn'0=>vl (if ((26:Int)<(if ((1:Int) > n'0) then (1:Int) else n'0)) then (26:Int) else (if ((1:Int) > n'0) then (1:Int) else n'0)) λn'1=>k0 n'1 (A1 (k+36)) b
theorem Ar9 (d:Nat) (k b):evC (FM lf) (d+1) σ yh 201 [.ptr 0 0 0,.ptr 1 0 0] [.box [pI k],.box [pI b]] s=XU lf k b (λr0 n1 n2=>some (pI r0,[.box [pI n1],.box [pI n2]],s)):=by
 refine (evE (fn:=Tryz.f201) (by kernel_rfl)).trans ?_
 generalize evC (FM lf) d=cl
 unfold XU;kernel_rfl
noncomputable abbrev Bf4:Code:=E1 Tryz.f185
noncomputable def Re (lf:Nat):Cfg:=C6 lf [185] (A5 [(2,[0,0,4,0])]) [(194,Vj),(195,OA)] (A5 [(6,[0,0,5]),(5,[0,0,5,0]),(4,[6]),(3,[0,0,5,0,6]),(2,[0,0,5,0]),(1,[0,0,5]),(0,[0,0,0])]) [195] (A5 [(0,[6]),(1,[0,0,5])]) (some [6]) [(201,Ki)] [] [201]
noncomputable def Ej {R:Type} (lf n:Nat) (q0:Int) (z1:Bool) (l2:LL) (n3 n4:Int) (k0:Bool->LL->Int->Int->Option R):Option R:=match n with | 0=>none | n+1=>cond (ltN n4 1000000000000) (cond (ltN n3 1000000) (cond (ltI q0 (I4 n4 n3)) (cond (ltN q0 36) (vl (↑(UInt8.toNat (U4 (Int.toNat q0))):Int) λn'1=>cond (D9 (l2.length+1)) (k0 z1 (l2++[[(SV.int .u8 n'1)]]) n3 (Int.add n4 (36:Int))) none) none) (vl (A1 (q0-(I4 n4 n3))) λn'2=>vl (A1 ((36:Int)-(I4 n4 n3))) λn'3=>cond (n'3 != 0) (vl (A1 ((I4 n4 n3)+(Int.tmod n'2 n'3))) λn'4=>cond (ltN n'4 36) (vl (↑(UInt8.toNat (U4 (Int.toNat n'4))):Int) λn'5=>cond (D9 (l2.length+1)) (vl (A1 (q0-(I4 n4 n3))) λn'6=>vl (A1 ((36:Int)-(I4 n4 n3))) λn'7=>cond (n'7 != 0) (vl (A1 (Int.tdiv n'6 n'7)) λn'8=>Ej lf n n'8 z1 (l2++[[(SV.int .u8 n'5)]]) n3 (Int.add n4 (36:Int)) k0) none) none) none) none)) none) none
theorem RV (n q0 z1 l2 n3 n4):D6 3 ((Re lf).keep 2) (bd (Re lf) cl yh (cd [1,1,0,0] Bf4)) n ⟨gp [(0,.fl 0),(0,pI q0),(5,.fnr (Fn.func 201) [] [.ptr 2 0 0,.ptr 1 0 0])] 31,[.arr z1 5 1 l2,.box [pI n3],.box [pI n4]],s⟩ k =
 Ej lf n q0 z1 l2 n3 n4 (λz0 l1 n2 n3=>k .ret ⟨gp [(6,.fl 0)] 32,[.arr z0 5 1 l1,.box [pI n2],.box [pI n3]],s⟩):=by
 induction n generalizing q0 z1 l2 n3 n4 with
 | zero=>rfl
 | succ n ih=>rw [Ej];simp only [<-ih];kernel_rfl
noncomputable def Bi0 {R:Type} (lf:Nat) (q b:Int) (z:Bool) (l:LL) (k0:Bool->LL->Int->Int->Option R):Option R:=Ej lf lf q z l b 0 (λz'9 l'10 n'11 n'12=>k0 z'9 l'10 n'11 n'12)
theorem A61 (d:Nat) (q b z l):evC (Re lf) (d+1) σ yh 185 [.fl 0,pI q,pI b] [.arr z 5 1 l] s=Bi0 lf q b z l (λz0 l1 n2 n3=>some (.fl 0,[.arr z0 5 1 l1,.box [pI n2],.box [pI n3]],s)):=by
 refine (evE (fn:=Tryz.f185) (by kernel_rfl)).trans ?_
 generalize evC (Re lf) d=cl
 unfold Bi0;exact (Eq.trans (by kernel_rfl) ((RV lf cl yh s (G3 0 (I8 (Re lf) Tryz.f185)) lf q z l b 0).trans (by kernel_rfl)))
noncomputable abbrev Bj:Code:=E1 Tryz.f161
noncomputable def M6 (lf:Nat):Cfg:=C6 lf [161] (A5 [(29,[0,1,0,0,2,0,0,0,0,61,0,0]),(21,[0,1,0,0,2,0,0,0,0,0,38,0,0]),(17,[0,1,0,0,2,0,0,0,0]),(5,[0,1,0,0,15,0,0])]) [(184,It),(186,Ir)] (A5 [(40,[2,0]),(18,[0,3,2,0,0,0,0]),(39,[0,3,2,0,0,0,0]),(38,[0,3,2,0,0,0,0,61,0,0]),(32,[0,3,2,0,0,0,0,61,0,0]),(37,[0,3,2,0,0,0,0,61,0,0]),(36,[0,3,2,0,0,0,0,61,0,0]),(35,[0,3,2,0,1,0,61,0,0]),(34,[0,3,2,0,0,1,61,0,0]),(33,[0,3,2,0,0,0,0,61,0,0,9]),(31,[0,3,2,0,0,0,0,4,56,0,0,3]),(30,[0,3,2,0,0,0,0,4,56,0,0]),(29,[0,3,2,0,0,0,0,61,0,0,0]),(28,[0,3,2,0,0,0,0,61,0,0]),(27,[0,3,2,0,0,0,0]),(26,[0,3,2,1,0,0,0]),(25,[0,3,2,0,0,0,0,0,38,0,0]),(24,[0,3,2,0,0,0,0,0,38,0,0]),(23,[0,3,2,0,0,0,0,0,1,36,0,0,5]),(22,[0,3,2,0,0,0,0,0,1,36,0,0]),(21,[0,3,2,0,0,0,0,0,38,0,0,0]),(20,[0,3,2,0,0,0,0,0,38,0,0]),(19,[0,3,2,0,0,0,0,0]),(17,[0,3,2,0,0,0,0,36]),(16,[0,3,2,0,0,0,0]),(15,[0,3,2,0,0,0]),(14,[0,3,2]),(13,[0,3,2,32]),(12,[0,3,2]),(11,[0,3,15,0,0]),(10,[0,3,15,0,0]),(9,[0,3,1,13,0,0,7]),(8,[2,0]),(7,[0,3,1,13,0,0,5]),(6,[0,3,1,13,0,0]),(5,[0,3,15,0,0,0]),(4,[0,3,15,0,0]),(3,[0,3]),(2,[2,0]),(1,[0,18]),(0,[0])]) [184,186] (A5 [(2,[4]),(3,[0,3,2,0,0,0,0]),(6,[0,3,2,0,0,0,0]),(7,[0,3,2,0,0,0,0,61,0,0]),(8,[0,3,2,0,0,0,0,61,0,0]),(4,[0,3,2,0,0,0,0,0]),(5,[0,3,2,0,0,0,0,0,38,0,0]),(0,[0,3]),(1,[0,3,15,0,0])]) (some [2,0]) [(185,EA)] [] [185]
noncomputable def O8 {R:Type} (lf n:Nat) (points_z0 points_t1:Bool) (points2:LL) (n3 n4:Int) (l5:LL) (k0:LL->Option R) (k1:Bool->Bool->LL->LL->Option R):Option R:=match n with | 0=>none | n+1=>cond (ltI n4 n3) (cond (inR n4 points2.length) (cond (okE Gk points2 (Int.toNat n4) 0) (vl (gE points2 (Int.toNat n4) 0) λn'1=>cond (not (ptI n'1)) (k0 l5) (cond (ltI n'1 128) (cond (D9 (l5.length+1)) (O8 lf n points_z0 points_t1 points2 n3 (A1 (n4+1)) (l5++[[(SV.int .u8 (wu8 n'1))]]) k0 k1) none) (O8 lf n points_z0 points_t1 points2 n3 (A1 (n4+1)) l5 k0 k1))) none) none) (k1 points_z0 points_t1 points2 l5)
theorem SH (n points_z0 points_t1 points2 n3 n4 l5):D6 1 ((M6 lf).keep 5) (bd (M6 lf) cl yh (cd [1,1,1,0,1,0,0] Bj)) n ⟨gp [(0,.s (.sl points_z0 points_t1 1 points2)),(3,.fl 0),(15,.s (.sl points_z0 points_t1 1 points2)),(0,pI n3),(0,pI n4)] 84,[.arr true 5 1 l5],s⟩ k =
 O8 lf n points_z0 points_t1 points2 n3 n4 l5 (λl0=>k .ret ⟨gp [(2,pS ([]:List UInt8)),(0,pI (2:Int))] 103,[.arr true 5 1 l0],s⟩) (λpoints_z0 points_t1 points2 l3=>k (.exit 0) ⟨gp [(0,.s (.sl points_z0 points_t1 1 points2)),(3,.fl 0)] 102,[.arr true 5 1 l3],s⟩):=by
 induction n generalizing points_z0 points_t1 points2 n3 n4 l5 with
 | zero=>rfl
 | succ n ih=>rw [O8];simp only [<-ih];kernel_rfl
noncomputable def El {R:Type} (lf n:Nat) (points_z0 points_t1:Bool) (points2:LL) (basic3 n4 delta5 bias6 done7 m8 n9 n10:Int) (l11:LL) (k0:Bool->Bool->LL->Int->Int->Int->Int->Int->Int->LL->Option R):Option R:=match n with | 0=>none | n+1=>cond (ltI n10 n9) (cond (inR n10 points2.length) (cond (okE Gk points2 (Int.toNat n10) 0) (vl (gE points2 (Int.toNat n10) 0) λn'9=>cond (not (ltI n'9 n4)) (vl (if (n'9<m8) then n'9 else m8) λn'10=>El lf n points_z0 points_t1 points2 basic3 n4 delta5 bias6 done7 n'10 n9 (A1 (n10+1)) l11 k0) (El lf n points_z0 points_t1 points2 basic3 n4 delta5 bias6 done7 m8 n9 (A1 (n10+1)) l11 k0)) none) none) (k0 points_z0 points_t1 points2 basic3 n4 delta5 bias6 done7 m8 l11)
theorem SJ (n points_z0 points_t1 points2 basic3 n4 delta5 bias6 done7 m8 n9 n10 l11):D6 1 ((M6 lf).keep 21) (bd (M6 lf) cl yh (cd [1,1,1,1,1,1,1,0,1,0,0,1,0,0,1,0,1,0,0] Bj)) n ⟨gp [(0,.s (.sl points_z0 points_t1 1 points2)),(3,.fl 0),(2,pI basic3),(0,pI n4),(0,pI delta5),(0,pI bias6),(0,pI done7),(0,pI m8),(38,.s (.sl points_z0 points_t1 1 points2)),(0,pI n9),(0,pI n10)] 53,[.arr true 5 1 l11],s⟩ k =
 El lf n points_z0 points_t1 points2 basic3 n4 delta5 bias6 done7 m8 n9 n10 l11 (λpoints_z0 points_t1 points2 basic3 n4 delta5 bias6 done7 m8 l9=>k (.exit 4) ⟨gp [(0,.s (.sl points_z0 points_t1 1 points2)),(3,.fl 0),(2,pI basic3),(0,pI n4),(0,pI delta5),(0,pI bias6),(0,pI done7),(0,pI m8)] 94,[.arr true 5 1 l9],s⟩):=by
 induction n generalizing points_z0 points_t1 points2 basic3 n4 delta5 bias6 done7 m8 n9 n10 l11 with
 | zero=>rfl
 | succ n ih=>rw [El];simp only [<-ih];kernel_rfl
noncomputable def Y7 {R:Type} (lf n:Nat) (points_z0 points_t1:Bool) (points2:LL) (basic3 n4 delta5 bias6 done7 n8v n9:Int) (l10:LL) (k0:Bool->Bool->LL->Int->Int->Int->Int->Int->LL->Option R):Option R:=match n with | 0=>none | n+1=>cond (ltI n9 n8v) (cond (inR n9 points2.length) (cond (okE Gk points2 (Int.toNat n9) 0) (vl (gE points2 (Int.toNat n9) 0) λn'26=>cond (ltI n'26 n4) (vl (A1 (delta5+1)) λn'27=>Y7 lf n points_z0 points_t1 points2 basic3 n4 n'27 bias6 done7 n8v (A1 (n9+1)) l10 k0) (cond (n'26==n4) (cond (ltN delta5 1152921504606846976) (cond (ltN bias6 1000000) (cond (Nat.ble l10.length 100000) (vl (List.append l10 (List.map D4 (L9 (Int.toNat delta5) 0 (Int.toNat bias6)))) λl'29=>vl (A1 (done7+1)) λn'30=>cond (ltN delta5 1152921504606846976) (cond (ltN n'30 1000000) (cond (ltI 0 n'30) (vl (↑(M5 (Int.toNat delta5) (Int.toNat n'30) (done7==basic3)):Int) λn'31=>vl (A1 (done7+1)) λn'32=>Y7 lf n points_z0 points_t1 points2 basic3 n4 0 n'31 n'32 n8v (A1 (n9+1)) l'29 k0) none) none) none) none) none) none) (Y7 lf n points_z0 points_t1 points2 basic3 n4 delta5 bias6 done7 n8v (A1 (n9+1)) l10 k0))) none) none) (k0 points_z0 points_t1 points2 basic3 n4 delta5 bias6 done7 l10)
theorem SK (n points_z0 points_t1 points2 basic3 n4 delta5 bias6 done7 n8v n9 l10):D6 1 ((M6 lf).keep 29) (bd (M6 lf) cl yh (cd [1,1,1,1,1,1,1,0,1,0,0,1,0,0,1,1,1,1,0,1,0,0] Bj)) n ⟨gp [(0,.s (.sl points_z0 points_t1 1 points2)),(3,.fl 0),(2,pI basic3),(0,pI n4),(0,pI delta5),(0,pI bias6),(0,pI done7),(61,.s (.sl points_z0 points_t1 1 points2)),(0,pI n8v),(0,pI n9)] 31,[.arr true 5 1 l10],s⟩ k =
 Y7 lf n points_z0 points_t1 points2 basic3 n4 delta5 bias6 done7 n8v n9 l10 (λpoints_z0 points_t1 points2 basic3 n4 delta5 bias6 done7 l8=>k (.exit 6) ⟨gp [(0,.s (.sl points_z0 points_t1 1 points2)),(3,.fl 0),(2,pI basic3),(0,pI n4),(0,pI delta5),(0,pI bias6),(0,pI done7)] 95,[.arr true 5 1 l8],s⟩):=by
 induction n generalizing points_z0 points_t1 points2 basic3 n4 delta5 bias6 done7 n8v n9 l10 with
 | zero=>rfl
 | succ n ih=>rw [Y7];simp only [<-ih];kernel_rfl
noncomputable def Cd {R:Type} (lf n:Nat) (points_z0 points_t1:Bool) (points2:LL) (basic3 n4 delta5 bias6 done7:Int) (l8:LL) (k0:LL->Option R):Option R:=match n with | 0=>none | n+1=>cond (ltI done7 (points2.length:Int)) (El lf lf points_z0 points_t1 points2 basic3 n4 delta5 bias6 done7 1114112 (points2.length:Int) 0 l8 (λpoints_z'11 points_t'12 points'13 basic'14 n'15 delta'16 bias'17 done'18 m'19 l'20=>vl (A1 (done'18+1)) λn'23=>vl (A1 ((A1 (m'19-n'15))*n'23)) λn'24=>Y7 lf lf points_z'11 points_t'12 points'13 basic'14 m'19 (A1 (delta'16+n'24)) bias'17 done'18 (points'13.length:Int) 0 l'20 (λpoints_z'33 points_t'34 points'35 basic'36 n'37 delta'38 bias'39 done'40 l'41=>vl (A1 (delta'38+1)) λn'42=>vl (A1 (n'37+1)) λn'43=>Cd lf n points_z'33 points_t'34 points'35 basic'36 n'43 n'42 bias'39 done'40 l'41 k0))) (k0 l8)
theorem Yf (n points_z0 points_t1 points2 basic3 n4 delta5 bias6 done7 l8):D6 1 ((M6 lf).keep 17) (bd (M6 lf) cl yh (cd [1,1,1,1,1,1,1,0,1,0,0] Bj)) n ⟨gp [(0,.s (.sl points_z0 points_t1 1 points2)),(3,.fl 0),(2,pI basic3),(0,pI n4),(0,pI delta5),(0,pI bias6),(0,pI done7)] 95,[.arr true 5 1 l8],s⟩ k =
 Cd lf n points_z0 points_t1 points2 basic3 n4 delta5 bias6 done7 l8 (λl0=>k (.exit 2) ⟨gp [(4,.fl 0)] 102,[.arr true 5 1 l0],s⟩):=by
 induction n generalizing points_z0 points_t1 points2 basic3 n4 delta5 bias6 done7 l8 with
 | zero=>rfl
 | succ n ih=>rw [Cd];exact (Eq.trans (by kernel_rfl) (A0 ((SJ lf cl yh s (G3 4 (G9 (M6 lf) cl yh (cd [1,1,1,1,1,1,1,0,1,0,0,1,0,0,1,1] Bj) (G3 3 (G9 (M6 lf) cl yh (cd [1,1,1,1,1,1,1,0,1,0,0,1,1] Bj) (lpK 1 ((M6 lf).keep 17) (bd (M6 lf) cl yh (cd [1,1,1,1,1,1,1,0,1,0,0] Bj)) n k))))) lf points_z0 points_t1 points2 basic3 n4 delta5 bias6 done7 1114112 (points2.length:Int) 0 l8).trans (congr rfl (A12 λpoints_z'11 points_t'12 points'13 basic'14 n'15 delta'16 bias'17 done'18 m'19 l'20=>(Eq.trans (by kernel_rfl) (A7 λn'23=>(A7 λn'24=>((SK lf cl yh s (G3 6 (G9 (M6 lf) cl yh (cd [1,1,1,1,1,1,1,0,1,0,0,1,0,0,1,1,1,1,1] Bj) (G3 3 (G9 (M6 lf) cl yh (cd [1,1,1,1,1,1,1,0,1,0,0,1,1] Bj) (lpK 1 ((M6 lf).keep 17) (bd (M6 lf) cl yh (cd [1,1,1,1,1,1,1,0,1,0,0] Bj)) n k))))) lf points_z'11 points_t'12 points'13 basic'14 m'19 (A1 (delta'16+n'24)) bias'17 done'18 (points'13.length:Int) 0 l'20).trans (congr rfl (fx9 λpoints_z'33 points_t'34 points'35 basic'36 n'37 delta'38 bias'39 done'40 l'41=>(Eq.trans (by kernel_rfl) (A7 λn'42=>(A7 λn'43=>(ih points_z'33 points_t'34 points'35 basic'36 n'43 n'42 bias'39 done'40 l'41))))))))))))) rfl))
noncomputable def KZ {R:Type} (lf:Nat) (p_z p_t:Bool) (p:LL) (k0:Unit->Option R) (k1:By->Int->LL->Option R):Option R:=cond (ltI 256 (p.length:Int)) (k0 ()) (O8 lf lf p_z p_t p (p.length:Int) 0 [] (λl'2=>k1 ([]:List UInt8) 2 l'2) (λpoints_z'3 points_t'4 points'5 l'6=>vl (l'6.length:Int) λn'8=>cond (ltI 0 n'8) (cond (D9 (l'6.length+1)) (Cd lf lf points_z'3 points_t'4 points'5 n'8 128 0 72 n'8 (l'6++[[(SV.int .u8 (45:Int))]]) (λl'44=>cond (List.all l'44 Uc) (k1 (List.map Rj l'44) 0 l'44) none)) none) (Cd lf lf points_z'3 points_t'4 points'5 n'8 128 0 72 n'8 l'6 (λl'45=>cond (List.all l'45 Uc) (k1 (List.map Rj l'45) 0 l'45) none))))
theorem A69 (d:Nat) (p_z p_t p):evC (M6 lf) (d+1) σ yh 161 [.s (.sl p_z p_t 1 p)] [] s=KZ lf p_z p_t p (λ_=>some (.tup [pS ([]:List UInt8),pI (3:Int)],[],s)) (λr0 r1 l2=>some (.tup [pS r0,pI r1],[.arr true 5 1 l2],s)):=by
 refine (evE (fn:=Tryz.f161) (by kernel_rfl)).trans ?_
 generalize evC (M6 lf) d=cl
 unfold KZ;exact let K0:=(G3 2 (G9 (M6 lf) cl yh (cd [1,1,1,1,1,1,1,1] Bj) (I8 (M6 lf) Tryz.f161)));(Eq.trans (by kernel_rfl) (A0 rfl ((SH lf cl yh s (G3 0 (G9 (M6 lf) cl yh (cd [1,1,1,1] Bj) (I8 (M6 lf) Tryz.f161))) lf p_z p_t p (p.length:Int) 0 []).trans (congr (congr rfl (by kernel_rfl)) (fx4 λpoints_z'3 points_t'4 points'5 l'6=>(Eq.trans (by kernel_rfl) (A7 λn'8=>(A0 (A0 ((Yf lf cl yh s K0 lf points_z'3 points_t'4 points'5 n'8 128 0 72 n'8 (l'6++[[(SV.int .u8 (45:Int))]])).trans (by kernel_rfl)) rfl) ((Yf lf cl yh s K0 lf points_z'3 points_t'4 points'5 n'8 128 0 72 n'8 l'6).trans (by kernel_rfl))))))))))
end
theorem Pw (k b:Nat):I4 ((36*k:Nat):Int) (b:Int)=(thr k b:Int):=by
 unfold I4 thr
 omega
theorem Ad1 {R:Type} {k0:Int->Option R} (b:Int):Bi4 LF b k0=k0 b:=rfl
theorem SN {R:Type} {k0:Int->Int->Int->Option R} (k b:Int) (h0:ltN k 1000000000000=true) (h1:ltN b 1000000=true):XU LF k b k0=k0 (I4 k b) (Int.add k 36) b:=by
 obtain ⟨a0,a1⟩:=M0.1 h0
 obtain ⟨b0,b1⟩:=M0.1 h1
 unfold XU
 have e1:A1 (k+36)=k+36:=A4
 have e2:A1 (k+36-b)=k+36-b:=A4
 simp only [vl,e1,e2]
 have:(if (26:Int)<(if (1:Int) > k+36-b then (1:Int) else k+36-b) then (26:Int) else (if (1:Int) > k+36-b then (1:Int) else k+36-b))=I4 k b:=by
  unfold I4
  omega
 grind
theorem Kp {q k b:Nat} (h:q<thr k b):L9 q k b=[U4 q]:=by rw [L9,dif_pos h]
theorem Rk {q k b:Nat} (h:¬ q<thr k b):L9 q k b=U4 (thr k b+(q-thr k b) % (36-thr k b))::L9 ((q-thr k b) / (36-thr k b)) (k+1) b:=by rw [L9,dif_neg h]
theorem FT {x y m:Nat} (hy:10<=y) (h:x<10*m):x / y<m:=by
 have h1:x / y<=x / 10:=Nat.div_le_div_left hy (by omega)
 omega
theorem PU (b:Nat):∀ (r q k:Nat),q<10 ^ r->(L9 q k b).length<=r+1:=by
 intro r
 induction r with
 | zero=>
  intro q k h
  have ht:=P9 k b
  rw [Kp (by simp at h;omega)]
  simp
 | succ r ih=>
  intro q k h
  have ht:=P9 k b
  by_cases hq:q<thr k b
  ·rw [Kp hq];simp
  ·rw [Rk hq,List.length_cons]
   have:=ih ((q-thr k b) / (36-thr k b)) (k+1) (FT (by omega) (by rw [Nat.pow_succ] at h;omega))
   omega
theorem Ac2 (z:Bool) (b:Nat) (hb:b<1000000):∀ (r q k n:Nat) (l:LL),q<10 ^ r->q<1152921504606846976->k+r<=1000->r<n->l.length+r<=200000->
  ∃ (n2 n3:Int),∀ (R:Type) (k0:Bool->LL->Int->Int->Option R),Ej LF n (q:Int) z l (b:Int) ((36*k:Nat):Int) k0=k0 z (l++(L9 q k b).map D4) n2 n3:=by
 have fin:∀ (q k n:Nat) (l:LL),q<thr k b->k<=1000->l.length<=200000->∃ (n2 n3:Int),∀ (R:Type) (k0:Bool->LL->Int->Int->Option R),Ej LF (n+1) (q:Int) z l (b:Int) ((36*k:Nat):Int) k0=k0 z (l++(L9 q k b).map D4) n2 n3:=by
  intro q k n l hq hk hl
  have ht:=P9 k b
  refine ⟨(b:Int),Int.add ((36*k:Nat):Int) 36,λR k0=>?_⟩
  rw [Ej]
  rw [M3,M3,Pw,A9,M3,Kp hq]
  simp only [vl,cond_true,Int.toNat_natCast]
  rw [D3 (by omega)]
  rfl
 intro r
 induction r with
 | zero=>
  intro q k n l h _ hk hn hl
  have ht:=P9 k b
  obtain ⟨n,rfl⟩:∃ m,n=m+1:=⟨n-1,by omega⟩
  exact fin q k n l (by simp at h;omega) (by omega) (by omega)
 | succ r ih=>
  intro q k n l h hq60 hk hn hl
  have ht:=P9 k b
  obtain ⟨n,rfl⟩:∃ m,n=m+1:=⟨n-1,by omega⟩
  by_cases hq:q<thr k b
  ·exact fin q k n l hq (by omega) (by omega)
  ·have hd:(q-thr k b) / (36-thr k b)<10 ^ r:=FT (by omega) (by rw [Nat.pow_succ] at h;omega)
   have hd2:(q-thr k b) / (36-thr k b)<=q:=Nat.le_trans (Nat.div_le_self _ _) (by omega)
   have hm2:(q-thr k b) % (36-thr k b)<36-thr k b:=Nat.mod_lt _ (by omega)
   obtain ⟨n2,n3,e⟩:=ih ((q-thr k b) / (36-thr k b)) (k+1) n (l++[D4 (U4 (thr k b+(q-thr k b) % (36-thr k b)))]) hd (by omega) (by omega) (by omega) (by rw [List.length_append,List.length_singleton];omega)
   refine ⟨n2,n3,λR k0=>?_⟩
   rw [Ej]
   have c1:A1 ((q:Int)-(thr k b:Int))=((q-thr k b:Nat):Int):=by rw [A4];omega
   have c2:A1 ((36:Int)-(thr k b:Int))=((36-thr k b:Nat):Int):=by rw [A4];omega
   have c3:Int.tmod ((q-thr k b:Nat):Int) ((36-thr k b:Nat):Int)=(((q-thr k b) % (36-thr k b):Nat):Int):=Gm _ _
   have c4:Int.tdiv ((q-thr k b:Nat):Int) ((36-thr k b:Nat):Int)=(((q-thr k b) / (36-thr k b):Nat):Int):=K6 _ _
   have c7:((((36-thr k b:Nat):Int)) != 0)=true:=by rw [bne_iff_ne];omega
   rw [M3,M3,Pw,A8]
   simp only [vl,c1,c2,c3,c4,c7,cond_true,cond_false]
   rw [Rk hq]
   generalize hA:(q-thr k b) / (36-thr k b)=A at *
   generalize hB:(q-thr k b) % (36-thr k b)=B at *
   have c5:A1 ((thr k b:Int)+(B:Int))=((thr k b+B:Nat):Int):=by rw [A4];rfl
   have c6:A1 (A:Int)=(A:Int):=A4
   rw [c5,c6,M3,D3 (by omega),Int.toNat_natCast,show Int.add ((36*k:Nat):Int) 36=((36*(k+1):Nat):Int) from (by show ((36*k:Nat):Int)+36=_;omega)]
   refine Eq.trans (e R k0) ?_
   simp [List.append_assoc]
theorem Ac3 (q b:Int) (z:Bool) (l:LL) (h0:ltN q 1152921504606846976=true) (h1:ltN b 1000000=true) (h2:Nat.ble l.length 100000=true) :
  ∃ (n2 n3:Int),∀ (R:Type) (k0:Bool->LL->Int->Int->Option R),Bi0 LF q b z l k0=k0 z (List.append l ((L9 q.toNat 0 b.toNat).map D4)) n2 n3:=by
 obtain ⟨a0,a1⟩:=M0.1 h0
 obtain ⟨b0,b1⟩:=M0.1 h1
 obtain ⟨q,rfl⟩:=Int.eq_ofNat_of_zero_le a0
 obtain ⟨b,rfl⟩:=Int.eq_ofNat_of_zero_le b0
 have hl:=Nat.le_of_ble_eq_true h2
 have hLF:=D7
 obtain ⟨n2,n3,e⟩:=Ac2 z b (by omega) 19 q 0 LF l (by omega) (by omega) (by omega) (by omega) (by omega)
 exact ⟨n2,n3,λR k0=>e R _⟩
def V4 (l:List Int):LL:=l.map λx=>[SV.int .i64 x]
def B1 (l:List Nat):LL:=l.map λx:Nat=>[SV.int .i64 (x:Int)]
theorem Ku (l:List Nat):V4 (l.map λn:Nat=>(n:Int))=B1 l:=by simp [V4,B1,Function.comp_def]
theorem P2 (l:List Int):(V4 l).length=l.length:=by simp [V4]
theorem C1 (l:List Nat):(B1 l).length=l.length:=by simp [B1]
theorem Gd (a b:List Nat):B1 (a++b)=B1 a++B1 b:=by simp [B1]
theorem GN {l:List Int} {i:Nat} (h:i<l.length):okE Gk (V4 l) i 0=true:=by
 unfold okE V4 Gk
 simp [List.getD_eq_getElem?_getD,h,okS,SV.has]
theorem PZ (l:List Int) (i:Nat) (h:i<l.length):gE (V4 l) i 0=l.getD i 0:=by
 unfold gE gC V4
 simp [List.getD_eq_getElem?_getD,List.getElem?_eq_getElem h,SV.gI]
theorem Kw {l:List Nat} {i:Nat} (h:i<l.length):okE Gk (B1 l) i 0=true:=by
 rw [<-Ku];exact GN (by simpa using h)
theorem Rp (l:List Nat) (i:Nat) (h:i<l.length):gE (B1 l) i 0=(l.getD i 0:Int):=by
 rw [<-Ku,PZ _ _ (by simpa using h)]
 grind
theorem XA {l:LL} (h:l.all Jm=true):∃ P:List Int,l=V4 P:=by
 induction l with
 | nil=>exact ⟨[],rfl⟩
 | cons x r ih=>
  simp only [List.all_cons,Bool.and_eq_true] at h
  obtain ⟨P,rfl⟩:=ih h.2
  have hx:=h.1
  unfold Jm at hx
  split at hx
  ·rename_i n
   exact ⟨n::P,rfl⟩
  ·cases hx
theorem JN (P:List Int):(V4 P).map elI=P:=by
 unfold V4
 rw [List.map_map]
 conv=>rhs;rw [<-List.map_id P]
 apply List.map_congr_left
 intro x _
 simp [elI,SV.gI]
theorem JM (l:List Int) (i:Nat) (h:i<l.length):l.drop i=l.getD i 0::l.drop (i+1):=by simp_all
theorem Ob (l:List Nat) (i:Nat) (h:i<l.length):l.drop i=l.getD i 0::l.drop (i+1):=by simp_all
theorem Ay7:∀ (r d k:Nat),d<456*35 ^ r->Qu d k<=k+36*r+36:=by
 intro r
 induction r with
 | zero=>
  intro d k h
  rw [Ma (by simp at h;omega)]
  have:36*d / (d+38)<=36:=by
   apply Nat.div_le_of_le_mul
   omega
  omega
 | succ r ih=>
  intro d k h
  by_cases hd:455<d
  ·rw [Vz hd]
   grind
  grind
theorem Iv (d c:Nat) (f:Bool) (h:d<1152921504606846976):M5 d c f<=500:=by
 unfold M5
 have hx:∀ x:Nat,x<=d->Qu (x+x / c) 0<=500:=by
  intro x hx
  have:=Nat.div_le_self x c
  have:=Ay7 11 (x+x / c) 0 (by omega)
  omega
 grind
theorem AT {q k b:Nat} (h:q<1152921504606846976):(L9 q k b).length<=20:=PU b 19 q k (by omega)
theorem XT (z t:Bool) (pts:List Nat) (basic m:Nat) (hm:m<=1114112) (hl:pts.length<=256):∀ (r i n:Nat) (s:CT),i+r=pts.length->r<n->s.delta+r<=1000000000000->s.bias<=500->s.out.length+20*r<=90000->s.done+r<=1000->basic<=256->
  (∀ (R:Type) (k0:Bool->Bool->LL->Int->Int->Int->Int->Int->LL->Option R),Y7 LF n z t (B1 pts) (basic:Int) (m:Int) (s.delta:Int) (s.bias:Int) (s.done:Int) (pts.length:Int) (i:Int) (s.out.map D4) k0 =
   k0 z t (B1 pts) (basic:Int) (m:Int) ((F4 m basic (pts.drop i) s).delta:Int) ((F4 m basic (pts.drop i) s).bias:Int) ((F4 m basic (pts.drop i) s).done:Int) ((F4 m basic (pts.drop i) s).out.map D4))/\
  (F4 m basic (pts.drop i) s).bias<=500/\(F4 m basic (pts.drop i) s).out.length<=s.out.length+20*(pts.drop i).countP (· == m)/\(F4 m basic (pts.drop i) s).done=s.done+(pts.drop i).countP (· == m)/\
  (F4 m basic (pts.drop i) s).delta<=(if 0<(pts.drop i).countP (· == m) then r else s.delta+r):=by
 intro r
 induction r with
 | zero=>
  intro i n s hi hn h1 h2 h3 h4 hb
  obtain ⟨n,rfl⟩:∃ m,n=m+1:=⟨n-1,by omega⟩
  rw [List.drop_of_length_le (by omega)]
  refine ⟨λR k0=>?_,h2,by simp [F4],by simp [F4],by simp [F4]⟩
  rw [Y7]
  rw [A8]
  rfl
 | succ r ih=>
  intro i n s hi hn h1 h2 h3 h4 hb
  obtain ⟨n,rfl⟩:∃ m,n=m+1:=⟨n-1,by omega⟩
  rw [Ob pts i (by omega)]
  have hg:=Rp pts i (by omega)
  have ok:=Kw (l:=pts) (i:=i) (by omega)
  generalize pts.getD i 0=p at *
  have e1:A1 ((i:Int)+1)=((i+1:Nat):Int):=by rw [A4];rfl
  have e2:A1 ((s.delta:Int)+1)=((s.delta+1:Nat):Int):=by rw [A4];rfl
  have e3:A1 ((s.done:Int)+1)=((s.done+1:Nat):Int):=by rw [A4];rfl
  by_cases hp:p<m
  ·have hne:(p==m)=false:=by rw [beq_eq_false_iff_ne];omega
   have hs:F4 m basic (p::pts.drop (i+1)) s=F4 m basic (pts.drop (i+1)) { s with delta:=s.delta+1 }:=by rw [F4,if_pos hp]
   obtain ⟨q1,q2,q3,q4,q5⟩:=ih (i+1) n { s with delta:=s.delta+1 } (by omega) (by omega) (by simp only;omega) h2 (by simp only;omega) (by simp only;omega) hb
   rw [hs,List.countP_cons_of_neg (by rw [hne];simp)]
   refine ⟨λR k0=>?_,q2,q3,q4,?_⟩
   ·rw [Y7]
    rw [A9,C1,J3,Int.toNat_natCast,ok]
    simp only [cond_true,vl,hg,e1,e2]
    rw [A9,cond_true]
    exact q1 R k0
   ·simp only at q5
    split at q5<;>split<;>omega
  ·by_cases hq:p=m
   ·subst hq
    have hn20:=AT (q:=s.delta) (k:=0) (b:=s.bias) (by omega)
    have had:=Iv s.delta (s.done+1) (s.done==basic) (by omega)
    have hs:F4 p basic (p::pts.drop (i+1)) s=F4 p basic (pts.drop (i+1)) { delta:=0,bias:=M5 s.delta (s.done+1) (s.done==basic),done:=s.done+1,out:=s.out++L9 s.delta 0 s.bias }:=by rw [F4,if_neg hp,if_pos rfl]
    obtain ⟨q1,q2,q3,q4,q5⟩:=ih (i+1) n { delta:=0,bias:=M5 s.delta (s.done+1) (s.done==basic),done:=s.done+1,out:=s.out++L9 s.delta 0 s.bias } (by omega) (by omega) (by simp only;omega) had (by simp only [List.length_append];omega) (by simp only;omega) hb
    rw [hs,List.countP_cons_of_pos (by simp)]
    refine ⟨λR k0=>?_,q2,?_,?_,?_⟩
    ·rw [Y7]
     have hbeq:((s.done:Int)==(basic:Int))=(s.done==basic):=by grind
     rw [A9,C1,J3,Int.toNat_natCast,ok]
     simp only [cond_true,vl,hg,e1,e3]
     rw [A8,cond_false,beq_self_eq_true,cond_true,M3,M3,List.length_map,Nat.ble_eq_true_of_le (show s.out.length<=100000 by omega),M3,A9,hbeq]
     simp only [cond_true,Int.toNat_natCast]
     have hrow:List.append (s.out.map D4) ((L9 s.delta 0 s.bias).map D4)=(s.out++L9 s.delta 0 s.bias).map D4:=by rw [List.map_append];rfl
     rw [hrow]
     exact q1 R k0
    ·simp only [List.length_append] at q3;omega
    ·simp only at q4;omega
    ·simp only at q5
     rw [Bn]
     split at q5<;>omega
   ·have hne:(p==m)=false:=by rw [beq_eq_false_iff_ne];omega
    have hs:F4 m basic (p::pts.drop (i+1)) s=F4 m basic (pts.drop (i+1)) s:=by rw [F4,if_neg hp,if_neg hq]
    obtain ⟨q1,q2,q3,q4,q5⟩:=ih (i+1) n s (by omega) (by omega) (by omega) h2 (by omega) (by omega) hb
    rw [hs,List.countP_cons_of_neg (by rw [hne];simp)]
    refine ⟨λR k0=>?_,q2,q3,q4,?_⟩
    ·rw [Y7]
     rw [A9,C1,J3,Int.toNat_natCast,ok]
     simp only [cond_true,vl,hg,e1]
     rw [A8,cond_false,show ((p:Int)==(m:Int))=false by rw [beq_eq_false_iff_ne];omega,cond_false]
     exact q1 R k0
    ·split at q5<;>split<;>omega
theorem SL {R:Type} {k0:Bool->Bool->LL->Int->Int->Int->Int->Int->Int->LL->Option R} (z t:Bool) (pts:List Nat) (hl:pts.length<=256) (n0:Nat) (basic delta bias done:Int) (l:LL):∀ (r i n m:Nat),i+r=pts.length->r<n->
  El LF n z t (B1 pts) basic (n0:Int) delta bias done (m:Int) (pts.length:Int) (i:Int) l k0=k0 z t (B1 pts) basic (n0:Int) delta bias done ((F3 n0 (pts.drop i) m:Nat):Int) l:=by
 intro r
 induction r with
 | zero=>
  intro i n m hi hn
  obtain ⟨n,rfl⟩:∃ m,n=m+1:=⟨n-1,by omega⟩
  rw [El]
  rw [A8,List.drop_of_length_le (by omega)]
  rfl
 | succ r ih=>
  intro i n m hi hn
  obtain ⟨n,rfl⟩:∃ m,n=m+1:=⟨n-1,by omega⟩
  have hg:=Rp pts i (by omega)
  have ok:=Kw (l:=pts) (i:=i) (by omega)
  rw [El,Ob pts i (by omega)]
  generalize pts.getD i 0=p at *
  have e1:A1 ((i:Int)+1)=((i+1:Nat):Int):=by rw [A4];rfl
  rw [A9,C1,J3,Int.toNat_natCast,ok]
  simp only [cond_true,vl,hg,e1,F3]
  by_cases h:n0<=p
  ·rw [if_pos h,A8,Bool.not_false,cond_true]
   have:(if (p:Int)<(m:Int) then (p:Int) else (m:Int))=((min m p:Nat):Int):=by split<;>omega
   rw [this]
   exact ih (i+1) n (min m p) (by omega) (by omega)
  ·rw [if_neg h,A9,Bool.not_true,cond_false]
   exact ih (i+1) n m (by omega) (by omega)
theorem Bc (n:Nat):∀ (l:List Nat) (m:Nat),(F3 n l m=m\/(F3 n l m∈l/\n<=F3 n l m))/\F3 n l m<=m/\∀ p∈l,n<=p->F3 n l m<=p
 | [],m=>⟨.inl rfl,Nat.le_refl _,λp h=>by cases h⟩
 | q::r,m=>by
  obtain ⟨h1,h2,h3⟩:=Bc n r (if n<=q then min m q else m)
  simp only [F3]
  grind
theorem Nu {n m:Nat} (hnm:n<=m):∀ l:List Nat,(∀ p∈l,n<=p->m<=p)->l.countP (λp=>decide (p<m+1))=l.countP (λp=>decide (p<n))+l.countP (· == m)
 | [],_=>rfl
 | p::l,h=>by
  have ih:=Nu hnm l (λq hq=>h q (List.mem_cons_of_mem _ hq))
  have hp:=h p List.mem_cons_self
  grind
theorem PH {n:Nat} {l:List Nat} (h:l.countP (λp=>decide (p<n))<l.length):∃ p∈l,n<=p:=by
 apply Classical.byContradiction
 intro hc
 have:l.countP (λp=>decide (p<n))=l.length:=by simp_all
 omega
theorem Ar6 (z t:Bool) (pts:List Nat) (basic:Nat) (hl:pts.length<=256) (hb:basic<=256) (hall:∀ p∈pts,p<=1114111):∀ (f n n':Nat) (s:CT),s.done=pts.countP (λp=>decide (p<n))->pts.length<=s.done+f->f<n'->s.delta<=300->s.bias<=500->s.out.length+20*(pts.length-s.done)<=80000->n<=1114112->
  ∀ (R:Type) (k0:LL->Option R),Cd LF n' z t (B1 pts) (basic:Int) (n:Int) (s.delta:Int) (s.bias:Int) (s.done:Int) (s.out.map D4) k0=k0 ((N1 pts basic f n s).out.map D4):=by
 intro f
 have hLF:=D7
 induction f with
 | zero=>
  intro n n' s hd hf hn h1 h2 h3 h4 R k0
  obtain ⟨n',rfl⟩:∃ m,n'=m+1:=⟨n'-1,by omega⟩
  rw [Cd]
  rw [C1,A8]
  rfl
 | succ f ih=>
  intro n n' s hd hf hn h1 h2 h3 h4 R k0
  obtain ⟨n',rfl⟩:∃ m,n'=m+1:=⟨n'-1,by omega⟩
  rw [Cd]
  rw [C1]
  have hcl:pts.countP (λp=>decide (p<n))<=pts.length:=List.countP_le_length
  by_cases hlt:s.done<pts.length
  ·obtain ⟨p0,hp0,hp1⟩:=PH (n:=n) (l:=pts) (by omega)
   obtain ⟨g1,g2,g3⟩:=Bc n pts 1114112
   have g4:=g3 p0 hp0 hp1
   have g5:=hall p0 hp0
   have hmem:F3 n pts 1114112∈pts/\n<=F3 n pts 1114112:=by grind
   have he:N1 pts basic (f+1) n s=N1 pts basic f (F3 n pts 1114112+1) { F4 (F3 n pts 1114112) basic pts { s with delta:=s.delta+(F3 n pts 1114112-n)*(s.done+1) } with delta:=(F4 (F3 n pts 1114112) basic pts { s with delta:=s.delta+(F3 n pts 1114112-n)*(s.done+1) }).delta+1 }:=by
    rw [N1,if_pos hlt]
   rw [he,A9,cond_true]
   have hleast:=λ(K:Bool->Bool->LL->Int->Int->Int->Int->Int->Int->LL->Option R)=>SL (k0:=K) z t pts hl n (basic:Int) (s.delta:Int) (s.bias:Int) (s.done:Int) (s.out.map D4) pts.length 0 LF 1114112 (by omega) (by omega)
   rw [List.drop_zero] at hleast
   refine Eq.trans (hleast _) ?_
   generalize F3 n pts 1114112=m at *
   have hmul:(m-n)*(s.done+1)<=1114112*256:=Nat.mul_le_mul (by omega) (by omega)
   have e1:A1 ((s.done:Int)+1)=((s.done+1:Nat):Int):=by rw [A4];rfl
   have e2:A1 ((m:Int)-(n:Int))=((m-n:Nat):Int):=by rw [A4];omega
   have e3:A1 (((m-n:Nat):Int)*((s.done+1:Nat):Int))=(((m-n)*(s.done+1):Nat):Int):=by
    rw [<-Int.natCast_mul]
    exact A4
   have e4:A1 ((s.delta:Int)+(((m-n)*(s.done+1):Nat):Int))=((s.delta+(m-n)*(s.done+1):Nat):Int):=by
    rw [A4];rfl
   simp only [vl,e1,e2,e3,e4]
   have hin:=XT z t pts basic m (by omega) hl pts.length 0 LF { s with delta:=s.delta+(m-n)*(s.done+1) } (by omega) (by omega) (by simp only;omega) h2 (by simp only;omega) (by simp only;omega) hb
   rw [List.drop_zero] at hin
   obtain ⟨q1,q2,q3,q4,q5⟩:=hin
   rw [C1]
   refine Eq.trans (q1 R _) ?_
   have hcnt:0<pts.countP (· == m):=List.countP_pos_iff.2 ⟨m,hmem.1,by simp⟩
   rw [if_pos hcnt] at q5
   have hstep:=Nu hmem.2 pts g3
   generalize F4 m basic pts { s with delta:=s.delta+(m-n)*(s.done+1) } = s' at *
   simp only at q3 q4
   have e5:A1 ((s'.delta:Int)+1)=((s'.delta+1:Nat):Int):=by rw [A4];rfl
   have e6:A1 ((m:Int)+1)=((m+1:Nat):Int):=by rw [A4];rfl
   have hcl2:pts.countP (λp=>decide (p<m+1))<=pts.length:=List.countP_le_length
   simp only [e5,e6]
   exact ih (m+1) n' { s' with delta:=s'.delta+1 } (by simp only;omega) (by simp only;omega) (by omega) (by simp only;omega) q2 (by simp only;omega) (by omega) R k0
  ·rw [A8]
   rw [N1,if_neg hlt]
   rfl
def Q0 (l:List Int):By:=(l.filter λx=>decide (x<128)).map λx=>UInt8.ofNat x.toNat
theorem Av3 (x:Int) (h0:0<=x) (h:x<128):[SV.int .u8 (wu8 x)]=D4 (UInt8.ofNat x.toNat):=by
 unfold D4
 have e:wu8 x=x:=by unfold wu8;exact Int.emod_eq_of_lt h0 (show x<256 by omega)
 rw [e]
 have:((UInt8.ofNat x.toNat).toNat:Int)=x:=by simp;omega
 rw [this]
theorem Na {x:Int} (h:ptI x=true):0<=x/\x<=1114111:=by
 cases x with
 | negSucc m=>cases h
 | ofNat m=>
  have:P4 m=true:=h
  unfold P4 at this
  simp only [Bool.and_eq_true,Nat.ble_eq] at this
  grind
theorem SE (z t:Bool) (P:List Int) (hl:P.length<=256):∀ (r i n:Nat) (out:By),i+r=P.length->r<n->out.length+r<=1000->
  ((P.drop i).all ptI=true->∀ (R:Type) (k0:LL->Option R) (k1:Bool->Bool->LL->LL->Option R),O8 LF n z t (V4 P) (P.length:Int) (i:Int) (out.map D4) k0 k1=k1 z t (V4 P) ((out++Q0 (P.drop i)).map D4))/\
  ((P.drop i).all ptI=false->∃ l,∀ (R:Type) (k0:LL->Option R) (k1:Bool->Bool->LL->LL->Option R),O8 LF n z t (V4 P) (P.length:Int) (i:Int) (out.map D4) k0 k1=k0 l):=by
 intro r
 induction r with
 | zero=>
  intro i n out hi hn ho
  obtain ⟨n,rfl⟩:∃ m,n=m+1:=⟨n-1,by omega⟩
  rw [List.drop_of_length_le (by omega)]
  refine ⟨λ_ R k0 k1=>?_,λh=>(by cases h)⟩
  rw [O8]
  rw [A8]
  simp [Q0]
 | succ r ih=>
  intro i n out hi hn ho
  obtain ⟨n,rfl⟩:∃ m,n=m+1:=⟨n-1,by omega⟩
  have hg:=PZ P i (by omega)
  have ok:=GN (l:=P) (i:=i) (by omega)
  rw [JM P i (by omega)]
  generalize P.getD i 0=x at *
  have e1:A1 ((i:Int)+1)=((i+1:Nat):Int):=by rw [A4];rfl
  cases hx:ptI x with
  | false=>
   refine ⟨λh=>?_,λ_=>⟨out.map D4,λR k0 k1=>?_⟩⟩
   ·rw [List.all_cons,hx] at h;cases h
   ·rw [O8]
    rw [A9,P2,J3,Int.toNat_natCast,ok]
    simp only [cond_true,vl,hg,hx,Bool.not_false]
  | true=>
   obtain ⟨p0,p1⟩:=Na hx
   rw [List.all_cons,hx,Bool.true_and]
   by_cases h128:x<128
   ·have hbs:Q0 (x::P.drop (i+1))=UInt8.ofNat x.toNat::Q0 (P.drop (i+1)):=by
     unfold Q0;rw [List.filter_cons_of_pos (by simpa using h128)];rfl
    have hrow:out.map D4++[[SV.int .u8 (wu8 x)]]=(out++[UInt8.ofNat x.toNat]).map D4:=by rw [Av3 x p0 h128];simp
    obtain ⟨q1,q2⟩:=ih (i+1) n (out++[UInt8.ofNat x.toNat]) (by omega) (by omega) (by simp;omega)
    have step:∀ (R:Type) (k0:LL->Option R) (k1:Bool->Bool->LL->LL->Option R),O8 LF (n+1) z t (V4 P) (P.length:Int) (i:Int) (out.map D4) k0 k1=O8 LF n z t (V4 P) (P.length:Int) ((i+1:Nat):Int) ((out++[UInt8.ofNat x.toNat]).map D4) k0 k1:=by
     intro R k0 k1
     rw [O8]
     rw [A9,P2,J3,Int.toNat_natCast,ok]
     simp only [cond_true,vl,hg,hx,Bool.not_true,cond_false,e1]
     rw [B9 h128,List.length_map,D3 (by omega),hrow]
     rfl
    refine ⟨λh R k0 k1=>?_,λh=>?_⟩
    ·rw [step,q1 h,hbs];simp
    ·obtain ⟨l,e⟩:=q2 h
     exact ⟨l,λR k0 k1=>by rw [step];exact e R k0 k1⟩
   ·have hbs:Q0 (x::P.drop (i+1))=Q0 (P.drop (i+1)):=by
     unfold Q0;rw [List.filter_cons_of_neg (by simpa using h128)]
    obtain ⟨q1,q2⟩:=ih (i+1) n out (by omega) (by omega) (by omega)
    have step:∀ (R:Type) (k0:LL->Option R) (k1:Bool->Bool->LL->LL->Option R),O8 LF (n+1) z t (V4 P) (P.length:Int) (i:Int) (out.map D4) k0 k1=O8 LF n z t (V4 P) (P.length:Int) ((i+1:Nat):Int) (out.map D4) k0 k1:=by
     intro R k0 k1
     rw [O8]
     rw [A9,P2,J3,Int.toNat_natCast,ok]
     simp only [cond_true,vl,hg,hx,Bool.not_true,cond_false,e1]
     rw [A8]
     rfl
    refine ⟨λh R k0 k1=>?_,λh=>?_⟩
    ·rw [step,q1 h,hbs]
    ·obtain ⟨l,e⟩:=q2 h
     exact ⟨l,λR k0 k1=>by rw [step];exact e R k0 k1⟩
theorem XV {P:List Int} (h:P.all ptI=true):∃ pts:List Nat,P=pts.map (λn:Nat=>(n:Int))/\pts.all P4=true/\∀ p∈pts,p<=1114111:=by
 induction P with
 | nil=>exact ⟨[],rfl,rfl,by simp⟩
 | cons x P ih=>
  rw [List.all_cons,Bool.and_eq_true] at h
  obtain ⟨pts,rfl,h1,h2⟩:=ih h.2
  obtain ⟨p0,p1⟩:=Na h.1
  obtain ⟨m,rfl⟩:=Int.eq_ofNat_of_zero_le p0
  refine ⟨m::pts,rfl,?_,?_⟩
  ·rw [List.all_cons,h1,Bool.and_true];exact h.1
  grind
theorem Wd (pts:List Nat):Q0 (pts.map λn:Nat=>(n:Int))=F8 pts:=by
 unfold Q0 F8
 induction pts with
 | nil=>rfl
 | cons p r ih=>
  grind
theorem Mi (pts:List Nat):(F8 pts).length=pts.countP (λp=>decide (p<128)):=by
 unfold F8
 grind
theorem SG (z t:Bool) (P:List Int):(R0 P=([],3)/\∀ (R:Type) (k0:Unit->Option R) (k1:By->Int->LL->Option R),KZ LF z t (V4 P) k0 k1=k0 ())\/
  (∃ l,∀ (R:Type) (k0:Unit->Option R) (k1:By->Int->LL->Option R),KZ LF z t (V4 P) k0 k1=k1 (R0 P).1 ((R0 P).2:Nat) l):=by
 have hLF:=D7
 by_cases hl:256<P.length
 ·refine .inl ⟨by unfold R0;rw [if_pos hl],λR k0 k1=>?_⟩
  unfold KZ
  rw [P2,A9]
  rfl
 ·right
  obtain ⟨q1,q2⟩:=SE z t P (by omega) P.length 0 LF [] (by omega) (by omega) (by simp;omega)
  rw [List.drop_zero] at q1 q2
  cases ha:P.all ptI with
  | false=>
   obtain ⟨l,e⟩:=q2 ha
   refine ⟨l,λR k0 k1=>?_⟩
   unfold KZ
   rw [P2,A8,cond_false]
   refine Eq.trans (e R _ _) ?_
   unfold R0
   rw [if_neg hl,ha]
   rfl
  | true=>
   obtain ⟨pts,rfl,hp1,hp2⟩:=XV ha
   rw [List.length_map] at hl
   have hen:R0 (pts.map λn:Nat=>(n:Int))=Bw pts:=by
    unfold R0
    rw [List.length_map,if_neg hl,ha]
    simp [Function.comp_def]
   have hbl:=Mi pts
   have hbc:pts.countP (λp=>decide (p<128))<=pts.length:=List.countP_le_length
   have main:∀ (o:By),o.length<=300->∀ (R:Type) (k0:LL->Option R),Cd LF LF z t (B1 pts) ((F8 pts).length:Int) 128 0 72 ((F8 pts).length:Int) (o.map D4) k0=k0 ((N1 pts (F8 pts).length 256 128 { delta:=0,bias:=72,done:=(F8 pts).length,out:=o }).out.map D4):=by
    intro o ho R k0
    exact Ar6 z t pts (F8 pts).length (by omega) (by omega) hp2 256 128 LF { delta:=0,bias:=72,done:=(F8 pts).length,out:=o } hbl (by simp only;omega) (by omega) (by simp) (by simp) (by simp only;omega) (by omega) R k0
   have he2:Bw pts=((N1 pts (F8 pts).length 256 128 { delta:=0,bias:=72,done:=(F8 pts).length,out:=if (F8 pts).isEmpty then [] else F8 pts++[45] }).out,0):=by
    unfold Bw
    grind
   refine ⟨(Bw pts).1.map D4,λR k0 k1=>?_⟩
   unfold KZ
   rw [P2,List.length_map,A8,cond_false,hen]
   have q1':=q1 ha R
   rw [List.length_map] at q1'
   refine Eq.trans (q1' _ _) ?_
   rw [List.nil_append,Wd,Ku]
   simp only [vl,List.length_map]
   by_cases hbe:F8 pts=[]
   ·rw [hbe,List.length_nil,A8,cond_false]
    have mm:=main [] (by simp) R
    rw [hbe,List.length_nil] at mm
    rw [List.map_nil] at mm
    refine Eq.trans (mm _) ?_
    rw [hbe] at he2
    rw [he2]
    simp only [List.isEmpty_nil,if_true,List.length_nil]
    rw [Fq,Gc]
    rfl
   ·have hpos:0<(F8 pts).length:=List.length_pos_iff.2 hbe
    rw [A9,cond_true,D3 (by omega),cond_true]
    have hrow:(F8 pts).map D4++[[SV.int .u8 (45:Int)]]=(F8 pts++[45]).map D4:=by rw [List.map_append];rfl
    rw [hrow]
    refine Eq.trans (main (F8 pts++[45]) (by simp;omega) R _) ?_
    rw [he2,if_neg (by simpa using hbe)]
    rw [Fq,Gc]
    rfl
theorem A70 (z t:Bool) (p:LL) (h0:p.all Jm=true):∃ r H,KZ LF z t p (λ_=>rv (.tup [.s (.str []),.s (.int .i64 3)]) []) (λr0 r1 l=>rv (.tup [.s (.str r0),.s (.int .i64 r1)]) [.arr true 5 1 l])=rv r H/\
  r.stab [0,0] H = .tup [.s (.str (R0 (p.map elI)).1),.s (.int .i64 ((R0 (p.map elI)).2:Nat))]:=by
 obtain ⟨P,rfl⟩:=XA h0
 rw [JN]
 rcases SG z t P with ⟨h1,h2⟩ | ⟨l,h2⟩
 ·exact ⟨_,_,h2 _ _ _,by rw [h1];rfl⟩
 ·exact ⟨_,_,h2 _ _ _,rfl⟩
section
variable {σ R : Type} (lf : Nat) (cl : D5) (yh : Yh σ) (s : σ) (k : Out -> St σ -> Option R)
noncomputable abbrev Bf3:Code:=E1 Tryz.f198
noncomputable def Rc (lf:Nat):Cfg:=C6 lf [198] (A5 [(3,[0,1,0,0])]) [(194,Vj),(202,OC)] (A5 [(17,[2]),(16,[0,2,0,53]),(15,[0,2,0]),(14,[2]),(13,[0,2,0,1,45]),(12,[0,2,0,0,0]),(11,[2]),(10,[0,2,0,0,41]),(9,[0,2,0,0]),(8,[0,2,0,0]),(7,[2]),(6,[0,2,0,0,18]),(5,[0,2,0,0]),(4,[2]),(3,[0,2,0,11]),(2,[0,2,0]),(1,[0,2]),(0,[0])]) [202] (A5 [(0,[2]),(1,[0,2,0])]) (some [2]) [(201,Ki)] [] [201]
noncomputable def Bv {R:Type} (lf n:Nat) (w0:Int) (s1:By) (n2 n3 n4:Int) (b5 z6:Bool) (l7:LL) (n8v:Int) (k0:Int->By->Int->Int->Int->Bool->Bool->LL->Int->Option R):Option R:=match n with | 0=>none | n+1=>cond (s1==[]) (k0 4 s1 n2 n3 n4 b5 z6 l7 n8v) (cond (inR 0 s1.length) (cond (inR (bAt s1 (0:Int)) 256) (vl (C7 (u8n (bAt s1 (0:Int)))) λn'1=>cond (ltI n'1 0) (k0 4 s1 n2 n3 n4 b5 z6 l7 n8v) (cond (N7 1 (s1.length:Int) s1.length) (vl (cut s1 1 (s1.length:Int)) λs'3=>vl (A1 (n3+(A1 (n'1*w0)))) λn'5=>cond (ltI 1099511627776 n'5) (k0 19 s'3 n2 n'5 n4 b5 z6 l7 n8v) (cond (ltN n8v 1000000000000) (cond (ltN n4 1000000) (cond (ltI n'1 (I4 n8v n4)) (k0 0 s'3 n2 n'5 n4 b5 z6 l7 (Int.add n8v (36:Int))) (vl (A1 ((36:Int)-(I4 n8v n4))) λn'6=>cond (ltI 1099511627776 (A1 (w0*n'6))) (k0 19 s'3 n2 n'5 n4 b5 z6 l7 (Int.add n8v (36:Int))) (Bv lf n (A1 (w0*n'6)) s'3 n2 n'5 n4 b5 z6 l7 (Int.add n8v (36:Int)) k0))) none) none)) none)) none) none)
theorem PS (n w0 s1 n2 n3 n4 b5 z6 l7 n8v):D6 4 ((Rc lf).keep 3) (bd (Rc lf) cl yh (cd [1,1,1,0,0] Bf3)) n ⟨gp [(0,.ptr 0 0 0),(2,.fnr (Fn.func 201) [] [.ptr 3 0 0,.ptr 2 0 0]),(0,pI w0)] 54,[.box [pS s1,.fl 1,pI n2,pI n3,pI n4,pB b5],.arr z6 3 1 l7,.box [pI n4],.box [pI n8v]],s⟩ k =
 Bv lf n w0 s1 n2 n3 n4 b5 z6 l7 n8v (λn0 s1 n2 n3 n4 b5 z6 l7 n8v=>k .ret ⟨gp [(2,pI n0)] 56,[.box [pS s1,.fl 1,pI n2,pI n3,pI n4,pB b5],.arr z6 3 1 l7,.box [pI n4],.box [pI n8v]],s⟩):=by
 induction n generalizing w0 s1 n2 n3 n4 b5 z6 l7 n8v with
 | zero=>rfl
 | succ n ih=>rw [Bv];simp only [<-ih];kernel_rfl
noncomputable def Bg2 {R:Type} (lf:Nat) (rest:By) (n i b:Int) (st z:Bool) (l:LL) (k0:Int->By->Int->Int->Int->Bool->Bool->LL->Int->Option R):Option R:=Bv lf lf 1 rest n i b st z l 0 (λn'7 s'8 n'9 n'10 n'11 b'12 z'13 l'14 n'15=>k0 n'7 s'8 n'9 n'10 n'11 b'12 z'13 l'14 n'15)
theorem A05 (d:Nat) (rest n i b st z l):evC (Rc lf) (d+1) σ yh 198 [.ptr 0 0 0] [.box [pS rest,.fl 1,pI n,pI i,pI b,pB st],.arr z 3 1 l] s=Bg2 lf rest n i b st z l (λr0 s1 n2 n3 n4 b5 z6 l7 n8v=>some (pI r0,[.box [pS s1,.fl 1,pI n2,pI n3,pI n4,pB b5],.arr z6 3 1 l7,.box [pI n4],.box [pI n8v]],s)):=by
 refine (evE (fn:=Tryz.f198) (by kernel_rfl)).trans ?_
 generalize evC (Rc lf) d=cl
 unfold Bg2;exact (Eq.trans (by kernel_rfl) ((PS lf cl yh s (G3 0 (I8 (Rc lf) Tryz.f198)) lf 1 rest n i b st z l 0).trans (by kernel_rfl)))
noncomputable def FF (lf:Nat):Cfg:=C6 lf [189] (A5 []) [(186,Ir),(184,It)] (A5 [(16,[2]),(15,[]),(14,[0]),(13,[2]),(12,[0,67]),(11,[2]),(10,[0,4,60]),(9,[0,4]),(8,[0,4]),(7,[0,4]),(6,[0,4]),(5,[0,2,1]),(4,[2]),(3,[0,2,0,8]),(2,[0,2,0]),(1,[0,2]),(0,[0])]) [186,184] (A5 []) (some [2]) [(198,CW),(199,ES)] [] [198,199]
noncomputable def WT {R:Type} (lf:Nat) (rest:By) (n i b:Int) (st z:Bool) (l:LL) (k0:Int->By->Int->Int->Int->Bool->Bool->LL->Option R):Option R:=cond (A3 rest.length) (cond (ltN b 1000000) (cond (ltN i 1099511627777) (cond ((Xv b rest i) != 0) (k0 (Xv b rest i) (Xw b rest i) n (My b rest i) b st z l) (vl (A1 ((l.length:Int)+1)) λn'1=>vl (A1 ((My b rest i)-i)) λn'4=>cond (ltN n'4 1152921504606846976) (cond (ltN n'1 1000000) (cond (ltI 0 n'1) (vl (↑(M5 (Int.toNat n'4) (Int.toNat n'1) (not st)):Int) λn'5=>cond (n'1 != 0) (vl (A1 (Int.tdiv (My b rest i) n'1)) λn'7=>cond (n'1 != 0) (vl (Int.tmod (My b rest i) n'1) λn'9=>cond (not (ptI (A1 (n+n'7)))) (k0 2 (Xw b rest i) (A1 (n+n'7)) n'9 n'5 true z l) (cond (ltI 256 n'1) (k0 3 (Xw b rest i) (A1 (n+n'7)) n'9 n'5 true z l) (cond (ltN n'9 (Nat.add l.length 1)) (cond (Nat.ble l.length 100000) (vl (Hg l (Int.toNat n'9) (A1 (n+n'7))) λl'11=>k0 0 (Xw b rest i) (A1 (n+n'7)) (A1 (n'9+1)) n'5 true z l'11) none) none))) none) none) none) none) none)) none) none) none
theorem An0 (d:Nat) (rest n i b st z l):evC (FF lf) (d+1) σ yh 189 [.ptr 0 0 0] [.box [pS rest,.fl 1,pI n,pI i,pI b,pB st],.arr z 3 1 l] s=WT lf rest n i b st z l (λr0 s1 n2 n3 n4 b5 z6 l7=>some (pI r0,[.box [pS s1,.fl 1,pI n2,pI n3,pI n4,pB b5],.arr z6 3 1 l7],s)):=by
 refine (evE (fn:=Tryz.f189) (by kernel_rfl)).trans ?_
 generalize evC (FF lf) d=cl
 unfold WT;kernel_rfl
noncomputable abbrev Md:Code:=E1 Tryz.f170
noncomputable def T8 (lf:Nat):Cfg:=C6 lf [170] (A5 [(20,[2,0,1]),(13,[0,1,0,1,0,22,0]),(4,[0,1,0,9,0])]) [(97,Ug)] (A5 [(24,[2,0]),(23,[2,0]),(22,[5,2,59]),(21,[5,2]),(20,[5,58]),(19,[2,0]),(18,[5,53]),(17,[5]),(16,[0,4,0,22,0]),(15,[0,4,0,22,0]),(14,[0,4,0,0,21,0]),(13,[0,4,0,22,0,0]),(12,[0,4,0,22,0]),(11,[0,4,0,21]),(10,[0,4,0]),(9,[0,4]),(8,[0,12,0]),(7,[2,0]),(6,[0,12,0,5]),(5,[0,3,8,0]),(4,[0,12,0,0]),(3,[0,12,0]),(2,[2,0]),(1,[0,10]),(0,[0])]) [97] (A5 [(4,[5]),(5,[5]),(2,[0,4,0]),(3,[0,4,0,22,0]),(0,[0]),(1,[0,12,0])]) (some [2,0]) [(189,Uf)] [] [189] (nt:=[(199,1,3,1)])
noncomputable def Hp {R:Type} (lf n:Nat) (s0:By) (n1 n2:Int) (k0:Unit->Option R) (k1:By->Option R):Option R:=match n with | 0=>none | n+1=>cond (ltI n2 n1) (cond (inR n2 s0.length) (cond (not (ltI (bAt s0 n2) (128:Int))) (k0 ()) (Hp lf n s0 n1 (A1 (n2+1)) k0 k1)) none) (k1 s0)
theorem SC (n s0 n1 n2):D6 0 ((T8 lf).keep 4) (bd (T8 lf) cl yh (cd [1,1,0,1,0,0] Md)) n ⟨gp [(0,pS s0),(12,pI n1),(0,pI n2)] 59,[],s⟩ k =
 Hp lf n s0 n1 n2 (λ_=>k .ret ⟨gp [(2,.fl 0),(0,pI (4:Int))] 70,[.arr true 3 1 []],s⟩) (λs0=>k (.exit 0) ⟨gp [(0,pS s0)] 73,[],s⟩):=by
 induction n generalizing s0 n1 n2 with
 | zero=>rfl
 | succ n ih=>rw [Hp];simp only [<-ih];kernel_rfl
noncomputable def Ek {R:Type} (lf n:Nat) (s0:By) (kk1 n2:Int) (l3:LL) (k0:By->Int->LL->Option R):Option R:=match n with | 0=>none | n+1=>cond (ltI n2 kk1) (cond (inR n2 s0.length) (cond (D9 (l3.length+1)) (Ek lf n s0 kk1 (A1 (n2+1)) (l3++[[(SV.int .i64 (A1 (bAt s0 n2)))]]) k0) none) none) (k0 s0 kk1 l3)
theorem SD (n s0 kk1 n2 l3):D6 2 ((T8 lf).keep 13) (bd (T8 lf) cl yh (cd [1,1,1,1,0,1,1,0,0,1,0,0] Md)) n ⟨gp [(0,pS s0),(4,.ptr 1 0 0),(0,pI kk1),(22,pI kk1),(0,pI n2)] 43,[.arr true 3 1 l3,.box [pS s0,.fl 0,pI (128:Int),pI (0:Int),pI (72:Int),pB false]],s⟩ k =
 Ek lf n s0 kk1 n2 l3 (λs0 kk1 l2=>k (.exit 2) ⟨gp [(0,pS s0),(4,.ptr 1 0 0),(0,pI kk1)] 67,[.arr true 3 1 l2,.box [pS s0,.fl 0,pI (128:Int),pI (0:Int),pI (72:Int),pB false]],s⟩):=by
 induction n generalizing s0 kk1 n2 l3 with
 | zero=>rfl
 | succ n ih=>rw [Ek];simp only [<-ih];kernel_rfl
noncomputable def N9 {R:Type} (lf n:Nat) (l0:LL) (s1:By) (n2 n3 n4:Int) (b5:Bool) (k0:Int->LL->By->Int->Int->Int->Bool->Option R) (k1:LL->By->Int->Int->Int->Bool->Option R):Option R:=match n with | 0=>none | n+1=>cond (not (s1==[])) (cond (A3 s1.length) (cond (ltN n4 1000000) (cond (ltN n3 1099511627777) (cond (ltN n2 1152921504606846976) (cond (Nat.ble l0.length 100000) (vl ((D2 (DS.mk s1 n2 n3 n4 b5 l0))).1 λn'10=>vl (DS.l ((D2 (DS.mk s1 n2 n3 n4 b5 l0))).2) λl'11=>cond (n'10 != 0) (k0 n'10 l'11 (DS.rest ((D2 (DS.mk s1 n2 n3 n4 b5 l0))).2) (DS.n ((D2 (DS.mk s1 n2 n3 n4 b5 l0))).2) (DS.i ((D2 (DS.mk s1 n2 n3 n4 b5 l0))).2) (DS.b ((D2 (DS.mk s1 n2 n3 n4 b5 l0))).2) (DS.st ((D2 (DS.mk s1 n2 n3 n4 b5 l0))).2)) (N9 lf n l'11 (DS.rest ((D2 (DS.mk s1 n2 n3 n4 b5 l0))).2) (DS.n ((D2 (DS.mk s1 n2 n3 n4 b5 l0))).2) (DS.i ((D2 (DS.mk s1 n2 n3 n4 b5 l0))).2) (DS.b ((D2 (DS.mk s1 n2 n3 n4 b5 l0))).2) (DS.st ((D2 (DS.mk s1 n2 n3 n4 b5 l0))).2) k0 k1)) none) none) none) none) none) (k1 l0 s1 n2 n3 n4 b5)
theorem Ye (n l0 s1 n2 n3 n4 b5):D6 2 ((T8 lf).keep 20) (bd (T8 lf) cl yh (cd [1,1,1,1,1,1,0,0,0] Md)) n ⟨gp [(5,.ptr 1 0 0)] 68,[.arr true 3 1 l0,.box [pS s1,.fl 0,pI n2,pI n3,pI n4,pB b5]],s⟩ k =
 N9 lf n l0 s1 n2 n3 n4 b5 (λn0 l1 s2 n3 n4 n5 b6=>k .ret ⟨gp [(2,.fl 2),(0,pI n0)] 70,[.arr true 3 1 l1,.box [pS s2,.fl 0,pI n3,pI n4,pI n5,pB b6],.arr true 3 1 []],s⟩) (λl0 s1 n2 n3 n4 b5=>k (.exit 4) ⟨gp [(5,.ptr 1 0 0)] 68,[.arr true 3 1 l0,.box [pS s1,.fl 0,pI n2,pI n3,pI n4,pB b5]],s⟩):=by
 induction n generalizing l0 s1 n2 n3 n4 b5 with
 | zero=>rfl
 | succ n ih=>rw [N9];simp only [<-ih];kernel_rfl
noncomputable def Oy {R:Type} (lf:Nat) (s0:By) (k0:Int->Option R) (k1:Int->LL->By->Int->Int->Int->Bool->Option R) (k2:LL->By->Int->Int->Int->Bool->Option R):Option R:=cond (ltI 1024 (s0.length:Int)) (k0 3) (Hp lf lf s0 (s0.length:Int) 0 (λ_=>k0 4) (λs'0=>cond (A3 s'0.length) (vl (G4 (u8n (45:Int)) s'0) λn'4=>cond (ltI 0 n'4) (Ek lf lf s'0 n'4 0 [] (λs'5 kk'6 l'7=>vl (A1 (kk'6+1)) λn'8=>cond (N7 n'8 (s'5.length:Int) s'5.length) (vl (cut s'5 n'8 (s'5.length:Int)) λs'9=>cond (ltI 256 (l'7.length:Int)) (k1 3 l'7 s'9 128 0 72 false) (N9 lf lf l'7 s'9 128 0 72 false (λn'12 l'13 s'14 n'15 n'16 n'17 b'18=>k1 n'12 l'13 s'14 n'15 n'16 n'17 b'18) (λl'19 s'20 n'21 n'22 n'23 b'24=>k2 l'19 s'20 n'21 n'22 n'23 b'24))) none)) (N9 lf lf [] s'0 128 0 72 false (λn'25 l'26 s'27 n'28 n'29 n'30 b'31=>k1 n'25 l'26 s'27 n'28 n'29 n'30 b'31) (λl'32 s'33 n'34 n'35 n'36 b'37=>k2 l'32 s'33 n'34 n'35 n'36 b'37))) none))
theorem A65 (d:Nat) (s0):evC (T8 lf) (d+1) σ yh 170 [pS s0] [] s=Oy lf s0 (λr0=>some (.tup [.fl 0,pI r0],[.arr true 3 1 []],s)) (λr0 l1 s2 n3 n4 n5 b6=>some (.tup [.fl 2,pI r0],[.arr true 3 1 l1,.box [pS s2,.fl 0,pI n3,pI n4,pI n5,pB b6],.arr true 3 1 []],s)) (λl0 s1 n2 n3 n4 b5=>some (.tup [.fl 0,pI (0:Int)],[.arr true 3 1 l0,.box [pS s1,.fl 0,pI n2,pI n3,pI n4,pB b5]],s)):=by
 refine (evE (fn:=Tryz.f170) (by kernel_rfl)).trans ?_
 generalize evC (T8 lf) d=cl
 unfold Oy;exact let K0:=(G3 4 (G9 (T8 lf) cl yh (cd [1,1,1,1,1,1,1] Md) (I8 (T8 lf) Tryz.f170)));(Eq.trans (by kernel_rfl) (A0 rfl ((SC lf cl yh s (G3 0 (G9 (T8 lf) cl yh (cd [1,1,1] Md) (I8 (T8 lf) Tryz.f170))) lf s0 (s0.length:Int) 0).trans (congr (congr rfl (by kernel_rfl)) (fx1 λs'0=>(Eq.trans (by kernel_rfl) (A0 (A7 λn'4=>(A0 ((SD lf cl yh s (G3 2 (G9 (T8 lf) cl yh (cd [1,1,1,1,0,1,1,0,1] Md) (G9 (T8 lf) cl yh (cd [1,1,1,1,1] Md) (I8 (T8 lf) Tryz.f170)))) lf s'0 n'4 0 []).trans (congr rfl (fx3 λs'5 kk'6 l'7=>(Eq.trans (by kernel_rfl) (A7 λn'8=>(A0 (A7 λs'9=>(A0 rfl ((Ye lf cl yh s K0 lf l'7 s'9 128 0 72 false).trans (by kernel_rfl)))) rfl)))))) ((Ye lf cl yh s K0 lf [] s'0 128 0 72 false).trans (by kernel_rfl)))) rfl)))))))
noncomputable abbrev IW:Code:=E1 Tryz.f142
noncomputable def Cw (lf:Nat):Cfg:=C6 lf [142] (A5 [(2,[0,0,2,0])]) [] (A5 [(6,[4]),(3,[0,0,3]),(5,[4]),(4,[0,0,3,11]),(2,[0,0,3,4]),(1,[0,0,3]),(0,[0,0])]) [] (A5 [(0,[]),(1,[0,0,3])]) (some [4]) [] [] []
noncomputable def Ae {R:Type} (lf n:Nat) (s0:By) (c1 i2:Int) (k0:Int->Option R) (k1:Unit->Option R):Option R:=match n with | 0=>none | n+1=>cond (not (ltI i2 0)) (cond (inR i2 s0.length) (cond ((bAt s0 i2)==c1) (k0 i2) (Ae lf n s0 c1 (A1 (i2-1)) k0 k1)) none) (k1 ())
theorem GB (n s0 c1 i2):D6 0 ((Cw lf).keep 2) (bd (Cw lf) cl yh (cd [1,0,1,0,0] IW)) n ⟨gp [(0,pS s0),(0,p8 c1),(3,pI i2)] 13,[],s⟩ k =
 Ae lf n s0 c1 i2 (λn0=>k .ret ⟨gp [(4,pI n0)] 14,[],s⟩) (λ_=>k (.exit 0) ⟨gp [] 19,[],s⟩):=by
 induction n generalizing s0 c1 i2 with
 | zero=>rfl
 | succ n ih=>rw [Ae];simp only [<-ih];kernel_rfl
noncomputable def GA {R:Type} (lf:Nat) (s0:By) (c1:Int) (k0:Int->Option R):Option R:=vl (A1 ((s0.length:Int)-1)) λn'1=>Ae lf lf s0 c1 n'1 (λn'2=>k0 n'2) (λ_=>k0 (-1))
theorem ZS (d:Nat) (s0 c1):evC (Cw lf) (d+1) σ yh 142 [pS s0,p8 c1] [] s=GA lf s0 c1 (λr0=>some (pI r0,[],s)):=by
 refine (evE (fn:=Tryz.f142) (by kernel_rfl)).trans ?_
 generalize evC (Cw lf) d=cl
 unfold GA;exact (Eq.trans (by kernel_rfl) (A7 λn'1=>((GB lf cl yh s (G3 0 (G9 (Cw lf) cl yh (cd [1,1] IW) (I8 (Cw lf) Tryz.f142))) lf s0 c1 n'1).trans (by kernel_rfl))))
noncomputable def FG (lf:Nat):Cfg:=C6 lf [97] (A5 []) [(142,IM)] (A5 [(1,[4]),(0,[0,0])]) [142] (A5 []) (some [4]) [] [] []
noncomputable def XE {R:Type} (lf:Nat) (s0:By) (c1:Int) (k0:Int->Option R):Option R:=cond (A3 s0.length) (cond (inR c1 256) (k0 (G4 (u8n c1) s0)) none) none
theorem Ap5 (d:Nat) (s0 c1):evC (FG lf) (d+1) σ yh 97 [pS s0,p8 c1] [] s=XE lf s0 c1 (λr0=>some (pI r0,[],s)):=by
 refine (evE (fn:=Tryz.f97) (by kernel_rfl)).trans ?_
 generalize evC (FG lf) d=cl
 unfold XE;kernel_rfl
end
theorem Ck (c:UInt8):-1<=C7 c/\C7 c<=35:=by
 unfold C7 Ip
 grind
theorem Hz (k b:Int):1<=I4 k b/\I4 k b<=26:=by unfold I4;omega
theorem Aj {x w:Int} (h0:0<=x) (h1:x<=35) (w0:0<=w) (w1:w<=1099511627776):0<=x*w/\x*w<=38482906972160:=by
 refine ⟨Int.mul_nonneg h0 w0,?_⟩
 have:=Int.mul_le_mul h1 w1 w0 (show (0:Int)<=35 by omega)
 omega
theorem Nz (b:Int):∀ (s:By) (i w k:Int),0<=i->0<=w->w<=1099511627776->(O4 b s i w k).1=0->i<=(O4 b s i w k).2.2/\(O4 b s i w k).2.2<=1099511627776/\(O4 b s i w k).2.1.length<s.length
 | [],i,w,k,_,_,_,h=>by simp [O4] at h
 | c::r,i,w,k,hi,hw,hw1,h=>by
  have hv:=Ck c
  have ht:=Hz k b
  unfold O4 at h ⊢
  split at h
  ·simp at h
  ·rename_i h1
   rw [if_neg h1]
   have hm:=Aj (by omega) hv.2 hw hw1
   split at h
   ·simp at h
   ·rename_i h2
    rw [if_neg h2]
    split at h
    ·grind
    ·rename_i h3
     rw [if_neg h3]
     split at h
     ·omega
     ·rename_i h4
      rw [if_neg h4]
      obtain ⟨q1,q2,q3⟩:=Nz b r (i+C7 c*w) (w*(36-I4 k b)) (k+36) (by omega) (Int.mul_nonneg hw (by omega)) (by omega) h
      grind
theorem ZB (n2:Int) (b:Int) (st z:Bool) (l:LL) (hb0:0<=b) (hb1:b<1000000):∀ (s:By) (n:Nat) (i w k:Int),s.length<n->s.length<=1000000000->0<=i->i<=1099511627776->0<=w->w<=1099511627776->0<=k->k+36*s.length<=100000000000->
  ∃ k',∀ (R:Type) (k0:Int->By->Int->Int->Int->Bool->Bool->LL->Int->Option R),Bv LF n w s n2 i b st z l k k0=k0 (O4 b s i w k).1 (O4 b s i w k).2.1 n2 (O4 b s i w k).2.2 b st z l k':=by
 intro s
 induction s with
 | nil=>
  intro n i w k hn hs hi hi1 hw hw1 hk hk1
  obtain ⟨n,rfl⟩:∃ m,n=m+1:=⟨n-1,by omega⟩
  refine ⟨k,λR k0=>?_⟩
  rw [Bv]
  rfl
 | cons c r ih=>
  intro n i w k hn hs hi hi1 hw hw1 hk hk1
  obtain ⟨n,rfl⟩:∃ m,n=m+1:=⟨n-1,by omega⟩
  rw [List.length_cons] at hn hs hk1
  have hv:=Ck c
  have ht:=Hz k b
  have hu:u8n (bAt (c::r) 0)=c:=by unfold u8n bAt;simp
  have hin:inR (bAt (c::r) 0) 256=true:=by rw [Iw];have:=c.toNat_lt;exact I6 (by omega) (by simp;omega)
  have hcut:cut (c::r) 1 ((c::r).length:Int)=r:=by
   have:=Nv (c::r) 1 (c::r).length
   grind
  have hne:((c::r)==([]:By))=false:=rfl
  have start:∀ (R:Type) (k0:Int->By->Int->Int->Int->Bool->Bool->LL->Int->Option R),Bv LF (n+1) w (c::r) n2 i b st z l k k0 =
    cond (ltI (C7 c) 0) (k0 4 (c::r) n2 i b st z l k)
     (vl (A1 (i+(A1 (C7 c*w)))) λn'5=>cond (ltI 1099511627776 n'5) (k0 19 r n2 n'5 b st z l k)
      (cond (ltI (C7 c) (I4 k b)) (k0 0 r n2 n'5 b st z l (Int.add k 36))
       (vl (A1 (36-(I4 k b))) λn'6=>cond (ltI 1099511627776 (A1 (w*n'6))) (k0 19 r n2 n'5 b st z l (Int.add k 36)) (Bv LF n (A1 (w*n'6)) r n2 n'5 b st z l (Int.add k 36) k0)))):=by
   intro R k0
   rw [Bv]
   rw [hne,hin,I6 (by omega) (by rw [List.length_cons];omega),R6 (by omega) (by rw [List.length_cons];omega) (by omega),hcut,hu,M3,M3]
   rfl
  unfold O4
  by_cases h1:C7 c<0
  ·rw [if_pos h1]
   refine ⟨k,λR k0=>?_⟩
   rw [start,B9 h1]
   rfl
  ·rw [if_neg h1]
   have hm:=Aj (by omega) hv.2 hw hw1
   have e1:A1 (C7 c*w)=C7 c*w:=A4
   have e2:A1 (i+C7 c*w)=i+C7 c*w:=A4
   by_cases h2:1099511627776<i+C7 c*w
   ·rw [if_pos h2]
    refine ⟨k,λR k0=>?_⟩
    rw [start,A8,e1,e2]
    simp only [vl,cond_false]
    rw [B9 h2]
    rfl
   ·rw [if_neg h2]
    by_cases h3:C7 c<I4 k b
    ·rw [if_pos h3]
     refine ⟨Int.add k 36,λR k0=>?_⟩
     rw [start,A8,e1,e2]
     simp only [vl,cond_false]
     rw [A8,B9 h3]
     rfl
    ·rw [if_neg h3]
     have e3:A1 (36-I4 k b)=36-I4 k b:=A4
     have hm2:=Aj (x:=36-I4 k b) (by omega) (by omega) hw hw1
     rw [Int.mul_comm] at hm2
     have e4:A1 (w*(36-I4 k b))=w*(36-I4 k b):=A4
     by_cases h4:1099511627776<w*(36-I4 k b)
     ·rw [if_pos h4]
      refine ⟨Int.add k 36,λR k0=>?_⟩
      rw [start,A8,e1,e2]
      simp only [vl,cond_false]
      rw [A8,A8,e3,e4,B9 h4]
      rfl
     ·rw [if_neg h4]
      obtain ⟨k',e⟩:=ih n (i+C7 c*w) (w*(36-I4 k b)) (k+36) (by omega) (by omega) (by omega) (by omega) (by omega) (by omega) (by omega) (by omega)
      refine ⟨k',λR k0=>?_⟩
      rw [start,A8,e1,e2]
      simp only [vl,cond_false]
      rw [A8,A8,e3,e4,A8]
      exact e R k0
theorem ZC (rest:By) (n i b:Int) (st z:Bool) (l:LL) (h0:A3 rest.length=true) (h1:ltN b 1000000=true) (h2:ltN i 1099511627777=true) :
  ∃ k',∀ (R:Type) (k0:Int->By->Int->Int->Int->Bool->Bool->LL->Int->Option R),Bg2 LF rest n i b st z l k0=k0 (Xv b rest i) (Xw b rest i) n (My b rest i) b st z l k':=by
 have hs:=M7 h0
 obtain ⟨b0,b1⟩:=M0.1 h1
 obtain ⟨i0,i1⟩:=M0.1 h2
 have hLF:=D7
 obtain ⟨k',e⟩:=ZB n b st z l b0 (by omega) rest LF i 1 0 (by omega) (by omega) i0 (by omega) (by omega) (by omega) (by omega) (by omega)
 exact ⟨k',λR k0=>e R _⟩
theorem PT {R:Type} {k0:Int->By->Int->Int->Int->Bool->Bool->LL->Option R} (rest:By) (n i b:Int) (st z:Bool) (l:LL) (h0:A3 rest.length=true) (h1:ltN b 1000000=true) (h2:ltN i 1099511627777=true) (h3:ltN n 1152921504606846976=true) (h4:Nat.ble l.length 100000=true) :
  WT LF rest n i b st z l k0=k0 (D2 ⟨rest,n,i,b,st,l⟩).1 (D2 ⟨rest,n,i,b,st,l⟩).2.rest (D2 ⟨rest,n,i,b,st,l⟩).2.n (D2 ⟨rest,n,i,b,st,l⟩).2.i (D2 ⟨rest,n,i,b,st,l⟩).2.b (D2 ⟨rest,n,i,b,st,l⟩).2.st z (D2 ⟨rest,n,i,b,st,l⟩).2.l:=by
 obtain ⟨i0,i1⟩:=M0.1 h2
 obtain ⟨n0,n1⟩:=M0.1 h3
 have hl:=Nat.le_of_ble_eq_true h4
 unfold WT D2
 rw [h0,h1,h2]
 simp only [cond_true]
 by_cases he:Xv b rest i=0
 ·rw [if_pos he,he]
  obtain ⟨q1,q2,q3⟩:=Nz b rest i 1 0 i0 (by omega) (by omega) he
  have q1':i<=My b rest i:=q1
  have q2':My b rest i<=1099511627776:=q2
  have e1:A1 ((l.length:Int)+1)=(l.length:Int)+1:=A4
  simp only [vl]
  rw [e1]
  generalize My b rest i=x at *
  have hx0:0<=x:=by omega
  obtain ⟨X,rfl⟩:=Int.eq_ofNat_of_zero_le hx0
  have e2:A1 ((X:Int)-i)=(X:Int)-i:=A4
  have ec:((l.length:Int)+1)=((l.length+1:Nat):Int):=rfl
  have ed:Int.tdiv (X:Int) ((l.length+1:Nat):Int)=((X / (l.length+1):Nat):Int):=K6 _ _
  have em:Int.tmod (X:Int) ((l.length+1:Nat):Int)=((X % (l.length+1):Nat):Int):=Gm _ _
  have hd:=Nat.div_le_self X (l.length+1)
  have hm:=Nat.mod_lt X (show 0<l.length+1 by omega)
  rw [e2,ec,ed,em]
  generalize hA:X / (l.length+1)=A at *
  generalize hB:X % (l.length+1)=B at *
  have e3:A1 (A:Int)=(A:Int):=A4
  have e4:A1 (n+(A:Int))=n+(A:Int):=A4
  have e5:A1 ((B:Int)+1)=(B:Int)+1:=A4
  have c0:((0:Int) != 0)=false:=rfl
  have c1:((((l.length+1:Nat):Int)) != 0)=true:=by rw [bne_iff_ne];omega
  rw [e3,e4,e5,c0,M3,M3,A9,c1]
  simp only [cond_true,cond_false]
  cases hp:ptI (n+(A:Int)) with
  | false=>simp
  | true=>
   simp only [Bool.not_true,cond_false,if_true]
   by_cases h256:(256:Int)<((l.length+1:Nat):Int)
   ·rw [if_pos h256,B9 h256]
    rfl
   ·rw [if_neg h256,A8,cond_false,XL (by omega) (by show (B:Int)<((l.length+1:Nat):Int);omega),h4]
    rfl
 ·rw [if_neg he,show (Xv b rest i != 0)=true from bne_iff_ne.2 he]
  rfl
theorem KL (c:UInt8):∀ l:By,-1<=G4 c l
 | []=>by simp [G4]
 | b::r=>by
  have:=KL c r
  unfold G4
  omega
theorem Xn (c b:UInt8):∀ l:By,G4 c (l++[b])=if b=c then (l.length:Int) else G4 c l
 | []=>by
  by_cases h:b=c<;>simp [G4,h]
 | a::l=>by
  have ih:=Xn c b l
  rw [List.cons_append,G4,ih]
  by_cases h:b=c
  ·grind
  ·rw [if_neg h,if_neg h]
   rfl
theorem KD {R:Type} {k0:Int->Option R} {k1:Unit->Option R} (s:By) (c:UInt8) (hs:s.length<=1000000000):∀ (m n:Nat),m<=s.length->m<n->
  Ae LF n s (c.toNat:Int) ((m:Int)-1) k0 k1=if G4 c (s.take m)<0 then k1 () else k0 (G4 c (s.take m)):=by
 intro m
 induction m with
 | zero=>
  intro n hm hn
  obtain ⟨n,rfl⟩:∃ m,n=m+1:=⟨n-1,by omega⟩
  rw [Ae]
  rw [A9]
  rfl
 | succ m ih=>
  intro n hm hn
  obtain ⟨n,rfl⟩:∃ m,n=m+1:=⟨n-1,by omega⟩
  rw [Ae]
  have e0:(((m+1:Nat):Int)-1)=(m:Int):=by omega
  have e1:A1 ((m:Int)-1)=(m:Int)-1:=A4
  have ht:s.take (m+1)=s.take m++[s.getD m 0]:=by
   rw [List.take_add_one,List.getD_eq_getElem?_getD,List.getElem?_eq_getElem (by omega)]
   rfl
  rw [e0,e1,A8,J3,I2,ht,Xn]
  simp only [Bool.not_false,cond_true]
  by_cases h:s.getD m 0=c
  ·rw [if_pos h,h,beq_self_eq_true,cond_true,List.length_take,Nat.min_eq_left (by omega),H7]
  ·have hne:(((s.getD m 0).toNat:Int)==(c.toNat:Int))=false:=by
    rw [beq_eq_false_iff_ne]
    intro he
    exact h (UInt8.toNat.inj (Int.ofNat.inj he))
   rw [if_neg h,hne,cond_false]
   exact ih n (by omega) (by omega)
theorem Av4 {c:Int} (h:inR c 256=true):c=((u8n c).toNat:Int):=by
 simp only [inR,Bool.and_eq_true,decide_eq_true_eq] at h
 unfold u8n
 simp
 omega
theorem KE {R:Type} {k0:Int->Option R} (s:By) (c:Int) (h0:A3 s.length=true) (h1:inR c 256=true):GA LF s c k0=k0 (G4 (u8n c) s):=by
 have hs:=M7 h0
 have hLF:=D7
 have hc:=Av4 h1
 generalize u8n c=d at *
 subst hc
 unfold GA
 have e1:A1 ((s.length:Int)-1)=(s.length:Int)-1:=A4
 simp only [vl]
 rw [e1]
 refine Eq.trans (KD s d (by omega) s.length LF (by omega) (by omega)) ?_
 rw [List.take_length]
 have:=KL d s
 by_cases h:G4 d s<0
 ·rw [if_pos h,show G4 d s = -1 by omega]
 ·rw [if_neg h]
theorem QN {R:Type} {k0:Int->Option R} (s:By) (c:Int) (h0:A3 s.length=true) (h1:inR c 256=true):XE LF s c k0=k0 (G4 (u8n c) s):=by
 unfold XE
 grind
theorem Jo:∀ s:By,(45∈s->G4 45 s=(E7 s:Int))/\(45∉s->G4 45 s = -1/\E7 s=0)
 | []=>⟨λh=>(by cases h),λ_=>⟨rfl,rfl⟩⟩
 | b::r=>by
  obtain ⟨h1,h2⟩:=Jo r
  unfold G4 E7
  grind
theorem NC {c:UInt8} (h:Ip c=none):C7 c = -1:=by unfold C7;rw [h]
theorem ND {c:UInt8} {x:Nat} (h:Ip c=some x):C7 c=x:=by unfold C7;rw [h]
theorem Oa (b:Nat):∀ (s:By) (i w k:Nat),O4 (b:Int) s (i:Int) (w:Int) ((36*k:Nat):Int)=((((C5 b s i w k).2.2:Nat):Int),(O4 (b:Int) s (i:Int) (w:Int) ((36*k:Nat):Int)).2)/\
  ((C5 b s i w k).2.2=0->(O4 (b:Int) s (i:Int) (w:Int) ((36*k:Nat):Int)).2=((C5 b s i w k).2.1,((C5 b s i w k).1:Int)))
 | [],i,w,k=>⟨rfl,λh=>by simp [C5] at h⟩
 | c::r,i,w,k=>by
  unfold O4 C5
  cases hv:Ip c with
  | none=>
   rw [NC hv,Bn]
   grind
  | some x=>
   rw [ND hv,H7,Pw]
   have e1:(i:Int)+(x:Int)*(w:Int)=((i+x*w:Nat):Int):=by push_cast;rfl
   have ht:=P9 k b
   have e2:(w:Int)*(36-(thr k b:Int))=((w*(36-thr k b):Nat):Int):=by grind
   have e3:((36*k:Nat):Int)+36=((36*(k+1):Nat):Int):=by omega
   have hsat:Fh=1099511627776:=by decide
   rw [e1,e2,e3,hsat]
   simp only
   generalize i+x*w=I
   generalize w*(36-thr k b)=W
   by_cases h2:1099511627776<I
   ·grind
   ·rw [H7,if_neg h2]
    by_cases h3:x<thr k b
    ·grind
    ·rw [H7,if_neg h3]
     by_cases h4:1099511627776<W
     ·grind
     ·rw [H7,if_neg h4]
      exact Oa b r I W (k+1)
theorem Ao8 (l:List Nat) (i n:Nat):Hg (B1 l) i (n:Int)=B1 (P3 l i n):=by
 unfold Hg P3 B1
 simp_all
theorem GL (b:Nat) (s:By) (i:Nat):Xv (b:Int) s (i:Int)=((C5 b s i 1 0).2.2:Int)/\((C5 b s i 1 0).2.2=0->Xw (b:Int) s (i:Int)=(C5 b s i 1 0).2.1/\My (b:Int) s (i:Int)=((C5 b s i 1 0).1:Int)):=by
 obtain ⟨h1,h2⟩:=Oa b s i 1 0
 have e:O4 (b:Int) s (i:Int) 1 0=O4 (b:Int) s (i:Int) ((1:Nat):Int) ((36*0:Nat):Int):=rfl
 unfold Xv Xw My
 rw [e]
 refine ⟨by rw [h1],λh=>?_⟩
 have:=h2 h
 rw [this]
 exact ⟨rfl,rfl⟩
theorem Bn3 (s:By) (pts:List Nat) (n i b:Nat) (st:Bool) (h:(C5 b s i 1 0).2.2=0) (hi:i<=(C5 b s i 1 0).1) (hp:P4 (n+(C5 b s i 1 0).1 / (pts.length+1))=true) (hc:¬ 256<pts.length+1) :
  D2 ⟨s,(n:Int),(i:Int),(b:Int),st,B1 pts⟩=(0,⟨(C5 b s i 1 0).2.1,((n+(C5 b s i 1 0).1 / (pts.length+1):Nat):Int),(((C5 b s i 1 0).1 % (pts.length+1)+1:Nat):Int),((M5 ((C5 b s i 1 0).1-i) (pts.length+1) (!st):Nat):Int),true,B1 (P3 pts ((C5 b s i 1 0).1 % (pts.length+1)) (n+(C5 b s i 1 0).1 / (pts.length+1)))⟩):=by
 obtain ⟨h1,h2⟩:=GL b s i
 obtain ⟨h3,h4⟩:=h2 h
 unfold D2
 simp only
 rw [h1,h,if_pos (show ((0:Nat):Int)=0 from rfl),h3,h4,C1]
 generalize (C5 b s i 1 0).1=X at *
 have ec:((pts.length:Int)+1)=((pts.length+1:Nat):Int):=rfl
 have ed:Int.tdiv (X:Int) ((pts.length+1:Nat):Int)=((X / (pts.length+1):Nat):Int):=K6 _ _
 have em:Int.tmod (X:Int) ((pts.length+1:Nat):Int)=((X % (pts.length+1):Nat):Int):=Gm _ _
 have en:(n:Int)+((X / (pts.length+1):Nat):Int)=((n+X / (pts.length+1):Nat):Int):=rfl
 rw [ec,ed,em,en,Hq,hp,if_pos rfl,H7,Int.toNat_natCast,Ao8,Int.toNat_natCast,show ((X:Int)-(i:Int)).toNat=X-i by omega]
 rfl
theorem Bg3 (s:By) (pts:List Nat) (n i b:Nat) (st:Bool):((C5 b s i 1 0).2.2≠0->(D2 ⟨s,(n:Int),(i:Int),(b:Int),st,B1 pts⟩).1=((C5 b s i 1 0).2.2:Int))/\
  ((C5 b s i 1 0).2.2=0->P4 (n+(C5 b s i 1 0).1 / (pts.length+1))=false->(D2 ⟨s,(n:Int),(i:Int),(b:Int),st,B1 pts⟩).1=2)/\
  ((C5 b s i 1 0).2.2=0->P4 (n+(C5 b s i 1 0).1 / (pts.length+1))=true->256<pts.length+1->(D2 ⟨s,(n:Int),(i:Int),(b:Int),st,B1 pts⟩).1=3):=by
 obtain ⟨h1,h2⟩:=GL b s i
 have ec:(((B1 pts).length:Int)+1)=((pts.length+1:Nat):Int):=by rw [C1];rfl
 have ed:∀ X:Nat,Int.tdiv (X:Int) ((pts.length+1:Nat):Int)=((X / (pts.length+1):Nat):Int):=λX=>K6 _ _
 have en:∀ A:Nat,(n:Int)+(A:Int)=((n+A:Nat):Int):=λA=>rfl
 refine ⟨λh=>?_,λh hp=>?_,λh hp hc=>?_⟩
 ·unfold D2
  simp only
  rw [h1,H7]
 ·obtain ⟨h3,h4⟩:=h2 h
  unfold D2
  simp only
  rw [h1,h,if_pos (show ((0:Nat):Int)=0 from rfl),h4,ec,ed,en,Hq,hp,if_neg (by simp)]
 ·obtain ⟨h3,h4⟩:=h2 h
  unfold D2
  simp only
  rw [h1,h,if_pos (show ((0:Nat):Int)=0 from rfl),h4,ec,ed,en,Hq,hp,if_pos rfl,Bn]
theorem Ac (pts:List Nat) (n i b:Nat) (f:Bool):F2 [] pts n i b f=(pts,0):=by rw [F2];rfl
theorem Da {s:By} (hs:s≠[]) (pts:List Nat) (n i b:Nat) (f:Bool) (h:(C5 b s i 1 0).2.2≠0):F2 s pts n i b f=([],(C5 b s i 1 0).2.2):=by
 rw [F2,dif_neg hs]
 grind
theorem Ax {s:By} (hs:s≠[]) (pts:List Nat) (n i b:Nat) (f:Bool) (h:(C5 b s i 1 0).2.2=0):F2 s pts n i b f =
  if P4 (n+(C5 b s i 1 0).1 / (pts.length+1)) then (if 256<pts.length+1 then ([],3) else F2 (C5 b s i 1 0).2.1 (P3 pts ((C5 b s i 1 0).1 % (pts.length+1)) (n+(C5 b s i 1 0).1 / (pts.length+1))) (n+(C5 b s i 1 0).1 / (pts.length+1)) ((C5 b s i 1 0).1 % (pts.length+1)+1) (M5 ((C5 b s i 1 0).1-i) (pts.length+1) f) false) else ([],2):=by
 rw [F2,dif_neg hs]
 simp only
 rw [dif_pos h]
theorem W8 (l:List Nat) (i n:Nat):(P3 l i n).length=l.length+1:=by
 unfold P3
 grind
theorem Ac8:∀ (r:Nat) (s:By) (pts:List Nat) (n i b f:Nat) (st:Bool),s.length<=r->r<f->s.length<=1000000->pts.length<=256->n<=1114111->i<=1000->b<=500->
  ((F2 s pts n i b (!st)).2=0->∃ s' n' i' b' st',∀ (R:Type) (k0:Int->LL->By->Int->Int->Int->Bool->Option R) (k1:LL->By->Int->Int->Int->Bool->Option R),N9 LF f (B1 pts) s (n:Int) (i:Int) (b:Int) st k0 k1=k1 (B1 (F2 s pts n i b (!st)).1) s' n' i' b' st')/\
  ((F2 s pts n i b (!st)).2≠0->(F2 s pts n i b (!st)).1=[]/\∃ l s' n' i' b' st',∀ (R:Type) (k0:Int->LL->By->Int->Int->Int->Bool->Option R) (k1:LL->By->Int->Int->Int->Bool->Option R),N9 LF f (B1 pts) s (n:Int) (i:Int) (b:Int) st k0 k1=k0 ((F2 s pts n i b (!st)).2:Nat) l s' n' i' b' st'):=by
 intro r
 induction r with
 | zero=>
  intro s pts n i b f st h hf _ _ _ _ _
  obtain ⟨f,rfl⟩:∃ m,f=m+1:=⟨f-1,by omega⟩
  have hs:s=[]:=List.length_eq_zero_iff.1 (by omega)
  subst hs
  rw [Ac]
  refine ⟨λ_=>⟨[],n,i,b,st,λR k0 k1=>?_⟩,λh=>absurd rfl h⟩
  rw [N9]
  rfl
 | succ r ih=>
  intro s pts n i b f st h hf h1 h2 h3 h4 h5
  obtain ⟨f,rfl⟩:∃ m,f=m+1:=⟨f-1,by omega⟩
  by_cases hs:s=[]
  ·subst hs
   rw [Ac]
   refine ⟨λ_=>⟨[],n,i,b,st,λR k0 k1=>?_⟩,λh=>absurd rfl h⟩
   rw [N9]
   rfl
  ·have start:∀ (R:Type) (k0:Int->LL->By->Int->Int->Int->Bool->Option R) (k1:LL->By->Int->Int->Int->Bool->Option R),N9 LF (f+1) (B1 pts) s (n:Int) (i:Int) (b:Int) st k0 k1 =
     cond ((D2 ⟨s,n,i,b,st,B1 pts⟩).1 != 0) (k0 (D2 ⟨s,n,i,b,st,B1 pts⟩).1 (D2 ⟨s,n,i,b,st,B1 pts⟩).2.l (D2 ⟨s,n,i,b,st,B1 pts⟩).2.rest (D2 ⟨s,n,i,b,st,B1 pts⟩).2.n (D2 ⟨s,n,i,b,st,B1 pts⟩).2.i (D2 ⟨s,n,i,b,st,B1 pts⟩).2.b (D2 ⟨s,n,i,b,st,B1 pts⟩).2.st)
      (N9 LF f (D2 ⟨s,n,i,b,st,B1 pts⟩).2.l (D2 ⟨s,n,i,b,st,B1 pts⟩).2.rest (D2 ⟨s,n,i,b,st,B1 pts⟩).2.n (D2 ⟨s,n,i,b,st,B1 pts⟩).2.i (D2 ⟨s,n,i,b,st,B1 pts⟩).2.b (D2 ⟨s,n,i,b,st,B1 pts⟩).2.st k0 k1):=by
    intro R k0 k1
    rw [N9]
    rw [show (s==([]:By))=false from beq_eq_false_iff_ne.2 hs,A95,M3,M3,M3,C1,Nat.ble_eq_true_of_le (show pts.length<=100000 by omega)]
    rfl
   obtain ⟨d1,d2,d3⟩:=Bg3 s pts n i b st
   have hok:=Bn3 s pts n i b st
   generalize D2 ⟨s,n,i,b,st,B1 pts⟩=D at *
   by_cases he:(C5 b s i 1 0).2.2=0
   ·rw [Ax hs pts n i b (!st) he]
    obtain ⟨m1,m2⟩:=GL b s i
    obtain ⟨m3,m4⟩:=m2 he
    have hE:Xv (b:Int) s (i:Int)=0:=by rw [m1,he];rfl
    obtain ⟨q1,q2,q3⟩:=Nz b s i 1 0 (by omega) (by omega) (by omega) hE
    have q1':(i:Int)<=My (b:Int) s (i:Int):=q1
    have q2':My (b:Int) s (i:Int)<=1099511627776:=q2
    have q3':(Xw (b:Int) s (i:Int)).length<s.length:=q3
    rw [m4] at q1' q2'
    rw [m3] at q3'
    cases hp:P4 (n+(C5 b s i 1 0).1 / (pts.length+1)) with
    | false=>
     rw [if_neg (by simp)]
     refine ⟨λh=>by simp at h,λ_=>⟨rfl,D.2.l,D.2.rest,D.2.n,D.2.i,D.2.b,D.2.st,λR k0 k1=>?_⟩⟩
     ·rw [start,d2 he hp]
      rfl
    | true=>
     rw [if_pos rfl]
     by_cases hc:256<pts.length+1
     ·rw [if_pos hc]
      refine ⟨λh=>by simp at h,λ_=>⟨rfl,D.2.l,D.2.rest,D.2.n,D.2.i,D.2.b,D.2.st,λR k0 k1=>?_⟩⟩
      rw [start,d3 he hp hc]
      rfl
     ·rw [if_neg hc]
      have hok:=hok he (by omega) hp hc
      have hn':n+(C5 b s i 1 0).1 / (pts.length+1)<=1114111:=by
       unfold P4 at hp
       simp_all
      have hmod:=Nat.mod_lt (C5 b s i 1 0).1 (show 0<pts.length+1 by omega)
      have had:=Iv ((C5 b s i 1 0).1-i) (pts.length+1) (!st) (by omega)
      have:=ih (C5 b s i 1 0).2.1 (P3 pts ((C5 b s i 1 0).1 % (pts.length+1)) (n+(C5 b s i 1 0).1 / (pts.length+1))) (n+(C5 b s i 1 0).1 / (pts.length+1)) ((C5 b s i 1 0).1 % (pts.length+1)+1) (M5 ((C5 b s i 1 0).1-i) (pts.length+1) (!st)) f true (by omega) (by omega) (by omega) (by rw [W8];omega) hn' (by omega) had
      obtain ⟨p1,p2⟩:=this
      refine ⟨λh=>?_,λh=>?_⟩
      ·obtain ⟨s',n',i',b',st',e⟩:=p1 h
       refine ⟨s',n',i',b',st',λR k0 k1=>?_⟩
       rw [start,hok]
       exact e R k0 k1
      ·obtain ⟨pe,l,s',n',i',b',st',e⟩:=p2 h
       refine ⟨pe,l,s',n',i',b',st',λR k0 k1=>?_⟩
       rw [start,hok]
       exact e R k0 k1
   ·rw [Da hs pts n i b (!st) he]
    refine ⟨λh=>absurd h he,λ_=>⟨rfl,D.2.l,D.2.rest,D.2.n,D.2.i,D.2.b,D.2.st,λR k0 k1=>?_⟩⟩
    rw [start,d1 he,show (((C5 b s i 1 0).2.2:Int) != 0)=true by rw [bne_iff_ne];omega]
    rfl
theorem Ge (l:List Nat):Sc l=B1 l:=rfl
theorem RY {R:Type} {k0:Unit->Option R} {k1:By->Option R} (s:By) (hs:s.length<=1000000):∀ (r i n:Nat),i+r=s.length->r<n->
  Hp LF n s (s.length:Int) (i:Int) k0 k1=if (s.drop i).any (λb=>Nat.ble 128 b.toNat) then k0 () else k1 s:=by
 intro r
 induction r with
 | zero=>
  intro i n hi hn
  obtain ⟨n,rfl⟩:∃ m,n=m+1:=⟨n-1,by omega⟩
  rw [Hp]
  rw [A8,List.drop_of_length_le (by omega)]
  rfl
 | succ r ih=>
  intro i n hi hn
  obtain ⟨n,rfl⟩:∃ m,n=m+1:=⟨n-1,by omega⟩
  rw [Hp]
  have e1:A1 ((i:Int)+1)=((i+1:Nat):Int):=by rw [A4];rfl
  rw [A9,J3,I2,J1 s i (by omega),e1,List.any_cons]
  simp only [cond_true]
  generalize s.getD i 0=b
  by_cases h:128<=b.toNat
  ·rw [A8,Nat.ble_eq_true_of_le h]
   rfl
  ·have:Nat.ble 128 b.toNat=false:=by rw [Bool.eq_false_iff,ne_eq,Nat.ble_eq];exact h
   rw [A9,this,Bool.false_or]
   exact ih (i+1) n (by omega) (by omega)
theorem Ac7 {R:Type} {k0:By->Int->LL->Option R} (s:By) (hs:s.length<=1000000) (k:Nat) (hk:k<=s.length):∀ (r i n:Nat) (l:List Nat),i+r=k->r<n->l.length=i->
  Ek LF n s (k:Int) (i:Int) (B1 l) k0=k0 s (k:Int) (B1 (l++((s.take k).drop i).map (·.toNat))):=by
 intro r
 induction r with
 | zero=>
  intro i n l hi hn hl
  obtain ⟨n,rfl⟩:∃ m,n=m+1:=⟨n-1,by omega⟩
  rw [Ek]
  rw [A8,List.drop_of_length_le (by rw [List.length_take];omega)]
  simp
 | succ r ih=>
  intro i n l hi hn hl
  obtain ⟨n,rfl⟩:∃ m,n=m+1:=⟨n-1,by omega⟩
  rw [Ek]
  have e1:A1 ((i:Int)+1)=((i+1:Nat):Int):=by rw [A4];rfl
  have hd:(s.take k).drop i=s.getD i 0::(s.take k).drop (i+1):=by
   rw [J1 (s.take k) i (by rw [List.length_take];omega)]
   congr 1
   rw [List.getD_eq_getElem?_getD,List.getD_eq_getElem?_getD,List.getElem?_take_of_lt (by omega)]
  rw [A9,J3,I2,hd,C1,D3 (by omega),e1]
  simp only [cond_true]
  generalize s.getD i 0=b
  have hb:=b.toNat_lt
  have e2:A1 (b.toNat:Int)=(b.toNat:Int):=A4
  have hrow:B1 l++[[SV.int .i64 (A1 (b.toNat:Int))]]=B1 (l++[b.toNat]):=by rw [e2,Gd];rfl
  rw [hrow,ih (i+1) n _ (by omega) (by omega) (by simp;omega)]
  simp
theorem Jp:∀ s:By,E7 s<=s.length-1
 | []=>by simp [E7]
 | b::r=>by
  have:=Jp r
  unfold E7
  grind
theorem RZ (s:By) (h0:A3 s.length=true):(∃ e,J8 s=([],e)/\∀ (R:Type) (k0:Int->Option R) (k1:Int->LL->By->Int->Int->Int->Bool->Option R) (k2:LL->By->Int->Int->Int->Bool->Option R),Oy LF s k0 k1 k2=k0 (e:Nat))\/
  (∃ e l s' n' i' b' st',J8 s=([],e)/\∀ (R:Type) (k0:Int->Option R) (k1:Int->LL->By->Int->Int->Int->Bool->Option R) (k2:LL->By->Int->Int->Int->Bool->Option R),Oy LF s k0 k1 k2=k1 (e:Nat) l s' n' i' b' st')\/
  ((J8 s).2=0/\∃ s' n' i' b' st',∀ (R:Type) (k0:Int->Option R) (k1:Int->LL->By->Int->Int->Int->Bool->Option R) (k2:LL->By->Int->Int->Int->Bool->Option R),Oy LF s k0 k1 k2=k2 (B1 (J8 s).1) s' n' i' b' st'):=by
 have hLF:=D7
 unfold J8
 by_cases hl:1024<s.length
 ·rw [if_pos hl]
  refine .inl ⟨3,rfl,λR k0 k1 k2=>?_⟩
  unfold Oy
  rw [A9]
  rfl
 ·rw [if_neg hl]
  have asc:=λ(R:Type) (K0:Unit->Option R) (K1:By->Option R)=>RY (k0:=K0) (k1:=K1) s (by omega) s.length 0 LF (by omega) (by omega)
  rw [List.drop_zero] at asc
  cases ha:s.any (λb=>Nat.ble 128 b.toNat) with
  | true=>
   rw [if_pos rfl]
   refine .inl ⟨4,rfl,λR k0 k1 k2=>?_⟩
   unfold Oy
   rw [A8,cond_false]
   refine Eq.trans (asc R _ _) ?_
   rw [ha,if_pos rfl]
   rfl
  | false=>
   rw [if_neg (by simp)]
   obtain ⟨d1,d2⟩:=Jo s
   have hlt:=Jp s
   have key:∀ (pts:List Nat) (t:By),pts.length<=256->t.length<=1024->(∀ (R:Type) (k0:Int->Option R) (k1:Int->LL->By->Int->Int->Int->Bool->Option R) (k2:LL->By->Int->Int->Int->Bool->Option R),Oy LF s k0 k1 k2=N9 LF LF (B1 pts) t 128 0 72 false k1 k2)->
     (∃ e l s' n' i' b' st',F2 t pts 128 0 72 true=([],e)/\∀ (R:Type) (k0:Int->Option R) (k1:Int->LL->By->Int->Int->Int->Bool->Option R) (k2:LL->By->Int->Int->Int->Bool->Option R),Oy LF s k0 k1 k2=k1 (e:Nat) l s' n' i' b' st')\/
     ((F2 t pts 128 0 72 true).2=0/\∃ s' n' i' b' st',∀ (R:Type) (k0:Int->Option R) (k1:Int->LL->By->Int->Int->Int->Bool->Option R) (k2:LL->By->Int->Int->Int->Bool->Option R),Oy LF s k0 k1 k2=k2 (B1 (F2 t pts 128 0 72 true).1) s' n' i' b' st'):=by
    intro pts t hp ht he
    obtain ⟨p1,p2⟩:=Ac8 t.length t pts 128 0 72 LF false (Nat.le_refl _) (by omega) (by omega) hp (by omega) (by omega) (by omega)
    rw [Bool.not_false] at p1 p2
    by_cases hz:(F2 t pts 128 0 72 true).2=0
    ·obtain ⟨s',n',i',b',st',e⟩:=p1 hz
     exact .inr ⟨hz,s',n',i',b',st',λR k0 k1 k2=>by rw [he];exact e R k1 k2⟩
    ·obtain ⟨pe,l,s',n',i',b',st',e⟩:=p2 hz
     exact .inl ⟨_,l,s',n',i',b',st',Prod.ext pe rfl,λR k0 k1 k2=>by rw [he];exact e R k1 k2⟩
   have hu:u8n 45=45:=rfl
   have top:∀ (R:Type) (k0:Int->Option R) (k1:Int->LL->By->Int->Int->Int->Bool->Option R) (k2:LL->By->Int->Int->Int->Bool->Option R),Oy LF s k0 k1 k2 =
     cond (ltI 0 (G4 45 s)) (Ek LF LF s (G4 45 s) 0 [] (λs'5 k'6 l'7=>cond (N7 (A1 (k'6+1)) (s'5.length:Int) s'5.length)
      (vl (cut s'5 (A1 (k'6+1)) (s'5.length:Int)) λs'8=>cond (ltI 256 (l'7.length:Int)) (k1 3 l'7 s'8 128 0 72 false) (N9 LF LF l'7 s'8 128 0 72 false k1 k2)) none))
      (N9 LF LF [] s 128 0 72 false k1 k2):=by
    intro R k0 k1 k2
    unfold Oy
    rw [A8,cond_false]
    refine Eq.trans (asc R _ _) ?_
    rw [ha,if_neg (by simp),h0,hu]
    rfl
   by_cases hd:0<E7 s
   ·have hmem:45∈s:=by
     apply Classical.byContradiction
     intro h
     have:=(d2 h).2
     omega
    have hI:=d1 hmem
    generalize E7 s=m at *
    have hcopy:=λ(R:Type) (K:By->Int->LL->Option R)=>Ac7 (k0:=K) s (by omega) m (by omega) m 0 LF [] (by omega) (by omega) rfl
    rw [List.drop_zero] at hcopy
    have e1:A1 ((m:Int)+1)=((m+1:Nat):Int):=by rw [A4];rfl
    have hlen:((s.take m).map (·.toNat)).length=m:=by rw [List.length_map,List.length_take];omega
    have top2:∀ (R:Type) (k0:Int->Option R) (k1:Int->LL->By->Int->Int->Int->Bool->Option R) (k2:LL->By->Int->Int->Int->Bool->Option R),Oy LF s k0 k1 k2 =
      cond (ltI 256 (m:Int)) (k1 3 (B1 ((s.take m).map (·.toNat))) (s.drop (m+1)) 128 0 72 false) (N9 LF LF (B1 ((s.take m).map (·.toNat))) (s.drop (m+1)) 128 0 72 false k1 k2):=by
     intro R k0 k1 k2
     rw [top,hI,A9,cond_true]
     refine Eq.trans (hcopy R _) ?_
     rw [e1,R5,Nv,List.take_length,List.nil_append,C1,hlen]
     rfl
    by_cases h256:256<m
    ·rw [if_pos h256]
     refine .inr (.inl ⟨3,B1 ((s.take m).map (·.toNat)),s.drop (m+1),128,0,72,false,rfl,λR k0 k1 k2=>?_⟩)
     rw [top2,A9]
     rfl
    ·rw [if_neg h256,if_neg (show ¬ m=0 by omega)]
     exact .inr (key _ (s.drop (m+1)) (by rw [hlen];omega) (by rw [List.length_drop];omega) (λR k0 k1 k2=>by rw [top2,A8];rfl))
   ·have hz:E7 s=0:=by omega
    have hI:¬ 0<G4 45 s:=by
     by_cases hm:45∈s
     all_goals grind
    rw [hz,H7,if_pos rfl]
    refine .inr (key [] s (by simp) (by omega) (λR k0 k1 k2=>?_))
    rw [top,A8]
    rfl
theorem Ou (l:List Nat):(B1 l).isEmpty=l.isEmpty:=by cases l<;>rfl
theorem A66 (s:By) (h0:A3 s.length=true):∃ r H,Oy LF s (λr0=>rv (.tup [.fl 0,.s (.int .i64 r0)]) [.arr true 3 1 []]) (λr0 l1 s2 n3 n4 n5 b6=>rv (.tup [.fl 2,.s (.int .i64 r0)]) [.arr true 3 1 l1,.box [.s (.str s2),.fl 0,.s (.int .i64 n3),.s (.int .i64 n4),.s (.int .i64 n5),.s (.bool b6)],.arr true 3 1 []]) (λl0 s1 n2 n3 n4 b5=>rv (.tup [.fl 0,.s (.int .i64 (0:Int))]) [.arr true 3 1 l0,.box [.s (.str s1),.fl 0,.s (.int .i64 n2),.s (.int .i64 n3),.s (.int .i64 n4),.s (.bool b5)]])=rv r H/\
  r.stab [1,0] H = .tup [.s (.sl (J8 s).1.isEmpty (J8 s).1.isEmpty 1 (Sc (J8 s).1)),.s (.int .i64 ((J8 s).2:Nat))]:=by
 rcases RZ s h0 with ⟨e,h1,h2⟩ | ⟨e,l,s',n',i',b',st',h1,h2⟩ | ⟨h1,s',n',i',b',st',h2⟩
 ·refine ⟨_,_,h2 _ _ _ _,?_⟩
  rw [h1]
  rfl
 ·refine ⟨_,_,h2 _ _ _ _,?_⟩
  rw [h1]
  rfl
 ·refine ⟨_,_,h2 _ _ _ _,?_⟩
  rw [h1,Ge]
  simp [PV.stab,Ji,Ro,PV.snap,I9,Ou]
end
section
open Go
theorem Tm:∀ (f:Nat) (l:By),Lib.validGoD f l=(T6 f l).isSome
 | 0,_=>rfl
 | f+1,l=>by
  unfold Lib.validGoD T6
  split
  ·rfl
  ·split
   ·rfl
   ·rw [Tm f,Option.isSome_map]
theorem VE (l:By):Lib.validD l=(Dl l).isSome:=Tm _ l
theorem Yg:∀ (n m:Nat) (l:By),l.length<=n->l.length<=m->T6 n l=T6 m l
 | 0,m,l,hn,_=>by
  have:l=[]:=List.length_eq_zero_iff.1 (by omega)
  subst this;cases m<;>simp [T6]
 | n+1,0,l,_,hm=>by
  have:l=[]:=List.length_eq_zero_iff.1 (by omega)
  subst this;simp [T6]
 | n+1,m+1,l,hn,hm=>by
  unfold T6
  split
  ·rfl
  ·rename_i hne
   have hw:=Lib.decodeL_width l
   have hl:0<l.length:=List.length_pos_iff.2 hne
   rw [Yg n m (l.drop (Lib.decodeL l).2) (by rw [List.length_drop];omega) (by rw [List.length_drop];omega)]
theorem Ad2 (l:By) (hne:l≠[]):Dl l=if (Lib.decodeL l).1=65533/\(Lib.decodeL l).2=1 then none else (Dl (l.drop (Lib.decodeL l).2)).map ((Lib.decodeL l).1::·):=by
 have hl:0<l.length:=List.length_pos_iff.2 hne
 have hw:=Lib.decodeL_width l
 obtain ⟨n,hn⟩:∃ n,l.length=n+1:=⟨l.length-1,by omega⟩
 unfold Dl
 rw [hn]
 conv=>lhs;unfold T6
 rw [if_neg hne,Yg n (l.drop (Lib.decodeL l).2).length _ (by rw [List.length_drop];omega) (Nat.le_refl _)]
theorem CD:∀ (f:Nat) (s:ByteArray) (pos:Nat) (p:List Nat),pos<=s.size->T6 f (s.data.toList.drop pos)=some p->s.size-pos<=f->Lib.runeCountFrom s f pos=p.length
 | 0,s,pos,p,hp,h,hf=>by
  simp only [T6,Option.some.injEq] at h
  subst h;rfl
 | f+1,s,pos,p,hp,h,hf=>by
  have hsz:s.data.toList.length=s.size:=by rw [Array.length_toList];rfl
  unfold T6 at h
  rw [Lib.decodeL_drop] at h
  by_cases hps:pos<s.size
  ·rw [if_neg (by rw [<-List.length_eq_zero_iff,List.length_drop];omega)] at h
   split at h
   ·cases h
   ·cases hq:T6 f (List.drop (Utf8.decode s pos).2 (List.drop pos s.data.toList)) with
    | none=>rw [hq] at h;cases h
    | some q=>
     rw [hq] at h
     simp only [Option.map_some,Option.some.injEq] at h
     subst h
     have hw:=Lib.decode_width_pos s pos hps
     have hwl:pos+(Utf8.decode s pos).2<=s.size:=by
      have:=Lib.decodeL_le (s.data.toList.drop pos) (by rw [ne_eq,<-List.length_eq_zero_iff,List.length_drop];omega)
      rw [Lib.decodeL_drop,List.length_drop] at this
      omega
     rw [List.drop_drop] at hq
     unfold Lib.runeCountFrom
     rw [if_pos hps,CD f s _ q hwl hq (by omega)]
     grind
  ·rw [if_pos (by rw [<-List.length_eq_zero_iff,List.length_drop];omega)] at h
   simp only [Option.some.injEq] at h
   subst h
   rw [Lib.runeCountFrom_end s _ _ hps];rfl
theorem Yu {l:By} {p:List Nat} (h:Dl l=some p):Lib.runeCountL l=p.length:=by
 unfold Lib.runeCountL Lib.runeCount
 have hs:(ByteArray.mk l.toArray).size=l.length:=by simp [ByteArray.size]
 refine CD _ _ 0 p (Nat.zero_le _) ?_ (by omega)
 rw [hs,List.drop_zero]
 simpa [Dl] using h
open Lib in theorem Bq4 (n b0 b1 b2 b3:Nat) (hb:194<=b0/\b0<224) (h1:b1<256):decodeN n b0 b1 b2 b3=if 2<=n/\128<=b1/\b1<=191 then ((b0-192)*64+b1-128,2) else (65533,1):=by
 unfold decodeN
 rw [H7]
 by_cases hc:2<=n/\128<=b1/\b1<=191
 ·rw [if_pos hc,Bn,Bn]
  exact Prod.ext (by show b0 % 32*64+b1 % 64=(b0-192)*64+b1-128;omega) rfl
 ·rw [if_neg hc,H7,H7,H7]
open Lib in theorem Bq5 (n b0 b1 b2 b3:Nat) (hb:224<=b0/\b0<240) (h1:b1<256) (h2:b2<256):decodeN n b0 b1 b2 b3=if 3<=n/\(128<=b1/\b1<=191)/\(128<=b2/\b2<=191) then
  (if 2048<=((b0-224)*64+b1-128)*64+b2-128/\P4 (((b0-224)*64+b1-128)*64+b2-128)=true then (((b0-224)*64+b1-128)*64+b2-128,3) else (65533,1)) else (65533,1):=by
 unfold decodeN
 rw [H7,H7]
 by_cases hc:3<=n/\(128<=b1/\b1<=191)/\(128<=b2/\b2<=191)
 ·rw [if_pos hc,Bn]
  have e:b0 % 16*4096+b1 % 64*64+b2 % 64=((b0-224)*64+b1-128)*64+b2-128:=by omega
  rw [e]
  generalize ((b0-224)*64+b1-128)*64+b2-128=v
  congr 1
  simp only [P4,Bool.and_eq_true,Bool.or_eq_true,Nat.ble_eq,Nat.blt_eq]
  apply propext;omega
 ·rw [if_neg hc,H7,H7]
open Lib in theorem Bq6 (n b0 b1 b2 b3:Nat) (hb:240<=b0/\b0<245) (h1:b1<256) (h2:b2<256) (h3:b3<256):decodeN n b0 b1 b2 b3=if 4<=n/\(128<=b1/\b1<=191)/\(128<=b2/\b2<=191)/\(128<=b3/\b3<=191) then
  (if 65536<=(((b0-240)*64+b1-128)*64+b2-128)*64+b3-128/\P4 ((((b0-240)*64+b1-128)*64+b2-128)*64+b3-128)=true then ((((b0-240)*64+b1-128)*64+b2-128)*64+b3-128,4) else (65533,1)) else (65533,1):=by
 unfold decodeN
 rw [H7,H7,H7]
 by_cases hc:4<=n/\(128<=b1/\b1<=191)/\(128<=b2/\b2<=191)/\(128<=b3/\b3<=191)
 ·rw [if_pos hc,Bn]
  have e:b0 % 8*262144+b1 % 64*4096+b2 % 64*64+b3 % 64=(((b0-240)*64+b1-128)*64+b2-128)*64+b3-128:=by omega
  rw [e]
  generalize (((b0-240)*64+b1-128)*64+b2-128)*64+b3-128=v
  congr 1
  simp only [P4,Bool.and_eq_true,Bool.or_eq_true,Nat.ble_eq,Nat.blt_eq]
  apply propext;omega
 ·rw [if_neg hc,H7]
end
section
open Go Go.Proofs
theorem Wu (l:List Nat):R0 (l.map λn:Nat=>(n:Int))=Bw l:=by
 have h1:(l.map λn:Nat=>(n:Int)).all ptI=l.all P4:=by
  rw [List.all_map]
  congr 1
 have h2:(l.map λn:Nat=>(n:Int)).map Int.toNat=l:=by
  rw [List.map_map]
  exact (List.map_congr_left λa _=>by simp).trans (List.map_id l)
 unfold R0
 rw [List.length_map,h1,h2]
 by_cases h:256<l.length
 ·rw [if_pos h];unfold Bw;rw [if_pos h]
 ·rw [if_neg h]
  cases hp:l.all P4 with
  | true=>rw [if_pos rfl]
  | false=>
   rw [if_neg (by simp)]
   unfold Bw
   grind
theorem Wt (l:List Nat):(B1 l).map elI=l.map λn:Nat=>(n:Int):=by
 unfold B1
 rw [List.map_map]
 exact List.map_congr_left λa _=>rfl
theorem Ev (l:List Nat):(B1 l).all Jm=true:=by
 unfold B1
 rw [List.all_map,List.all_eq_true]
 intro x _
 rfl
theorem RC {R:Type} {k0:Unit->Option R} {k1:By->Bool->LL->Bool->Option R} (s:By) (z:Bool) (p:List Nat) (hp:p.length<=1000000000):∀ (r i n:Nat) (b:Bool),i+r=p.length->r<n->
  R1 LF n s z (B1 p) b (p.length:Int) (i:Int) k0 k1=if (p.drop i).any (λp=>Nat.ble 65 p&&Nat.ble p 90) then k0 () else k1 s z (B1 p) (b && !((p.drop i).any λp=>Nat.ble 128 p)):=by
 intro r
 induction r with
 | zero=>
  intro i n b hi hn
  obtain ⟨n,rfl⟩:∃ m,n=m+1:=⟨n-1,by omega⟩
  rw [R1]
  rw [A8,List.drop_of_length_le (by omega)]
  simp
 | succ r ih=>
  intro i n b hi hn
  obtain ⟨n,rfl⟩:∃ m,n=m+1:=⟨n-1,by omega⟩
  rw [R1]
  have e1:A1 ((i:Int)+1)=((i+1:Nat):Int):=by rw [A4];rfl
  have hd:p.drop i=p.getD i 0::p.drop (i+1):=by
   rw [List.getD_eq_getElem?_getD,List.getElem?_eq_getElem (by omega),Option.getD_some,List.getElem_cons_drop]
  rw [A9,C1,J3,Int.toNat_natCast,Kw (by omega),Rp _ _ (by omega),hd,List.any_cons,List.any_cons,e1]
  simp only [cond_true,vl]
  generalize p.getD i 0=q
  have go:∀ c:Bool,R1 LF n s z (B1 p) c (p.length:Int) ((i+1:Nat):Int) k0 k1=_:=λc=>ih (i+1) n c (by omega) (by omega)
  by_cases h1:q<65
  ·rw [A9,show Nat.ble 65 q=false by rw [Bool.eq_false_iff,ne_eq,Nat.ble_eq];omega]
   have h2:Nat.ble 128 q=false:=by rw [Bool.eq_false_iff,ne_eq,Nat.ble_eq];omega
   rw [show ltI (q:Int) (128:Int)=true from A9,h2]
   simp only [Bool.not_true,cond_false,Bool.false_and,Bool.false_or]
   cases b<;>simp only [cond_true,cond_false]<;>rw [go]
  ·rw [A8,show Nat.ble 65 q=true by rw [Nat.ble_eq];omega]
   simp only [Bool.not_false,cond_true,Bool.true_and]
   by_cases h2:90<q
   ·rw [A9,show Nat.ble q 90=false by rw [Bool.eq_false_iff,ne_eq,Nat.ble_eq];omega]
    simp only [Bool.not_true,cond_false,Bool.false_or]
    by_cases h3:q<128
    ·rw [show ltI (q:Int) (128:Int)=true from A9,show Nat.ble 128 q=false by rw [Bool.eq_false_iff,ne_eq,Nat.ble_eq];omega]
     cases b<;>simp only [cond_true,cond_false,Bool.false_or]<;>rw [go]
    ·rw [show ltI (q:Int) (128:Int)=false from A8,show Nat.ble 128 q=true by rw [Nat.ble_eq];omega]
     cases b<;>simp only [cond_true,cond_false,Bool.true_or,Bool.not_true,Bool.and_false]<;>rw [go]<;>simp
   ·rw [A8,show Nat.ble q 90=true by rw [Nat.ble_eq];omega]
    simp
theorem PL:∀ (m:Nat) (s:By) (pts:List Nat) (n i b:Nat) (f:Bool),s.length<=m->pts.length<=256->(F2 s pts n i b f).1.length<=256:=by
 intro m
 induction m with
 | zero=>
  intro s pts n i b f hs hp
  obtain rfl:=List.length_eq_zero_iff.1 (Nat.le_zero.1 hs)
  rw [Ac]
  exact hp
 | succ m ih=>
  intro s pts n i b f hs hp
  by_cases h:s=[]
  ·grind
  ·by_cases hq:(C5 b s i 1 0).2.2=0
   ·rw [Ax h _ _ _ _ _ hq]
    have hlt:=Km b s i 1 0 hq
    split
    ·split
     ·grind
     ·rename_i h2
      exact ih _ _ _ _ _ _ (by omega) (by rw [W8];omega)
    grind
   ·rw [Da h _ _ _ _ _ hq]
    grind
theorem JJ (s:By):(J8 s).1.length<=256:=by
 unfold J8
 split
 ·grind
 ·split
  ·grind
  ·split
   ·grind
   ·rename_i h
    exact PL _ _ _ _ _ _ _ (Nat.le_refl _) (by rw [List.length_map,List.length_take];omega)
theorem RD {R:Type} {k0:Bool->Option R} (s:By) (h0:A3 s.length=true):XJ LF s k0=k0 (Ap s):=by
 have hLF:=D7
 unfold XJ Ap
 rw [h0,cond_true]
 by_cases h:(J8 s).2=0
 ·have e:(((J8 s).2:Int) != (0:Int))=false:=by rw [h];rfl
  rw [e,cond_false,Ge,C1,h]
  have hl:=JJ s
  refine Eq.trans (RC s _ (J8 s).1 (by omega) (J8 s).1.length 0 LF true (by omega) (by omega)) ?_
  rw [List.drop_zero]
  cases h1:(J8 s).1.any (λp=>Nat.ble 65 p&&Nat.ble p 90) with
  | true=>simp
  | false=>
   rw [if_neg (by simp),Ev,Wt,Wu]
   simp only [cond_true,vl,Bool.true_and,Bool.not_false]
   cases h2:(J8 s).1.any (λp=>Nat.ble 128 p) with
   | false=>simp
   | true=>
    simp only [Bool.not_true,Bool.not_false,cond_true,Bool.and_true,beq_self_eq_true,Bool.true_and]
    by_cases h3:(Bw (J8 s).1).2=0
    all_goals grind
 grind
theorem Ab4 {R:Type} {k0:Unit->Option R} {k1:By->Option R} (s:By) (hs:s.length<=1000000000):∀ (r i n:Nat),i+r=s.length->r<n->
  N4 LF n s (s.length:Int) (i:Int) k0 k1=if (s.drop i).all Q7 then k1 s else k0 ():=by
 intro r
 induction r with
 | zero=>
  intro i n hi hn
  obtain ⟨n,rfl⟩:∃ m,n=m+1:=⟨n-1,by omega⟩
  rw [N4]
  rw [A8,List.drop_of_length_le (by omega)]
  rfl
 | succ r ih=>
  intro i n hi hn
  obtain ⟨n,rfl⟩:∃ m,n=m+1:=⟨n-1,by omega⟩
  rw [N4]
  have e1:A1 ((i:Int)+1)=((i+1:Nat):Int):=by rw [A4];rfl
  rw [A9,J3,I2,J1 s i (by omega),e1,List.all_cons]
  simp only [cond_true]
  rw [ih (i+1) n (by omega) (by omega)]
  generalize s.getD i 0=b
  have hb:=Tg b
  have q1:((b.toNat:Int) != 45) = !(b==45):=congrArg _ (U3 b 45 (by omega))
  have q2:((b.toNat:Int) != 95) = !(b==95):=congrArg _ (U3 b 95 (by omega))
  rw [q1,q2]
  have t:∀ {x:Bool},Q7 b=x->(if (Q7 b&&(s.drop (i+1)).all Q7)=true then k1 s else k0 ())=if (x&&(s.drop (i+1)).all Q7)=true then k1 s else k0 ():=λh=>by rw [h]
  cases hl:Q7 b with
  | true=>
   rw [hb] at hl
   simp only [Bool.true_and]
   by_cases h1:b=45
   ·subst h1
    simp (disch:=decide) [ltI]
   ·by_cases h2:b=95
    ·subst h2
     simp (disch:=decide) [ltI]
    ·rcases hl with hl | hl | hl | hl
     ·rw [show ltI (b.toNat:Int) 97=false from A8,show ltI (122:Int) b.toNat=false from A8];rfl
     ·rw [show ltI (b.toNat:Int) 97=true from A9,show ltI (b.toNat:Int) 48=false from A8,show ltI (57:Int) b.toNat=false from A8];rfl
     ·exact absurd hl h1
     ·exact absurd hl h2
  | false=>
   have hn:¬ ((97<=b.toNat/\b.toNat<=122)\/(48<=b.toNat/\b.toNat<=57)\/b=45\/b=95):=λh=>by rw [hb.2 h] at hl;cases hl
   have n1:(b==45)=false:=by simpa using λh=>hn (.inr (.inr (.inl h)))
   have n2:(b==95)=false:=by simpa using λh=>hn (.inr (.inr (.inr h)))
   rw [n1,n2]
   simp only [Bool.not_false,cond_true,Bool.false_and,Bool.false_eq_true,if_false]
   by_cases h1:b.toNat<48
   ·rw [show ltI (b.toNat:Int) 97=true from A9,show ltI (b.toNat:Int) 48=true from A9];rfl
   ·by_cases h2:b.toNat<97
    ·rw [show ltI (b.toNat:Int) 97=true from A9,show ltI (b.toNat:Int) 48=false from A8,show ltI (57:Int) b.toNat=true from A9];rfl
    ·rw [show ltI (b.toNat:Int) 97=false from A8,show ltI (122:Int) b.toNat=true from A9,show ltI (b.toNat:Int) 48=false from A8,show ltI (57:Int) b.toNat=true from A9];rfl
theorem Ab5 {R:Type} {k0:Bool->Option R} (s:By) (h0:A3 s.length=true):A50 LF s k0=k0 (L1 s):=by
 have hs:=M7 h0
 have hLF:=D7
 unfold A50 L1
 by_cases h1:s=[]
 ·simp_all
 ·have hl:0<s.length:=List.length_pos_iff.2 h1
  have he:s.isEmpty=false:=by simpa using h1
  rw [A8,cond_false,he]
  by_cases h2:63<s.length
  ·rw [A9,show Nat.ble s.length 63=false by rw [Bool.eq_false_iff,ne_eq,Nat.ble_eq];omega]
   rfl
  ·rw [A8,cond_false,show Nat.ble s.length 63=true by rw [Nat.ble_eq];omega,J3]
   have q1:(bAt s 0==(45:Int))=(s.getD 0 0==45):=by rw [Iw];exact U3 _ 45 (by omega)
   have e1:A1 ((s.length:Int)-1)=((s.length-1:Nat):Int):=by rw [A4];omega
   rw [q1,e1]
   simp only [cond_true,vl]
   rw [J3,I2,show ((((s.getD (s.length-1) 0).toNat:Nat):Int)==45)=(s.getD (s.length-1) 0==45) from U3 _ 45 (by omega)]
   cases h3:(s.getD 0 0==45) with
   | true=>
    grind
   | false=>
    rw [show (s.getD 0 0 != 45)=true by unfold bne;rw [h3];rfl]
    simp only [cond_true,cond_false]
    cases h4:(s.getD (s.length-1) 0==45) with
    | true=>
     grind
    | false=>
     rw [show (s.getD (s.length-1) 0 != 45)=true by unfold bne;rw [h4];rfl]
     simp only [cond_false]
     refine Eq.trans (Ab4 s hs s.length 0 LF (by omega) (by omega)) ?_
     rw [List.drop_zero]
     cases h5:s.all Q7 with
     | false=>simp
     | true=>
      rw [if_pos rfl,h0,cond_true]
      simp only [Bool.not_false,Bool.true_and,Bool.and_true]
      show cond (!(xnB.isPrefixOf s)) _ _=_
      cases h6:xnB.isPrefixOf s with
      | false=>rfl
      | true=>
       have hc:Wr s xnB=s.drop 4:=by unfold Wr;rw [h6];rfl
       show cond (A3 (Wr s xnB).length) (k0 (Ap (Wr s xnB))) none=_
       rw [hc,K2 (by rw [List.length_drop];omega)]
       rfl
theorem PW (pts:List Nat) (basic:Nat) (hl:pts.length<=256) (hb:basic<=256) (hall:∀ p∈pts,p<=1114111):∀ (f n:Nat) (s:CT),s.done=pts.countP (λp=>decide (p<n))->s.delta<=300->s.bias<=500->s.out.length+20*(pts.length-s.done)<=80000->n<=1114112->
  (N1 pts basic f n s).out.length<=80000:=by
 intro f
 have hLF:=D7
 induction f with
 | zero=>intro n s hd h1 h2 h3 h4;unfold N1;omega
 | succ f ih=>
  intro n s hd h1 h2 h3 h4
  have hcl:pts.countP (λp=>decide (p<n))<=pts.length:=List.countP_le_length
  by_cases hlt:s.done<pts.length
  ·obtain ⟨p0,hp0,hp1⟩:=PH (n:=n) (l:=pts) (by omega)
   obtain ⟨g1,g2,g3⟩:=Bc n pts 1114112
   have g4:=g3 p0 hp0 hp1
   have g5:=hall p0 hp0
   have hmem:F3 n pts 1114112∈pts/\n<=F3 n pts 1114112:=by grind
   have he:N1 pts basic (f+1) n s=N1 pts basic f (F3 n pts 1114112+1) { F4 (F3 n pts 1114112) basic pts { s with delta:=s.delta+(F3 n pts 1114112-n)*(s.done+1) } with delta:=(F4 (F3 n pts 1114112) basic pts { s with delta:=s.delta+(F3 n pts 1114112-n)*(s.done+1) }).delta+1 }:=by
    rw [N1,if_pos hlt]
   rw [he]
   generalize F3 n pts 1114112=m at *
   have hmul:(m-n)*(s.done+1)<=1114112*256:=Nat.mul_le_mul (by omega) (by omega)
   have hin:=XT false false pts basic m (by omega) hl pts.length 0 LF { s with delta:=s.delta+(m-n)*(s.done+1) } (by omega) (by omega) (by simp only;omega) h2 (by simp only;omega) (by simp only;omega) hb
   rw [List.drop_zero] at hin
   obtain ⟨_,q2,q3,q4,q5⟩:=hin
   have hcnt:0<pts.countP (· == m):=List.countP_pos_iff.2 ⟨m,hmem.1,by simp⟩
   rw [if_pos hcnt] at q5
   have hstep:=Nu hmem.2 pts g3
   generalize F4 m basic pts { s with delta:=s.delta+(m-n)*(s.done+1) } = s' at *
   simp only at q3 q4
   have hcl2:pts.countP (λp=>decide (p<m+1))<=pts.length:=List.countP_le_length
   exact ih (m+1) { s' with delta:=s'.delta+1 } (by simp only;omega) (by simp only;omega) q2 (by simp only;omega) (by omega)
  ·rw [N1,if_neg hlt];omega
theorem An2 (p:List Nat):(Bw p).1.length<=80000:=by
 unfold Bw
 split
 ·grind
 ·rename_i h
  split
  ·grind
  ·rename_i h2
   have hp:∀ q∈p,q<=1114111:=λq hq=>by
    have h2:p.all P4=true:=by simpa using h2
    have:=List.all_eq_true.1 h2 q hq
    simp only [P4,Bool.and_eq_true,Nat.ble_eq] at this
    omega
   have hbl:=Mi p
   have hbc:p.countP (λq=>decide (q<128))<=p.length:=List.countP_le_length
   refine PW p _ (by omega) (by omega) hp 256 128 _ hbl (by simp) (by simp) ?_ (by omega)
   grind
theorem GH {b:UInt8} (h:128<=b.toNat):Fd b=b:=by
 rcases Hk b with ⟨_,e⟩ | ⟨_,e⟩ | ⟨_,h2,_⟩
 all_goals omega
theorem GI {b:UInt8} (h:b.toNat<128):(Fd b).toNat<128:=by
 rcases Hk b with ⟨_,e⟩ | ⟨_,e⟩ | ⟨_,h2,e⟩
 all_goals grind
theorem YY (n:Nat) (b0 b1 b2 b3:UInt8) (h:128<=b0.toNat):Lib.decodeN n b0.toNat (Fd b1).toNat (Fd b2).toNat (Fd b3).toNat=Lib.decodeN n b0.toNat b1.toNat b2.toNat b3.toNat:=by
 have k1:∀ b:UInt8,b.toNat / 64=2->Fd b=b:=λb hb=>GH (by omega)
 have k2:∀ b:UInt8,¬ b.toNat / 64=2->¬ (Fd b).toNat / 64=2:=λb hb h=>by
  by_cases h2:128<=b.toNat
  ·rw [GH h2] at h;exact hb h
  ·have:=GI (b:=b) (by omega)
   omega
 unfold Lib.decodeN
 grind
theorem A00 (l:By) (hne:l≠[]):(Lib.decodeL (E8 l)).2=(Lib.decodeL l).2/\(¬ ((Lib.decodeL l).1=65533/\(Lib.decodeL l).2=1)->¬ ((Lib.decodeL (E8 l)).1=65533/\(Lib.decodeL (E8 l)).2=1)):=by
 cases l with
 | nil=>exact absurd rfl hne
 | cons b t=>
  by_cases hb:b.toNat<128
  ·have e1:=Lib.decodeL_ascii b t hb
   have e2:Lib.decodeL (E8 (b::t))=((Fd b).toNat,1):=Lib.decodeL_ascii (Fd b) (E8 t) (GI hb)
   rw [e1,e2]
   refine ⟨rfl,λ_ h=>?_⟩
   have:=GI hb
   omega
  ·have e:Lib.decodeL (E8 (b::t))=Lib.decodeL (b::t):=by
    rw [Lib.decodeL_N,Lib.decodeL_N,Kt,Hl,Hl,Hl,Hl]
    have e0:Fd ((b::t).getD 0 0)=b:=GH (b:=b) (show 128<=b.toNat by omega)
    rw [e0]
    exact YY (b::t).length b ((b::t).getD 1 0) ((b::t).getD 2 0) ((b::t).getD 3 0) (show 128<=b.toNat by omega)
   grind
theorem BP:∀ (f:Nat) (l:By),(T6 f l).isSome=true->(T6 f (E8 l)).isSome=true
 | 0,_,_=>rfl
 | f+1,l,h=>by
  unfold T6 at h ⊢
  by_cases hl:l=[]
  ·subst hl;rfl
  ·rw [if_neg hl] at h
   rw [if_neg (by rw [BJ];exact hl)]
   obtain ⟨d1,d2⟩:=A00 l hl
   split at h
   ·cases h
   ·rename_i hv
    rw [if_neg (d2 hv),Option.isSome_map,d1,QY]
    rw [Option.isSome_map] at h
    exact BP f _ h
theorem As0 {l:By} (h:(Dl l).isSome=true):(Dl (E8 l)).isSome=true:=by
 unfold Dl at h ⊢
 rw [Kt]
 exact BP _ _ h
theorem ZX (t:By) (ht:t.length<=1000000000):∀ (f pos:Nat) (P q:List Nat) (n:Nat),pos<=t.length->t.length-pos<=f->f<n->P.length<=pos->T6 f (t.drop pos)=some q->
  ∃ m,∀ (R:Type) (k0:LL->By->Nat->Option R),Bz LF n (B1 P) t pos k0=k0 (B1 (P++q)) t m:=by
 intro f
 induction f with
 | zero=>
  intro pos P q n h1 h2 h3 h4 h5
  obtain ⟨n,rfl⟩:∃ m,n=m+1:=⟨n-1,by omega⟩
  simp only [T6,Option.some.injEq] at h5
  subst h5
  refine ⟨pos,λR k0=>?_⟩
  rw [Bz]
  rw [decide_eq_false (by omega),cond_false,List.append_nil]
 | succ f ih=>
  intro pos P q n h1 h2 h3 h4 h5
  obtain ⟨n,rfl⟩:∃ m,n=m+1:=⟨n-1,by omega⟩
  by_cases hp:pos<t.length
  ·have hne:t.drop pos≠[]:=by rw [ne_eq,<-List.length_eq_zero_iff,List.length_drop];omega
   have hd:=Lib.decodeL_drop ⟨t.toArray⟩ pos
   have hd':Utf8.decode ⟨List.toArray t⟩ pos=Lib.decodeL (t.drop pos):=by rw [<-hd]
   unfold T6 at h5
   rw [if_neg hne] at h5
   split at h5
   ·cases h5
   ·have hw:=Lib.decodeL_width (t.drop pos)
    have hle:=Lib.decodeL_le (t.drop pos) hne
    have hr:=Lib.decodeL_rune (t.drop pos)
    rw [List.length_drop] at hle
    rw [List.drop_drop] at h5
    generalize Lib.decodeL (t.drop pos)=dd at *
    obtain ⟨c,wd⟩:=dd
    simp only at *
    cases hq:T6 f (t.drop (pos+wd)) with
    | none=>rw [hq] at h5;cases h5
    | some q'=>
     rw [hq] at h5
     simp only [Option.map_some,Option.some.injEq] at h5
     subst h5
     obtain ⟨m,e⟩:=ih (pos+wd) (P++[c]) q' n (by omega) (by omega) (by omega) (by simp;omega) hq
     refine ⟨m,λR k0=>?_⟩
     rw [Bz]
     rw [decide_eq_true hp,cond_true,hd',C1,D3 (by omega)]
     simp only [vl,cond_true]
     have e1:A1 (c:Int)=(c:Int):=A4
     have hrow:B1 P++[[SV.int .i64 (A1 (c:Int))]]=B1 (P++[c]):=by rw [e1,Gd];rfl
     rw [hrow,e,List.append_assoc]
     rfl
  ·have hnil:t.drop pos=[]:=by rw [<-List.length_eq_zero_iff,List.length_drop];omega
   unfold T6 at h5
   rw [hnil,if_pos rfl] at h5
   simp only [Option.some.injEq] at h5
   subst h5
   refine ⟨pos,λR k0=>?_⟩
   rw [Bz]
   rw [decide_eq_false hp,cond_false,List.append_nil]
theorem QL (s:By) (h0:A3 s.length=true):(∀ (R:Type) (k0:By->Int->Option R) (k1:By->Int->LL->By->Nat->Option R),KK LF s k0 k1=k0 (Ke s).1 ((Ke s).2:Nat))\/
  (∃ l t m,∀ (R:Type) (k0:By->Int->Option R) (k1:By->Int->LL->By->Nat->Option R),KK LF s k0 k1=k1 (Ke s).1 ((Ke s).2:Nat) l t m):=by
 have hs:=M7 h0
 have hLF:=D7
 unfold Ke
 cases hp:Dl s with
 | none=>
  refine .inl λR k0 k1=>?_
  unfold KK
  rw [h0,hp]
  rfl
 | some p=>
  have hrc:=Yu hp
  have top:∀ (R:Type) (k0:By->Int->Option R) (k1:By->Int->LL->By->Nat->Option R),KK LF s k0 k1=cond (ltI 256 (p.length:Int)) (k0 [] 3) (cond (ltI (p.length:Int) (s.length:Int)) (Bz LF LF [] (E8 s) 0 (λl'5 s'6 m'7=>cond (List.all l'5 Jm)
      (cond (((R0 (List.map elI l'5)).2:Int) != (0:Int))
       (k1 ([]:List UInt8) 14 l'5 s'6 m'7)
       (cond (Nr 4 (List.length ((R0 (List.map elI l'5))).1))
        (cond (A3 (List.length (xnB++((R0 (List.map elI l'5))).1)))
         (cond (not (L1 (xnB++((R0 (List.map elI l'5))).1)))
         (k1 ([]:List UInt8) 14 l'5 s'6 m'7)
         (k1 (xnB++((R0 (List.map elI l'5))).1) 0 l'5 s'6 m'7))
         (none))
        (none)))
      (none)))
     (cond (A3 (List.length (E8 s)))
      (cond (not (L1 (E8 s)))
      (k0 ([]:List UInt8) 14)
      (k0 (E8 s) 0))
      (none))):=by
   intro R k0 k1
   unfold KK
   rw [h0,hp,hrc]
   rfl
  simp only
  by_cases h1:256<p.length
  ·rw [if_pos h1]
   refine .inl λR k0 k1=>?_
   rw [top,A9]
   rfl
  ·rw [if_neg h1]
   by_cases h2:p.length<s.length
   ·rw [if_pos h2]
    have hlow:=As0 (l:=s) (by rw [hp];rfl)
    cases hq:Dl (E8 s) with
    | none=>rw [hq] at hlow;cases hlow
    | some q=>
     have hll:=Kt s
     obtain ⟨m,e⟩:=ZX (E8 s) (by omega) (E8 s).length 0 [] q LF (by omega) (by omega) (by omega) (by simp) (by rw [List.drop_zero];exact hq)
     refine .inr ⟨B1 q,E8 s,m,λR k0 k1=>?_⟩
     rw [top,A8,cond_false,A9,cond_true]
     refine Eq.trans (e R _) ?_
     have hel:=An2 q
     rw [List.nil_append,Ev,Wt,Wu,cond_true,WR (by omega),cond_true,K2 (by rw [List.length_append];simp only [xnB,List.length_cons,List.length_nil];omega),cond_true]
     simp only
     by_cases h3:(Bw q).2=0
     ·rw [h3,if_pos rfl]
      cases h4:L1 (xnB++(Bw q).1) with
      | true=>rfl
      | false=>rfl
     ·rw [if_neg h3]
      have:(((Bw q).2:Int) != (0:Int))=true:=by simpa using h3
      rw [this]
      rfl
   ·rw [if_neg h2]
    refine .inl λR k0 k1=>?_
    rw [top,A8,cond_false,A8,cond_false,K2 (by rw [Kt];exact hs),cond_true]
    cases L1 (E8 s)<;>rfl
theorem A28 (s:By) (h0:A3 s.length=true):∃ r H,KK LF s (λr0 r1=>rv (.tup [.s (.str r0),.s (.int .i64 r1)]) []) (λr0 r1 l2 s3 m4=>rv (.tup [.s (.str r0),.s (.int .i64 r1)]) [.arr true 3 1 l2,.iter s3 m4])=rv r H/\
  r.stab [0,0] H = .tup [.s (.str (Ke s).1),.s (.int .i64 ((Ke s).2:Nat))]:=by
 rcases QL s h0 with h | ⟨l,t,m,h⟩
 ·exact ⟨_,_,h _ _ _,rfl⟩
 ·exact ⟨_,_,h _ _ _,rfl⟩
theorem ZK {R:Type} {k0:Int->Option R} (b:Int) (h0:inR b 256=true):Ao6 LF b k0=k0 (Jg (u8n b)):=by
 simp only [inR,Bool.and_eq_true,decide_eq_true_eq] at h0
 have hc:b=((u8n b).toNat:Int):=by
  unfold u8n
  simp
  omega
 generalize u8n b=c at *
 subst hc
 have hbt:=c.toNat_lt
 unfold Ao6
 simp only [Oi,Oh,vl,Jg]
 rcases Kn c with ⟨h1,h2,e⟩ | ⟨h1,h2,e⟩ | ⟨h1,h2,e⟩ | ⟨h1,h2,h3,e⟩
 ·have e2:A1 (wu8 ((c.toNat:Int)-48))=((dig c:Nat):Int):=by
   rw [R8,A4];omega
  rw [Bn]
  simp (disch:=omega) only [B9,C9,Bool.not_true,Bool.not_false,cond_false,cond_true,e2]
 ·have e2:A1 (A1 (wu8 ((c.toNat:Int)-97))+10)=((dig c:Nat):Int):=by
   rw [R8,E3 (n:=(c.toNat:Int)-97) (by omega) (by omega),A4];omega
  rw [Bn]
  simp (disch:=omega) only [B9,C9,Bool.not_true,Bool.not_false,cond_false,cond_true,e2]
 ·have e2:A1 (A1 (wu8 ((c.toNat:Int)-65))+10)=((dig c:Nat):Int):=by
   rw [R8,E3 (n:=(c.toNat:Int)-65) (by omega) (by omega),A4];omega
  rw [Bn]
  simp (disch:=omega) only [B9,C9,Bool.not_true,Bool.not_false,cond_false,cond_true,e2]
 ·rw [e,if_neg (by decide)]
  by_cases c1:c.toNat<48
  ·simp (disch:=omega) only [B9,C9,Bool.not_true,Bool.not_false,cond_false,cond_true]
  ·by_cases c2:c.toNat<65
   ·simp (disch:=omega) only [B9,C9,Bool.not_true,Bool.not_false,cond_false,cond_true]
   ·by_cases c3:c.toNat<97
    ·simp (disch:=omega) only [B9,C9,Bool.not_true,Bool.not_false,cond_false,cond_true]
    ·simp (disch:=omega) only [B9,C9,Bool.not_true,Bool.not_false,cond_false,cond_true]
theorem A64 {b:UInt8} (r:By) (h:b≠37):Fe (b::r)=(Fe r).map (b::·):=by
 conv=>lhs;unfold Fe
 grind
theorem Ar5 (x y:UInt8) (r:By):Fe (37::x::y::r)=if dig x<16/\dig y<16 then (Fe r).map (UInt8.ofNat (16*dig x+dig y)::·) else none:=by
 conv=>lhs;unfold Fe
 grind
theorem Am8 (x:UInt8):ltI (Jg x) 0 = !(decide (dig x<16)):=by
 unfold Jg
 by_cases h:dig x<16
 ·simp_all
 ·rw [if_neg h,A9,decide_eq_false h];rfl
theorem ZJ (s:By) (hs:s.length<=1000000000):∀ (m i n:Nat) (acc:By),i<=s.length->s.length-i<=m->m<n->acc.length<=i->
  (∀ t,Fe (s.drop i)=some t->∀ (R:Type) (k0:LL->Option R) (k1:LL->Option R),N8 LF n s (i:Int) (acc.map D4) k0 k1=k1 ((acc++t).map D4))/\
  (Fe (s.drop i)=none->∃ l,∀ (R:Type) (k0:LL->Option R) (k1:LL->Option R),N8 LF n s (i:Int) (acc.map D4) k0 k1=k0 l):=by
 intro m
 induction m with
 | zero=>
  intro i n acc hi hm hn ha
  obtain ⟨n,rfl⟩:∃ m,n=m+1:=⟨n-1,by omega⟩
  rw [List.drop_of_length_le (by omega)]
  refine ⟨λt ht R k0 k1=>?_,λh=>(by cases h)⟩
  simp only [Fe,Option.some.injEq] at ht
  subst ht
  rw [N8]
  rw [A8,List.append_nil]
  rfl
 | succ m ih=>
  intro i n acc hi hm hn ha
  obtain ⟨n,rfl⟩:∃ m,n=m+1:=⟨n-1,by omega⟩
  by_cases hlt:i<s.length
  ·have e1:A1 ((i:Int)+1)=((i+1:Nat):Int):=by rw [A4];rfl
   have e2:A1 ((i:Int)+2)=((i+2:Nat):Int):=by rw [A4];rfl
   have e3:A1 (((i+2:Nat):Int)+1)=((i+3:Nat):Int):=by rw [A4];omega
   have hal:(acc.map D4).length=acc.length:=List.length_map _
   have hrow:∀ b:UInt8,acc.map D4++[[SV.int .u8 (b.toNat:Int)]]=(acc++[b]).map D4:=λb=>by rw [List.map_append];rfl
   have q1:(((s.getD i 0).toNat:Int) != 37) = !(s.getD i 0==37):=congrArg _ (U3 _ 37 (by omega))
   rw [J1 s i hlt]
   by_cases h37:s.getD i 0=37
   ·by_cases h3:i+2<s.length
    ·rw [J1 s (i+1) (by omega),J1 s (i+1+1) (by omega),h37,Ar5]
     obtain ⟨i1,i2⟩:=ih (i+3) n (acc++[UInt8.ofNat (16*dig (s.getD (i+1) 0)+dig (s.getD (i+2) 0))]) (by omega) (by omega) (by omega) (by simp;omega)
     have top:∀ (R:Type) (k0:LL->Option R) (k1:LL->Option R),N8 LF (n+1) s (i:Int) (acc.map D4) k0 k1=cond (decide (dig (s.getD (i+1) 0)<16)&&decide (dig (s.getD (i+2) 0)<16)) (N8 LF n s ((i+3:Nat):Int) ((acc++[UInt8.ofNat (16*dig (s.getD (i+1) 0)+dig (s.getD (i+2) 0))]).map D4) k0 k1) (k0 (acc.map D4)):=by
      intro R k0 k1
      rw [N8]
      rw [A9,J3,I2,q1,h37,hal,e2,A9,e1,J3,J3,I2,I2]
      simp only [cond_true,vl,Bool.not_true,cond_false,beq_self_eq_true,VC,Pz,Am8,D3 (show acc.length+1<=68719476736 by omega),e3]
      generalize s.getD (i+1) 0=x at *
      generalize s.getD (i+2) 0=y at *
      by_cases hx:dig x<16
      ·by_cases hy:dig y<16
       ·have w1:Jg x=(dig x:Int):=by unfold Jg;rw [if_pos hx]
        have w2:Jg y=(dig y:Int):=by unfold Jg;rw [if_pos hy]
        have w3:A1 ((16:Int)*(dig x:Int))=((16*dig x:Nat):Int):=by rw [A4];omega
        have w4:A1 (((16*dig x:Nat):Int)+(dig y:Int))=((16*dig x+dig y:Nat):Int):=by rw [A4];omega
        have w5:wu8 ((16*dig x+dig y:Nat):Int)=((UInt8.ofNat (16*dig x+dig y)).toNat:Int):=by
         rw [R8]
         simp
         omega
        grind
       grind
      grind
     by_cases hd:dig (s.getD (i+1) 0)<16/\dig (s.getD (i+2) 0)<16
     ·rw [if_pos hd]
      have hc:(decide (dig (s.getD (i+1) 0)<16)&&decide (dig (s.getD (i+2) 0)<16))=true:=by rw [decide_eq_true hd.1,decide_eq_true hd.2];rfl
      refine ⟨λt ht R k0 k1=>?_,λh=>?_⟩
      ·cases hq:Fe (s.drop (i+3)) with
       | none=>rw [show i+1+1+1=i+3 from rfl,hq] at ht;cases ht
       | some q=>
        rw [show i+1+1+1=i+3 from rfl,hq] at ht
        simp only [Option.map_some,Option.some.injEq] at ht
        subst ht
        rw [top,hc,cond_true,i1 q hq,List.append_assoc]
        rfl
      ·cases hq:Fe (s.drop (i+3)) with
       | some q=>rw [show i+1+1+1=i+3 from rfl,hq] at h;cases h
       | none=>
        obtain ⟨l,e⟩:=i2 hq
        exact ⟨l,λR k0 k1=>by rw [top,hc,cond_true,e]⟩
     ·rw [if_neg hd]
      have hc:(decide (dig (s.getD (i+1) 0)<16)&&decide (dig (s.getD (i+2) 0)<16))=false:=by grind
      exact ⟨λt h=>(by cases h),λ_=>⟨_,λR k0 k1=>by rw [top,hc,cond_false]⟩⟩
    ·have hnone:Fe (s.getD i 0::s.drop (i+1))=none:=by
      rw [h37]
      cases hd:s.drop (i+1) with
      | nil=>rfl
      | cons x r=>
       cases r with
       | nil=>rfl
       | cons y r'=>
        exfalso
        have:=congrArg List.length hd
        rw [List.length_drop,List.length_cons,List.length_cons] at this
        omega
     rw [hnone]
     refine ⟨λt h=>(by cases h),λ_=>⟨acc.map D4,λR k0 k1=>?_⟩⟩
     rw [N8]
     rw [A9,J3,I2,q1,h37,e2,A8]
     rfl
   ·rw [A64 _ h37]
    obtain ⟨i1,i2⟩:=ih (i+1) n (acc++[s.getD i 0]) (by omega) (by omega) (by omega) (by simp;omega)
    have hb37:(s.getD i 0==37)=false:=by simpa using h37
    have top:∀ (R:Type) (k0:LL->Option R) (k1:LL->Option R),N8 LF (n+1) s (i:Int) (acc.map D4) k0 k1=N8 LF n s ((i+1:Nat):Int) ((acc++[s.getD i 0]).map D4) k0 k1:=by
     intro R k0 k1
     rw [N8]
     rw [A9,J3,I2,q1,hb37,hal,D3 (by omega),e1,hrow]
     rfl
    refine ⟨λt ht R k0 k1=>?_,λh=>?_⟩
    ·cases hq:Fe (s.drop (i+1)) with
     | none=>rw [hq] at ht;cases ht
     | some q=>
      rw [hq] at ht
      simp only [Option.map_some,Option.some.injEq] at ht
      subst ht
      rw [top,i1 q hq,List.append_assoc]
      rfl
    ·cases hq:Fe (s.drop (i+1)) with
     | some q=>rw [hq] at h;cases h
     | none=>
      obtain ⟨l,e⟩:=i2 hq
      exact ⟨l,λR k0 k1=>by rw [top,e]⟩
  ·rw [List.drop_of_length_le (by omega)]
   refine ⟨λt ht R k0 k1=>?_,λh=>(by cases h)⟩
   simp only [Fe,Option.some.injEq] at ht
   subst ht
   rw [N8]
   rw [A8,List.append_nil]
   rfl
theorem A15 (s:By) (h0:A3 s.length=true):∃ r H,Ao5 LF s (λr0 r1 l2=>rv (.tup [.s (.str r0),.s (.bool r1)]) [.arr false 5 1 l2])=rv r H/\
  r.stab [0,0] H = .tup [.s (.str (Bi2 s)),.s (.bool (Fe s).isSome)]:=by
 have hs:=M7 h0
 have hLF:=D7
 have hroom:((decide ((0:Int)<=(s.length:Int)))&&(D9 (Int.toNat (s.length:Int))))=true:=by
  rw [Int.toNat_natCast,D3 (by omega),decide_eq_true (by omega)];rfl
 obtain ⟨p1,p2⟩:=ZJ s hs s.length 0 LF [] (by omega) (by omega) (by omega) (by simp)
 rw [List.drop_zero] at p1 p2
 unfold Bi2
 cases hp:Fe s with
 | none=>
  obtain ⟨l,e⟩:=p2 hp
  refine ⟨.tup [.s (.str []),.s (.bool false)],[.arr false 5 1 l],?_,rfl⟩
  unfold Ao5
  rw [hroom,cond_true]
  exact e _ _ _
 | some t=>
  refine ⟨.tup [.s (.str t),.s (.bool true)],[.arr false 5 1 (t.map D4)],?_,rfl⟩
  unfold Ao5
  rw [hroom,cond_true]
  refine Eq.trans (p1 t hp _ _ _) ?_
  rw [List.nil_append,Fq,Gc]
  rfl
theorem KC {R:Type} {k0 k1:Unit->Option R}:∀ l:List By,(∀ x∈l,x.length<=1000000000)->Xg LF l k0 k1=if l.all L1 then k0 () else k1 ()
 | [],_=>rfl
 | x::r,h=>by
  rw [KB]
  unfold Uk
  rw [K2 (h x (by simp)),cond_true,List.all_cons]
  have ih:=KC (k0:=k0) (k1:=k1) r (λy hy=>h y (by simp [hy]))
  grind
theorem Bh0 (s:By) (h0:A3 s.length=true):∃ r H,hvn LF s (λ_=>rv (.s (.bool false)) [.box [.s (.bool false)]]) (λr0 b1=>rv (.s (.bool r0)) [.box [.s (.bool b1)],.box [.bad],.box [.bad],.box [.bad]])=rv r H/\r.stab [] H = .s (.bool (J0 s)):=by
 have hs:=M7 h0
 unfold hvn FZ J0
 by_cases h1:253<s.length
 ·rw [A9,show Nat.ble s.length 253=false by rw [Bool.eq_false_iff,ne_eq,Nat.ble_eq];omega]
  exact ⟨_,_,rfl,rfl⟩
 ·rw [A8,cond_false,h0,cond_true,show Nat.ble s.length 253=true by rw [Nat.ble_eq];omega]
  cases h2:O0 s with
  | true=>exact ⟨_,_,rfl,rfl⟩
  | false=>
   rw [cond_false,show ((1:Nat)==1&&(0:Int)==(0:Int))=true from rfl,show ([46]:By).getD 0 0=46 from rfl,Bool.and_true,cond_true,KC _ (λx hx=>by have:=(La hx).2;omega)]
   cases h3:(pcs 46 s).all L1 with
   | true=>exact ⟨_,_,rfl,rfl⟩
   | false=>exact ⟨_,_,rfl,rfl⟩
theorem RE {R:Type} {k0:By->By->Int->Option R} (t p:By) (n:Int):Aq3 LF t p n k0=k0 t p n:=rfl
theorem Ag1 {R:Type} {k0:By->By->Option R} (t p:By):Bi7 LF t p k0=k0 t p:=rfl
theorem ZO {R:Type} {k0:By->Option R} (t:By):Bg7 LF t k0=k0 t:=rfl
theorem YW {c:UInt8} {s:By} (h:c∉s):Lib.cut s [c]=(s,[],false):=by
 unfold Lib.cut
 rw [Mu h,if_neg (by decide)]
theorem Am5 {c:UInt8} {p r:By} (h:c∉p):Lib.cut (p++c::r) [c]=(p,r,true):=by
 unfold Lib.cut
 rw [Ru h,Bn,Int.toNat_natCast,List.take_left,List.length_singleton]
 simp_all
theorem UV {σ R:Type} (yh:Yh σ) (c:UInt8):∀ (m:Nat) (t:By) (n:Nat) (s s':σ),t.length<=m->t.length<=1000000000->m<n->Q3 yh ((pcs c t).map λx=>([.s (.str x)]:List PV)) s=some s'->
  ∃ t' , (∃ s0:σ,∃ b:Bool,yh [.s (.str t')] s0=some (b,s')/\∀ (k0 k1:By->By->Int->σ->Option R),O2 yh LF n [c] t 0 s k0 k1=k0 [c] t' 0 s0)\/(∀ (k0 k1:By->By->Int->σ->Option R),O2 yh LF n [c] t 0 s k0 k1=k1 [c] t' 0 s'):=by
 intro m
 induction m with
 | zero=>
  intro t n s s' ht ht2 hn h
  obtain rfl:=List.length_eq_zero_iff.1 (Nat.le_zero.1 ht)
  obtain ⟨n,rfl⟩:∃ m,n=m+1:=⟨n-1,by omega⟩
  rw [Jv (by simp)] at h
  simp only [List.map_cons,List.map_nil,Q3] at h
  refine ⟨[],.inl ⟨s,?_⟩⟩
  have e:∀ (k0 k1:By->By->Int->σ->Option R),O2 yh LF (n+1) [c] [] 0 s k0 k1=k0 [c] [] 0 s:=λk0 k1=>by
   rw [O2]
   rw [Mu (by simp)]
   rfl
  cases hy:yh [.s (.str [])] s with
  | none=>rw [hy] at h;cases h
  | some q=>
   obtain ⟨b,s1⟩:=q
   rw [hy] at h
   have:s1=s':=by cases b<;>simpa using h
   subst this
   exact ⟨b,rfl,e⟩
 | succ m ih=>
  intro t n s s' ht ht2 hn h
  obtain ⟨n,rfl⟩:∃ m,n=m+1:=⟨n-1,by omega⟩
  rcases Es c t with hc | ⟨p,r,rfl,hc⟩
  ·rw [Jv hc] at h
   simp only [List.map_cons,List.map_nil,Q3] at h
   refine ⟨t,.inl ⟨s,?_⟩⟩
   have e:∀ (k0 k1:By->By->Int->σ->Option R),O2 yh LF (n+1) [c] t 0 s k0 k1=k0 [c] t 0 s:=λk0 k1=>by
    rw [O2]
    rw [Mu hc,K2 ht2]
    rfl
   cases hy:yh [.s (.str t)] s with
   | none=>rw [hy] at h;cases h
   | some q=>
    obtain ⟨b,s1⟩:=q
    rw [hy] at h
    have:s1=s':=by cases b<;>simpa using h
    subst this
    exact ⟨b,rfl,e⟩
  ·rw [Up hc] at h
   simp only [List.map_cons,Q3] at h
   have hlen:(p++c::r).length=p.length+r.length+1:=by rw [List.length_append,List.length_cons];omega
   have e1:A1 ((p.length:Int)+0)=((p.length:Nat):Int):=by rw [A4];omega
   have e2:A1 ((p.length:Int)+(([c]:By).length:Int))=((p.length+1:Nat):Int):=by
    rw [E3 (by simp;omega) (by simp;omega)];simp
   have e3:cut (p++c::r) 0 (p.length:Int)=p:=by rw [Y0,Int.toNat_natCast,List.take_left]
   have e4:cut (p++c::r) ((p.length+1:Nat):Int) ((p++c::r).length:Int)=r:=by
    rw [N3,Int.toNat_natCast,show p++c::r=(p++[c])++r by simp,List.drop_left' (by simp)]
   have top:∀ (k0 k1:By->By->Int->σ->Option R),O2 yh LF (n+1) [c] (p++c::r) 0 s k0 k1=ydK (yh [.s (.str p)] s) λb s1=>cond (not b) (k1 [c] (p++c::r) 0 s1) (O2 yh LF n [c] r 0 s1 k0 k1):=λk0 k1=>by
    rw [O2]
    rw [Ru hc,K2 ht2,cond_true,A8,cond_false]
    simp only [vl,e1,e2,e3,e4]
    rw [R5,cond_true,R5]
    rfl
   cases hy:yh [.s (.str p)] s with
   | none=>rw [hy] at h;cases h
   | some q=>
    obtain ⟨b,s1⟩:=q
    rw [hy] at h top
    cases b with
    | false=>
     have:s1=s':=by simpa using h
     subst this
     exact ⟨p++c::r,.inr λk0 k1=>by rw [top];rfl⟩
    | true=>
     simp only at h
     obtain ⟨t',⟨s0,b,e,f⟩ | f⟩:=ih r n s1 s' (by omega) (by omega) (by omega) h
     ·exact ⟨t',.inl ⟨s0,b,e,λk0 k1=>by rw [top];exact f k0 k1⟩⟩
     ·exact ⟨t',.inr λk0 k1=>by rw [top];exact f k0 k1⟩
theorem UW {σ R:Type} (yh:Yh σ) (p t:By) (n:Int) (s s':σ) (h:(A3 t.length&&(p.length==1&&n==0))=true) (hr:Q3 yh ((pcs (p.getD 0 0) t).map λx=>([.s (.str x)]:List PV)) s=some s') :
  ∃ t',∀ (k0:By->By->Int->σ->Option R),MQ yh LF p t n s k0=k0 p t' n s':=by
 have hLF:=D7
 simp only [Bool.and_eq_true,beq_iff_eq] at h
 obtain ⟨h1,h2,rfl⟩:=h
 obtain ⟨c,rfl⟩:=List.length_eq_one_iff.1 h2
 have ht:=M7 h1
 obtain ⟨t',⟨s0,b,e,f⟩ | f⟩:=UV (R:=R) yh c t.length t LF s s' (Nat.le_refl _) ht (by omega) hr
 ·refine ⟨t',λk0=>?_⟩
  unfold MQ
  rw [show (((([c]:By).length:Nat):Int)==0)=false from rfl,cond_false]
  refine Eq.trans (f _ _) ?_
  rw [e]
  rfl
 ·refine ⟨t',λk0=>?_⟩
  unfold MQ
  rw [show (((([c]:By).length:Nat):Int)==0)=false from rfl,cond_false]
  exact f _ _
theorem Xf {σ R:Type} (yh:Yh σ):∀ (l:List By) (t:By) (n:Nat) (s s':σ),VN t->pcs 46 t=l->l.length<n->Q3 yh ((Kc l).map λx=>([.s (.str x)]:List PV)) s=some s'->
  ∃ t',∀ (k0:By->σ->Option R),Y1 yh LF n t s k0=k0 t' s'
 | [],t,n,s,s',hv,hp,hn,hr=>absurd hp (Yd 46 t)
 | [x],t,n,s,s',hv,hp,hn,hr=>by
  obtain ⟨n,rfl⟩:∃ m,n=m+1:=⟨n-1,by omega⟩
  simp only [Kc,List.map_nil,Q3,Option.some.injEq] at hr
  subst hr
  have hno:(46:UInt8)∉t:=by
   intro h
   have h1:=Cc 46 t
   rw [hp] at h1
   have:=List.count_pos_iff.2 h
   simp at h1
   omega
  refine ⟨t,λk0=>?_⟩
  rw [Y1]
  rw [YW hno,K2 (by have:=hv.le;omega)]
  rfl
 | x::y::r,t,n,s,s',hv,hp,hn,hr=>by
  obtain ⟨n,rfl⟩:∃ m,n=m+1:=⟨n-1,by omega⟩
  obtain ⟨q1,q2,q3⟩:=hv.super hp
  have hx:(46:UInt8)∉x:=(La (s:=t) (x:=x) (by rw [hp];simp)).1
  simp only [Kc,List.map_cons,Q3] at hr
  have top:∀ (k0:By->σ->Option R),Y1 yh LF (n+1) t s k0=ydK (yh [.s (.str (Lib.join (y::r) [46]))] s) λb s1=>cond (not b) (k0 t s1) (Y1 yh LF n (Lib.join (y::r) [46]) s1 k0):=λk0=>by
   rw [Y1]
   have:Lib.cut t [46]=(x,Lib.join (y::r) [46],true):=by rw [q1];exact Am5 hx
   rw [this,K2 (by have:=hv.le;omega)]
   rfl
  cases hy:yh [.s (.str (Lib.join (y::r) [46]))] s with
  | none=>rw [hy] at hr;cases hr
  | some q=>
   obtain ⟨b,s1⟩:=q
   rw [hy] at hr top
   cases b with
   | false=>
    have:s1=s':=by simpa using hr
    subst this
    exact ⟨t,λk0=>by rw [top];rfl⟩
   | true=>
    simp only at hr
    obtain ⟨t',f⟩:=Xf yh (y::r) (Lib.join (y::r) [46]) n s1 s' q2 q3 (by simp only [List.length_cons] at hn ⊢;omega) hr
    exact ⟨t',λk0=>by rw [top];exact f k0⟩
theorem QH {σ R:Type} (yh:Yh σ) (t:By) (s s':σ) (h:A3 t.length=true) (hr:Q3 yh ((HX t).map λx=>([.s (.str x)]:List PV)) s=some s') :
  ∃ t',∀ (k0:By->σ->Option R),JY yh LF t s k0=k0 t' s':=by
 have hLF:=D7
 have ht:=M7 h
 unfold HX at hr
 cases hv:J0 t with
 | false=>
  rw [hv] at hr
  simp only [Bool.false_eq_true,if_false,List.map_nil,Q3,Option.some.injEq] at hr
  subst hr
  refine ⟨t,λk0=>?_⟩
  unfold JY
  rw [h,hv]
  rfl
 | true=>
  rw [hv,if_pos rfl] at hr
  have hpl:=Cc 46 t
  have hcl:=Fu 46 t
  obtain ⟨t',f⟩:=Xf (R:=R) yh _ t LF s s' (VF.1 hv) rfl (by omega) hr
  refine ⟨t',λk0=>?_⟩
  unfold JY
  rw [h,hv]
  exact f _
end
section
open Go Go.Op
def Bq8 (c:Int):Bool:=c==32 || c==9
def Bn7 (c:Int):Bool:=Bq8 c || (c==10 || (c==12 || c==13))
end
section
open Go Go.Proofs
set_option maxRecDepth 100000
section
def DZ:List PV->Tr
 | [.s (.str s)]=>.ret (.s (.bool false)) []
 | _=>.fail
def Ai7 (args:List PV):Tr:=DZ (D8 [[0]] args)
def DY:List PV->Tr
 | [.s (.int .i64 n)]=>.ret (.s (.bool false)) []
 | _=>.fail
def Ai6 (args:List PV):Tr:=DY (D8 [[0]] args)
def NO:List PV->Tr
 | [.s (.str s),.s (.str p)]=>.ret (.s (.int .i64 (S8 s p))) []
 | _=>.fail
def Bd0 (args:List PV):Tr:=NO (D8 [[0],[0]] args)
def NN:List PV->Tr
 | [.s (.int .i64 n),.s (.int .i64 m)]=>.ret (.s (.int .i64 (FR n m))) []
 | _=>.fail
def Bc9 (args:List PV):Tr:=NN (D8 [[0],[0]] args)
def EB:List PV->Tr
 | [.s (.str s),.s (.str p)]=>.need (A3 (List.length s)) (.need (A3 (List.length p)) (.ret (.s (.int .i64 (O6 s p))) []))
 | _=>.fail
def Ai8 (args:List PV):Tr:=EB (D8 [[0],[0]] args)
def Bq1:List PV->Tr
 | [.agg [.s (.str h),.s (.bool b),.s (.int .i64 e)]]=>.need (A3 (List.length h)) (.ret (.s (.bool (Br0 h e))) [])
 | _=>.fail
def DP:List PV->Tr
 | [.agg [.s (.str h),.s (.bool b)]]=>.need (A3 (List.length h)) (.ret (.s (.bool (not (J0 h)))) [])
 | _=>.fail
def Ai4 (args:List PV):Tr:=DP (D8 [[0,0]] args)
def NW:List PV->Tr
 | [.agg [.s (.str h),.s (.bool b)],.s (.str s)]=>.need (A3 (List.length h)) (.need (A3 (List.length s)) (.ret (.s (.int .i64 (O6 h s))) []))
 | _=>.fail
def Bd3 (args:List PV):Tr:=NW (D8 [[0,0],[0]] args)
def DM:List PV->Tr
 | [.s (.sl l_z l_t 2 l),.s (.fn (Fn.func 58) [] [])]=>.need (List.all l B7) (.need (List.all l smE) (.need (A3 (List.length l)) (.ret (.s (.int .i64 (ixE (List.map A6 l)))) [])))
 | _=>.fail
def Ai3 (args:List PV):Tr:=DM (D8 [[2],[0]] args)
def DK:List PV->Tr
 | [.s (.sl l_z l_t 2 l),.s (.fn (Fn.func 58) [] [])]=>.need (List.all l B7) (.need (List.all l smE) (.need (A3 (List.length l)) (.ret (.s (.bool (Zk (List.map A6 l)))) [])))
 | _=>.fail
def Vb (args:List PV):Tr:=DK (D8 [[2],[0]] args)
def DJ:List PV->Tr
 | [.s (.sl l_z l_t 2 l)]=>.need (A3 (List.length l)) (.need (N0 l_z l) (.ret (.fl 0) [.arr l_z 63 2 l]))
 | _=>.fail
def Lv (args:List PV):Tr:=DJ (D8 [[2]] args)
def Lw:SV->List (List SV)->Bool × List (List SV)
 | .fn (Fn.func 62) [] [],l=>(((List.all l B7)&&((List.all l smE)&&(A3 (List.length l)))),(C4 (R4 (List.map A6 l))))
 | _,_=>(false,[])
def DI:List PV->Tr
 | [.s (.sl l_z l_t 2 l),.s (.str q),.s (.fn (Fn.func 66) [] [])]=>.need (List.all l B7) (.need (List.all l smE) (.need (A3 (List.length l)) (.need (A3 (List.length q)) (.ret (.tup [.s (.int .i64 (↑(bsI (List.map Prod.fst (List.map A6 l)) q):Int)),.s (.bool (bsB (List.map Prod.fst (List.map A6 l)) q))]) []))))
 | _=>.fail
def Ai2 (args:List PV):Tr:=DI (D8 [[2],[0],[0]] args)
def Gq:List PV->Tr
 | [.s (.sl l_z l_t 2 l)]=>.need (List.all l B7) (.need (List.all l smE) (.need (A3 (List.length l)) (.need (N0 l_z l) (.split ((H8 (List.map A6 l))==0) (.ret (.tup [.s (.sp [[.sl l_z l_z 2 (C4 (isE (List.map A6 l)))]] 0 0),.s (.int .i64 (0:Int))]) []) (.ret (.tup [.s (.nilp),.s (.int .i64 (↑(H8 (List.map A6 l)):Int))]) [])))))
 | _=>.fail
def DN (args:List PV):Tr:=Gq (D8 [[2]] args)
def DG:List PV->Tr
 | [.s (.sl l_z l_t 2 l),.s (.int .i64 n)]=>.need (List.all l B7) (.need (ltI n (1001:Int)) (.ret (.s (.bool (Fj n l))) []))
 | _=>.fail
def NU (args:List PV):Tr:=DG (D8 [[2],[0]] args)
def Bf0:List PV->Tr
 | []=>.ret (.s (.bool true)) []
 | _=>.fail
def Lt:List PV->Tr
 | []=>.ret (.s (.bool true)) []
 | _=>.fail
def Qf (args:List PV):Tr:=Lt (D8 [] args)
def Uz:List PV->Tr
 | [.s (.sl l_z l_t 2 l),.s (.sl m_z m_t 2 m)]=>.need (List.all l B7) (.need (A3 (List.length l)) (.need (List.all m B7) (.need (A3 (List.length m)) (.ret (.s (.bool ((List.map A6 l)==(List.map A6 m)))) []))))
 | _=>.fail
def DE (args:List PV):Tr:=Uz (D8 [[2],[2]] args)
def DF:List PV->Tr
 | [.s (.sl l_z l_t 2 l)]=>.need (A3 (List.length l)) (.ret (.fl 0) [.arr false 63 2 l])
 | _=>.fail
def NT (args:List PV):Tr:=DF (D8 [[2]] args)
def Vq:List PV->Tr
 | [.s (.str s),.s (.str p)]=>.need (A3 (List.length s)) (.need (A3 (List.length p)) (.ret (.s (.int .i64 (O6 s p))) []))
 | _=>.fail
def VZ (args:List PV):Tr:=Vq (D8 [[0],[0]] args)
def Vn:List PV->Tr
 | [.s (.sl l_z l_t 2 l)]=>.need (List.all l B7) (.need (List.all l smE) (.need (A3 (List.length l)) (.split ((H8 (List.map A6 l))==0) (.ret (.tup [.s (.sl (List.isEmpty (List.map A6 l)) (List.isEmpty (List.map A6 l)) 2 (C4 (isE (List.map A6 l)))),.s (.int .i64 (0:Int))]) []) (.ret (.tup [.s (.sl true true 2 []),.s (.int .i64 (↑(H8 (List.map A6 l)):Int))]) []))))
 | _=>.fail
def Ui (args:List PV):Tr:=Vn (D8 [[2]] args)
end
end
section
open Go
def Fz:List UInt8:=[32,105,110,99,108,117,100,101,45,115,117,98,100,111,109,97,105,110,115]
theorem ZI {l:List (List UInt8 × Bool)} {k:Nat} {x:List UInt8 × Bool} (h:l[k]? = some x):((l.take (k+1)).map λx=>x.1++((if x.2 then Fz else [])++[10])).flatten=((l.take k).map λx=>x.1++((if x.2 then Fz else [])++[10])).flatten++x.1++(if x.2 then Fz else [])++[10]:=by
 rw [List.take_add_one,h]
 simp [List.append_assoc]
theorem A11 (l:List (List UInt8 × Bool)) (k:Nat):((l.take k).map λx=>x.1++((if x.2 then Fz else [])++[10])).flatten.length<=(l.map λx=>x.1++((if x.2 then Fz else [])++[10])).flatten.length:=by
 conv=>rhs;rw [<-List.take_append_drop k l]
 rw [List.map_append,List.flatten_append,List.length_append]
 omega
def Q2 (l:List (List UInt8 × Bool)):List UInt8:=(l.map λx=>x.1++((if x.2 then Fz else [])++[10])).flatten
def Ba (E:List Ent):Bool:=Nat.ble (Q2 (isE E)).length 1000000000
end
section
open Go Go.Proofs
set_option maxRecDepth 100000
section
def DL:List PV->Tr
 | [.s (.sl l_z l_t 2 l)]=>.need (List.all l B7) (.need (List.all l smE) (.need (A3 (List.length l)) (.need (N0 l_z l) (.need (Ba (List.map A6 l)) (.split ((H8 (List.map A6 l))==0) (.ret (.tup [.s (.str (Q2 (isE (List.map A6 l)))),.s (.int .i64 (0:Int))]) []) (.ret (.tup [.s (.str ([]:List UInt8)),.s (.int .i64 (↑(H8 (List.map A6 l)):Int))]) []))))))
 | _=>.fail
def NV (args:List PV):Tr:=DL (D8 [[2]] args)
def Vm:List PV->Tr
 | [.s (.sl l_z l_t 2 l)]=>.need (List.all l B7) (.need (List.all l smE) (.need (A3 (List.length l)) (.need (Ba (List.map A6 l)) (.split ((H8 (List.map A6 l))==0) (.ret (.tup [.s (.str (Q2 (isE (List.map A6 l)))),.s (.int .i64 (0:Int))]) []) (.ret (.tup [.s (.str ([]:List UInt8)),.s (.int .i64 (↑(H8 (List.map A6 l)):Int))]) [])))))
 | _=>.fail
def EK (args:List PV):Tr:=Vm (D8 [[2]] args)
def Ve:List PV->Tr
 | [.s (.sl l_z l_t 2 l)]=>.need (List.all l B7) (.need (List.all l smE) (.need (A3 (List.length l)) (.need (N0 l_z l) (.split ((H8 (List.map A6 l))==0) (.ret (.tup [.ptr 0 0 0,.s (.int .i64 (0:Int))]) [.box [.fl 1],.arr l_z 63 2 (C4 (isE (List.map A6 l)))]) (.ret (.tup [.s (.nilp),.s (.int .i64 (↑(H8 (List.map A6 l)):Int))]) [])))))
 | _=>.fail
def DO (args:List PV):Tr:=Ve (D8 [[2]] args)
def Nj:List PV->List Blk->Tr
 | [.ptr 0 0 0],[.box [.fl 1],.arr z 63 2 l]=>.need (List.all l B7) (.need (A3 (List.length l)) (.need (N0 z l) (.ret (.fl 2) [.box [.fl 1],.arr z 63 2 l,.arr z 63 2 l])))
 | _,_=>.fail
def Uh:List PV->List Blk->Tr
 | [.ptr 0 0 0],[.box [.fl 1],.arr z 63 2 l]=>.need (A3 (List.length l)) (.ret (.s (.int .i64 (↑(List.length l):Int))) [.box [.fl 1],.arr z 63 2 l])
 | _,_=>.fail
end
section
variable {σ R : Type} (lf : Nat) (cl : D5) (yh : Yh σ) (s : σ) (k : Out -> St σ -> Option R)
noncomputable def Wi (lf:Nat):Cfg:=C6 lf [36] (A5 []) [(60,Lv)] (A5 [(3,[2]),(2,[2]),(1,[0,3]),(0,[0])]) [] (A5 []) (some [2]) [] [] []
noncomputable def GG {R:Type} (lf:Nat) (z:Bool) (l:LL) (k0:Bool->LL->Bool->Option R):Option R:=cond (A3 l.length) (cond (N0 (z&&(List.isEmpty l)) l) (cond ((plE l)&&true) (k0 z l (z&&(List.isEmpty l))) none) none) none
theorem Aa3 (d:Nat) (z l):evC (Wi lf) (d+1) σ yh 36 [.ptr 0 0 0] [.box [.fl 1],.arr z 63 2 l] s=GG lf z l (λz0 l1 z2=>some (.fl 2,[.box [.fl 1],.arr z0 63 2 l1,.arr z2 63 2 l1],s)):=by
 refine (evE (fn:=Tryz.f36) (by kernel_rfl)).trans ?_
 generalize evC (Wi lf) d=cl
 unfold GG;kernel_rfl
noncomputable def FI (lf:Nat):Cfg:=C6 lf [37] (A5 []) [] (A5 [(3,[2]),(2,[2]),(1,[0,3]),(0,[0])]) [] (A5 []) (some [2]) [] [] []
noncomputable def Ap8 {R:Type} (lf:Nat) (z:Bool) (l:LL) (k0:Int->Bool->LL->Option R):Option R:=k0 (l.length:Int) z l
theorem Ap9 (d:Nat) (z l):evC (FI lf) (d+1) σ yh 37 [.ptr 0 0 0] [.box [.fl 1],.arr z 63 2 l] s=Ap8 lf z l (λr0 z1 l2=>some (pI r0,[.box [.fl 1],.arr z1 63 2 l2],s)):=by
 refine (evE (fn:=Tryz.f37) (by kernel_rfl)).trans ?_
 generalize evC (FI lf) d=cl
 unfold Ap8;kernel_rfl
noncomputable abbrev WL:Code:=E1 Tryz.f35
noncomputable def Gw (lf:Nat):Cfg:=C6 lf [35] (A5 [(6,[2,0,0,1,0])]) [(27,Ui)] (A5 [(12,[2,0]),(7,[4,1,0]),(11,[4,1,0]),(10,[4,1,0]),(9,[4,1,0,25]),(8,[4,1,0]),(6,[4,1,0,11]),(5,[4,1,0]),(4,[4,1]),(3,[2,0]),(2,[4,0,8]),(1,[4,0]),(0,[0])]) [] (A5 [(0,[6]),(1,[4,1,0])]) (some [2,0]) [] [] []
noncomputable def Y8 {R:Type} (lf n:Nat) (s_z0:Bool) (s1:LL) (out2:By) (i3:Int) (k0:By->Option R):Option R:=match n with | 0=>none | n+1=>cond (ltI i3 (s1.length:Int)) (cond (inR i3 s1.length) (cond (okE Dx s1 (Int.toNat i3) 0) (cond (Nr out2.length (List.length (gX s1 (Int.toNat i3) 0))) (vl (out2++(gX s1 (Int.toNat i3) 0)) λs'5=>cond (inR i3 s1.length) (cond (okE ⟨true,false,[.bool]⟩ s1 (Int.toNat i3) 1) (cond (gY s1 (Int.toNat i3) 1) (cond (Nr s'5.length 19) (vl (s'5++[32,105,110,99,108,117,100,101,45,115,117,98,100,111,109,97,105,110,115]) λs'6=>cond (Nr s'6.length 1) (vl (s'6++[10]) λs'7=>Y8 lf n s_z0 s1 s'7 (A1 (i3+1)) k0) none) none) (cond (Nr s'5.length 1) (vl (s'5++[10]) λs'8=>Y8 lf n s_z0 s1 s'8 (A1 (i3+1)) k0) none)) none) none) none) none) none) (k0 out2)
theorem Tp (n s_z0 s1 out2 i3):D6 0 ((Gw lf).keep 6) (bd (Gw lf) cl yh (cd [1,1,1,1,0,1,0,0] WL)) n ⟨gp [(4,.s (.sl s_z0 s_z0 2 s1)),(1,pS out2),(0,pI i3)] 31,[],s⟩ k =
 Y8 lf n s_z0 s1 out2 i3 (λout0=>k (.exit 0) ⟨gp [(6,pS out0)] 32,[],s⟩):=by
 induction n generalizing s_z0 s1 out2 i3 with
 | zero=>rfl
 | succ n ih=>rw [Y8];simp only [<-ih];kernel_rfl
noncomputable def XY {R:Type} (lf:Nat) (l_z0 l_t1:Bool) (l2:LL) (k0:By->Int->Option R):Option R:=cond (List.all l2 B7) (cond (List.all l2 smE) (cond (A3 l2.length) (cond ((H8 (List.map A6 l2))==0) (vl (C4 (isE (List.map A6 l2))) λl'2=>Y8 lf lf (List.isEmpty (List.map A6 l2)) l'2 ([]:List UInt8) 0 (λout'9=>k0 out'9 0)) (vl (↑(H8 (List.map A6 l2)):Int) λn'3=>cond (n'3 != 0) (k0 ([]:List UInt8) n'3) (Y8 lf lf true [] ([]:List UInt8) 0 (λout'10=>k0 out'10 0)))) none) none) none
theorem LI (d:Nat) (l_z0 l_t1 l2):evC (Gw lf) (d+1) σ yh 35 [.s (.sl l_z0 l_t1 2 l2)] [] s=XY lf l_z0 l_t1 l2 (λr0 r1=>some (.tup [pS r0,pI r1],[],s)):=by
 refine (evE (fn:=Tryz.f35) (by kernel_rfl)).trans ?_
 generalize evC (Gw lf) d=cl
 unfold XY;exact let K0:=(G3 0 (G9 (Gw lf) cl yh (cd [1,1,1,1,1] WL) (I8 (Gw lf) Tryz.f35)));(Eq.trans (by kernel_rfl) (A0 (A0 (A0 (A0 (A7 λl'2=>((Tp lf cl yh s K0 lf (List.isEmpty (List.map A6 l2)) l'2 ([]:List UInt8) 0).trans (by kernel_rfl))) (A7 λn'3=>(A0 rfl ((Tp lf cl yh s K0 lf true [] ([]:List UInt8) 0).trans (by kernel_rfl))))) rfl) rfl) rfl))
end
section
variable {σ R : Type} (lf : Nat) (cl : D5) (yh : Yh σ) (s : σ) (k : Out -> St σ -> Option R)
noncomputable def OS (lf:Nat):Cfg:=C6 lf [33] (A5 []) [] (A5 [(1,[2]),(0,[0])]) [] (A5 []) (some [2]) [] [] []
noncomputable def A22 {R:Type} (lf:Nat) (l_z0 l_t1:Bool) (l2:LL) (k0:LL->(List Blk)->Option R):Option R:=cond (D9 (0+l2.length)) (k0 l2 []) none
theorem A23 (d:Nat) (l_z0 l_t1 l2):evC (OS lf) (d+1) σ yh 33 [.s (.sl l_z0 l_t1 2 l2)] [] s=A22 lf l_z0 l_t1 l2 (λl0 H1=>some (.fl 0,(.arr false 63 2 l0::H1),s)):=by
 refine (evE (fn:=Tryz.f33) (by kernel_rfl)).trans ?_
 generalize evC (OS lf) d=cl
 unfold A22;kernel_rfl
end
section
variable {σ R : Type} (lf : Nat) (cl : D5) (yh : Yh σ) (s : σ) (k : Out -> St σ -> Option R)
noncomputable def PA (lf:Nat):Cfg:=C6 lf [143] (A5 []) [] (A5 [(1,[2]),(0,[0])]) [] (A5 []) (some [2]) [] [] []
noncomputable def A54 {R:Type} (lf:Nat) (x0:By) (k0:Bool->Option R):Option R:=k0 (not (x0==x0))
theorem A55 (d:Nat) (x0):evC (PA lf) (d+1) σ yh 143 [pS x0] [] s=A54 lf x0 (λr0=>some (pB r0,[],s)):=by
 refine (evE (fn:=Tryz.f143) (by kernel_rfl)).trans ?_
 generalize evC (PA lf) d=cl
 unfold A54;kernel_rfl
noncomputable def OZ (lf:Nat):Cfg:=C6 lf [144] (A5 []) [] (A5 [(1,[2]),(0,[0])]) [] (A5 []) (some [2]) [] [] []
noncomputable def A52 {R:Type} (lf:Nat) (x0:Int) (k0:Bool->Option R):Option R:=k0 (x0 != x0)
theorem A53 (d:Nat) (x0):evC (OZ lf) (d+1) σ yh 144 [pI x0] [] s=A52 lf x0 (λr0=>some (pB r0,[],s)):=by
 refine (evE (fn:=Tryz.f144) (by kernel_rfl)).trans ?_
 generalize evC (OZ lf) d=cl
 unfold A52;kernel_rfl
noncomputable def Al4 (lf:Nat):Cfg:=C6 lf [98] (A5 []) [(143,Ai7)] (A5 [(13,[4]),(12,[4]),(11,[19]),(10,[4]),(9,[0,0,14]),(8,[4]),(7,[0,0,11]),(6,[4]),(5,[4]),(4,[12]),(3,[0,0,4,4]),(2,[0,0,3,0]),(1,[0,0,3]),(0,[0,0])]) [143] (A5 []) (some [4]) [] [] []
noncomputable def ccs {R:Type} (lf:Nat) (x0 y1:By) (k0:Int->Option R):Option R:=cond (bytesLess x0 y1) (k0 (-1)) (cond (not ((bytesLess x0 y1) || (x0==y1))) (k0 1) (k0 0))
theorem Bf9 (d:Nat) (x0 y1):evC (Al4 lf) (d+1) σ yh 98 [pS x0,pS y1] [] s=ccs lf x0 y1 (λr0=>some (pI r0,[],s)):=by
 refine (evE (fn:=Tryz.f98) (by kernel_rfl)).trans ?_
 generalize evC (Al4 lf) d=cl
 unfold ccs;kernel_rfl
noncomputable def Al3 (lf:Nat):Cfg:=C6 lf [99] (A5 []) [(144,Ai6)] (A5 [(13,[4]),(12,[4]),(11,[19]),(10,[4]),(9,[0,0,14]),(8,[4]),(7,[0,0,11]),(6,[4]),(5,[4]),(4,[12]),(3,[0,0,4,4]),(2,[0,0,3,0]),(1,[0,0,3]),(0,[0,0])]) [144] (A5 []) (some [4]) [] [] []
noncomputable def cci {R:Type} (lf:Nat) (x0 y1:Int) (k0:Int->Option R):Option R:=cond (ltI x0 y1) (k0 (-1)) (cond (ltI y1 x0) (k0 1) (k0 0))
theorem Bf8 (d:Nat) (x0 y1):evC (Al3 lf) (d+1) σ yh 99 [pI x0,pI y1] [] s=cci lf x0 y1 (λr0=>some (pI r0,[],s)):=by
 refine (evE (fn:=Tryz.f99) (by kernel_rfl)).trans ?_
 generalize evC (Al3 lf) d=cl
 unfold cci;kernel_rfl
noncomputable abbrev Ak9:Code:=E1 Tryz.f63
noncomputable def Mq (lf:Nat):Cfg:=C6 lf [63] (A5 [(2,[0,0,2,0,0])]) [(97,Ug),(98,Bd0),(99,Bc9)] (A5 [(8,[4]),(7,[0,0]),(6,[0,0,3,0,22]),(5,[4]),(4,[0,0,3,0,0,14]),(3,[0,0,3,0,0]),(2,[0,0,3,0]),(1,[0,0]),(0,[0,0])]) [97,98,99] (A5 [(0,[5,0]),(1,[0,0])]) (some [4]) [] [] []
noncomputable def Kz {R:Type} (lf n:Nat) (a0 b1:By) (k0:Int->Option R) (k1:Int->Int->Option R):Option R:=match n with | 0=>none | n+1=>cond (A3 a0.length) (vl (G4 (u8n (46:Int)) a0) λn'2=>cond (A3 b1.length) (vl (G4 (u8n (46:Int)) b1) λn'3=>cond (N7 (A1 (n'2+1)) (a0.length:Int) a0.length) (vl (cut a0 (A1 (n'2+1)) (a0.length:Int)) λs'6=>cond (N7 (A1 (n'3+1)) (b1.length:Int) b1.length) (vl (cut b1 (A1 (n'3+1)) (b1.length:Int)) λs'7=>cond ((S8 s'6 s'7) != 0) (k0 (S8 s'6 s'7)) (cond (ltI n'2 0) (k1 n'2 n'3) (cond (ltI n'3 0) (k1 n'2 n'3) (cond (N7 0 n'2 a0.length) (cond (N7 0 n'3 b1.length) (Kz lf n (cut a0 0 n'2) (cut b1 0 n'3) k0 k1) none) none)))) none) none) none) none
theorem RX (n a0 b1):D6 0 ((Mq lf).keep 2) (bd (Mq lf) cl yh (cd [1,0,1,1,0,0,0] Ak9)) n ⟨gp [(0,pS a0),(0,pS b1)] 39,[],s⟩ k =
 Kz lf n a0 b1 (λn0=>k .ret ⟨gp [(4,pI n0)] 36,[],s⟩) (λi0 kk1=>k (.exit 0) ⟨gp [(5,pI i0),(0,pI kk1)] 34,[],s⟩):=by
 induction n generalizing a0 b1 with
 | zero=>rfl
 | succ n ih=>rw [Kz];simp only [<-ih];kernel_rfl
noncomputable def A62 {R:Type} (lf:Nat) (a0 b1:By) (k0:Int->Option R):Option R:=Kz lf lf a0 b1 (λn'8=>k0 n'8) (λi'9 kk'10=>vl (FR (if ((0:Int)<i'9) then (0:Int) else i'9) (if ((0:Int)<kk'10) then (0:Int) else kk'10)) λn'11=>k0 n'11)
theorem A63 (d:Nat) (a0 b1):evC (Mq lf) (d+1) σ yh 63 [pS a0,pS b1] [] s=A62 lf a0 b1 (λr0=>some (pI r0,[],s)):=by
 refine (evE (fn:=Tryz.f63) (by kernel_rfl)).trans ?_
 generalize evC (Mq lf) d=cl
 unfold A62;exact (Eq.trans (by kernel_rfl) ((RX lf cl yh s (G3 0 (G9 (Mq lf) cl yh (cd [1,0,1,1,1] Ak9) (I8 (Mq lf) Tryz.f63))) lf a0 b1).trans (by kernel_rfl)))
noncomputable def OW (lf:Nat):Cfg:=C6 lf [58] (A5 []) [(59,VR)] (A5 [(1,[2]),(0,[1])]) [59] (A5 []) (some [2]) [] [] []
noncomputable def A39 {R:Type} (lf:Nat) (x0:By) (x1:Bool) (k0:Bool->By->Bool->Option R):Option R:=cond (A3 x0.length) (k0 (not (J0 x0)) x0 x1) none
theorem A40 (d:Nat) (x0 x1):evC (OW lf) (d+1) σ yh 58 [.agg [pS x0,pB x1]] [] s=A39 lf x0 x1 (λr0 s1 b2=>some (pB r0,[.box [pS s1,pB b2]],s)):=by
 refine (evE (fn:=Tryz.f58) (by kernel_rfl)).trans ?_
 generalize evC (OW lf) d=cl
 unfold A39;kernel_rfl
noncomputable def Al5 (lf:Nat):Cfg:=C6 lf [66] (A5 []) [(63,Ai8)] (A5 [(1,[4]),(0,[1,0])]) [63] (A5 []) (some [4]) [] [] []
noncomputable def lgf {R:Type} (lf:Nat) (x0:By) (x1:Bool) (name2:By) (k0:Int->By->Bool->Option R):Option R:=cond (A3 x0.length) (cond (A3 name2.length) (k0 (O6 x0 name2) x0 x1) none) none
theorem Bh5 (d:Nat) (x0 x1 name2):evC (Al5 lf) (d+1) σ yh 66 [.agg [pS x0,pB x1],pS name2] [] s=lgf lf x0 x1 name2 (λr0 s1 b2=>some (pI r0,[.box [pS s1,pB b2]],s)):=by
 refine (evE (fn:=Tryz.f66) (by kernel_rfl)).trans ?_
 generalize evC (Al5 lf) d=cl
 unfold lgf;kernel_rfl
noncomputable abbrev Ak4:Code:=E1 Tryz.f92
noncomputable def Mn (lf:Nat):Cfg:=C6 lf [92] (A5 [(2,[0,0,2,2,0])]) [(58,Ai4)] (A5 [(7,[4]),(6,[0,0,5,0]),(5,[4]),(4,[0,0,3,1,0,7]),(3,[0,0,3,1,0]),(2,[0,0,5,0,0]),(1,[0,0,5,0]),(0,[0,0])]) [58] (A5 [(0,[]),(1,[0,0,5,0])]) (some [4]) [] [] []
noncomputable def Hj {R:Type} (lf n:Nat) (s_z0 s_t1:Bool) (s2:LL) (n3 n4:Int) (k0:Int->Option R) (k1:Unit->Option R):Option R:=match n with | 0=>none | n+1=>cond (ltI n4 n3) (cond (inR n4 s2.length) (cond (okE ⟨true,true,[.str,.bool]⟩ s2 (Int.toNat n4) 0) (cond (A3 (List.length (gX s2 (Int.toNat n4) 0))) (cond (not (J0 (gX s2 (Int.toNat n4) 0))) (k0 n4) (Hj lf n s_z0 s_t1 s2 n3 (A1 (n4+1)) k0 k1)) none) none) none) (k1 ())
theorem QT (n s_z0 s_t1 s2 n3 n4):D6 0 ((Mn lf).keep 2) (bd (Mn lf) cl yh (cd [1,0,1,0,0] Ak4)) n ⟨gp [(0,.s (.sl s_z0 s_t1 2 s2)),(0,.s (.fn (Fn.func 58) [] [])),(5,pI n3),(0,pI n4)] 10,[],s⟩ k =
 Hj lf n s_z0 s_t1 s2 n3 n4 (λn0=>k .ret ⟨gp [(4,pI n0)] 14,[],s⟩) (λ_=>k (.exit 0) ⟨gp [] 19,[],s⟩):=by
 induction n generalizing s_z0 s_t1 s2 n3 n4 with
 | zero=>rfl
 | succ n ih=>rw [Hj];simp only [<-ih];kernel_rfl
noncomputable def A37 {R:Type} (lf:Nat) (l_z l_t:Bool) (l:LL) (k0:Int->Option R):Option R:=Hj lf lf l_z l_t l (l.length:Int) 0 (λn'0=>k0 n'0) (λ_=>k0 (-1))
theorem A38 (d:Nat) (l_z l_t l):evC (Mn lf) (d+1) σ yh 92 [.s (.sl l_z l_t 2 l),.s (.fn (Fn.func 58) [] [])] [] s=A37 lf l_z l_t l (λr0=>some (pI r0,[],s)):=by
 refine (evE (fn:=Tryz.f92) (by kernel_rfl)).trans ?_
 generalize evC (Mn lf) d=cl
 unfold A37;exact (Eq.trans (by kernel_rfl) ((QT lf cl yh s (G3 0 (G9 (Mn lf) cl yh (cd [1,1] Ak4) (I8 (Mn lf) Tryz.f92))) lf l_z l_t l (l.length:Int) 0).trans (by kernel_rfl)))
noncomputable def OU (lf:Nat):Cfg:=C6 lf [57] (A5 []) [(92,Ai3)] (A5 [(1,[4]),(0,[0,0])]) [92] (A5 []) (some [4]) [] [] []
noncomputable def A34 {R:Type} (lf:Nat) (l_z l_t:Bool) (l:LL) (k0:Bool->Option R):Option R:=cond (List.all l B7) (cond (List.all l smE) (cond (A3 l.length) (k0 (not (ltI (ixE (List.map A6 l)) (0:Int)))) none) none) none
theorem A35 (d:Nat) (l_z l_t l):evC (OU lf) (d+1) σ yh 57 [.s (.sl l_z l_t 2 l),.s (.fn (Fn.func 58) [] [])] [] s=A34 lf l_z l_t l (λr0=>some (pB r0,[],s)):=by
 refine (evE (fn:=Tryz.f57) (by kernel_rfl)).trans ?_
 generalize evC (OU lf) d=cl
 unfold A34;kernel_rfl
noncomputable def OT (lf:Nat):Cfg:=C6 lf [60] (A5 []) [] (A5 [(3,[2]),(2,[2]),(1,[0,3]),(0,[0])]) [] (A5 []) (some [2]) [] [] []
noncomputable def A32 {R:Type} (lf:Nat) (l_z l_t:Bool) (l:LL) (k0:Bool->LL->Option R):Option R:=cond l_z (k0 true []) (cond (D9 (0+l.length)) (k0 false l) none)
theorem A33 (d:Nat) (l_z l_t l):evC (OT lf) (d+1) σ yh 60 [.s (.sl l_z l_t 2 l)] [] s=A32 lf l_z l_t l (λz0 l1=>some (.fl 0,[.arr z0 63 2 l1],s)):=by
 refine (evE (fn:=Tryz.f60) (by kernel_rfl)).trans ?_
 generalize evC (OT lf) d=cl
 unfold A32;kernel_rfl
noncomputable abbrev Ak3:Code:=E1 Tryz.f65
noncomputable def Mm (lf:Nat):Cfg:=C6 lf [65] (A5 [(3,[0,0,0,3,0,0,0,0])]) [(66,Bd3)] (A5 [(8,[6,0]),(6,[0,0,0,5,0,0]),(7,[0,0,0,5,0,0]),(5,[0,0,0,5,0,0,0,19]),(4,[0,0,0,5,0,0,0]),(3,[0,0,0,5,0,0,6]),(2,[0,0,0,5,0,0]),(1,[0,0,0,5]),(0,[0,0,0])]) [66] (A5 [(0,[0,0,0,5,0]),(1,[0,0,0,5,0,0])]) (some [6,0]) [] [] []
noncomputable def Eh {R:Type} (lf n:Nat) (x_z0 x_t1:Bool) (x2:LL) (target3:By) (n4 i5 j6:Int) (k0:Bool->Bool->LL->By->Int->Int->Option R):Option R:=match n with | 0=>none | n+1=>cond (ltI i5 j6) (vl (Au2 .u64 (Av9 (A1 (i5+j6))) (1:Int)) λn'1=>cond (inR (A1 n'1) x2.length) (cond (okE ⟨true,true,[.str,.bool]⟩ x2 (Int.toNat (A1 n'1)) 0) (vl (gX x2 (Int.toNat (A1 n'1)) 0) λs'2=>cond (A3 s'2.length) (cond (A3 target3.length) (cond (ltI (O6 s'2 target3) (0:Int)) (vl (A1 ((A1 n'1)+1)) λn'3=>Eh lf n x_z0 x_t1 x2 target3 n4 n'3 j6 k0) (Eh lf n x_z0 x_t1 x2 target3 n4 i5 (A1 n'1) k0)) none) none) none) none) (k0 x_z0 x_t1 x2 target3 n4 i5)
theorem QP (n x_z0 x_t1 x2 target3 n4 i5 j6):D6 0 ((Mm lf).keep 3) (bd (Mm lf) cl yh (cd [1,1,1,0,0,0] Ak3)) n ⟨gp [(0,.s (.sl x_z0 x_t1 2 x2)),(0,pS target3),(0,.s (.fn (Fn.func 66) [] [])),(5,pI n4),(0,pI i5),(0,pI j6)] 38,[],s⟩ k =
 Eh lf n x_z0 x_t1 x2 target3 n4 i5 j6 (λx_z0 x_t1 x2 target3 n4 i5=>k (.exit 0) ⟨gp [(0,.s (.sl x_z0 x_t1 2 x2)),(0,pS target3),(0,.s (.fn (Fn.func 66) [] [])),(5,pI n4),(0,pI i5)] 39,[],s⟩):=by
 induction n generalizing x_z0 x_t1 x2 target3 n4 i5 j6 with
 | zero=>rfl
 | succ n ih=>rw [Eh];simp only [<-ih];kernel_rfl
noncomputable def A30 {R:Type} (lf:Nat) (l_z l_t:Bool) (l:LL) (q:By) (k0:Int->Bool->Option R):Option R:=Eh lf lf l_z l_t l q (l.length:Int) 0 (l.length:Int) (λx_z'4 x_t'5 x'6 target'7 n'8 i'9=>cond (ltI i'9 n'8) (cond (inR i'9 x'6.length) (cond (okE ⟨true,true,[.str,.bool]⟩ x'6 (Int.toNat i'9) 0) (vl (gX x'6 (Int.toNat i'9) 0) λs'10=>cond (A3 s'10.length) (cond (A3 target'7.length) (k0 i'9 ((O6 s'10 target'7)==0)) none) none) none) none) (k0 i'9 false))
theorem A31 (d:Nat) (l_z l_t l q):evC (Mm lf) (d+1) σ yh 65 [.s (.sl l_z l_t 2 l),pS q,.s (.fn (Fn.func 66) [] [])] [] s=A30 lf l_z l_t l q (λr0 r1=>some (.tup [pI r0,pB r1],[],s)):=by
 refine (evE (fn:=Tryz.f65) (by kernel_rfl)).trans ?_
 generalize evC (Mm lf) d=cl
 unfold A30;exact (Eq.trans (by kernel_rfl) ((QP lf cl yh s (G3 0 (G9 (Mm lf) cl yh (cd [1,1,1,1] Ak3) (I8 (Mm lf) Tryz.f65))) lf l_z l_t l q (l.length:Int) 0 (l.length:Int)).trans (by kernel_rfl)))
end
end
section
open Go Go.Op
set_option maxRecDepth 100000
theorem Ab7 {R:Type} {k0:Bool->Option R} (s:By):A54 LF s k0=k0 false:=by unfold A54;simp
theorem Ab6 {R:Type} {k0:Bool->Option R} (n:Int):A52 LF n k0=k0 false:=by unfold A52;simp
theorem Al9 {R:Type} {k0:Int->Option R} (a b:By):ccs LF a b k0=k0 (S8 a b):=by
 unfold ccs S8
 cases h:bytesLess a b with
 | true=>rfl
 | false=>
  have e:(not (false || a==b))=bytesLess b a:=by
   rw [S6] at h ⊢
   have h:=of_decide_eq_false h
   by_cases hab:a=b
   ·subst hab;simp
   ·have:b<a:=by
     apply Decidable.byContradiction
     intro g
     exact hab (List.le_antisymm (List.not_lt.1 g) (List.not_lt.1 h))
    simp [hab,this]
  rw [e]
  cases bytesLess b a<;>rfl
theorem Al8 {R:Type} {k0:Int->Option R} (a b:Int):cci LF a b k0=k0 (FR a b):=by
 unfold cci FR
 cases ltI a b<;>cases ltI b a<;>rfl
theorem Ag:∀ s:By,((46:UInt8)∉s/\G4 46 s = -1)\/∃ p q,s=p++46::q/\(46:UInt8)∉q/\G4 46 s=(p.length:Int)
 | []=>.inl ⟨by simp,rfl⟩
 | b::r=>by
  rcases Ag r with ⟨h1,h2⟩ | ⟨p,q,h1,h2,h3⟩
  ·by_cases hb:b=46
   ·exact .inr ⟨[],r,by rw [hb];rfl,h1,by unfold G4;rw [h2,if_pos (by decide),if_pos hb];rfl⟩
   ·exact .inl ⟨by simp [h1];exact λe=>hb e.symm,by unfold G4;rw [h2,if_pos (by decide),if_neg hb]⟩
  ·refine .inr ⟨b::p,q,by rw [h1];rfl,h2,?_⟩
   unfold G4
   rw [h3,H7]
   simp
theorem Ym {s:By} (h:(46:UInt8)∉s):rl s=[s]:=by
 unfold rl pcs
 rw [Cj 46 s [] h]
 rfl
theorem Yn (p:By) {q:By} (h:(46:UInt8)∉q):rl (p++46::q)=q::rl p:=by
 unfold rl pcs
 rw [Hw,Cj 46 q [] h,List.reverse_append]
 rfl
theorem XX (s:By):rl s≠[]:=by
 unfold rl
 simpa using Yd 46 s
theorem S9 {a b:By} (h:S8 a b=0):a=b:=by
 unfold S8 at h
 cases h1:bytesLess a b with
 | true=>rw [h1] at h;cases h
 | false=>
  cases h2:bytesLess b a with
  | true=>rw [h1,h2] at h;cases h
  | false=>
   rw [S6] at h1 h2
   exact List.le_antisymm (List.not_lt.1 (of_decide_eq_false h2)) (List.not_lt.1 (of_decide_eq_false h1))
theorem Qw (a:By):bytesLess a a=false:=by rw [S6];simp
def Nt (x y:List By):Int:=cond (Xt x y) (-1) (cond (Xt y x) 1 0)
theorem L8 {a b:By} {x y:List By} (h:S8 a b≠0):Nt (a::x) (b::y)=S8 a b:=by
 have hne:a≠b:=λe=>h (by rw [e];unfold S8;rw [Qw];rfl)
 have e1:(a==b)=false:=by simpa using hne
 have e2:(b==a)=false:=by simpa using Ne.symm hne
 unfold Nt S8
 simp only [Xt,e1,e2,Bool.false_and,Bool.or_false]
theorem L7 {a:By} {x y:List By}:Nt (a::x) (a::y)=Nt x y:=by
 unfold Nt
 simp only [Xt,Qw,beq_self_eq_true,Bool.true_and,Bool.false_or]
theorem BO {R:Type} {k0:Int->Option R}:∀ (n:Nat) (a b:By),a.length<=1000000000->b.length<=1000000000->a.length<n->
  Kz LF n a b k0 (λi k=>k0 (FR (if ((0:Int)<i) then (0:Int) else i) (if ((0:Int)<k) then (0:Int) else k)))=k0 (O6 a b)
 | 0,a,b,_,_,h=>by omega
 | n+1,a,b,ha,hb,h=>by
  have e46:u8n (46:Int)=46:=rfl
  have hcmp:∀ x y:By,O6 x y=Nt (rl x) (rl y):=λx y=>rfl
  rw [Kz]
  simp only [vl,e46]
  rw [K2 ha,K2 hb,cond_true,cond_true,hcmp]
  rcases Ag a with ⟨a1,a2⟩ | ⟨p,q,rfl,a1,a2⟩<;>rcases Ag b with ⟨b1,b2⟩ | ⟨p',q',rfl,b1,b2⟩<;>rw [a2,b2]
  ·have e1:cut a (A1 (-1+1)) (a.length:Int)=a:=by rw [A4,N3];rfl
   have e2:cut b (A1 (-1+1)) (b.length:Int)=b:=by rw [A4,N3];rfl
   rw [e1,e2,R5 (by rw [A4];omega) (by rw [A4];omega),R5 (by rw [A4];omega) (by rw [A4];omega),cond_true,cond_true,Ym a1,Ym b1]
   by_cases hc:S8 a b=0
   ·rw [show (S8 a b != 0)=false by rw [hc];rfl,cond_false,A9,cond_true,S9 hc,L7];rfl
   ·rw [show (S8 a b != 0)=true by simpa using hc,cond_true,L8 hc]
  ·have e1:cut a (A1 (-1+1)) (a.length:Int)=a:=by rw [A4,N3];rfl
   have e2:cut (p'++46::q') (A1 ((p'.length:Int)+1)) ((p'++46::q').length:Int)=q':=by
    simp only [List.length_append,List.length_cons] at hb
    rw [A4,N3,show (((p'.length:Int)+1).toNat)=p'.length+1 by omega]
    simp
   have hl:(p'++46::q').length=p'.length+(q'.length+1):=by simp
   rw [e1,e2,R5 (by rw [A4];omega) (by rw [A4];omega),R5 (by rw [A4];omega) (by rw [A4];omega),cond_true,cond_true,Ym a1,Yn p' b1]
   by_cases hc:S8 a q'=0
   ·rw [show (S8 a q' != 0)=false by rw [hc];rfl,cond_false,A9,cond_true,S9 hc,L7,H7]
    have e3:(if (0:Int)<(p'.length:Int) then (0:Int) else (p'.length:Int))=0:=by split<;>omega
    rw [e3]
    have:Nt [] (rl p') = -1:=by
     unfold Nt
     cases hr:rl p' with
     | nil=>exact absurd hr (XX p')
     | cons x r=>rfl
    rw [this];rfl
   ·rw [show (S8 a q' != 0)=true by simpa using hc,cond_true,L8 hc]
  ·have e1:cut (p++46::q) (A1 ((p.length:Int)+1)) ((p++46::q).length:Int)=q:=by
    simp only [List.length_append,List.length_cons] at ha
    rw [A4,N3,show (((p.length:Int)+1).toNat)=p.length+1 by omega]
    simp
   have e2:cut b (A1 (-1+1)) (b.length:Int)=b:=by rw [A4,N3];rfl
   have hl:(p++46::q).length=p.length+(q.length+1):=by simp
   rw [e1,e2,R5 (by rw [A4];omega) (by rw [A4];omega),R5 (by rw [A4];omega) (by rw [A4];omega),cond_true,cond_true,Ym b1,Yn p a1]
   by_cases hc:S8 q b=0
   ·rw [show (S8 q b != 0)=false by rw [hc];rfl,cond_false,A8,cond_false,A9,cond_true,S9 hc,L7]
    have e3:(if (0:Int)<(p.length:Int) then (0:Int) else (p.length:Int))=0:=by split<;>omega
    rw [e3,H7]
    have:Nt (rl p) []=1:=by
     unfold Nt
     cases hr:rl p with
     | nil=>exact absurd hr (XX p)
     | cons x r=>rfl
    rw [this];rfl
   ·rw [show (S8 q b != 0)=true by simpa using hc,cond_true,L8 hc]
  ·have e1:cut (p++46::q) (A1 ((p.length:Int)+1)) ((p++46::q).length:Int)=q:=by
    simp only [List.length_append,List.length_cons] at ha
    rw [A4,N3,show (((p.length:Int)+1).toNat)=p.length+1 by omega]
    simp
   have e2:cut (p'++46::q') (A1 ((p'.length:Int)+1)) ((p'++46::q').length:Int)=q':=by
    simp only [List.length_append,List.length_cons] at hb
    rw [A4,N3,show (((p'.length:Int)+1).toNat)=p'.length+1 by omega]
    simp
   have hl:(p++46::q).length=p.length+(q.length+1):=by simp
   have hl':(p'++46::q').length=p'.length+(q'.length+1):=by simp
   rw [e1,e2,R5 (by rw [A4];omega) (by rw [A4];omega),R5 (by rw [A4];omega) (by rw [A4];omega),cond_true,cond_true,Yn p a1,Yn p' b1]
   by_cases hc:S8 q q'=0
   ·rw [show (S8 q q' != 0)=false by rw [hc];rfl,cond_false,A8,cond_false,A8,cond_false,R5,cond_true,R5,cond_true,S9 hc,L7,Y0,Y0,Int.toNat_natCast,Int.toNat_natCast,List.take_left,List.take_left,BO n p p' (by omega) (by omega) (by omega)]
    rfl
   ·rw [show (S8 q q' != 0)=true by simpa using hc,cond_true,L8 hc]
theorem Ac5 {R:Type} {k0:Int->Option R} (a b:By) (h0:A3 a.length=true) (h1:A3 b.length=true):A62 LF a b k0=k0 (O6 a b):=by
 have hLF:=D7
 have ha:=M7 h0
 unfold A62
 exact BO LF a b ha (M7 h1) (by omega)
theorem A41 (h:By) (b:Bool) (h0:A3 h.length=true):∃ r H,A39 LF h b (λr0 s1 b2=>rv (.s (.bool r0)) [.box [.s (.str s1),.s (.bool b2)]])=rv r H/\r.stab [] H = .s (.bool (not (J0 h))):=by
 unfold A39
 rw [h0]
 exact ⟨_,_,rfl,rfl⟩
theorem Bh6 (h:By) (b:Bool) (s:By) (h0:A3 h.length=true) (h1:A3 s.length=true):∃ r H,lgf LF h b s (λr0 s1 b2=>rv (.s (.int .i64 r0)) [.box [.s (.str s1),.s (.bool b2)]])=rv r H/\r.stab [] H = .s (.int .i64 (O6 h s)):=by
 unfold lgf
 rw [h0,h1]
 exact ⟨_,_,rfl,rfl⟩
theorem Aa4 {R:Type} (z t:Bool) (l:List Ent) (hs:(C4 l).all smE=true) (k0:Int->Option R) (k1:Unit->Option R) (hl:l.length<=1000000000):∀ (r i m:Nat),i+r=l.length->r<m->
  Hj LF m z t (C4 l) (l.length:Int) (i:Int) k0 k1=match (l.drop i).findIdx? (λe=>!J0 e.1) with | some j=>k0 ((i+j:Nat):Int) | none=>k1 ():=by
 intro r
 induction r with
 | zero=>
  intro i m hi hm
  obtain ⟨m,rfl⟩:∃ q,m=q+1:=⟨m-1,by omega⟩
  rw [Hj,A8,List.drop_of_length_le (by omega)]
  rfl
 | succ r ih=>
  intro i m hi hm
  obtain ⟨m,rfl⟩:∃ q,m=q+1:=⟨m-1,by omega⟩
  have e1:A1 ((i:Int)+1)=((i+1:Nat):Int):=by rw [A4];rfl
  have hd:l.drop i=l.getD i noE::l.drop (i+1):=by
   rw [List.getD_eq_getElem?_getD,List.getElem?_eq_getElem (by omega),Option.getD_some,List.getElem_cons_drop]
  rw [Hj,A9,I6 (by omega) (by rw [B3];omega),Int.toNat_natCast,Hn (by omega),T9 (by omega),Hv hs (by omega),e1,hd,List.findIdx?_cons]
  simp only [cond_true]
  cases J0 (l.getD i noE).1 with
  | false=>simp
  | true=>
   rw [Bool.not_true,cond_false,ih (i+1) m (by omega) (by omega)]
   cases (l.drop (i+1)).findIdx? (λe=>!J0 e.1) with
   | none=>rfl
   | some j=>simp [Nat.add_assoc,Nat.add_comm 1 j]
theorem Aa5 {R:Type} {k0:Int->Option R} (z t:Bool) (l:LL) (h0:l.all B7=true) (h1:l.all smE=true) (h2:A3 l.length=true):A37 LF z t l k0=k0 (ixE (l.map A6)):=by
 have hLF:=D7
 have hl:=M7 h2
 rw [Bx h0] at h1 hl ⊢
 generalize l.map A6=q at h1 hl ⊢
 rw [B3] at hl
 unfold A37 ixE
 rw [B3,Uj]
 refine (Aa4 z t q h1 _ _ hl q.length 0 LF (by omega) (by omega)).trans ?_
 rw [List.drop_zero]
 cases q.findIdx? (λe=>!J0 e.1) with
 | none=>rfl
 | some j=>
  show k0 ((0+j:Nat):Int)=k0 (j:Int)
  rw [Nat.zero_add]
theorem Bh4 (l:List Ent):(!ltI (ixE l) 0)=Zk l:=by
 unfold ixE Zk
 cases h:l.findIdx? (λe=>!J0 e.1) with
 | none=>
  rw [List.findIdx?_eq_none_iff] at h
  show (!ltI (-1) 0)=_
  rw [A9]
  exact (List.any_eq_false.2 λx hx=>by rw [h x hx];simp).symm
 | some j=>
  show (!ltI (j:Int) 0)=_
  rw [A8]
  exact (List.any_eq_true.2 (by
   obtain ⟨hj,hp,_⟩:=List.findIdx?_eq_some_iff_getElem.1 h
   exact ⟨_,List.getElem_mem hj,hp⟩)).symm
theorem Aa0 {R:Type} {k0:Bool->Option R} (z t:Bool) (l:LL) (h0:l.all B7=true) (h1:l.all smE=true) (h2:A3 l.length=true):A34 LF z t l k0=k0 (Zk (l.map A6)):=by
 unfold A34
 rw [h0,h1,h2,<-Bh4]
 rfl
theorem RN {z:Bool} {l:LL} (h:N0 z l=true) (hz:z=true):l=[]:=by
 subst hz
 simpa [N0] using h
theorem ZZ {R:Type} {k0:Bool->LL->Option R} (z t:Bool) (l:LL) (h0:A3 l.length=true) (h1:N0 z l=true):A32 LF z t l k0=k0 z l:=by
 unfold A32
 cases z with
 | true=>rw [RN h1 rfl];rfl
 | false=>
  have:=M7 h0
  rw [D3 (by omega)]
  rfl
theorem Bq7 {a b:Nat} (h:a+b<=4000000000):A1 (Au2 .u64 (Av9 (A1 ((a:Int)+(b:Int)))) 1)=(((a+b) / 2:Nat):Int):=by
 have e1:A1 ((a:Int)+(b:Int))=((a+b:Nat):Int):=by rw [A4];omega
 have e2:Av9 ((a+b:Nat):Int)=((a+b:Nat):Int):=YI (by omega) (by omega)
 have e3:Au2 .u64 ((a+b:Nat):Int) 1=(((a+b) / 2:Nat):Int):=A94 .u64 (a+b) 1 (by decide)
 rw [e1,e2,e3,A4]
theorem BF {R:Type} (z t:Bool) (l:List Ent) (s:By) (hs:(C4 l).all smE=true) (h1:A3 s.length=true) (n:Int) (k0:Bool->Bool->LL->By->Int->Int->Option R) (hl:l.length<=1000000000):∀ (r i j m:Nat),j-i<=r->i<=j->j<=l.length->r<m->
  Eh LF m z t (C4 l) s n (i:Int) (j:Int) k0=k0 z t (C4 l) s n ((Wh (λi=>O6 ((l.map Prod.fst).getD i []) s) (r+1) i j:Nat):Int):=by
 intro r
 induction r with
 | zero=>
  intro i j m hr hi hj hm
  obtain ⟨m,rfl⟩:∃ q,m=q+1:=⟨m-1,by omega⟩
  rw [Eh,A8]
  unfold Wh
  rw [H7]
  rfl
 | succ r ih=>
  intro i j m hr hi hj hm
  obtain ⟨m,rfl⟩:∃ q,m=q+1:=⟨m-1,by omega⟩
  rw [Eh]
  by_cases hij:i<j
  ·have hh:(i+j) / 2<l.length:=by omega
   rw [A9,Wh,if_pos hij]
   simp only [vl,cond_true]
   rw [Bq7 (by omega),I6 (by omega) (by rw [B3];omega),Int.toNat_natCast,Hn hh,T9 hh,Hv hs hh,h1,XD Prod.fst (d:=noE) hh]
   simp only [cond_true]
   have e1:A1 ((((i+j) / 2:Nat):Int)+1)=(((i+j) / 2+1:Nat):Int):=by rw [A4];rfl
   by_cases hc:O6 (l.getD ((i+j) / 2) noE).1 s<0
   ·rw [B9 hc,cond_true,if_pos hc,e1,ih _ _ m (by omega) (by omega) hj (by omega)]
   ·rw [C9 (by omega),cond_false,if_neg hc,ih _ _ m (by omega) (by omega) (by omega) (by omega)]
  ·rw [A8,Wh,if_neg hij]
   rfl
theorem ZY {R:Type} {k0:Int->Bool->Option R} (z t:Bool) (l:LL) (s:By) (h0:l.all B7=true) (h1:l.all smE=true) (h2:A3 l.length=true) (h3:A3 s.length=true) :
  A30 LF z t l s k0=k0 (bsI ((l.map A6).map Prod.fst) s:Int) (bsB ((l.map A6).map Prod.fst) s):=by
 have hLF:=D7
 have hl:=M7 h2
 rw [Bx h0] at h1 hl ⊢
 generalize l.map A6=q at h1 hl ⊢
 rw [B3] at hl
 unfold A30
 rw [B3,Uj]
 have hlo:=BF (R:=R) z t q s h1 h3 (q.length:Int)
 refine (BF z t q s h1 h3 _ _ hl q.length 0 q.length LF (by omega) (by omega) (by omega) (by omega)).trans ?_
 have hle:=(FD (λi=>O6 ((q.map Prod.fst).getD i []) s) (q.length+1) 0 q.length (by omega)).2
 have e:bsI (q.map Prod.fst) s=Wh (λi=>O6 ((q.map Prod.fst).getD i []) s) (q.length+1) 0 q.length:=by unfold bsI;rw [List.length_map]
 rw [<-e] at hle ⊢
 unfold bsB
 generalize bsI (q.map Prod.fst) s=i at hle ⊢
 rw [List.length_map]
 by_cases hi:i<q.length
 ·simp only [vl]
  rw [A9,I6 (by omega) (by rw [B3];omega),Int.toNat_natCast,Hn hi,T9 hi,Hv h1 hi,h3,show Nat.blt i q.length=true from WQ.2 hi,XD Prod.fst (d:=noE) hi,YU]
  rfl
 ·rw [A8,show Nat.blt i q.length=false by cases hb:Nat.blt i q.length with | false=>rfl | true=>exact absurd (WQ.1 hb) hi]
  rfl
theorem Au3 {l:List Ent} (h:(C4 l).all smE=true):∀ e∈l,e.1.length<=1000000000:=λe he=>by
 have:=List.all_eq_true.1 h (Mt e) (List.mem_map.2 ⟨e,he,rfl⟩)
 exact M7 this
end
section
open Go Go.Proofs
set_option maxRecDepth 100000
section
variable {σ R : Type} (lf : Nat) (cl : D5) (yh : Yh σ) (s : σ) (k : Out -> St σ -> Option R)
noncomputable abbrev Ak5:Code:=E1 Tryz.f26
noncomputable def Jb (lf:Nat):Cfg:=C6 lf [26] (A5 [(8,[2,0,0,0])]) [(57,Vb),(60,Lv)] (A5 [(12,[2,0]),(9,[4,0]),(11,[2,0]),(10,[4,0,26]),(8,[4,0,12]),(7,[4,0]),(6,[4]),(5,[4]),(4,[2,0]),(3,[0,9]),(2,[2,0]),(1,[0,7]),(0,[0])]) [57] (A5 [(0,[4]),(1,[4,0])]) (some [2,0]) [] [] [] (nt:=[(105,0,63,2)]) (Z:=[(61,Lw)])
noncomputable def An {R:Type} (lf n:Nat) (i0:Int) (z1:Bool) (l2:LL) (k0:(List Blk)->Option R) (k1:Bool->LL->Option R):Option R:=match n with | 0=>none | n+1=>cond (ltI i0 (l2.length:Int)) (cond (inR i0 l2.length) (cond (okE Dx l2 (Int.toNat i0) 0) (cond (inR (A1 (i0-1)) l2.length) (cond (okE Dx l2 (Int.toNat (A1 (i0-1))) 0) (vl (gX l2 (Int.toNat (A1 (i0-1))) 0) λs'0=>cond ((gX l2 (Int.toNat i0) 0)==s'0) (k0 [(Blk.arr z1 63 2 l2)]) (An lf n (A1 (i0+1)) z1 l2 k0 k1)) none) none) none) none) (k1 z1 l2)
theorem QW (n i0 z1 l2):D6 1 ((Jb lf).keep 8) (bd (Jb lf) cl yh (cd [1,1,1,1,1,0,1,0,0] Ak5)) n ⟨gp [(4,.fl 0),(0,pI i0)] 30,[.arr z1 63 2 l2],s⟩ k =
 An lf n i0 z1 l2 (λH0=>k .ret ⟨gp [(2,.s (.nilp)),(0,pI (17:Int))] 32,H0,s⟩) (λz0 l1=>k (.exit 0) ⟨gp [(4,.fl 0)] 31,[.arr z0 63 2 l1],s⟩):=by
 induction n generalizing i0 z1 l2 with
 | zero=>rfl
 | succ n ih=>rw [An];simp only [<-ih];kernel_rfl
noncomputable def Aa6 {R:Type} (lf:Nat) (l_z0 l_t1:Bool) (l2:LL) (k0:Int->(List Blk)->Option R) (k1:Bool->LL->(List Blk)->Option R):Option R:=cond (ltI 1000 (l2.length:Int)) (k0 3 []) (cond (List.all l2 B7) (cond (List.all l2 smE) (cond (A3 l2.length) (cond (Zk (List.map A6 l2)) (k0 14 []) (cond (A3 l2.length) (cond (N0 l_z0 l2) (cond ((List.all l2 B7)&&((List.all l2 smE)&&(A3 l2.length))) (An lf lf 1 l_z0 (C4 (R4 (List.map A6 l2))) (λH'1=>k0 17 H'1) (λz'2 l'3=>k1 z'2 l'3 [])) none) none) none)) none) none) none)
theorem Ul (d:Nat) (l_z0 l_t1 l2):evC (Jb lf) (d+1) σ yh 26 [.s (.sl l_z0 l_t1 2 l2)] [] s=Aa6 lf l_z0 l_t1 l2 (λr0 H1=>some (.tup [.s (.nilp),pI r0],H1,s)) (λz0 l1 H2=>some (.tup [.ptr 1 0 0,pI (0:Int)],(.arr z0 63 2 l1::.box [.fl 0]::H2),s)):=by
 refine (evE (fn:=Tryz.f26) (by kernel_rfl)).trans ?_
 generalize evC (Jb lf) d=cl
 unfold Aa6;exact (Eq.trans (by kernel_rfl) (A0 rfl (A0 (A0 (A0 (A0 rfl (A0 (A0 (A0 ((QW lf cl yh s (G3 0 (G9 (Jb lf) cl yh (cd [1,1,1,1,1,1] Ak5) (I8 (Jb lf) Tryz.f26))) lf 1 l_z0 (C4 (R4 (List.map A6 l2)))).trans (by kernel_rfl)) rfl) rfl) rfl)) rfl) rfl) rfl)))
noncomputable abbrev Aq0 (l_z0 l_t1:Bool) (l2:LL):Option (PV × List Blk × Unit):=Aa6 LF l_z0 l_t1 l2 (λr0 H1=>some (.tup [.s (.nilp),pI r0],H1,())) (λz0 l1 H2=>some (.tup [.ptr 1 0 0,pI (0:Int)],(.arr z0 63 2 l1::.box [.fl 0]::H2),()))
end
end
section
open Go Go.Op
set_option maxRecDepth 100000
theorem U5 {l:List Ent} {i:Nat} (h:i<l.length):okE Dx (C4 l) i 0=true:=by unfold okE;rw [Fv h];simp [h,okS,Mt,SV.has,Dx]
theorem P0 {α:Type} (d:α) {l:List α} {i:Nat} (h:i<l.length):l.drop i=l.getD i d::l.drop (i+1):=by
 rw [List.getD_eq_getElem?_getD,List.getElem?_eq_getElem h,Option.getD_some,List.getElem_cons_drop]
theorem BH {R:Type} (z:Bool) (S:List Ent) (k0:List Blk->Option R) (k1:Bool->LL->Option R) (hl:S.length<=1000000000):∀ (r j m:Nat),j+1+r=S.length->r<m->
  An LF m ((j+1:Nat):Int) z (C4 S) k0 k1=if EY (S.drop j) then k0 [.arr z 63 2 (C4 S)] else k1 z (C4 S)
 | 0,j,m,hj,hm=>by
  obtain ⟨m,rfl⟩:∃ q,m=q+1:=⟨m-1,by omega⟩
  rw [An,C9 (by rw [B3];omega),P0 noE (by omega),List.drop_of_length_le (i:=j+1) (by omega)]
  rfl
 | r+1,j,m,hj,hm=>by
  obtain ⟨m,rfl⟩:∃ q,m=q+1:=⟨m-1,by omega⟩
  have e1:A1 (((j+1:Nat):Int)-1)=(j:Int):=by rw [A4];omega
  have e2:A1 (((j+1:Nat):Int)+1)=((j+1+1:Nat):Int):=by rw [A4];rfl
  rw [An,B9 (by rw [B3];omega),I6 (by omega) (by rw [B3];omega),Int.toNat_natCast,U5 (by omega),e1,I6 (by omega) (by rw [B3];omega),Int.toNat_natCast,U5 (by omega),T9 (by omega),T9 (by omega),e2]
  simp only [cond_true,vl]
  rw [P0 noE (by omega:j<S.length),P0 noE (by omega:j+1<S.length)]
  unfold EY
  cases hq:((S.getD (j+1) noE).1==(S.getD j noE).1) with
  | true=>rfl
  | false=>
   rw [cond_false,BH z S k0 k1 hl r (j+1) m (by omega) (by omega),P0 noE (by omega:j+1<S.length),Bool.false_or]
theorem Ks {R:Type} {k0:Int->List Blk->Option R} {k1:Bool->LL->List Blk->Option R} (z t:Bool) (l:LL) (h0:l.all B7=true) (h1:l.all smE=true) (h2:A3 l.length=true) (hz:N0 z l=true) :
  (H8 (l.map A6)=0->Aa6 LF z t l k0 k1=k1 z (C4 (isE (l.map A6))) [])/\(H8 (l.map A6)≠0->∃ H,Aa6 LF z t l k0 k1=k0 (H8 (l.map A6):Nat) H):=by
 have hLF:=D7
 have hl:=M7 h2
 have hr:=Bx h0
 generalize hE:l.map A6=E at hr
 subst hr
 rw [B3] at hl
 have hs:=Au3 h1
 have hp:=(Dw hs).length_eq
 unfold Aa6 H8
 rw [Uj] at hE ⊢
 by_cases c1:1000<E.length
 ·rw [B9 (by rw [B3];omega),if_pos c1]
  exact ⟨λh=>(by cases h),λ_=>⟨_,rfl⟩⟩
 ·rw [C9 (by rw [B3];omega),if_neg c1,cond_false,h0,h1,h2]
  simp only [cond_true,Bool.and_self]
  cases c2:Zk E with
  | true=>exact ⟨λh=>(by cases h),λ_=>⟨_,rfl⟩⟩
  | false=>
   rw [hz]
   simp only [cond_true,cond_false,Bool.false_eq_true,if_false]
   have key:An LF LF 1 z (C4 (R4 E)) (λH=>k0 17 H) (λz l=>k1 z l [])=if Ri (E.map Prod.fst) then k0 17 [.arr z 63 2 (C4 (R4 E))] else k1 z (C4 (R4 E)) []:=by
    rw [<-Aj6 hs]
    by_cases c0:E.length=0
    ·have e0:R4 E=[]:=List.eq_nil_of_length_eq_zero (by omega)
     rw [e0]
     obtain ⟨m,hm⟩:∃ q,LF=q+1:=⟨LF-1,by omega⟩
     have:∀ m,m=LF->An LF m 1 z (C4 []) (λH=>k0 17 H) (λz l=>k1 z l [])=k1 z (C4 []) []:=λm' hm'=>by
      obtain ⟨q,rfl⟩:∃ q,m'=q+1:=⟨m'-1,by omega⟩
      rw [An];rfl
     exact this LF rfl
    ·exact BH z (R4 E) (λH=>k0 17 H) (λz l=>k1 z l []) (by omega) (E.length-1) 0 LF (by omega) (by omega)
   rw [key]
   cases c3:Ri (E.map Prod.fst) with
   | true=>exact ⟨λh=>(by cases h),λ_=>⟨_,rfl⟩⟩
   | false=>
    rw [Af7 hs c3]
    exact ⟨λ_=>rfl,λh=>absurd rfl h⟩
theorem XH (z t:Bool) (l:LL) (h0:l.all B7=true) (h1:l.all smE=true) (h2:A3 l.length=true) (hz:N0 z l=true) {b:Bool} (hb:(H8 (l.map A6)==0)=b) :
  ∃ r H,Aq0 z t l=rv r H/\r.stabQ [0,0] [2] H=cond b (.tup [.s (.sp [[.sl z z 2 (C4 (isE (l.map A6)))]] 0 0),pI 0]) (.tup [.s .nilp,pI (H8 (l.map A6):Nat)]):=by
 unfold Aq0
 cases b with
 | true=>
  refine ⟨_,_,(Ks z t l h0 h1 h2 hz).1 (eq_of_beq hb),?_⟩
  have hzz:(z&&(C4 (isE (l.map A6))).isEmpty)=z:=by
   cases z with
   | false=>rfl
   | true=>rw [RN hz rfl];rfl
  show PV.tup [.s (.sp [[.sl (z&&(C4 (isE (l.map A6))).isEmpty) (z&&(C4 (isE (l.map A6))).isEmpty) 2 (C4 (isE (l.map A6)))]] 0 0),pI 0]=_
  rw [hzz];rfl
 | false=>
  obtain ⟨H,e⟩:=(Ks z t l h0 h1 h2 hz).2 (by simpa using hb)
  exact ⟨_,_,e,rfl⟩
theorem An3 (l:List Ent):(C4 l).all B7=true:=by
 rw [List.all_eq_true]
 intro x hx
 obtain ⟨e,_,rfl⟩:=List.mem_map.1 hx
 rfl
theorem ZT {l:LL} (h:A3 l.length=true):A3 (C4 (isE (l.map A6))).length=true:=by
 rw [B3,(Y2 _).length_eq,List.length_map]
 exact h
end
section
open Go Go.Proofs
set_option maxRecDepth 100000
theorem An4 {l:LL} (h:l.all B7=true):plE l=true:=by
 rw [Bx h]
 unfold plE
 rw [List.all_eq_true]
 intro x hx
 obtain ⟨q,_,rfl⟩:=List.mem_map.1 hx
 rfl
theorem A57 {z:Bool} {l:LL} (h:N0 z l=true):(z&&l.isEmpty)=z:=by
 cases z with
 | false=>rfl
 | true=>rw [RN h rfl];rfl
theorem KM {R:Type} {k0:Bool->LL->Bool->Option R} (z:Bool) (l:LL) (h0:l.all B7=true) (h1:A3 l.length=true) (h2:N0 z l=true):GG LF z l k0=k0 z l z:=by
 unfold GG
 rw [h1,A57 h2,h2,An4 h0]
 rfl
theorem QU {R:Type} {k0:Int->Bool->LL->Option R} (z:Bool) (l:LL) (h1:A3 l.length=true):Ap8 LF z l k0=k0 (l.length:Nat) z l:=rfl
theorem ZV {R:Type} {k0:LL->List Blk->Option R} (z t:Bool) (l:LL) (h0:A3 l.length=true):A22 LF z t l k0=k0 l []:=by
 have:=M7 h0
 unfold A22
 rw [D3 (by omega)]
 rfl
theorem Ns {m n:Nat} (h:m+n<4611686018427387904:=by omega):Nr m n=true:=WR h
theorem Yo {R:Type} (z:Bool) (S:List Ent) (k0:By->Option R) (hS:S.length<=1000000000):∀ (r i m:Nat) (out:By),i+r=S.length->r<m->(out++Q2 (S.drop i)).length<=1000000000->
  Y8 LF m z (C4 S) out (i:Int) k0=k0 (out++Q2 (S.drop i))
 | 0,i,m,out,hi,hm,hl=>by
  obtain ⟨m,rfl⟩:∃ q,m=q+1:=⟨m-1,by omega⟩
  rw [Y8,C9 (by rw [B3];omega),List.drop_of_length_le (by omega),show Q2 []=[] from rfl,List.append_nil]
  rfl
 | r+1,i,m,out,hi,hm,hl=>by
  obtain ⟨m,rfl⟩:∃ q,m=q+1:=⟨m-1,by omega⟩
  have ha:i<S.length:=by omega
  have e2:A1 ((i:Int)+1)=((i+1:Nat):Int):=by rw [A4];rfl
  have hin:inR (i:Int) (C4 S).length=true:=I6 (by omega) (by rw [B3];omega)
  have oB:okE ⟨true,false,[.bool]⟩ (C4 S) i 1=true:=by unfold okE;rw [Fv ha];simp [ha,okS,Mt,SV.has]
  have hd:Q2 (S.drop i)=(S.getD i noE).1++((if (S.getD i noE).2 then Fz else [])++[10])++Q2 (S.drop (i+1)):=by
   rw [P0 noE ha]
   simp [Q2]
  rw [hd] at hl ⊢
  rw [Y8,B9 (by rw [B3];omega)]
  simp only [hin,Int.toNat_natCast,U5 ha,oB,T9 ha,Xc ha,e2,cond_true,vl]
  generalize S.getD i noE=x at hl ⊢
  obtain ⟨xh,xb⟩:=x
  have ih:=λout hl=>Yo z S k0 hS r (i+1) m out (by omega) (by omega) hl
  simp only [List.length_append] at hl
  cases xb with
  | false=>
   simp only [cond_false,Bool.false_eq_true,if_false,List.length_nil,List.length_singleton] at hl ⊢
   rw [Ns,Ns (by simp only [List.length_append];omega),cond_true,cond_true,ih _ (by simp only [List.length_append,List.length_singleton];omega)]
   simp [List.append_assoc]
  | true=>
   have q19:Fz.length=19:=rfl
   simp only [if_true,q19,List.length_singleton] at hl
   simp only [cond_true,if_true]
   rw [Ns,Ns (by simp only [List.length_append];omega),show ([32,105,110,99,108,117,100,101,45,115,117,98,100,111,109,97,105,110,115]:By)=Fz from rfl,Ns (by simp only [List.length_append,q19];omega),cond_true,cond_true,cond_true,ih _ (by simp only [List.length_append,List.length_singleton,q19];omega)]
   simp [List.append_assoc]
theorem LJ (z t:Bool) (l:LL) (h0:l.all B7=true) (h1:l.all smE=true) (h2:A3 l.length=true) (h3:Ba (l.map A6)=true) {b:Bool} (hb:(H8 (l.map A6)==0)=b) :
  ∃ r H,XY LF z t l (λr0 r1=>rv (.tup [pS r0,pI r1]) [])=rv r H/\r.stab [0,0] H=cond b (.tup [pS (Q2 (isE (l.map A6))),pI 0]) (.tup [pS [],pI (H8 (l.map A6):Nat)]):=by
 have hLF:=D7
 have hl:=M7 h2
 have hlen:(isE (l.map A6)).length=l.length:=by rw [(Y2 _).length_eq,List.length_map]
 unfold XY
 rw [h0,h1,h2,hb]
 simp only [cond_true,vl]
 cases b with
 | true=>
  rw [cond_true,show (0:Int)=((0:Nat):Int) from rfl,Yo _ (isE (l.map A6)) _ (by omega) (isE (l.map A6)).length 0 LF [] (by omega) (by omega) (by rw [List.drop_zero,List.nil_append];exact Nat.le_of_ble_eq_true h3)]
  exact ⟨_,_,rfl,rfl⟩
 | false=>
  have:H8 (l.map A6)≠0:=by simpa using hb
  rw [cond_false,show (((H8 (l.map A6):Nat):Int) != 0)=true by rw [bne_iff_ne];omega]
  exact ⟨_,_,rfl,rfl⟩
section
variable {σ R : Type} (lf : Nat) (cl : D5) (yh : Yh σ) (s : σ) (k : Out -> St σ -> Option R)
noncomputable def Ld {R:Type} (lf n:Nat) (l_z0 l_t1:Bool) (l2:LL) (name3:By) (i4:Int) (s5:By) (b6:Bool) (k0:By->Bool->Option R):Option R:=match n with | 0=>none | n+1=>cond (ltI i4 (l2.length:Int)) (cond (inR i4 l2.length) (cond (okE ⟨true,true,[.str,.bool]⟩ l2 (Int.toNat i4) 0) (cond (A3 (List.length (gX l2 (Int.toNat i4) 0))) (cond (A3 name3.length) (cond (Az5 name3 (Bo1 (gX l2 (Int.toNat i4) 0) (gY l2 (Int.toNat i4) 1))) (cond (inR i4 l2.length) (cond (okE Dx l2 (Int.toNat i4) 0) (cond (ltI (s5.length:Int) (↑(List.length (gX l2 (Int.toNat i4) 0)):Int)) (cond (inR i4 l2.length) (cond (okE ⟨true,true,[.str,.bool]⟩ l2 (Int.toNat i4) 0) (Ld lf n l_z0 l_t1 l2 name3 (A1 (i4+1)) (gX l2 (Int.toNat i4) 0) (gY l2 (Int.toNat i4) 1) k0) none) none) (Ld lf n l_z0 l_t1 l2 name3 (A1 (i4+1)) s5 b6 k0)) none) none) (Ld lf n l_z0 l_t1 l2 name3 (A1 (i4+1)) s5 b6 k0)) none) none) none) none) (k0 s5 b6)
noncomputable abbrev Ak2:Code:=E1 Tryz.f12
noncomputable def Ml (lf:Nat):Cfg:=C6 lf [12] (A5 [(4,[0,3,0])]) [] (A5 [(8,[4]),(5,[0,4]),(7,[4]),(6,[0,4,16]),(4,[0,4,7]),(3,[0,4]),(2,[4]),(1,[0,8]),(0,[0,0])]) [] (A5 [(0,[]),(1,[0,4])]) (some [4]) [] [] []
noncomputable def Hi {R:Type} (lf n:Nat) (l_z0 l_t1:Bool) (l2:LL) (i3:Int) (k0:Unit->Option R) (k1:Unit->Option R):Option R:=match n with | 0=>none | n+1=>cond (ltI i3 (l2.length:Int)) (cond (inR i3 l2.length) (cond (okE Dx l2 (Int.toNat i3) 0) (cond (ltI 300 (↑(List.length (gX l2 (Int.toNat i3) 0)):Int)) (k0 ()) (Hi lf n l_z0 l_t1 l2 (A1 (i3+1)) k0 k1)) none) none) (k1 ())
theorem QK (n l_z0 l_t1 l2 i3):D6 0 ((Ml lf).keep 4) (bd (Ml lf) cl yh (cd [1,1,0,1,0,0] Ak2)) n ⟨gp [(0,.s (.sl l_z0 l_t1 2 l2)),(4,pI i3)] 17,[],s⟩ k =
 Hi lf n l_z0 l_t1 l2 i3 (λ_=>k .ret ⟨gp [(4,pB false)] 18,[],s⟩) (λ_=>k (.exit 0) ⟨gp [] 23,[],s⟩):=by
 induction n generalizing l_z0 l_t1 l2 i3 with
 | zero=>rfl
 | succ n ih=>rw [Hi];simp only [<-ih];kernel_rfl
noncomputable def A24 {R:Type} (lf:Nat) (l_z0 l_t1:Bool) (l2:LL) (n3:Int) (k0:Bool->Option R):Option R:=cond (ltI n3 (l2.length:Int)) (k0 false) (Hi lf lf l_z0 l_t1 l2 0 (λ_=>k0 false) (λ_=>k0 true))
theorem A25 (d:Nat) (l_z0 l_t1 l2 n3):evC (Ml lf) (d+1) σ yh 12 [.s (.sl l_z0 l_t1 2 l2),pI n3] [] s=A24 lf l_z0 l_t1 l2 n3 (λr0=>some (pB r0,[],s)):=by
 refine (evE (fn:=Tryz.f12) (by kernel_rfl)).trans ?_
 generalize evC (Ml lf) d=cl
 unfold A24;exact (Eq.trans (by kernel_rfl) (A0 rfl ((QK lf cl yh s (G3 0 (G9 (Ml lf) cl yh (cd [1,1,1] Ak2) (I8 (Ml lf) Tryz.f12))) lf l_z0 l_t1 l2 0).trans (by kernel_rfl))))
end
def Tru (x:Option (PV × List Blk × Unit)):Prop:=∃ H,x=some (.s (.bool true),H,())
theorem An5 {els:LL} (h:∀ el∈els,Ty.ofL [.str,.bool] el):els.all B7=true:=by
 rw [List.all_eq_true]
 intro el he
 have:=h el he
 simp only [Ty.ofL,Ty.of] at this
 obtain ⟨_,_,rfl,⟨l,rfl,_⟩,_,_,rfl,⟨b,rfl⟩,rfl⟩:=this
 rfl
theorem Aj8 {P:Program} {t:Nat} {v:PV} (h:AC P t v) (e:Gn P 20 t=some [.slice [.str,.bool]]) (ha:Sq P t=false):∃ z l,v = .s (.sl z false 2 l)/\l.all B7=true/\N0 z l=true:=by
 obtain ⟨x,rfl,h5⟩:=Ay9 h e ha
 simp only [Ty.of,List.length_cons,List.length_nil] at h5
 rcases h5 with rfl | ⟨els,rfl,hl,hall⟩
 ·exact ⟨true,[],rfl,rfl,rfl⟩
 ·exact ⟨false,els,rfl,An5 hall,rfl⟩
theorem Af6 {n:Int} {l:LL} (hn:n<=1000) (h:Fj n l=true):l.all smE=true/\A3 l.length=true:=by
 unfold Fj at h
 rw [Bool.and_eq_true,List.all_eq_true] at h
 refine ⟨List.all_eq_true.2 λel he=>?_,?_⟩
 ·have:=h.2 el he
  rw [Y5] at this
  unfold smE
  exact K2 (by simp at this;omega)
 ·have:=h.1
  rw [Y5] at this
  exact K2 (by simp at this;omega)
end
section
open Go Go.Op
set_option maxRecDepth 100000
theorem Ae2 {R:Type} (z t:Bool) (E:List Ent) (s:By) (k0:By->Bool->Option R) (hs:(C4 E).all smE=true) (h1:A3 s.length=true) (hl:E.length<=1000000000):∀ (r i m:Nat) (b:Ent),i+r=E.length->r<m->
  Ld LF m z t (C4 E) s (i:Int) b.1 b.2 k0=k0 ((E.drop i).foldl (λb e=>if Az5 s e&&Nat.blt b.1.length e.1.length then e else b) b).1 ((E.drop i).foldl (λb e=>if Az5 s e&&Nat.blt b.1.length e.1.length then e else b) b).2
 | 0,i,m,b,hi,hm=>by
  obtain ⟨m,rfl⟩:∃ q,m=q+1:=⟨m-1,by omega⟩
  rw [Ld,C9 (by rw [B3];omega),List.drop_of_length_le (by omega)]
  rfl
 | r+1,i,m,b,hi,hm=>by
  obtain ⟨m,rfl⟩:∃ q,m=q+1:=⟨m-1,by omega⟩
  have hlt:i<E.length:=by omega
  have e2:A1 ((i:Int)+1)=((i+1:Nat):Int):=by rw [A4];rfl
  rw [Ld,B9 (by rw [B3];omega),I6 (by omega) (by rw [B3];omega),Int.toNat_natCast,Hn hlt,U5 hlt,T9 hlt,Xc hlt,Hv hs hlt,h1,e2,P0 noE hlt,List.foldl_cons]
  simp only [cond_true]
  have ih:=λb=>Ae2 z t E s k0 hs h1 hl r (i+1) m b (by omega) (by omega)
  have eb:ltI (b.1.length:Int) ((E.getD i noE).1.length:Int)=Nat.blt b.1.length (E.getD i noE).1.length:=by
   rw [Y5,Bool.eq_iff_iff,decide_eq_true_eq,Nat.blt_eq]
   omega
  rw [eb,show Bo1 (E.getD i noE).1 (E.getD i noE).2=E.getD i noE from rfl]
  cases c1:Az5 s (E.getD i noE) with
  | false=>exact ih b
  | true=>
   cases c2:Nat.blt b.1.length (E.getD i noE).1.length with
   | false=>exact ih b
   | true=>exact ih (E.getD i noE)
theorem BD {R:Type} (z t:Bool) (T:List Ent) (k0 k1:Unit->Option R) (hl:T.length<=1000000000):∀ (r i m:Nat),i+r=T.length->r<m->
  Hi LF m z t (C4 T) (i:Int) k0 k1=cond ((C4 (T.drop i)).all λel=>!ltI 300 (elS el).length) (k1 ()) (k0 ())
 | 0,i,m,hi,hm=>by
  obtain ⟨m,rfl⟩:∃ q,m=q+1:=⟨m-1,by omega⟩
  rw [Hi,C9 (by rw [B3];omega),List.drop_of_length_le (by omega)]
  rfl
 | r+1,i,m,hi,hm=>by
  obtain ⟨m,rfl⟩:∃ q,m=q+1:=⟨m-1,by omega⟩
  have hlt:i<T.length:=by omega
  have e2:A1 ((i:Int)+1)=((i+1:Nat):Int):=by rw [A4];rfl
  rw [Hi,B9 (by rw [B3];omega),I6 (by omega) (by rw [B3];omega),Int.toNat_natCast,U5 hlt,T9 hlt,e2,BD z t T k0 k1 hl r (i+1) m (by omega) (by omega),P0 noE hlt]
  simp only [cond_true]
  show _=cond ((!ltI 300 ((T.getD i noE).1.length:Nat))&&(C4 (T.drop (i+1))).all λel=>!ltI 300 (elS el).length) (k1 ()) (k0 ())
  cases ltI 300 ((T.getD i noE).1.length:Nat)<;>rfl
theorem ZW {R:Type} {k0:Bool->Option R} (z t:Bool) (l:LL) (n:Int) (h0:l.all B7=true) (hn:ltI n 1001=true):A24 LF z t l n k0=k0 (Fj n l):=by
 have hLF:=D7
 rw [Y5,decide_eq_true_eq] at hn
 have hr:=Bx h0
 generalize hE:l.map A6=T at hr
 subst hr
 unfold A24 Fj
 cases c:ltI n ((C4 T).length:Nat) with
 | true=>rfl
 | false=>
  rw [Y5,decide_eq_false_iff_not,B3] at c
  have:=BD z t T (λ_=>k0 false) (λ_=>k0 true) (by omega) T.length 0 LF (by omega) (by omega)
  rw [List.drop_zero] at this
  refine this.trans ?_
  rw [Bool.not_false,Bool.true_and]
  cases (C4 T).all λel=>!ltI 300 (elS el).length<;>rfl
end
section
open Go
def Ap7 (x:Ent):By:=x.1++(if x.2 then Fz else [])
theorem Xb:∀ {l:List Ent},(∀ x∈l,x.1.length<=300)->(Q2 l).length<=320*l.length
 | [],_=>by simp [Q2]
 | x::r,h=>by
  have e:Q2 (x::r)=Ap7 x++10::Q2 r:=by simp [Q2,Ap7,List.append_assoc]
  have h1:=h x (by simp)
  have h2:(Q2 r).length<=320*r.length:=Xb λy hy=>h y (by simp [hy])
  have h3:(if x.2 then Fz else []).length<=19:=by cases x.2<;>simp [Fz]
  rw [e,List.length_append,List.length_cons,List.length_cons]
  unfold Ap7
  rw [List.length_append]
  omega
end
section
open Go Go.Proofs
set_option maxRecDepth 100000
theorem Za {n:Int} {l:LL} (h:Fj n l=true):(l.length:Int)<=n/\∀ x∈l.map A6,x.1.length<=300:=by
 unfold Fj at h
 rw [Bool.and_eq_true,List.all_eq_true] at h
 obtain ⟨h1,h2⟩:=h
 refine ⟨by rw [Y5] at h1;simp at h1;omega,λx hx=>?_⟩
 obtain ⟨el,he,rfl⟩:=List.mem_map.1 hx
 have:=h2 el he
 rw [Y5] at this
 have e:(A6 el).1=elS el:=rfl
 rw [e]
 simp at this
 omega
theorem Ao0 {l:LL} (h:Fj 60 l=true):(Q2 (isE (l.map A6))).length<=19200/\Ba (l.map A6)=true:=by
 obtain ⟨h1,h2⟩:=Za h
 have h3:=Xb (l:=isE (l.map A6)) λx hx=>h2 x (XB.1 hx)
 rw [(Y2 _).length_eq,List.length_map] at h3
 have h4:(Q2 (isE (l.map A6))).length<=19200:=by omega
 exact ⟨h4,by unfold Ba;rw [Nat.ble_eq];omega⟩
section
variable {σ R : Type} (lf : Nat) (cl : D5) (yh : Yh σ) (s : σ) (k : Out -> St σ -> Option R)
noncomputable abbrev Ak7:Code:=E1 Tryz.f9
noncomputable def Jc (lf:Nat):Cfg:=C6 lf [9] (A5 [(13,[2,0,0,1,5])]) [(12,NU),(22,Qf),(33,NT),(26,DO),(27,Ui),(34,NV),(35,EK),(25,DE)] (A5 [(16,[2]),(14,[3,0,1,5]),(15,[3,0,1,5]),(13,[3,0,1,5,55]),(12,[3,0,1,5]),(11,[2]),(10,[3,0,1,52]),(9,[2]),(8,[3,0,0,0,50]),(7,[0,2,0,0,0,0,0,0,0,0]),(6,[0,2,0,0,0,0,0,0]),(5,[0,2,0,0,0,0]),(4,[0,2,0,0]),(3,[0,2]),(2,[2]),(1,[0,14]),(0,[0])]) [12,22,34,35,25] (A5 [(0,[4,1]),(1,[3,0,1,5])]) (some [2]) [(36,Nj),(37,Uh)] [] [36,37]
noncomputable def V7 {R:Type} (lf n:Nat) (m_z0:Bool) (m1:LL) (i2:Int) (l3 l4:LL) (k0:Bool->LL->LL->LL->Option R):Option R:=match n with | 0=>none | n+1=>cond (ltI i2 (l3.length:Int)) (cond (inR i2 l3.length) (cond (decide ((Int.toNat i2)<l3.length)) (vl (List.set l3 (Int.toNat i2) (F1 (List.getD l3 (Int.toNat i2) []) 0 [(SV.str ([]:List UInt8)),(SV.bool false)])) λl'60=>V7 lf n m_z0 m1 (A1 (i2+1)) l'60 l4 k0) none) none) (k0 m_z0 m1 l3 l4)
theorem X2 (n m_z0 m1 i2 l3 l4):D6 3 ((Jc lf).keep 13) (bd (Jc lf) cl yh (cd [1,1,1,1,1,1,1,1,1,0,1,0,0] Ak7)) n ⟨gp [(3,.fl 0),(0,.ptr 1 0 0),(1,.s (.sl m_z0 m_z0 2 m1)),(5,pI i2)] 80,[.arr false 63 2 l3,.box [.fl 2],.arr false 63 2 l4],s⟩ k =
 V7 lf n m_z0 m1 i2 l3 l4 (λm_z0 m1 l2 l3=>k (.exit 0) ⟨gp [(4,.ptr 1 0 0),(1,.s (.sl m_z0 m_z0 2 m1))] 86,[.arr false 63 2 l2,.box [.fl 2],.arr false 63 2 l3],s⟩):=by
 induction n generalizing m_z0 m1 i2 l3 l4 with
 | zero=>rfl
 | succ n ih=>rw [V7];simp only [<-ih];kernel_rfl
noncomputable def Dh {R:Type} (lf n:Nat) (m_z0:Bool) (m1:LL) (i2:Int) (l3:LL) (k0:Bool->LL->LL->Option R):Option R:=match n with | 0=>none | n+1=>cond (ltI i2 (l3.length:Int)) (cond (inR i2 l3.length) (cond (decide ((Int.toNat i2)<l3.length)) (vl (List.set l3 (Int.toNat i2) (F1 (List.getD l3 (Int.toNat i2) []) 0 [(SV.str ([]:List UInt8)),(SV.bool false)])) λl'101=>Dh lf n m_z0 m1 (A1 (i2+1)) l'101 k0) none) none) (k0 m_z0 m1 l3)
theorem X3 (n m_z0 m1 i2 l3):D6 1 ((Jc lf).keep 13) (bd (Jc lf) cl yh (cd [1,1,1,1,1,1,1,1,1,0,1,0,0] Ak7)) n ⟨gp [(3,.fl 0),(0,.s (.nilp)),(1,.s (.sl m_z0 m_z0 2 m1)),(5,pI i2)] 80,[.arr false 63 2 l3],s⟩ k =
 Dh lf n m_z0 m1 i2 l3 (λm_z0 m1 l2=>k (.exit 0) ⟨gp [(4,.s (.nilp)),(1,.s (.sl m_z0 m_z0 2 m1))] 86,[.arr false 63 2 l2],s⟩):=by
 induction n generalizing m_z0 m1 i2 l3 with
 | zero=>rfl
 | succ n ih=>rw [Dh];simp only [<-ih];kernel_rfl
noncomputable def lpn {R:Type} (lf:Nat) (l_z0 l_t1:Bool) (l2:LL) (k0:Bool->(List Blk)->Option R):Option R:=cond (List.all l2 B7) (cond (ltI 60 1001) (cond (not (Fj (60:Int) l2)) (k0 true []) (cond (A3 l2.length) (cond (List.all l2 B7) (cond (List.all l2 smE) (cond (A3 l2.length) (cond (N0 false l2) (cond ((H8 (List.map A6 l2))==0) (vl (C4 (isE (List.map A6 l2))) λl'2=>cond ((plE l'2)&&true) (cond (List.all l2 B7) (cond (List.all l2 smE) (cond (A3 l2.length) (cond ((H8 (List.map A6 l2))==0) (vl (C4 (isE (List.map A6 l2))) λl'5=>cond (List.all l2 B7) (cond (List.all l2 smE) (cond (A3 l2.length) (cond (N0 false l2) (cond (Ba (List.map A6 l2)) (cond ((H8 (List.map A6 l2))==0) (vl (Q2 (isE (List.map A6 l2))) λs'8=>cond (List.all l2 B7) (cond (List.all l2 smE) (cond (A3 l2.length) (cond (Ba (List.map A6 l2)) (cond ((H8 (List.map A6 l2))==0) (vl (Q2 (isE (List.map A6 l2))) λs'11=>cond (not (s'8==s'11)) (k0 false [(Blk.arr false 63 2 l2),(Blk.box [(PV.fl 2)]),(Blk.arr false 63 2 l'2)]) (cond (List.all l2 B7) (cond (A3 l2.length) (cond (List.all l2 B7) (cond (A3 l2.length) (cond (not ((List.map A6 l2)==(List.map A6 l2))) (k0 false [(Blk.arr false 63 2 l2),(Blk.box [(PV.fl 2)]),(Blk.arr false 63 2 l'2)]) (V7 lf lf (List.isEmpty (List.map A6 l2)) l'5 0 l2 l'2 (λm_z'61 m'62 l'63 l'64=>cond (List.all l'64 B7) (cond (A3 l'64.length) (cond (N0 false l'64) (cond (List.all l'64 B7) (cond (A3 l'64.length) (cond (List.all m'62 B7) (cond (A3 m'62.length) (cond ((List.map A6 l'64)==(List.map A6 m'62)) (cond (A3 l'64.length) (vl (l'64.length:Int) λn'65=>cond (n'65==(m'62.length:Int)) (k0 true [(Blk.arr false 63 2 l'63),(Blk.box [(PV.fl 2)]),(Blk.arr false 63 2 l'64)]) (k0 false [(Blk.arr false 63 2 l'63),(Blk.box [(PV.fl 2)]),(Blk.arr false 63 2 l'64)])) none) (k0 false [(Blk.arr false 63 2 l'63),(Blk.box [(PV.fl 2)]),(Blk.arr false 63 2 l'64)])) none) none) none) none) none) none) none))) none) none) none) none)) (vl (↑(H8 (List.map A6 l2)):Int) λn'12=>cond (not (s'8==[])) (k0 false [(Blk.arr false 63 2 l2),(Blk.box [(PV.fl 2)]),(Blk.arr false 63 2 l'2)]) (cond ((0:Int) != n'12) (k0 false [(Blk.arr false 63 2 l2),(Blk.box [(PV.fl 2)]),(Blk.arr false 63 2 l'2)]) (cond (List.all l2 B7) (cond (A3 l2.length) (cond (List.all l2 B7) (cond (A3 l2.length) (cond (not ((List.map A6 l2)==(List.map A6 l2))) (k0 false [(Blk.arr false 63 2 l2),(Blk.box [(PV.fl 2)]),(Blk.arr false 63 2 l'2)]) (V7 lf lf (List.isEmpty (List.map A6 l2)) l'5 0 l2 l'2 (λm_z'66 m'67 l'68 l'69=>cond (List.all l'69 B7) (cond (A3 l'69.length) (cond (N0 false l'69) (cond (List.all l'69 B7) (cond (A3 l'69.length) (cond (List.all m'67 B7) (cond (A3 m'67.length) (cond ((List.map A6 l'69)==(List.map A6 m'67)) (cond (A3 l'69.length) (vl (l'69.length:Int) λn'70=>cond (n'70==(m'67.length:Int)) (k0 true [(Blk.arr false 63 2 l'68),(Blk.box [(PV.fl 2)]),(Blk.arr false 63 2 l'69)]) (k0 false [(Blk.arr false 63 2 l'68),(Blk.box [(PV.fl 2)]),(Blk.arr false 63 2 l'69)])) none) (k0 false [(Blk.arr false 63 2 l'68),(Blk.box [(PV.fl 2)]),(Blk.arr false 63 2 l'69)])) none) none) none) none) none) none) none))) none) none) none) none)))) none) none) none) none) (vl (↑(H8 (List.map A6 l2)):Int) λn'13=>cond (List.all l2 B7) (cond (List.all l2 smE) (cond (A3 l2.length) (cond (Ba (List.map A6 l2)) (cond ((H8 (List.map A6 l2))==0) (vl (Q2 (isE (List.map A6 l2))) λs'16=>cond (not (([]:List UInt8)==s'16)) (k0 false [(Blk.arr false 63 2 l2),(Blk.box [(PV.fl 2)]),(Blk.arr false 63 2 l'2)]) (cond (n'13 != 0) (k0 false [(Blk.arr false 63 2 l2),(Blk.box [(PV.fl 2)]),(Blk.arr false 63 2 l'2)]) (cond (List.all l2 B7) (cond (A3 l2.length) (cond (List.all l2 B7) (cond (A3 l2.length) (cond (not ((List.map A6 l2)==(List.map A6 l2))) (k0 false [(Blk.arr false 63 2 l2),(Blk.box [(PV.fl 2)]),(Blk.arr false 63 2 l'2)]) (V7 lf lf (List.isEmpty (List.map A6 l2)) l'5 0 l2 l'2 (λm_z'71 m'72 l'73 l'74=>cond (List.all l'74 B7) (cond (A3 l'74.length) (cond (N0 false l'74) (cond (List.all l'74 B7) (cond (A3 l'74.length) (cond (List.all m'72 B7) (cond (A3 m'72.length) (cond ((List.map A6 l'74)==(List.map A6 m'72)) (cond (A3 l'74.length) (vl (l'74.length:Int) λn'75=>cond (n'75==(m'72.length:Int)) (k0 true [(Blk.arr false 63 2 l'73),(Blk.box [(PV.fl 2)]),(Blk.arr false 63 2 l'74)]) (k0 false [(Blk.arr false 63 2 l'73),(Blk.box [(PV.fl 2)]),(Blk.arr false 63 2 l'74)])) none) (k0 false [(Blk.arr false 63 2 l'73),(Blk.box [(PV.fl 2)]),(Blk.arr false 63 2 l'74)])) none) none) none) none) none) none) none))) none) none) none) none))) (vl (↑(H8 (List.map A6 l2)):Int) λn'17=>cond (n'13 != n'17) (k0 false [(Blk.arr false 63 2 l2),(Blk.box [(PV.fl 2)]),(Blk.arr false 63 2 l'2)]) (cond (List.all l2 B7) (cond (A3 l2.length) (cond (List.all l2 B7) (cond (A3 l2.length) (cond (not ((List.map A6 l2)==(List.map A6 l2))) (k0 false [(Blk.arr false 63 2 l2),(Blk.box [(PV.fl 2)]),(Blk.arr false 63 2 l'2)]) (V7 lf lf (List.isEmpty (List.map A6 l2)) l'5 0 l2 l'2 (λm_z'76 m'77 l'78 l'79=>cond (List.all l'79 B7) (cond (A3 l'79.length) (cond (N0 false l'79) (cond (List.all l'79 B7) (cond (A3 l'79.length) (cond (List.all m'77 B7) (cond (A3 m'77.length) (cond ((List.map A6 l'79)==(List.map A6 m'77)) (cond (A3 l'79.length) (vl (l'79.length:Int) λn'80=>cond (n'80==(m'77.length:Int)) (k0 true [(Blk.arr false 63 2 l'78),(Blk.box [(PV.fl 2)]),(Blk.arr false 63 2 l'79)]) (k0 false [(Blk.arr false 63 2 l'78),(Blk.box [(PV.fl 2)]),(Blk.arr false 63 2 l'79)])) none) (k0 false [(Blk.arr false 63 2 l'78),(Blk.box [(PV.fl 2)]),(Blk.arr false 63 2 l'79)])) none) none) none) none) none) none) none))) none) none) none) none))) none) none) none) none)) none) none) none) none) none) (vl (↑(H8 (List.map A6 l2)):Int) λn'18=>cond (List.all l2 B7) (cond (List.all l2 smE) (cond (A3 l2.length) (cond (N0 false l2) (cond (Ba (List.map A6 l2)) (cond ((H8 (List.map A6 l2))==0) (vl (Q2 (isE (List.map A6 l2))) λs'21=>cond (List.all l2 B7) (cond (List.all l2 smE) (cond (A3 l2.length) (cond (Ba (List.map A6 l2)) (cond ((H8 (List.map A6 l2))==0) (vl (Q2 (isE (List.map A6 l2))) λs'24=>cond ((0:Int) != n'18) (k0 false [(Blk.arr false 63 2 l2),(Blk.box [(PV.fl 2)]),(Blk.arr false 63 2 l'2)]) (cond (not (s'21==s'24)) (k0 false [(Blk.arr false 63 2 l2),(Blk.box [(PV.fl 2)]),(Blk.arr false 63 2 l'2)]) (cond (List.all l2 B7) (cond (A3 l2.length) (cond (List.all l2 B7) (cond (A3 l2.length) (cond (not ((List.map A6 l2)==(List.map A6 l2))) (k0 false [(Blk.arr false 63 2 l2),(Blk.box [(PV.fl 2)]),(Blk.arr false 63 2 l'2)]) (V7 lf lf true [] 0 l2 l'2 (λm_z'81 m'82 l'83 l'84=>cond (List.all l'84 B7) (cond (A3 l'84.length) (cond (N0 false l'84) (cond (List.all l'84 B7) (cond (A3 l'84.length) (cond (List.all m'82 B7) (cond (A3 m'82.length) (cond ((List.map A6 l'84)==(List.map A6 m'82)) (cond (A3 l'84.length) (vl (l'84.length:Int) λn'85=>cond (n'85==(m'82.length:Int)) (k0 true [(Blk.arr false 63 2 l'83),(Blk.box [(PV.fl 2)]),(Blk.arr false 63 2 l'84)]) (k0 false [(Blk.arr false 63 2 l'83),(Blk.box [(PV.fl 2)]),(Blk.arr false 63 2 l'84)])) none) (k0 false [(Blk.arr false 63 2 l'83),(Blk.box [(PV.fl 2)]),(Blk.arr false 63 2 l'84)])) none) none) none) none) none) none) none))) none) none) none) none))) (vl (↑(H8 (List.map A6 l2)):Int) λn'25=>cond ((0:Int) != n'18) (k0 false [(Blk.arr false 63 2 l2),(Blk.box [(PV.fl 2)]),(Blk.arr false 63 2 l'2)]) (cond (not (s'21==[])) (k0 false [(Blk.arr false 63 2 l2),(Blk.box [(PV.fl 2)]),(Blk.arr false 63 2 l'2)]) (cond ((0:Int) != n'25) (k0 false [(Blk.arr false 63 2 l2),(Blk.box [(PV.fl 2)]),(Blk.arr false 63 2 l'2)]) (cond (List.all l2 B7) (cond (A3 l2.length) (cond (List.all l2 B7) (cond (A3 l2.length) (cond (not ((List.map A6 l2)==(List.map A6 l2))) (k0 false [(Blk.arr false 63 2 l2),(Blk.box [(PV.fl 2)]),(Blk.arr false 63 2 l'2)]) (V7 lf lf true [] 0 l2 l'2 (λm_z'86 m'87 l'88 l'89=>cond (List.all l'89 B7) (cond (A3 l'89.length) (cond (N0 false l'89) (cond (List.all l'89 B7) (cond (A3 l'89.length) (cond (List.all m'87 B7) (cond (A3 m'87.length) (cond ((List.map A6 l'89)==(List.map A6 m'87)) (cond (A3 l'89.length) (vl (l'89.length:Int) λn'90=>cond (n'90==(m'87.length:Int)) (k0 true [(Blk.arr false 63 2 l'88),(Blk.box [(PV.fl 2)]),(Blk.arr false 63 2 l'89)]) (k0 false [(Blk.arr false 63 2 l'88),(Blk.box [(PV.fl 2)]),(Blk.arr false 63 2 l'89)])) none) (k0 false [(Blk.arr false 63 2 l'88),(Blk.box [(PV.fl 2)]),(Blk.arr false 63 2 l'89)])) none) none) none) none) none) none) none))) none) none) none) none))))) none) none) none) none) (vl (↑(H8 (List.map A6 l2)):Int) λn'26=>cond (List.all l2 B7) (cond (List.all l2 smE) (cond (A3 l2.length) (cond (Ba (List.map A6 l2)) (cond ((H8 (List.map A6 l2))==0) (vl (Q2 (isE (List.map A6 l2))) λs'29=>cond ((0:Int) != n'18) (k0 false [(Blk.arr false 63 2 l2),(Blk.box [(PV.fl 2)]),(Blk.arr false 63 2 l'2)]) (cond (not (([]:List UInt8)==s'29)) (k0 false [(Blk.arr false 63 2 l2),(Blk.box [(PV.fl 2)]),(Blk.arr false 63 2 l'2)]) (cond (n'26 != 0) (k0 false [(Blk.arr false 63 2 l2),(Blk.box [(PV.fl 2)]),(Blk.arr false 63 2 l'2)]) (cond (List.all l2 B7) (cond (A3 l2.length) (cond (List.all l2 B7) (cond (A3 l2.length) (cond (not ((List.map A6 l2)==(List.map A6 l2))) (k0 false [(Blk.arr false 63 2 l2),(Blk.box [(PV.fl 2)]),(Blk.arr false 63 2 l'2)]) (V7 lf lf true [] 0 l2 l'2 (λm_z'91 m'92 l'93 l'94=>cond (List.all l'94 B7) (cond (A3 l'94.length) (cond (N0 false l'94) (cond (List.all l'94 B7) (cond (A3 l'94.length) (cond (List.all m'92 B7) (cond (A3 m'92.length) (cond ((List.map A6 l'94)==(List.map A6 m'92)) (cond (A3 l'94.length) (vl (l'94.length:Int) λn'95=>cond (n'95==(m'92.length:Int)) (k0 true [(Blk.arr false 63 2 l'93),(Blk.box [(PV.fl 2)]),(Blk.arr false 63 2 l'94)]) (k0 false [(Blk.arr false 63 2 l'93),(Blk.box [(PV.fl 2)]),(Blk.arr false 63 2 l'94)])) none) (k0 false [(Blk.arr false 63 2 l'93),(Blk.box [(PV.fl 2)]),(Blk.arr false 63 2 l'94)])) none) none) none) none) none) none) none))) none) none) none) none)))) (vl (↑(H8 (List.map A6 l2)):Int) λn'30=>cond ((0:Int) != n'18) (k0 false [(Blk.arr false 63 2 l2),(Blk.box [(PV.fl 2)]),(Blk.arr false 63 2 l'2)]) (cond (n'26 != n'30) (k0 false [(Blk.arr false 63 2 l2),(Blk.box [(PV.fl 2)]),(Blk.arr false 63 2 l'2)]) (cond (List.all l2 B7) (cond (A3 l2.length) (cond (List.all l2 B7) (cond (A3 l2.length) (cond (not ((List.map A6 l2)==(List.map A6 l2))) (k0 false [(Blk.arr false 63 2 l2),(Blk.box [(PV.fl 2)]),(Blk.arr false 63 2 l'2)]) (V7 lf lf true [] 0 l2 l'2 (λm_z'96 m'97 l'98 l'99=>cond (List.all l'99 B7) (cond (A3 l'99.length) (cond (N0 false l'99) (cond (List.all l'99 B7) (cond (A3 l'99.length) (cond (List.all m'97 B7) (cond (A3 m'97.length) (cond ((List.map A6 l'99)==(List.map A6 m'97)) (cond (A3 l'99.length) (vl (l'99.length:Int) λn'100=>cond (n'100==(m'97.length:Int)) (k0 true [(Blk.arr false 63 2 l'98),(Blk.box [(PV.fl 2)]),(Blk.arr false 63 2 l'99)]) (k0 false [(Blk.arr false 63 2 l'98),(Blk.box [(PV.fl 2)]),(Blk.arr false 63 2 l'99)])) none) (k0 false [(Blk.arr false 63 2 l'98),(Blk.box [(PV.fl 2)]),(Blk.arr false 63 2 l'99)])) none) none) none) none) none) none) none))) none) none) none) none)))) none) none) none) none)) none) none) none) none) none)) none) none) none) none) (vl (↑(H8 (List.map A6 l2)):Int) λn'31=>cond (List.all l2 B7) (cond (List.all l2 smE) (cond (A3 l2.length) (cond ((H8 (List.map A6 l2))==0) (vl (C4 (isE (List.map A6 l2))) λl'34=>cond (List.all l2 B7) (cond (List.all l2 smE) (cond (A3 l2.length) (cond (N0 false l2) (cond (Ba (List.map A6 l2)) (cond ((H8 (List.map A6 l2))==0) (vl (Q2 (isE (List.map A6 l2))) λs'37=>cond (List.all l2 B7) (cond (List.all l2 smE) (cond (A3 l2.length) (cond (Ba (List.map A6 l2)) (cond ((H8 (List.map A6 l2))==0) (vl (Q2 (isE (List.map A6 l2))) λs'40=>cond (n'31 != 0) (k0 false [(Blk.arr false 63 2 l2)]) (cond (not (s'37==s'40)) (k0 false [(Blk.arr false 63 2 l2)]) (cond (List.all l2 B7) (cond (A3 l2.length) (cond (List.all l2 B7) (cond (A3 l2.length) (cond (not ((List.map A6 l2)==(List.map A6 l2))) (k0 false [(Blk.arr false 63 2 l2)]) (cond (n'31 != 0) (k0 true [(Blk.arr false 63 2 l2)]) (Dh lf lf (List.isEmpty (List.map A6 l2)) l'34 0 l2 (λm_z'102 m'103 l'104=>k0 false [(Blk.arr false 63 2 l'104)])))) none) none) none) none))) (vl (↑(H8 (List.map A6 l2)):Int) λn'41=>cond (n'31 != 0) (k0 false [(Blk.arr false 63 2 l2)]) (cond (not (s'37==[])) (k0 false [(Blk.arr false 63 2 l2)]) (cond ((0:Int) != n'41) (k0 false [(Blk.arr false 63 2 l2)]) (cond (List.all l2 B7) (cond (A3 l2.length) (cond (List.all l2 B7) (cond (A3 l2.length) (cond (not ((List.map A6 l2)==(List.map A6 l2))) (k0 false [(Blk.arr false 63 2 l2)]) (cond (n'31 != 0) (k0 true [(Blk.arr false 63 2 l2)]) (Dh lf lf (List.isEmpty (List.map A6 l2)) l'34 0 l2 (λm_z'105 m'106 l'107=>k0 false [(Blk.arr false 63 2 l'107)])))) none) none) none) none))))) none) none) none) none) (vl (↑(H8 (List.map A6 l2)):Int) λn'42=>cond (List.all l2 B7) (cond (List.all l2 smE) (cond (A3 l2.length) (cond (Ba (List.map A6 l2)) (cond ((H8 (List.map A6 l2))==0) (vl (Q2 (isE (List.map A6 l2))) λs'45=>cond (n'31 != 0) (k0 false [(Blk.arr false 63 2 l2)]) (cond (not (([]:List UInt8)==s'45)) (k0 false [(Blk.arr false 63 2 l2)]) (cond (n'42 != 0) (k0 false [(Blk.arr false 63 2 l2)]) (cond (List.all l2 B7) (cond (A3 l2.length) (cond (List.all l2 B7) (cond (A3 l2.length) (cond (not ((List.map A6 l2)==(List.map A6 l2))) (k0 false [(Blk.arr false 63 2 l2)]) (cond (n'31 != 0) (k0 true [(Blk.arr false 63 2 l2)]) (Dh lf lf (List.isEmpty (List.map A6 l2)) l'34 0 l2 (λm_z'108 m'109 l'110=>k0 false [(Blk.arr false 63 2 l'110)])))) none) none) none) none)))) (vl (↑(H8 (List.map A6 l2)):Int) λn'46=>cond (n'31 != 0) (k0 false [(Blk.arr false 63 2 l2)]) (cond (n'42 != n'46) (k0 false [(Blk.arr false 63 2 l2)]) (cond (List.all l2 B7) (cond (A3 l2.length) (cond (List.all l2 B7) (cond (A3 l2.length) (cond (not ((List.map A6 l2)==(List.map A6 l2))) (k0 false [(Blk.arr false 63 2 l2)]) (cond (n'31 != 0) (k0 true [(Blk.arr false 63 2 l2)]) (Dh lf lf (List.isEmpty (List.map A6 l2)) l'34 0 l2 (λm_z'111 m'112 l'113=>k0 false [(Blk.arr false 63 2 l'113)])))) none) none) none) none)))) none) none) none) none)) none) none) none) none) none) (vl (↑(H8 (List.map A6 l2)):Int) λn'47=>cond (List.all l2 B7) (cond (List.all l2 smE) (cond (A3 l2.length) (cond (N0 false l2) (cond (Ba (List.map A6 l2)) (cond ((H8 (List.map A6 l2))==0) (vl (Q2 (isE (List.map A6 l2))) λs'50=>cond (List.all l2 B7) (cond (List.all l2 smE) (cond (A3 l2.length) (cond (Ba (List.map A6 l2)) (cond ((H8 (List.map A6 l2))==0) (vl (Q2 (isE (List.map A6 l2))) λs'53=>cond (n'31 != n'47) (k0 false [(Blk.arr false 63 2 l2)]) (cond (not (s'50==s'53)) (k0 false [(Blk.arr false 63 2 l2)]) (cond (List.all l2 B7) (cond (A3 l2.length) (cond (List.all l2 B7) (cond (A3 l2.length) (cond (not ((List.map A6 l2)==(List.map A6 l2))) (k0 false [(Blk.arr false 63 2 l2)]) (cond (n'31 != 0) (k0 true [(Blk.arr false 63 2 l2)]) (Dh lf lf true [] 0 l2 (λm_z'114 m'115 l'116=>k0 false [(Blk.arr false 63 2 l'116)])))) none) none) none) none))) (vl (↑(H8 (List.map A6 l2)):Int) λn'54=>cond (n'31 != n'47) (k0 false [(Blk.arr false 63 2 l2)]) (cond (not (s'50==[])) (k0 false [(Blk.arr false 63 2 l2)]) (cond ((0:Int) != n'54) (k0 false [(Blk.arr false 63 2 l2)]) (cond (List.all l2 B7) (cond (A3 l2.length) (cond (List.all l2 B7) (cond (A3 l2.length) (cond (not ((List.map A6 l2)==(List.map A6 l2))) (k0 false [(Blk.arr false 63 2 l2)]) (cond (n'31 != 0) (k0 true [(Blk.arr false 63 2 l2)]) (Dh lf lf true [] 0 l2 (λm_z'117 m'118 l'119=>k0 false [(Blk.arr false 63 2 l'119)])))) none) none) none) none))))) none) none) none) none) (vl (↑(H8 (List.map A6 l2)):Int) λn'55=>cond (List.all l2 B7) (cond (List.all l2 smE) (cond (A3 l2.length) (cond (Ba (List.map A6 l2)) (cond ((H8 (List.map A6 l2))==0) (vl (Q2 (isE (List.map A6 l2))) λs'58=>cond (n'31 != n'47) (k0 false [(Blk.arr false 63 2 l2)]) (cond (not (([]:List UInt8)==s'58)) (k0 false [(Blk.arr false 63 2 l2)]) (cond (n'55 != 0) (k0 false [(Blk.arr false 63 2 l2)]) (cond (List.all l2 B7) (cond (A3 l2.length) (cond (List.all l2 B7) (cond (A3 l2.length) (cond (not ((List.map A6 l2)==(List.map A6 l2))) (k0 false [(Blk.arr false 63 2 l2)]) (cond (n'31 != 0) (k0 true [(Blk.arr false 63 2 l2)]) (Dh lf lf true [] 0 l2 (λm_z'120 m'121 l'122=>k0 false [(Blk.arr false 63 2 l'122)])))) none) none) none) none)))) (vl (↑(H8 (List.map A6 l2)):Int) λn'59=>cond (n'31 != n'47) (k0 false [(Blk.arr false 63 2 l2)]) (cond (n'55 != n'59) (k0 false [(Blk.arr false 63 2 l2)]) (cond (List.all l2 B7) (cond (A3 l2.length) (cond (List.all l2 B7) (cond (A3 l2.length) (cond (not ((List.map A6 l2)==(List.map A6 l2))) (k0 false [(Blk.arr false 63 2 l2)]) (cond (n'31 != 0) (k0 true [(Blk.arr false 63 2 l2)]) (Dh lf lf true [] 0 l2 (λm_z'123 m'124 l'125=>k0 false [(Blk.arr false 63 2 l'125)])))) none) none) none) none)))) none) none) none) none)) none) none) none) none) none)) none) none) none)) none) none) none) none) none)) none) none
theorem Bh7 (d:Nat) (l_z0 l_t1 l2):evC (Jc lf) (d+1) σ yh 9 [.s (.sl l_z0 l_t1 2 l2)] [] s=lpn lf l_z0 l_t1 l2 (λr0 H1=>some (pB r0,H1,s)):=by
 refine (evE (fn:=Tryz.f9) (by kernel_rfl)).trans ?_
 generalize evC (Jc lf) d=cl
 unfold lpn;exact let K0:=(G3 0 (G9 (Jc lf) cl yh (cd [1,1,1,1,1,1,1,1,1,1] Ak7) (I8 (Jc lf) Tryz.f9)));(Eq.trans (by kernel_rfl) (A0 (A0 (A0 rfl (A0 (A0 (A0 (A0 (A0 (A0 (A7 λl'2=>(A0 (A0 (A0 (A0 (A0 (A7 λl'5=>(A0 (A0 (A0 (A0 (A0 (A0 (A7 λs'8=>(A0 (A0 (A0 (A0 (A0 (A7 λs'11=>(A0 rfl (A0 (A0 (A0 (A0 (A0 rfl ((X2 lf cl yh s K0 lf (List.isEmpty (List.map A6 l2)) l'5 0 l2 l'2).trans (by kernel_rfl))) rfl) rfl) rfl) rfl))) (A7 λn'12=>(A0 rfl (A0 rfl (A0 (A0 (A0 (A0 (A0 rfl ((X2 lf cl yh s K0 lf (List.isEmpty (List.map A6 l2)) l'5 0 l2 l'2).trans (by kernel_rfl))) rfl) rfl) rfl) rfl))))) rfl) rfl) rfl) rfl)) (A7 λn'13=>(A0 (A0 (A0 (A0 (A0 (A7 λs'16=>(A0 rfl (A0 rfl (A0 (A0 (A0 (A0 (A0 rfl ((X2 lf cl yh s K0 lf (List.isEmpty (List.map A6 l2)) l'5 0 l2 l'2).trans (by kernel_rfl))) rfl) rfl) rfl) rfl)))) (A7 λn'17=>(A0 rfl (A0 (A0 (A0 (A0 (A0 rfl ((X2 lf cl yh s K0 lf (List.isEmpty (List.map A6 l2)) l'5 0 l2 l'2).trans (by kernel_rfl))) rfl) rfl) rfl) rfl)))) rfl) rfl) rfl) rfl))) rfl) rfl) rfl) rfl) rfl)) (A7 λn'18=>(A0 (A0 (A0 (A0 (A0 (A0 (A7 λs'21=>(A0 (A0 (A0 (A0 (A0 (A7 λs'24=>(A0 rfl (A0 rfl (A0 (A0 (A0 (A0 (A0 rfl ((X2 lf cl yh s K0 lf true [] 0 l2 l'2).trans (by kernel_rfl))) rfl) rfl) rfl) rfl)))) (A7 λn'25=>(A0 rfl (A0 rfl (A0 rfl (A0 (A0 (A0 (A0 (A0 rfl ((X2 lf cl yh s K0 lf true [] 0 l2 l'2).trans (by kernel_rfl))) rfl) rfl) rfl) rfl)))))) rfl) rfl) rfl) rfl)) (A7 λn'26=>(A0 (A0 (A0 (A0 (A0 (A7 λs'29=>(A0 rfl (A0 rfl (A0 rfl (A0 (A0 (A0 (A0 (A0 rfl ((X2 lf cl yh s K0 lf true [] 0 l2 l'2).trans (by kernel_rfl))) rfl) rfl) rfl) rfl))))) (A7 λn'30=>(A0 rfl (A0 rfl (A0 (A0 (A0 (A0 (A0 rfl ((X2 lf cl yh s K0 lf true [] 0 l2 l'2).trans (by kernel_rfl))) rfl) rfl) rfl) rfl))))) rfl) rfl) rfl) rfl))) rfl) rfl) rfl) rfl) rfl))) rfl) rfl) rfl) rfl)) (A7 λn'31=>(A0 (A0 (A0 (A0 (A7 λl'34=>(A0 (A0 (A0 (A0 (A0 (A0 (A7 λs'37=>(A0 (A0 (A0 (A0 (A0 (A7 λs'40=>(A0 rfl (A0 rfl (A0 (A0 (A0 (A0 (A0 rfl (A0 rfl ((X3 lf cl yh s K0 lf (List.isEmpty (List.map A6 l2)) l'34 0 l2).trans (by kernel_rfl)))) rfl) rfl) rfl) rfl)))) (A7 λn'41=>(A0 rfl (A0 rfl (A0 rfl (A0 (A0 (A0 (A0 (A0 rfl (A0 rfl ((X3 lf cl yh s K0 lf (List.isEmpty (List.map A6 l2)) l'34 0 l2).trans (by kernel_rfl)))) rfl) rfl) rfl) rfl)))))) rfl) rfl) rfl) rfl)) (A7 λn'42=>(A0 (A0 (A0 (A0 (A0 (A7 λs'45=>(A0 rfl (A0 rfl (A0 rfl (A0 (A0 (A0 (A0 (A0 rfl (A0 rfl ((X3 lf cl yh s K0 lf (List.isEmpty (List.map A6 l2)) l'34 0 l2).trans (by kernel_rfl)))) rfl) rfl) rfl) rfl))))) (A7 λn'46=>(A0 rfl (A0 rfl (A0 (A0 (A0 (A0 (A0 rfl (A0 rfl ((X3 lf cl yh s K0 lf (List.isEmpty (List.map A6 l2)) l'34 0 l2).trans (by kernel_rfl)))) rfl) rfl) rfl) rfl))))) rfl) rfl) rfl) rfl))) rfl) rfl) rfl) rfl) rfl)) (A7 λn'47=>(A0 (A0 (A0 (A0 (A0 (A0 (A7 λs'50=>(A0 (A0 (A0 (A0 (A0 (A7 λs'53=>(A0 rfl (A0 rfl (A0 (A0 (A0 (A0 (A0 rfl (A0 rfl ((X3 lf cl yh s K0 lf true [] 0 l2).trans (by kernel_rfl)))) rfl) rfl) rfl) rfl)))) (A7 λn'54=>(A0 rfl (A0 rfl (A0 rfl (A0 (A0 (A0 (A0 (A0 rfl (A0 rfl ((X3 lf cl yh s K0 lf true [] 0 l2).trans (by kernel_rfl)))) rfl) rfl) rfl) rfl)))))) rfl) rfl) rfl) rfl)) (A7 λn'55=>(A0 (A0 (A0 (A0 (A0 (A7 λs'58=>(A0 rfl (A0 rfl (A0 rfl (A0 (A0 (A0 (A0 (A0 rfl (A0 rfl ((X3 lf cl yh s K0 lf true [] 0 l2).trans (by kernel_rfl)))) rfl) rfl) rfl) rfl))))) (A7 λn'59=>(A0 rfl (A0 rfl (A0 (A0 (A0 (A0 (A0 rfl (A0 rfl ((X3 lf cl yh s K0 lf true [] 0 l2).trans (by kernel_rfl)))) rfl) rfl) rfl) rfl))))) rfl) rfl) rfl) rfl))) rfl) rfl) rfl) rfl) rfl))) rfl) rfl) rfl))) rfl) rfl) rfl) rfl) rfl)) rfl) rfl))
end
theorem Xs {R:Type} (z:Bool) (m l4:LL) (k0:Bool->LL->LL->LL->Option R):∀ (r i n:Nat) (l3:LL),i+r=l3.length->l3.length<=1000000000->r<n->∃ l,V7 LF n z m (i:Int) l3 l4 k0=k0 z m l l4
 | 0,i,n,l3,hi,hl,hm=>by
  obtain ⟨n,rfl⟩:∃ q,n=q+1:=⟨n-1,by omega⟩
  refine ⟨l3,?_⟩
  rw [V7,C9 (by omega)]
  rfl
 | r+1,i,n,l3,hi,hl,hm=>by
  obtain ⟨n,rfl⟩:∃ q,n=q+1:=⟨n-1,by omega⟩
  have e2:A1 ((i:Int)+1)=((i+1:Nat):Int):=by rw [A4];rfl
  obtain ⟨l,e⟩:=Xs z m l4 k0 r (i+1) n (l3.set i (F1 (l3.getD i []) 0 [.str [],.bool false])) (by rw [List.length_set];omega) (by rw [List.length_set];exact hl) (by omega)
  refine ⟨l,?_⟩
  rw [V7,B9 (by omega),I6 (by omega) (by omega),Int.toNat_natCast,decide_eq_true (by omega:i<l3.length),e2]
  exact e
theorem Aq1 (lz:Bool) (l:LL) (hl:l.all B7=true) :
  Tru (evC (Jc LF) 1 Unit noY 9 [.s (.sl lz false 2 l)] [] ()):=by
 refine Eq.subst (motive:=Tru) (Bh7 (σ:=Unit) LF noY () 0 lz false l).symm ?_
 have hLF:=D7
 unfold lpn
 rw [hl]
 simp only [cond_true,show ltI 60 1001=true from rfl]
 cases c2:Fj 60 l with
 | false=>exact ⟨_,rfl⟩
 | true=>
 rw [Bool.not_true,cond_false]
 obtain ⟨s3,s4⟩:=Af6 (by decide) c2
 obtain ⟨f1,f2⟩:=Ao0 c2
 have f3:=(Za c2).1
 rw [s3,s4,f2]
 have n0:N0 false l=true:=rfl
 simp only [cond_true,vl,n0]
 have n2:=ZT s4
 have n4:=An3 (isE (l.map A6))
 cases c5:(H8 (List.map A6 l)==0) with
 | false=>
  have hne:H8 (List.map A6 l)≠0:=by simpa using c5
  have e1:(((H8 (List.map A6 l):Nat):Int)==0)=false:=by rw [beq_eq_false_iff_ne];omega
  have e2:(((H8 (List.map A6 l):Nat):Int) != 0)=true:=by rw [bne_iff_ne];omega
  simp only [cond_false,e1,e2,cond_true,bne_self_eq_false,beq_self_eq_true,Bool.not_true]
  exact ⟨_,rfl⟩
 | true=>
  simp only [cond_true,An4 n4,Bool.and_true,beq_self_eq_true,Bool.not_true,cond_false]
  obtain ⟨l3,e⟩:=Xs (R:=PV × List Blk × Unit) (List.isEmpty (List.map A6 l)) (C4 (isE (l.map A6))) (C4 (isE (l.map A6))) (λm_z m l3 l4=>some (pB true,[.arr false 63 2 l3,.box [.fl 2],.arr false 63 2 l4],())) l.length 0 LF l (by omega) (by omega) (by omega)
  have key:∀ k0:Bool->LL->LL->LL->Option (PV × List Blk × Unit),∃ l3,V7 LF LF (List.isEmpty (List.map A6 l)) (C4 (isE (l.map A6))) 0 l (C4 (isE (l.map A6))) k0=k0 (List.isEmpty (List.map A6 l)) (C4 (isE (l.map A6))) l3 (C4 (isE (l.map A6))):=
   λk0=>Xs _ _ _ k0 l.length 0 LF l (by omega) (by omega) (by omega)
  obtain ⟨l3,e⟩:=key _
  refine Eq.subst (motive:=Tru) e.symm ?_
  simp only [n2,n4,show N0 false (C4 (isE (l.map A6)))=true from rfl,cond_true,beq_self_eq_true,vl]
  exact ⟨_,rfl⟩
theorem A45 (args:List PV) (h:Gp Tryz.prog [23] args):∃ d Hc,evC (Jc LF) d Unit noY 9 args [] ()=some (.s (.bool true),Hc,()):=by
 obtain ⟨v1,q1,rfl,h1,rfl⟩:=h
 obtain ⟨lz,l,rfl,hl,hlz⟩:=Aj8 h1 (by kernel_rfl) (by kernel_rfl)
 obtain ⟨H,e⟩:=Aq1 lz l hl
 exact ⟨1,H,e⟩
section
theorem CQ:B4 Tryz.prog GX 181 Fp:=λargs ret Hc h=>by
 have:G1 (Fp args)=none:=by unfold Fp Uy;split<;>rfl
 rw [this] at h;cases h
theorem Aw7:B4 Tryz.prog GX 154 NY:=xf [] (OX LF) DR rfl trivial rfl (by kernel_rfl) follows λargs=>by
 unfold DR;split
 ·rename_i s p;exact λh0=>⟨rfl,rfl,rfl,_,_,(A47 LF noY () 0 s p).trans (Ab2 s p h0),rfl⟩
 ·trivial
theorem Aw4:B4 Tryz.prog GX 112 NR:=xf [] (OQ LF) DA rfl ⟨Aw7,trivial⟩ rfl (by kernel_rfl) follows λargs=>by
 unfold DA;split
 ·rename_i s p;exact λh0=>⟨rfl,rfl,rfl,_,_,(A20 LF noY () 0 s p).trans (ZN s p h0),rfl⟩
 ·trivial
theorem Bk9:B4 Tryz.prog GX 180 Ai5:=xf [] (OY LF) DU rfl trivial rfl (by kernel_rfl) follows λargs=>by
 unfold DU;split
 ·rename_i s p;exact λh0=>⟨rfl,rfl,rfl,_,_,(A49 LF noY () 0 s p).trans (Ab3 s p h0),rfl⟩
 ·trivial
theorem Bb4:B4 Tryz.prog GX 157 VV:=xf [] (FK LF) Vh rfl ⟨Bk9,trivial⟩ rfl (by kernel_rfl) follows λargs=>by
 unfold Vh;split
 ·rename_i s p;exact λh0=>⟨rfl,rfl,rfl,_,_,(Aq5 LF noY () 0 s p).trans (RF s p h0),rfl⟩
 ·trivial
theorem Bc3:B4 Tryz.prog GX 115 WD:=xf [] (FO LF) Vx rfl ⟨Bb4,trivial⟩ rfl (by kernel_rfl) follows λargs=>by
 unfold Vx;split
 ·rename_i s p;exact λh0=>⟨rfl,rfl,rfl,_,_,(Av1 LF noY () 0 s p).trans (UZ s p h0),rfl⟩
 ·trivial
theorem Bb0:B4 Tryz.prog GX 169 VT:=xf [0,0] (FH LF) Vd rfl ⟨Aw7,trivial⟩ rfl (by kernel_rfl) follows λargs=>by
 unfold Vd;split
 ·rename_i s p;exact λh0=>⟨rfl,rfl,rfl,_,_,(Ap6 LF noY () 0 s p).trans (QQ s p h0),rfl⟩
 ·trivial
theorem Bj7:B4 Tryz.prog GX 130 Ah7:=xf [0,0] (OO LF) CU rfl ⟨Bb0,trivial⟩ rfl (by kernel_rfl) follows λargs=>by
 unfold CU;split
 ·rename_i s p;exact λh0=>⟨rfl,rfl,rfl,_,_,(Az8 LF noY () 0 s p).trans (YV s p h0),rfl⟩
 ·trivial
theorem Aw2:B4 Tryz.prog GX 158 IL:=xf [1] (Av LF) Qg rfl ⟨CQ,Ax3,VK,trivial⟩ rfl (by kernel_rfl) follows λargs=>by
 unfold Qg;split
 ·rename_i s p v n;exact λh0=>λh1=>λh2=>λh3=>(let ⟨rr,hH,ee,qq⟩:=JW s p v n h0 h1 h2 h3;⟨rfl,rfl,rfl,rr,hH,(AX LF noY () 0 s p v n).trans ee,qq⟩)
 ·trivial
theorem Ax6:B4 Tryz.prog GX 117 IO:=xf [1] (Wm LF) Qq rfl ⟨Aw2,trivial⟩ rfl (by kernel_rfl) follows λargs=>by
 unfold Qq;split
 ·rename_i s p;exact λh0=>λh1=>⟨rfl,rfl,rfl,_,_,(Ag2 LF noY () 0 s p).trans (MT s p h0 h1),rfl⟩
 ·trivial
theorem Aw6:B4 Tryz.prog GX 111 NX:=xf [] (Mo LF) DQ rfl trivial rfl (by kernel_rfl) follows λargs=>by
 unfold DQ;split
 ·rename_i s;exact λh0=>⟨rfl,rfl,rfl,_,_,(A44 LF noY () 0 s).trans (Aa9 s h0),rfl⟩
 ·trivial
theorem Aw3:B4 Tryz.prog GX 127 NQ:=xf [] (OP LF) CZ rfl ⟨Aw4,trivial⟩ rfl (by kernel_rfl) follows λargs=>by
 unfold CZ;split
 ·rename_i s;exact λh0=>⟨rfl,rfl,rfl,_,_,(A19 LF noY () 0 s).trans (ZL s h0),rfl⟩
 ·trivial
theorem Aw1:B4 Tryz.prog GX 129 NP:=xf [0,0] (Q1 LF) CV rfl trivial rfl (by kernel_rfl) follows λargs=>by
 unfold CV;split
 ·rename_i s base;exact λh0=>λh1=>⟨rfl,rfl,rfl,_,_,(A04 LF noY () 0 s base).trans (ZA s base h0 h1),rfl⟩
 ·trivial
theorem Bp8:B4 Tryz.prog GX 128 Bd4:=xf [0,0] (Al6 LF) NZ rfl ⟨Aw3,Aw1,trivial⟩ rfl (by kernel_rfl) follows λargs=>by
 unfold NZ;split
 ·rename_i s;exact λh0=>⟨rfl,rfl,rfl,_,_,(Bh8 LF noY () 0 s).trans (Ar1 s h0),rfl⟩
 ·trivial
theorem Bb5:B4 Tryz.prog GX 126 VW:=xf [1] (FL LF) Vi rfl ⟨Ax6,trivial⟩ rfl (by kernel_rfl) follows λargs=>by
 unfold Vi;split
 ·rename_i s;exact λh0=>⟨rfl,rfl,rfl,_,_,(Ar4 LF noY () 0 s).trans (RW s h0),rfl⟩
 ·trivial
theorem CS:B4 Tryz.prog GX 93 Kh:=xf [] (Rd LF) Lx rfl ⟨Bb5,Aw3,Bp8,Aw1,trivial⟩ rfl (by kernel_rfl) follows λargs=>by
 unfold Lx;split
 ·rename_i s;exact λh0=>⟨rfl,rfl,rfl,_,_,(RP LF noY () 0 s).trans (GM s h0),rfl⟩
 ·trivial
theorem Ah2:B4 Tryz.prog GX 101 AD:=xf [] (Ab LF) Ly rfl trivial rfl (by kernel_rfl) follows λargs=>by
 unfold Ly;split
 ·rename_i s;exact λh0=>⟨rfl,rfl,rfl,_,_,(TA LF noY () 0 s).trans (HA s h0),rfl⟩
 ·trivial
theorem Zh:B4 Tryz.prog GX 53 Nk:=xf [1] (Cx LF) Qp rfl trivial rfl (by kernel_rfl) follows λargs=>by
 unfold Qp;split
 ·rename_i s c;exact λh0=>λh1=>(let ⟨rr,hH,ee,qq⟩:=MK s c h0 h1;⟨rfl,rfl,rfl,rr,hH,(Af3 LF noY () 0 s c).trans ee,qq⟩)
 ·trivial
theorem Bl6:B4 Tryz.prog GX 145 Aj0:=xf [] (Ey LF) EH rfl trivial rfl (by kernel_rfl) follows λargs=>by
 unfold EH;split
 ·rename_i b;exact λh0=>⟨rfl,rfl,rfl,_,_,(A79 LF noY () 0 b).trans (Ad7 b h0),rfl⟩
 ·trivial
theorem Bl9:B4 Tryz.prog GX 102 Aj3:=xf [0,0] (L6 LF) EL rfl ⟨Bl6,trivial⟩ rfl (by kernel_rfl) follows λargs=>by
 unfold EL;split
 ·rename_i s;exact λh0=>⟨rfl,rfl,rfl,_,_,(A87 LF noY () 0 s).trans (Ae4 s h0),rfl⟩
 ·trivial
theorem Ax1:B4 Tryz.prog GX 100 IN:=xf [1] (Wk LF) Qm rfl ⟨Zh,trivial⟩ rfl (by kernel_rfl) follows λargs=>by
 unfold Qm;split
 ·rename_i s;exact λh0=>⟨rfl,rfl,rfl,_,_,(Ae7 LF noY () 0 s).trans (MA s h0),rfl⟩
 ·trivial
theorem VJ:B4 Tryz.prog GX 68 Vp:=xf [] (Ms LF) Iu rfl ⟨Ax1,Ah2,Bl9,trivial⟩ rfl (by kernel_rfl) follows λargs=>by
 unfold Iu;split
 ·rename_i s;exact λh0=>⟨rfl,rfl,rfl,_,_,(LZ LF noY () 0 s).trans (Zu s h0),rfl⟩
 ·trivial
theorem Ah1:B4 Tryz.prog GX 158 Qh:=by
 refine B4.fix (pf:=Lu) _ (N5 (C₀:=Av LF) (K3.ok (l:=[(181,Fp),(182,OE),(108,Vv)]) rfl ⟨CQ,Ax3,VK,trivial⟩) (F5 rfl (by kernel_rfl)) follows ?_)
 intro args ret Hc h
 unfold Lu at h
 split at h
 ·rename_i s p v n
  obtain ⟨h0,h⟩:=C0 h
  obtain ⟨h1,h⟩:=C0 h
  obtain ⟨h2,h⟩:=C0 h
  obtain ⟨h3,h⟩:=C0 h
  obtain ⟨rfl,rfl⟩:=G7 h
  have e:=(AX LF noY () 0 s p v n).trans (Xe s p v n h0 h1 h2 h3)
  exact ⟨rfl,1,_,[],e,rfl,rfl⟩
 ·cases h
theorem Ah3:B4 Tryz.prog GX 117 AE:=by
 refine B4.fix (pf:=Lz) _ (N5 (C₀:=Rf LF) (K3.ok (l:=[(158,Qh)]) rfl ⟨Ah1,trivial⟩) (F5 rfl (by kernel_rfl)) follows ?_)
 intro args ret Hc h
 unfold Lz at h
 split at h
 ·rename_i s p
  obtain ⟨h0,h⟩:=C0 h
  obtain ⟨h1,h⟩:=C0 h
  obtain ⟨rfl,rfl⟩:=G7 h
  have e:=(UX LF noY () 0 s p).trans (HU s p h0 h1)
  exact ⟨rfl,1,_,[],e,rfl,rfl⟩
 ·cases h
end
section
theorem NK:B4 Tryz.prog GX 184 It:=xf [] (Wj LF) Qk rfl trivial rfl (by kernel_rfl) follows λargs=>by
 unfold Qk;split
 ·rename_i n;exact ⟨rfl,rfl,rfl,_,_,(Ad0 LF noY () 0 n).trans (LA n ),rfl⟩
 ·trivial
theorem NJ:B4 Tryz.prog GX 186 Ir:=xf [] (Q8 LF) Qj rfl trivial rfl (by kernel_rfl) follows λargs=>by
 unfold Qj;split
 ·rename_i d c f;exact λh0=>λh1=>λh2=>⟨rfl,rfl,rfl,_,_,(Ac1 LF noY () 0 d c f).trans (KX d c f h0 h1 h2),rfl⟩
 ·trivial
theorem Bl4:B4 Tryz.prog GX 195 OA:=xf [] (PB LF) ED rfl trivial rfl (by kernel_rfl) follows λargs=>by
 unfold ED;split
 ·rename_i d;exact λh0=>⟨rfl,rfl,rfl,_,_,(A68 LF noY () 0 d).trans (Ac9 d h0),rfl⟩
 ·trivial
theorem Bl5:B4 Tryz.prog GX 202 OC:=xf [] (Ex LF) EG rfl trivial rfl (by kernel_rfl) follows λargs=>by
 unfold EG;split
 ·rename_i b;exact λh0=>⟨rfl,rfl,rfl,_,_,(A77 LF noY () 0 b).trans (Ad3 b h0),rfl⟩
 ·trivial
end
section
theorem Ax0:B4 Tryz.prog GX 194 Vj:=by
 refine B4.fix (pf:=EF) _ (N5 (C₀:=PC LF) (K3.ok (l:=[]) rfl trivial) (F5 rfl (by kernel_rfl)) follows ?_)
 intro args ret Hc h
 unfold EF at h
 split at h
 ·rename_i b
  obtain ⟨rfl,rfl⟩:=G7 h
  have e:=(A72 LF noY () 0 b).trans (Ad1 b )
  exact ⟨rfl,1,_,[],e,rfl,rfl⟩
 ·cases h
theorem YL:Lj Tryz.prog GX 201 Ki:=by
 refine T5 (C₀:=FM LF) (K3.ok (l:=[]) rfl trivial) (F5 rfl (by kernel_rfl)) follows ?_
 intro args H ret Hc h
 unfold Ki at h
 split at h
 ·rename_i k b
  obtain ⟨h0,h⟩:=C0 h
  obtain ⟨h1,h⟩:=C0 h
  obtain ⟨rfl,rfl⟩:=G7 h
  refine ⟨rfl,rfl,λσ yh s=>?_⟩
  have e:=(Ar9 LF yh s 0 k b).trans (SN k b h0 h1)
  exact ⟨1,_,e,rfl⟩
 ·cases h
theorem Bm2:Lj Tryz.prog GX 185 EA:=by
 refine T5 (C₀:=Re LF) (Ib (lx:=[(194,Vj),(195,OA)]) (ly:=[(201,Ki)]) (ls:=[]) rfl rfl rfl ⟨Ax0,Bl4,trivial⟩ ⟨YL,trivial⟩ trivial) (F5 rfl (by kernel_rfl)) follows ?_
 intro args H ret Hc h
 unfold EA at h
 split at h
 ·rename_i q b z l
  obtain ⟨h0,h⟩:=C0 h
  obtain ⟨h1,h⟩:=C0 h
  obtain ⟨h2,h⟩:=C0 h
  obtain ⟨rfl,rfl⟩:=G7 h
  obtain ⟨x0,x1,e0⟩:=Ac3 q b z l h0 h1 h2
  exact ⟨rfl,rfl,λσ yh s=>⟨1,_,(A61 LF yh s 0 q b z l).trans (e0 _ _),rfl⟩⟩
 ·cases h
theorem Aw9:B4 Tryz.prog GX 161 OB:=by
 refine B4.fix (pf:=EE) _ (U7 [0,0] (C₀:=M6 LF) (Ib (lx:=[(184,It),(186,Ir)]) (ly:=[(185,EA)]) (ls:=[]) rfl rfl rfl ⟨NK,NJ,trivial⟩ ⟨Bm2,trivial⟩ trivial) (F5 rfl (by kernel_rfl)) follows ?_)
 intro args ret Hc h
 unfold EE at h
 split at h
 ·rename_i p_z p_t p
  obtain ⟨h0,h⟩:=C0 h
  obtain ⟨rfl,rfl⟩:=G7 h
  obtain ⟨rr,hH,ee,qq⟩:=A70 p_z p_t p h0
  exact ⟨rfl,rfl,rfl,1,rr,hH,(A69 LF noY () 0 p_z p_t p).trans ee,qq⟩
 ·cases h
end
section
theorem Bm1:Lj Tryz.prog GX 198 CW:=by
 refine T5 (C₀:=Rc LF) (Ib (lx:=[(194,Vj),(202,OC)]) (ly:=[(201,Ki)]) (ls:=[]) rfl rfl rfl ⟨Ax0,Bl5,trivial⟩ ⟨YL,trivial⟩ trivial) (F5 rfl (by kernel_rfl)) follows ?_
 intro args H ret Hc h
 unfold CW at h
 split at h
 ·rename_i rest n i b st z l
  obtain ⟨h0,h⟩:=C0 h
  obtain ⟨h1,h⟩:=C0 h
  obtain ⟨h2,h⟩:=C0 h
  obtain ⟨rfl,rfl⟩:=G7 h
  obtain ⟨x0,e0⟩:=ZC rest n i b st z l h0 h1 h2
  exact ⟨rfl,rfl,λσ yh s=>⟨1,_,(A05 LF yh s 0 rest n i b st z l).trans (e0 _ _),rfl⟩⟩
 ·cases h
theorem Aw5:B4 Tryz.prog GX 142 IM:=xf [] (Cw LF) Qi rfl trivial rfl (by kernel_rfl) follows λargs=>by
 unfold Qi;split
 ·rename_i s c;exact λh0=>λh1=>⟨rfl,rfl,rfl,_,_,(ZS LF noY () 0 s c).trans (KE s c h0 h1),rfl⟩
 ·trivial
theorem YJ:B4 Tryz.prog GX 97 Ug:=xf [] (FG LF) Va rfl ⟨Aw5,trivial⟩ rfl (by kernel_rfl) follows λargs=>by
 unfold Va;split
 ·rename_i s c;exact λh0=>λh1=>⟨rfl,rfl,rfl,_,_,(Ap5 LF noY () 0 s c).trans (QN s c h0 h1),rfl⟩
 ·trivial
end
end
section
open Go Go.Proofs Go.Sort
set_option maxRecDepth 100000
theorem Yy {C:Cfg} {σ:Type} {I:σ->(Nat->Prop)->(Nat->Prop)->World->Prop} (hI:HI I) {Γ:Ctx} {Φ:Nat->Prop} {w w':World} {z v1:Bool} {E e1 s1:Nat} {l l' m:LL} {s:σ} (g cap:Nat) (Vs:List Value) (cur:Array Value)
  (hnf:Hd C E=false) (hH:HR Γ [.arr z E 1 l,.arr v1 e1 s1 m] w) (hi:I s Γ.St Φ w) (hd:∀ b g,Γ.nm b=some g->¬ Φ g)
  (hown:Γ.nm 0=some g\/g=w.heap.size) (hgl:g<w'.heap.size) (hoth:∀ k,k<w.heap.size->Γ.nm 0≠some k->w'.heap[k]? = w.heap[k]?) (hsz:w.heap.size<=w'.heap.size) (h1:w'.os=w.os) (h2:w'.tape=w.tape) (h3:w'.output=w.output)
  (hrow:w'.heap[g]? = some (.cells cur E (0,0))) (hE:Els Γ.St w' 1 l' Vs) (hl':l'≠[]) (hc:∀ q,q<Vs.length->cur[q]? = Vs[q]?) (hl:Vs.length<=cur.size) (hcap:l'.length<=cap) (hm:cap<=maxLen) (hcs:cur.size=cap) :
  X7 C I Γ [.arr z E 1 l,.arr v1 e1 s1 m] w Φ (.fl 0) [.arr z E 1 l',.arr v1 e1 s1 m] s (.slice (some ⟨g,0,none⟩) l'.length cap) w':=by
 have hblt:0<[Blk.arr z E 1 l,.arr v1 e1 s1 m].length:=by simp
 have hng:(Γ.re 0 (some g)).nm 0=some g:=by simp [Ctx.re]
 have hnf':¬ Fc C (A2 [Blk.arr z E 1 l,.arr v1 e1 s1 m] 0):=by simp [A2,Blk.shp,Fc,hnf]
 have hk:([Blk.arr z E 1 l,.arr v1 e1 s1 m].map (Blk.kill 0)).set 0 (.arr z E 1 l')=[.arr z E 1 l',.arr v1 e1 s1 m]:=rfl
 have hgS:¬ Γ.St g:=by
  rcases hown with h | h
  ·exact (hH.lt 0 g h).2.2
  ·intro hs
   have:=hH.stlt g hs
   omega
 obtain ⟨q1,q2,q3⟩:=HG (C:=C) (y:=.arr z E 1 l') (ng:=some g) (w':=w') hH hblt hnf' (λk hk=>by
   simp only [Option.some.injEq] at hk;subst hk
   refine ⟨hgl,hgS,λc hc hc2=>?_⟩
   rcases hown with h | h
   ·exact hc (hH.inj c 0 _ hc2 h)
   ·have:=(hH.lt c _ hc2).2.1
    omega)
  (λk hk=>by
   simp only [Option.some.injEq] at hk;subst hk
   rcases hown with h | h
   ·exact .inl h
   ·exact .inr (by omega)) hoth hsz h1 h2 h3
  (BR.els hng hrow hE (by rintro ⟨_,h⟩;exact hl' h) hc hl) rfl
 rw [hk] at q1 q2
 refine ⟨_,Φ,q1.lift Φ,q2,?_,λc hc=>?_,?_,λb g' hb=>?_⟩
 ·refine .fl 0 g z E 1 l'.length cap rfl (λ_ h=>hl' (List.length_eq_zero_iff.1 h)) hng hcap hm ?_
  simp only [World.shape?,hrow,hcs,Nat.mul_one]
 ·simp only [PV.nms,List.mem_singleton] at hc
  subst hc
  simp
 ·refine hI.mono s Γ.St Φ w Γ.St w' hi (λ_ h=>h) (λk hk hp=>(hI.foot _ _ _ _ hi k hp).2 hk) (λk hk=>Nat.lt_of_lt_of_le (hH.stlt k hk) hsz) (λk hk=>?_) hsz h1 h2 h3
  rcases hk with hk | hk
  ·exact hoth k (hH.stlt k hk) (λh=>(hH.lt 0 k h).2.2 hk)
  ·exact hoth k (hI.foot _ _ _ _ hi k hk).1 (λh=>hd 0 k h hk)
 ·simp only [Ctx.re] at hb
  split at hb
  ·simp only [Option.some.injEq] at hb
   subst hb
   rcases hown with h | h
   ·exact hd 0 _ h
   ·intro hp
    have:=(hI.foot _ _ _ _ hi _ hp).1
    omega
  ·exact hd b g' hb
theorem Z3 {w:World} {g o e:Nat} {vs:List Value} {cur:Array Value} (hg:w.heap[g]? = some (.cells cur e (0,0))) (hle:o+vs.length<=cur.size) (h1:∀ v∈vs,v.oneCell'=true) :
  (w.setCells g o vs).heap[g]? = some (.cells (F1 cur.toList o vs).toArray e (0,0))/\(∀ k,k≠g->(w.setCells g o vs).heap[k]? = w.heap[k]?)/\(w.setCells g o vs).heap.size=w.heap.size/\(w.setCells g o vs).os=w.os/\(w.setCells g o vs).tape=w.tape/\(w.setCells g o vs).output=w.output:=by
 obtain ⟨w',r1,r2,r3,r4,r5,r6,r7,_⟩:=H9 (P:=Tryz.prog) (o:=o) hg hle h1
 have hcell:∀ j,j<vs.length->∃ v,w.cell? ⟨g,o+0+j,none⟩=some v:=λj hj=>by
  refine ⟨cur[o+j]'(by omega),?_⟩
  simp [World.cell?,hg,Array.getElem?_eq_getElem (show o+j<cur.size by omega)]
 have r:=run_storeCells_cells (P:=Tryz.prog) g o vs 0 w (λj hj=>by obtain ⟨v,h⟩:=hcell j hj;rw [h];rfl) (λj hj=>by simp [World.frozen?,hg]) h1
 rw [r] at r1
 simp only [Nat.add_zero,Result.ok.injEq,true_and] at r1
 rw [r1]
 exact ⟨r2,r3,r4,r5,r6,r7⟩
theorem Xi {St:Nat->Prop} {w:World} {l:LL} {cs:List Value} {i:Nat} {n:Int} (h:Els St w 1 l cs) (hi:i<=l.length):Els St w 1 (Hg l i n) (cs.take i++Value.int .i64 n::cs.drop i):=by
 have hlen:=h.1
 rw [Nat.mul_one] at hlen
 have h1:Els St w 1 (l.take i) (cs.take i):=by
  refine ⟨by rw [List.length_take,List.length_take,hlen,Nat.mul_one],λj hj=>?_⟩
  rw [List.length_take] at hj
  rw [List.getElem_take]
  obtain ⟨a,b⟩:=h.2 j (by omega)
  refine ⟨a,λk hk=>?_⟩
  obtain ⟨U,e,v⟩:=b k hk
  exact ⟨U,by rw [List.getElem?_take_of_lt (by omega)];exact e,v⟩
 have h2:Els St w 1 [[SV.int .i64 n]] [Value.int .i64 n]:=by
  refine ⟨rfl,λj hj=>?_⟩
  have:j=0:=by simpa using hj
  subst this
  refine ⟨rfl,λk hk=>?_⟩
  have:k=0:=by simpa using hk
  subst this
  exact ⟨_,rfl,.int _ _⟩
 have h3:Els St w 1 (l.drop i) (cs.drop i):=by
  refine ⟨by rw [List.length_drop,List.length_drop,hlen,Nat.mul_one],λj hj=>?_⟩
  rw [List.length_drop] at hj
  rw [List.getElem_drop]
  obtain ⟨a,b⟩:=h.2 (i+j) (by omega)
  refine ⟨a,λk hk=>?_⟩
  obtain ⟨U,e,v⟩:=b k hk
  exact ⟨U,by rw [List.getElem?_drop];rw [show i+(j*1+k)=(i+j)*1+k by omega];exact e,v⟩
 have:=(h1.append h2).append h3
 unfold Hg
 simpa using this
theorem Xj (l:LL) (i:Nat) (n:Int) (h:i<=l.length):(Hg l i n).length=l.length+1:=by
 unfold Hg
 rw [List.length_append,List.length_cons,List.length_take,List.length_drop]
 omega
theorem GD (l:LL) (i:Nat) (n:Int):Hg l i n≠[]:=by
 unfold Hg
 simp
theorem Bm3:Lj Tryz.prog GX 199 ES:=by
 intro C hP hG σ I yh yv hI hy args H s ret Hc hpf Γ Φ w Vs hyv hH hg hi hd hc hn
 unfold ES at hpf
 split at hpf
 ·rename_i i z l nn
  obtain ⟨h0,hpf⟩:=C0 hpf
  obtain ⟨h1,hpf⟩:=C0 hpf
  obtain ⟨rfl,rfl⟩:=G7 hpf
  obtain ⟨i0,i1⟩:=M0.1 h0
  obtain ⟨i,rfl⟩:=Int.eq_ofNat_of_zero_le i0
  have hl:=Nat.le_of_ble_eq_true h1
  have hil:i<=l.length:=by
   have:(i:Int)<((l.length+1:Nat):Int):=i1
   omega
  obtain ⟨S,X0,V,rfl,hs,hx,hv⟩:=hc.arr3
  obtain rfl:=hx.inv_int
  have hnf:Hd C 3=false:=by
   unfold Hd Cfg.sh
   rw [hP]
   kernel_rfl
  obtain ⟨g1,cur1,n1,n2,n3,n4,n5⟩:=hH.arr' (b:=1) rfl (by simp)
  have hvs:∃ cap,V = .slice (some ⟨g1,0,none⟩) 1 cap:=by
   cases hv with
   | flv _ e sz h=>simp [A2,Blk.shp] at h
   | fl _ g v e sz n cap h hv' hg' hcap hm hs'=>
    rw [n1] at hg'
    simp only [Option.some.injEq] at hg'
    subst hg'
    simp only [A2,List.getElem?_cons_succ,List.getElem?_cons_zero,Option.map_some,Blk.shp,Option.some.injEq,Shp.arr.injEq] at h
    obtain ⟨_,_,_,h4⟩:=h
    subst h4
    exact ⟨cap,rfl⟩
  obtain ⟨cap1,rfl⟩:=hvs
  obtain ⟨V1,p1,p2⟩:=n5 0 (by simp) 0 (by simp)
  have p3:V1 = .int .i64 nn:=by cases p2;rfl
  subst p3
  have hvcell:∀ j v,[Value.int .i64 nn][j]? = some v->w.cell? ⟨g1,0+j,none⟩=some v:=by
   intro j v hj
   have:j=0:=by
    have:=(List.getElem?_eq_some_iff.1 hj).1
    simpa using this
   subst this
   simp only [List.getElem?_cons_zero,Option.some.injEq] at hj
   subst hj
   simpa [World.cell?,n2] using p1
  have hv1:∀ v∈[Value.int .i64 nn],v.oneCell'=true:=by simp [Value.oneCell']
  rw [Int.toNat_natCast]
  refine Ar (fn:=Tryz.f199) (by kernel_rfl) (by kernel_rfl) (by kernel_rfl) ?_
  have grownEnd:∀ (base:Option Addr) (c:Nat) (cs:List Value),l.length<=c->c<l.length+1->cs.length=l.length->(base=none->l.length=0)->(∀ a,base=some a->∀ j v,cs[j]? = some v->w.cell? (a.add j)=some v)->Els Γ.St w 1 l cs->
    Calls Tryz.prog 199 #[.slice base l.length c,.int .i64 (l.length:Int),.slice (some ⟨g1,0,none⟩) 1 cap1] w λe w'=>∃ V,e = .returned V/\X7 C I Γ [.arr z 3 1 l,.arr false 3 1 [[SV.int .i64 nn]]] w Φ (.fl 0) [.arr z 3 1 (Hg l l.length nn),.arr false 3 1 [[SV.int .i64 nn]]] s V w':=by
   intro base c cs a1 a2 a3 a4 a5 a6
   refine (Any2.slices_Insert_int_end_grow Tryz.lays2_21 base l.length c g1 0 1 cap1 cs [.int .i64 nn] w (by omega) a1 a2 (by omega) a3 rfl a4 a5 hvcell hv1).mono ?_
   rintro e w' ⟨rfl,rfl⟩
   refine ⟨_,rfl,?_⟩
   obtain ⟨hge,hle⟩:=Eg (w:=w) (need:=l.length+1) (cap:=c) (e:=3) (by omega)
   have hE:=Xi (n:=nn) a6 (Nat.le_refl l.length)
   have hcsl:cs.take l.length++Value.int .i64 nn::cs.drop l.length=cs++[Value.int .i64 nn]:=by
    rw [List.take_of_length_le (by omega),List.drop_of_length_le (by omega)]
   rw [hcsl] at hE
   have hlen:=Xj l l.length nn (Nat.le_refl _)
   obtain ⟨r1,r2⟩:=Rq (olds:=cs) (Vs:=[Value.int .i64 nn]) (z:=(Value.int .i64 0).cells) (k:=grownCap w (l.length+1) c 3) (n:=l.length) (m:=1) (size:=1) rfl (by omega) rfl hge
   have hrowE:(cs.toArray++[Value.int .i64 nn].toArray)=(cs++[Value.int .i64 nn]).toArray:=by simp
   rw [hrowE] at r1 r2
   have key:∀ (row:Array Value) (kc:Nat),row.size=kc->(∀ q,q<(cs++[Value.int .i64 nn]).length->row[q]? = (cs++[Value.int .i64 nn])[q]?)->l.length+1<=kc->kc<=maxLen->
     X7 C I Γ [.arr z 3 1 l,.arr false 3 1 [[SV.int .i64 nn]]] w Φ (.fl 0) [.arr z 3 1 (Hg l l.length nn),.arr false 3 1 [[SV.int .i64 nn]]] s (.slice (some ⟨w.heap.size,0,none⟩) (l.length+1) kc) (w.drew.alloc (.cells row 3)):=by
    intro row kc b1 b2 b3 b4
    have hwh:(w.drew.alloc (.cells row 3)).heap=w.heap.push (.cells row 3):=rfl
    have:=Yy (C:=C) (w':=w.drew.alloc (.cells row 3)) (l':=Hg l l.length nn) hI w.heap.size kc (cs++[Value.int .i64 nn]) row hnf hH hi hd (.inr rfl) (by rw [hwh];simp) (λk hk _=>F7 hwh hk) (by rw [hwh];simp) rfl rfl rfl (F6 hwh) (hE.mono (λg hg=>F7 hwh (hH.stlt g hg)) (λ_ h=>h)) (GD _ _ _) b2 (by rw [b1,List.length_append,List.length_singleton];omega) (by rw [hlen];exact b3) b4 b1
    rw [hlen] at this
    exact this
   exact key _ _ (r1.trans (Nat.mul_one _)) r2 hge hle
  have two:∀ (row:Array Value) (cs:List Value),cs.length=l.length->i<l.length->l.length+1<=row.size->(∀ q,q<i->row[q]? = cs[q]?)->
    ∀ q,q<(cs.take i++Value.int .i64 nn::cs.drop i).length->(F1 (F1 row.toList i [Value.int .i64 nn]) (i+1) (cs.drop i)).toArray[q]? = (cs.take i++Value.int .i64 nn::cs.drop i)[q]?:=by
   intro row cs a1 a2 a3 a4 q hq
   have hq':q<l.length+1:=by
    rw [List.length_append,List.length_cons,List.length_take,List.length_drop] at hq
    omega
   have ht:(cs.take i).length=i:=by rw [List.length_take];omega
   have hrl:row.toList.length=row.size:=Array.length_toList
   simp only [List.getElem?_toArray]
   rw [J6 _ _ _ (by rw [C3,List.length_drop,hrl];omega),J6 _ _ _ (by rw [List.length_singleton,hrl];omega)]
   by_cases h1:q<i
   ·rw [H7,H7,List.getElem?_append_left (by omega),List.getElem?_take_of_lt h1]
    simpa using a4 q h1
   ·by_cases h2:q=i
    ·subst h2
     rw [H7,if_pos (by rw [List.length_singleton];omega),List.getElem?_append_right (by omega),ht,Nat.sub_self]
     rfl
    ·rw [if_pos (by rw [List.length_drop];omega),List.getElem?_append_right (by omega),ht,show q-i=(q-(i+1))+1 by omega,List.getElem?_cons_succ]
  have grownMid:∀ (g c:Nat) (cs:List Value),i<l.length->l.length<=c->c<l.length+1->cs.length=l.length->(∀ j v,cs[j]? = some v->w.cell? ⟨g,0+j,none⟩=some v)->(∀ v∈cs,v.oneCell'=true)->Els Γ.St w 1 l cs->
    Calls Tryz.prog 199 #[.slice (some ⟨g,0,none⟩) l.length c,.int .i64 (i:Int),.slice (some ⟨g1,0,none⟩) 1 cap1] w λe w'=>∃ V,e = .returned V/\X7 C I Γ [.arr z 3 1 l,.arr false 3 1 [[SV.int .i64 nn]]] w Φ (.fl 0) [.arr z 3 1 (Hg l i nn),.arr false 3 1 [[SV.int .i64 nn]]] s V w':=by
   intro g c cs hi' a1 a2 a3 a4 a5 a6
   refine (Any2.slices_Insert_int_grow Tryz.lays2_21 g 0 l.length c i g1 0 1 cap1 cs [.int .i64 nn] w hi' (by omega) a1 a2 (by omega) a3 rfl a4 hvcell a5 hv1).mono ?_
   rintro e w' ⟨rfl,rfl⟩
   refine ⟨_,rfl,?_⟩
   obtain ⟨hge,hle⟩:=Eg (w:=w) (need:=l.length+1) (cap:=c) (e:=3) (by omega)
   have hE:=Xi (n:=nn) a6 hil
   have hlen:=Xj l i nn hil
   have key:∀ (row:Array Value) (kc:Nat),row.size=kc->(∀ q,q<i->row[q]? = cs[q]?)->l.length+1<=kc->kc<=maxLen->
     X7 C I Γ [.arr z 3 1 l,.arr false 3 1 [[SV.int .i64 nn]]] w Φ (.fl 0) [.arr z 3 1 (Hg l i nn),.arr false 3 1 [[SV.int .i64 nn]]] s (.slice (some ⟨w.heap.size,0,none⟩) (l.length+1) kc) (((w.alloc (.cells row 3)).drew.setCells w.heap.size i [Value.int .i64 nn]).drew.setCells w.heap.size (i+1) (cs.drop i)):=by
    intro row kc b1 b2 b3 b4
    have hwh:(w.alloc (.cells row 3)).drew.heap=w.heap.push (.cells row 3):=rfl
    obtain ⟨c1,c2,c3,c4,c5,c6⟩:=Z3 (w:=(w.alloc (.cells row 3)).drew) (o:=i) (vs:=[Value.int .i64 nn]) (F6 hwh) (by rw [List.length_singleton];omega) hv1
    generalize hw1:(w.alloc (.cells row 3)).drew.setCells w.heap.size i [Value.int .i64 nn]=w1 at *
    have hs1:(F1 row.toList i [Value.int .i64 nn]).toArray.size=kc:=by rw [List.size_toArray,C3];simpa using b1
    obtain ⟨d1,d2,d3,d4,d5,d6⟩:=Z3 (w:=w1.drew) (o:=i+1) (vs:=cs.drop i) c1 (by rw [hs1,List.length_drop];omega) (λv hv=>a5 v (List.mem_of_mem_drop hv))
    have hoth:∀ k,k<w.heap.size->(w1.drew.setCells w.heap.size (i+1) (cs.drop i)).heap[k]? = w.heap[k]?:=λk hk=>by
     rw [d2 k (by omega)]
     exact (c2 k (by omega)).trans (F7 hwh hk)
    have hsz:(w1.drew.setCells w.heap.size (i+1) (cs.drop i)).heap.size=w.heap.size+1:=by
     rw [d3]
     show w1.heap.size=_
     rw [c3,hwh]
     simp
    have:=Yy (C:=C) (w':=w1.drew.setCells w.heap.size (i+1) (cs.drop i)) (l':=Hg l i nn) hI w.heap.size kc (cs.take i++Value.int .i64 nn::cs.drop i) _ hnf hH hi hd (.inr rfl) (by rw [hsz];omega) (λk hk _=>hoth k hk) (by rw [hsz];omega) (d4.trans c4) (d5.trans c5) (d6.trans c6) d1 (hE.mono (λg hg=>hoth g (hH.stlt g hg)) (λ_ h=>h)) (GD _ _ _) (two row cs a3 hi' (by omega) b2) (by rw [List.size_toArray,C3,List.length_append,List.length_cons,List.length_take,List.length_drop];simp only [List.size_toArray,C3] at hs1 ⊢;omega) (by rw [hlen];exact b3) b4 (by rw [List.size_toArray,C3];simpa using hs1)
    rw [hlen] at this
    exact this
   have hz1:(Value.int .i64 0).cells.size=1:=rfl
   have ht:(cs.take i).length=i:=by rw [List.length_take];omega
   refine key _ _ ?_ (λq hq=>?_) hge hle
   ·simp only [Array.size_append,List.size_toArray,size_zeroCells,hz1,Nat.mul_one,ht]
    have:l.length+1<=grownCap w (l.length+1) c 3:=hge
    show i+(l.length+1-i)+(grownCap w (l.length+1) c 3-(l.length+1))=grownCap w (l.length+1) c 3
    omega
   ·rw [Array.getElem?_append_left (by simp only [Array.size_append,List.size_toArray,ht];omega),Array.getElem?_append_left (by simp only [List.size_toArray,ht];omega),List.getElem?_toArray,List.getElem?_take_of_lt hq]
  have two':∀ (row:Array Value) (cs:List Value),cs.length=l.length->i<l.length->l.length+1<=row.size->(∀ q,q<i->row[q]? = cs[q]?)->
    ∀ q,q<(cs.take i++Value.int .i64 nn::cs.drop i).length->(F1 (F1 row.toList (i+1) (cs.drop i)) i [Value.int .i64 nn]).toArray[q]? = (cs.take i++Value.int .i64 nn::cs.drop i)[q]?:=by
   intro row cs a1 a2 a3 a4 q hq
   have hq':q<l.length+1:=by
    rw [List.length_append,List.length_cons,List.length_take,List.length_drop] at hq
    omega
   have ht:(cs.take i).length=i:=by rw [List.length_take];omega
   have hrl:row.toList.length=row.size:=Array.length_toList
   simp only [List.getElem?_toArray]
   rw [J6 _ _ _ (by rw [C3,List.length_singleton,hrl];omega),J6 _ _ _ (by rw [List.length_drop,hrl];omega)]
   by_cases h1:q<i
   ·rw [H7,H7,List.getElem?_append_left (by omega),List.getElem?_take_of_lt h1]
    simpa using a4 q h1
   ·by_cases h2:q=i
    ·subst h2
     rw [if_pos (by rw [List.length_singleton];omega),List.getElem?_append_right (by omega),ht,Nat.sub_self]
     rfl
    ·rw [if_neg (by rw [List.length_singleton];omega),if_pos (by rw [List.length_drop];omega),List.getElem?_append_right (by omega),ht,show q-i=(q-(i+1))+1 by omega,List.getElem?_cons_succ]
  cases hs with
  | flv _ e2 sz2 h'=>
   simp only [A2,List.getElem?_cons_zero,Option.map_some,Blk.shp,Option.some.injEq,Shp.arr.injEq] at h'
   obtain ⟨q1,q2,q3,h4⟩:=h'
   obtain rfl:=List.length_eq_zero_iff.1 h4
   obtain rfl:i=0:=by simpa using hil
   exact grownEnd none 0 [] (by simp) (by simp) rfl (λ_=>rfl) (λa h=>by cases h) ⟨rfl,λj hj=>by simp at hj⟩
  | fl _ g z' e2 sz2 n' cap h' hv' hg' hcap hm hs'=>
   simp only [A2,List.getElem?_cons_zero,Option.map_some,Blk.shp,Option.some.injEq,Shp.arr.injEq] at h'
   obtain ⟨rfl,rfl,rfl,rfl⟩:=h'
   have hne:¬ (z=true/\l=[]):=by rintro ⟨q1,q2⟩;exact hv' q1 (by rw [q2];rfl)
   obtain ⟨g',cur,hg2,hh,hsize,hlens,hels⟩:=hH.arr' (b:=0) rfl hne
   obtain rfl:g=g':=by
    rw [hg'] at hg2
    exact Option.some.inj hg2
   have hcs:cur.size=cap:=by
    have:=hs'
    simp only [World.shape?,hh,Option.some.injEq,Prod.mk.injEq,true_and,Nat.mul_one] at this
    exact this
   rw [Nat.mul_one] at hsize
   have hO:Els Γ.St w 1 l (cur.toList.take l.length):=by
    refine ⟨by rw [List.length_take,Array.length_toList (xs:=cur)];omega,λj hj=>⟨hlens j hj,λk hk=>?_⟩⟩
    obtain ⟨U,e1,u⟩:=hels j hj k hk
    refine ⟨U,?_,u⟩
    have hk':k<1:=by rw [<-hlens j hj];exact hk
    rw [List.getElem?_take,Bn]
    simpa using e1
   have hol:(cur.toList.take l.length).length=l.length:=by rw [List.length_take,Array.length_toList (xs:=cur)];omega
   have hcell:∀ j v,(cur.toList.take l.length)[j]? = some v->w.cell? ⟨g,0+j,none⟩=some v:=by
    intro j v hj
    have hj':j<l.length:=by
     have:=(List.getElem?_eq_some_iff.1 hj).1
     omega
    rw [List.getElem?_take,if_pos hj'] at hj
    simpa [World.cell?,hh] using hj
   have h1c:∀ v∈cur.toList.take l.length,v.oneCell'=true:=by
    intro v hv
    obtain ⟨j,hj,rfl⟩:=List.getElem_of_mem hv
    have hj':j<l.length:=by omega
    obtain ⟨_,u⟩:=hO.2 j hj'
    obtain ⟨U,e1,u2⟩:=u 0 (by rw [hlens j hj'];exact Nat.one_pos)
    rw [Nat.mul_one,Nat.add_zero,List.getElem?_eq_getElem hj] at e1
    cases e1
    exact u2.oneCell
   have hlen:=Xj l i nn hil
   have hE:=Xi (n:=nn) hO hil
   have hsome:∀ j,j<cap->(w.cell? ⟨g,j,none⟩).isSome=true:=by
    intro j hj
    simp only [World.cell?,hh]
    rw [Array.getElem?_eq_getElem (by omega)]
    rfl
   have hfrz:∀ j,w.frozen? ⟨g,j,none⟩=false:=λj=>by simp [World.frozen?,hh]
   have hng1:g1≠g:=λe=>by
    have:=hH.inj 1 0 g (by rw [<-e];exact n1) hg'
    omega
   have hmx:cap<=9223372036854775807:=by
    simp only [maxLen] at hm
    omega
   by_cases hroom:l.length+1<=cap
   ·have key:∀ (w':World) (row:List Value),w'.heap[g]? = some (.cells row.toArray 3 (0,0))->(∀ k,k≠g->w'.heap[k]? = w.heap[k]?)->w'.heap.size=w.heap.size->w'.os=w.os->w'.tape=w.tape->w'.output=w.output->row.length=cap->
      (∀ q,q<((cur.toList.take l.length).take i++Value.int .i64 nn::(cur.toList.take l.length).drop i).length->row.toArray[q]? = ((cur.toList.take l.length).take i++Value.int .i64 nn::(cur.toList.take l.length).drop i)[q]?)->
      X7 C I Γ [.arr z 3 1 l,.arr false 3 1 [[SV.int .i64 nn]]] w Φ (.fl 0) [.arr z 3 1 (Hg l i nn),.arr false 3 1 [[SV.int .i64 nn]]] s (.slice (some ⟨g,0,none⟩) (l.length+1) cap) w':=by
     intro w' row k1 k2 k3 k4 k5 k6 k7 k8
     have hgS:¬ Γ.St g:=(hH.lt 0 g hg').2.2
     have:=Yy (C:=C) (w':=w') (l':=Hg l i nn) hI g cap ((cur.toList.take l.length).take i++Value.int .i64 nn::(cur.toList.take l.length).drop i) row.toArray hnf hH hi hd (.inl hg') (by rw [k3];exact (hH.lt 0 g hg').2.1) (λk hk hk2=>k2 k (λe=>hk2 (e ▸ hg'))) (by omega) k4 k5 k6 k1
      (hE.mono (λk hk=>k2 k (λe=>hgS (e ▸ hk))) (λ_ h=>h)) (GD _ _ _) k8
      (by rw [List.size_toArray,k7,List.length_append,List.length_cons,List.length_take,List.length_drop,hol];omega) (by rw [hlen];exact hroom) hm (by rw [List.size_toArray,k7])
     rw [hlen] at this
     exact this
    by_cases hie:i=l.length
    ·subst hie
     refine (Any2.slices_Insert_int_end_room Tryz.lays2_21 g 0 l.length cap g1 0 1 cap1 [.int .i64 nn] w (by omega) hroom hmx rfl (λj hj=>hsome _ (by omega)) (λj hj=>hfrz _) hvcell hv1).mono ?_
     rintro e w' ⟨rfl,rfl⟩
     refine ⟨_,rfl,?_⟩
     obtain ⟨c1,c2,c3,c4,c5,c6⟩:=Z3 (w:=w) (o:=0+l.length) (vs:=[Value.int .i64 nn]) hh (by rw [List.length_singleton];omega) hv1
     refine key _ _ c1 c2 c3 c4 c5 c6 (by rw [C3];simpa using hcs) (λq hq=>?_)
     rw [List.take_of_length_le (by omega),List.drop_of_length_le (by omega)] at hq ⊢
     rw [List.length_append,hol,List.length_singleton] at hq
     simp only [List.getElem?_toArray]
     rw [J6 _ _ _ (by rw [List.length_singleton,Array.length_toList (xs:=cur)];omega)]
     by_cases hq2:q<l.length
     ·rw [H7,List.getElem?_append_left (by omega),List.getElem?_take,if_pos hq2]
     ·obtain rfl:q=l.length:=by omega
      rw [if_pos (by rw [List.length_singleton];omega),List.getElem?_append_right (by omega),hol]
      simp
    ·have hi':i<l.length:=by omega
     refine (Any2.slices_Insert_int_shift Tryz.lays2_21 g 0 l.length cap i g1 0 1 cap1 (cur.toList.take l.length) [.int .i64 nn] w hi' (by omega) hroom hmx hng1 hol rfl hcell (λj hj=>hsome _ (by omega)) (λj hj=>hfrz _) hvcell h1c hv1 3 3 cur1.size cur.size (by simp [World.shape?,n2]) (by simp [World.shape?,hh]) (by omega) (by simp [World.frozen?,n2]) (by simp [World.frozen?,n2])).mono ?_
     rintro e w' ⟨rfl,rfl⟩
     refine ⟨_,rfl,?_⟩
     obtain ⟨c1,c2,c3,c4,c5,c6⟩:=Z3 (w:=w.drew) (o:=0+(i+1)) (vs:=(cur.toList.take l.length).drop i) hh (by rw [List.length_drop,hol];omega) (λv hv=>h1c v (List.mem_of_mem_drop hv))
     generalize hw1:w.drew.setCells g (0+(i+1)) ((cur.toList.take l.length).drop i)=w1 at *
     have hs1:(F1 cur.toList (0+(i+1)) ((cur.toList.take l.length).drop i)).toArray.size=cap:=by rw [List.size_toArray,C3];simpa using hcs
     obtain ⟨d1,d2,d3,d4,d5,d6⟩:=Z3 (w:=w1) (o:=0+i) (vs:=[Value.int .i64 nn]) c1 (by rw [hs1,List.length_singleton];omega) hv1
     refine key _ _ d1 (λk hk=>(d2 k hk).trans (c2 k hk)) (d3.trans c3) (d4.trans c4) (d5.trans c5) (d6.trans c6) (by rw [C3];simpa using hs1) ?_
     rw [Nat.zero_add,Nat.zero_add]
     exact two' cur _ hol hi' (by omega) (λq hq=>by rw [List.getElem?_take,Bn];simp)
   ·by_cases hie:i=l.length
    ·subst hie
     exact grownEnd (some ⟨g,0,none⟩) cap (cur.toList.take l.length) hcap (by omega) hol (λh=>by cases h) (λa h j v hj=>by
      obtain rfl:=Option.some.inj h
      rw [I5]
      exact hcell j v hj) hO
    ·exact grownMid g cap _ (by omega) hcap (by omega) hol hcell h1c hO
 ·cases hpf
end
section
open Go Go.Proofs
set_option maxRecDepth 100000
section
theorem Bc4:Lj Tryz.prog GX 189 Uf:=by
 refine T5 (C₀:=FF LF) (Ib (lx:=[(186,Ir),(184,It)]) (ly:=[(198,CW),(199,ES)]) (ls:=[]) rfl rfl rfl ⟨NJ,NK,trivial⟩ ⟨Bm1,Bm3,trivial⟩ trivial) (F5 rfl (by kernel_rfl)) follows ?_
 intro args H ret Hc h
 unfold Uf at h
 split at h
 ·rename_i rest n i b st z l
  obtain ⟨h0,h⟩:=C0 h
  obtain ⟨h1,h⟩:=C0 h
  obtain ⟨h2,h⟩:=C0 h
  obtain ⟨h3,h⟩:=C0 h
  obtain ⟨h4,h⟩:=C0 h
  obtain ⟨rfl,rfl⟩:=G7 h
  refine ⟨rfl,rfl,λσ yh s=>?_⟩
  have e:=(An0 LF yh s 0 rest n i b st z l).trans (PT rest n i b st z l h0 h1 h2 h3 h4)
  exact ⟨1,_,e,rfl⟩
 ·cases h
theorem Bl3:B4 Tryz.prog GX 170 Ai9:=by
 refine B4.fix (pf:=EC) _ (U7 [1,0] (C₀:=T8 LF) (Ib (lx:=[(97,Ug)]) (ly:=[(189,Uf)]) (ls:=[]) rfl rfl rfl ⟨YJ,trivial⟩ ⟨Bc4,trivial⟩ trivial) (F5 rfl (by kernel_rfl)) follows ?_)
 intro args ret Hc h
 unfold EC at h
 split at h
 ·rename_i s
  obtain ⟨h0,h⟩:=C0 h
  obtain ⟨rfl,rfl⟩:=G7 h
  obtain ⟨rr,hH,ee,qq⟩:=A66 s h0
  exact ⟨rfl,rfl,rfl,1,rr,hH,(A65 LF noY () 0 s).trans ee,qq⟩
 ·cases h
end
end
section
open Go Go.Proofs Go.Sort
set_option maxRecDepth 100000
theorem Ax8:B4 Tryz.prog GX 159 IQ:=by
 refine B4.fix (pf:=Qs) _ (M8 (fn:=Tryz.f159) (by kernel_rfl) (by kernel_rfl) (by kernel_rfl) ?_)
 intro args ret Hc h
 unfold Qs at h
 split at h
 ·rename_i s
  obtain ⟨h0,h⟩:=C0 h
  obtain ⟨rfl,rfl⟩:=G7 h
  refine ⟨rfl,rfl,λC hP hCG Γ w Vs hG hlt hc=>?_⟩
  obtain ⟨U,rfl,hu⟩:=hc.arr1
  obtain ⟨s',rfl,rfl⟩:=hu.inv_str
  have hs:=M7 h0
  refine (Any.utf8_ValidString Tryz.lays196 s' w (by simp at hs;omega) (A13 hG hCG)).mono ?_
  rintro e w' ⟨rfl,hb⟩
  rw [<-VE]
  exact ⟨_,rfl,hb,VP.mk_bool _⟩
 ·cases h
theorem Ax7:B4 Tryz.prog GX 160 IP:=by
 refine B4.fix (pf:=Qr) _ (M8 (fn:=Tryz.f160) (by kernel_rfl) (by kernel_rfl) (by kernel_rfl) ?_)
 intro args ret Hc h
 unfold Qr at h
 split at h
 ·rename_i s
  obtain ⟨h0,h⟩:=C0 h
  obtain ⟨rfl,rfl⟩:=G7 h
  refine ⟨rfl,rfl,λC hP hCG Γ w Vs hG hlt hc=>?_⟩
  obtain ⟨U,rfl,hu⟩:=hc.arr1
  obtain ⟨s',rfl,rfl⟩:=hu.inv_str
  have hs:=M7 h0
  refine (Any.utf8_RuneCountInString Tryz.lays195 s' w (by simp at hs;omega)).mono ?_
  rintro e w' ⟨rfl,pos,rfl⟩
  rw [Lib.runeCountL_eq]
  exact ⟨_,rfl,OK _ _ _,VP.mk_int _ _⟩
 ·cases h
theorem Ba8:B4 Tryz.prog GX 107 Ni:=λargs ret Hc h=>by
 have:G1 (Ni args)=none:=by unfold Ni IK;split<;>rfl
 rw [this] at h;cases h
theorem YM:IJ Tryz.prog GX 106 Nl:=by
 refine Tv (C₀:=U8 LF) ((K3.ok (l:=[(107,Ni),(108,Vv)]) rfl ⟨Ba8,VK,trivial⟩)) (F5 rfl (by kernel_rfl)) follows ?_
 intro args H L h σ yh s s' hr
 unfold Nl at h
 split at h
 ·rename_i p t n
  simp only [Option.some.injEq,Prod.mk.injEq] at h
  obtain ⟨h1,rfl⟩:=h
  obtain ⟨t',f⟩:=UW (R:=PV × List Blk × σ) yh p t n s s' h1 hr
  exact ⟨1,_,(Au4 LF yh 0 p t n s).trans (f _)⟩
 ·cases h
end
section
open Go Go.Proofs
set_option maxRecDepth 100000
section
theorem Bb2:B4 Tryz.prog GX 131 VU:=xf [] (Gv LF) Vf rfl ⟨Bl3,Aw9,trivial⟩ rfl (by kernel_rfl) follows λargs=>by
 unfold Vf;split
 ·rename_i s;exact λh0=>⟨rfl,rfl,rfl,_,_,(Aq2 LF noY () 0 s).trans (RD s h0),rfl⟩
 ·trivial
theorem Aw8:B4 Tryz.prog GX 94 DV:=xf [] (Mp LF) DW rfl ⟨Bj7,Bb2,trivial⟩ rfl (by kernel_rfl) follows λargs=>by
 unfold DW;split
 ·rename_i s;exact λh0=>⟨rfl,rfl,rfl,_,_,(A51 LF noY () 0 s).trans (Ab5 s h0),rfl⟩
 ·trivial
theorem Bk3:B4 Tryz.prog GX 118 Ai1:=xf [0,0] (Ja LF) DH rfl ⟨Ax8,Ax7,Aw6,Aw9,Aw8,trivial⟩ rfl (by kernel_rfl) follows λargs=>by
 unfold DH;split
 ·rename_i s;exact λh0=>(let ⟨rr,hH,ee,qq⟩:=A28 s h0;⟨rfl,rfl,rfl,rr,hH,(A27 LF noY () 0 s).trans ee,qq⟩)
 ·trivial
theorem Bj9:B4 Tryz.prog GX 156 Ah9:=xf [] (Ew LF) CY rfl trivial rfl (by kernel_rfl) follows λargs=>by
 unfold CY;split
 ·rename_i b;exact λh0=>⟨rfl,rfl,rfl,_,_,(A17 LF noY () 0 b).trans (ZK b h0),rfl⟩
 ·trivial
theorem Bj8:B4 Tryz.prog GX 114 Ah8:=xf [0,0] (Mj LF) CX rfl ⟨Bj9,trivial⟩ rfl (by kernel_rfl) follows λargs=>by
 unfold CX;split
 ·rename_i s;exact λh0=>(let ⟨rr,hH,ee,qq⟩:=A15 s h0;⟨rfl,rfl,rfl,rr,hH,(A14 LF noY () 0 s).trans ee,qq⟩)
 ·trivial
theorem Bb3:B4 Tryz.prog GX 81 DT:=by
 refine B4.fix (pf:=Vg) _ (N5 (C₀:=FJ LF) (K3.ok (l:=[]) rfl trivial) (F5 rfl (by kernel_rfl)) follows ?_)
 intro args ret Hc h
 unfold Vg at h
 split at h
 ·rename_i t p n
  obtain ⟨rfl,rfl⟩:=G7 h
  have e:=(Aq4 LF noY () 0 t p n).trans (RE t p n )
  exact ⟨rfl,1,_,[],e,rfl,rfl⟩
 ·cases h
theorem Ax5:B4 Tryz.prog GX 49 ET:=by
 refine B4.fix (pf:=EU) _ (N5 (C₀:=PE LF) (K3.ok (l:=[(81,DT)]) rfl ⟨Bb3,trivial⟩) (F5 rfl (by kernel_rfl)) follows ?_)
 intro args ret Hc h
 unfold EU at h
 split at h
 ·rename_i t p
  obtain ⟨rfl,rfl⟩:=G7 h
  have e:=(A96 LF noY () 0 t p).trans (Ag1 t p )
  exact ⟨rfl,1,_,[],e,rfl,rfl⟩
 ·cases h
theorem Be6:B4 Tryz.prog GX 59 VR:=by
 refine B4.fix (pf:=NS) _ (U7 [] (C₀:=Iz LF) (Ib (lx:=[(93,Kh),(49,ET),(94,DV)]) (ly:=[]) (ls:=[(106,Nl)]) rfl rfl rfl ⟨CS,Ax5,Aw8,trivial⟩ trivial ⟨YM,trivial⟩) (F5 rfl (by kernel_rfl)) follows ?_)
 intro args ret Hc h
 unfold NS at h
 split at h
 ·rename_i s
  obtain ⟨h0,h⟩:=C0 h
  obtain ⟨rfl,rfl⟩:=G7 h
  obtain ⟨rr,hH,ee,qq⟩:=Bh0 s h0
  exact ⟨rfl,rfl,rfl,1,rr,hH,(Bg9 LF noY () 0 s).trans ee,qq⟩
 ·cases h
theorem Bk0:B4 Tryz.prog GX 41 Ai0:=by
 refine B4.fix (pf:=DB) _ (N5 (C₀:=OR LF) (K3.ok (l:=[]) rfl trivial) (F5 rfl (by kernel_rfl)) follows ?_)
 intro args ret Hc h
 unfold DB at h
 split at h
 ·rename_i t
  obtain ⟨rfl,rfl⟩:=G7 h
  have e:=(A21 LF noY () 0 t).trans (ZO t )
  exact ⟨rfl,1,_,[],e,rfl,rfl⟩
 ·cases h
end
section
theorem Bl1:B4 Tryz.prog GX 143 Ai7:=xf [] (PA LF) DZ rfl trivial rfl (by kernel_rfl) follows λargs=>by
 unfold DZ;split
 ·rename_i s;exact ⟨rfl,rfl,rfl,_,_,(A55 LF noY () 0 s).trans (Ab7 s ),rfl⟩
 ·trivial
theorem Bl0:B4 Tryz.prog GX 144 Ai6:=xf [] (OZ LF) DY rfl trivial rfl (by kernel_rfl) follows λargs=>by
 unfold DY;split
 ·rename_i n;exact ⟨rfl,rfl,rfl,_,_,(A53 LF noY () 0 n).trans (Ab6 n ),rfl⟩
 ·trivial
theorem Bp4:B4 Tryz.prog GX 98 Bd0:=xf [] (Al4 LF) NO rfl ⟨Bl1,trivial⟩ rfl (by kernel_rfl) follows λargs=>by
 unfold NO;split
 ·rename_i s p;exact ⟨rfl,rfl,rfl,_,_,(Bf9 LF noY () 0 s p).trans (Al9 s p ),rfl⟩
 ·trivial
theorem Bp3:B4 Tryz.prog GX 99 Bc9:=xf [] (Al3 LF) NN rfl ⟨Bl0,trivial⟩ rfl (by kernel_rfl) follows λargs=>by
 unfold NN;split
 ·rename_i n m;exact ⟨rfl,rfl,rfl,_,_,(Bf8 LF noY () 0 n m).trans (Al8 n m ),rfl⟩
 ·trivial
theorem Bl2:B4 Tryz.prog GX 63 Ai8:=xf [] (Mq LF) EB rfl ⟨YJ,Bp4,Bp3,trivial⟩ rfl (by kernel_rfl) follows λargs=>by
 unfold EB;split
 ·rename_i s p;exact λh0=>λh1=>⟨rfl,rfl,rfl,_,_,(A63 LF noY () 0 s p).trans (Ac5 s p h0 h1),rfl⟩
 ·trivial
theorem Bk8:B4 Tryz.prog GX 58 Ai4:=xf [] (OW LF) DP rfl ⟨Be6,trivial⟩ rfl (by kernel_rfl) follows λargs=>by
 unfold DP;split
 ·rename_i h b;exact λh0=>(let ⟨rr,hH,ee,qq⟩:=A41 h b h0;⟨rfl,rfl,rfl,rr,hH,(A40 LF noY () 0 h b).trans ee,qq⟩)
 ·trivial
theorem Bp7:B4 Tryz.prog GX 66 Bd3:=xf [] (Al5 LF) NW rfl ⟨Bl2,trivial⟩ rfl (by kernel_rfl) follows λargs=>by
 unfold NW;split
 ·rename_i h b s;exact λh0=>λh1=>(let ⟨rr,hH,ee,qq⟩:=Bh6 h b s h0 h1;⟨rfl,rfl,rfl,rr,hH,(Bh5 LF noY () 0 h b s).trans ee,qq⟩)
 ·trivial
theorem Bk6:B4 Tryz.prog GX 92 Ai3:=xf [] (Mn LF) DM rfl ⟨Bk8,trivial⟩ rfl (by kernel_rfl) follows λargs=>by
 unfold DM;split
 ·rename_i l_z l_t l;exact λh0=>λh1=>λh2=>⟨rfl,rfl,rfl,_,_,(A38 LF noY () 0 l_z l_t l).trans (Aa5 l_z l_t l h0 h1 h2),rfl⟩
 ·trivial
theorem VI:B4 Tryz.prog GX 57 Vb:=xf [] (OU LF) DK rfl ⟨Bk6,trivial⟩ rfl (by kernel_rfl) follows λargs=>by
 unfold DK;split
 ·rename_i l_z l_t l;exact λh0=>λh1=>λh2=>⟨rfl,rfl,rfl,_,_,(A35 LF noY () 0 l_z l_t l).trans (Aa0 l_z l_t l h0 h1 h2),rfl⟩
 ·trivial
theorem IC:B4 Tryz.prog GX 60 Lv:=by
 refine B4.fix (pf:=DJ) _ (N5 (C₀:=OT LF) (K3.ok (l:=[]) rfl trivial) (F5 rfl (by kernel_rfl)) follows ?_)
 intro args ret Hc h
 unfold DJ at h
 split at h
 ·rename_i l_z l_t l
  obtain ⟨h0,h⟩:=C0 h
  obtain ⟨h1,h⟩:=C0 h
  obtain ⟨rfl,rfl⟩:=G7 h
  have e:=(A33 LF noY () 0 l_z l_t l).trans (ZZ l_z l_t l h0 h1)
  exact ⟨rfl,1,_,[],e,rfl,rfl⟩
 ·cases h
theorem Bk4:B4 Tryz.prog GX 65 Ai2:=xf [0,0] (Mm LF) DI rfl ⟨Bp7,trivial⟩ rfl (by kernel_rfl) follows λargs=>by
 unfold DI;split
 ·rename_i l_z l_t l q;exact λh0=>λh1=>λh2=>λh3=>⟨rfl,rfl,rfl,_,_,(A31 LF noY () 0 l_z l_t l q).trans (ZY l_z l_t l q h0 h1 h2 h3),rfl⟩
 ·trivial
end
end
section
open Go
theorem Sy {x:List By} (h:x≠[]):Nt [] x = -1/\Nt x []=1:=by
 cases x with
 | nil=>exact absurd rfl h
 | cons a r=>exact ⟨rfl,rfl⟩
theorem Ol (s:By):(G4 46 s = -1/\s.drop (G4 46 s+1).toNat=s/\rl s=[s])\/(0<=G4 46 s/\G4 46 s<s.length/\rl s=s.drop (G4 46 s+1).toNat::rl (s.take (G4 46 s).toNat)):=by
 rcases Ag s with ⟨h1,h2⟩ | ⟨p,q,rfl,h1,h2⟩
 ·exact .inl ⟨h2,by rw [h2];rfl,Ym h1⟩
 ·refine .inr ⟨by omega,by rw [h2];simp;omega,?_⟩
  rw [h2,Yn p h1,show ((p.length:Int)+1).toNat=p.length+1 by omega,Int.toNat_natCast,List.take_left]
  congr 1
  simp
theorem Am1 (a b:By) (i k:Int) (hi:i=G4 46 a) (hk:k=G4 46 b) :
  (S8 (a.drop (i+1).toNat) (b.drop (k+1).toNat)≠0->O6 a b=S8 (a.drop (i+1).toNat) (b.drop (k+1).toNat))/\
  (S8 (a.drop (i+1).toNat) (b.drop (k+1).toNat)=0->(i<0\/k<0)->O6 a b=FR (min i 0) (min k 0))/\
  (S8 (a.drop (i+1).toNat) (b.drop (k+1).toNat)=0->0<=i->0<=k->O6 a b=O6 (a.take i.toNat) (b.take k.toNat)):=by
 have hcmp:∀ x y:By,O6 x y=Nt (rl x) (rl y):=λx y=>rfl
 rw [hcmp,hcmp]
 rcases Ol a with ⟨a1,a2,a3⟩ | ⟨a1,a2,a3⟩<;>rcases Ol b with ⟨b1,b2,b3⟩ | ⟨b1,b2,b3⟩<;>rw [<-hi] at a1 a2<;>rw [<-hk] at b1 b2
 ·rw [a2,b2,a3,b3]
  refine ⟨λh=>L8 h,λh _=>?_,λ_ h=>by omega⟩
  rw [S9 h,L7,a1,b1]
  rfl
 ·rw [<-hk] at b3
  rw [a2,a3,b3]
  refine ⟨λh=>L8 h,λh _=>?_,λ_ h=>by omega⟩
  rw [S9 h,L7,(Sy (XX _)).1,a1,Int.min_eq_right b1]
  rfl
 ·rw [<-hi] at a3
  rw [b2,b3,a3]
  refine ⟨λh=>L8 h,λh _=>?_,λ_ _ h=>by omega⟩
  rw [S9 h,L7,(Sy (XX _)).2,b1,Int.min_eq_right a1]
  rfl
 ·rw [<-hi] at a3
  rw [<-hk] at b3
  rw [a3,b3]
  refine ⟨λh=>L8 h,λh hn=>by omega,λh _ _=>?_⟩
  rw [S9 h,L7]
end
end Go.Proofs.YtelhbgonncceeaaGreatDoor.E
