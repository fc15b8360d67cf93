/-
  Parts of the proof, merged by a program of the prover's own; no condition.
-/
import Derived.Test.YtokehocipgepnaaGreatDoorKG3
import Derived.LaidMore
import Derived.LaidSub
import Derived.Lay
import Derived.Lib.TrimAscii
import Derived.Lib.TrimUEq
import Derived.Lib.ValidLaws
import Derived.OpenShut
import Derived.ProofKit
import Derived.Shelf.Vars
import Derived.Test.YtokehocipgepnaaGreatDoorChecked
import Derived.Test.YtokehocipgepnaaGreatDoorRows
namespace Go.Proofs.YtokehocipgepnaaGreatDoor.E
open Go Go.Proofs 
set_option linter.unusedVariables false
set_option maxRecDepth 100000
section
variable {σ R : Type} (lf : Nat) (cl : CallT) (yh : Yh σ) (s : σ) (k : Out → St σ → Option R)
noncomputable abbrev b_hparse:Code:=bodyOf Tryz.f21
noncomputable def c_hparse (lf:Nat):Cfg:=mkCfg lf [21] (lookK [(16,[2,0,4,41,0,0])]) [(44,X_hpre),(45,X_haddr),(46,X_hdec),(47,X_tsufc),(48,X_numeric),(49,X_pnum),(50,X_ssplitM),(51,X_lasc),(52,X_sjoin)] (lookK [(28,[2,0]),(25,[2,0]),(27,[2,0]),(26,[2,10,64]),(24,[2,10,59]),(23,[2,10]),(22,[2,5,41,0,0]),(21,[2,5,41,0,0]),(20,[2,0]),(19,[2,5,0,1,0,37,0,0,10]),(18,[2,5,0,1,0,37,0,0]),(17,[2,5,0,0,39,0,0]),(16,[2,5,41,0,0,0]),(15,[2,5,41,0,0]),(14,[2,5]),(13,[2,0]),(12,[2,0]),(11,[2,3,37]),(10,[2,3,0]),(9,[2,1,32]),(8,[2,1]),(7,[2,0]),(6,[2,1,27]),(5,[2,1,0]),(2,[2,0]),(4,[2,0]),(3,[0,1,16]),(1,[0,1,11]),(0,[0,1])]) [44,46,47,48,49,51,52] (lookK [(3,[2,10]),(1,[2,5]),(2,[2,5,41,0,0]),(0,[0,1])]) (some [2,0]) [] [] []
noncomputable def hparse_l0f {R:Type} (lf n:Nat) (self:Nat→Int→Int→LL→Option R) (l_m0:Nat) (n1 n2:Int) (l3:LL) (k0:Int→LL→Option R) (k1:Nat→LL→Option R):Option R:=cond (ltI n2 n1) (cond (inR n2 l_m0) (cond (okE tStr l3 (0+(Int.toNat n2)) 0) (vl (gX l3 (0+(Int.toNat n2)) 0) fun s'33=>cond (small (List.length s'33)) (vl (↑((toAsc s'33)).2:Int) fun n'35=>cond (n'35 != (0:Int)) (k0 n'35 l3) (cond (inR n2 l_m0) (cond (decide ((0+(Int.toNat n2))<(List.length l3))) (vl (List.set l3 (0+(Int.toNat n2)) (putAt (List.getD l3 (0+(Int.toNat n2)) []) 0 [(SV.str ((toAsc s'33)).1)])) fun l'36=>self l_m0 n1 (wi64 (n2+(1:Int))) l'36) (none)) (none))) (none)) (none)) (none)) (k1 l_m0 l3)
noncomputable def hparse_l0 {R:Type} (lf n:Nat) (l_m0:Nat) (n1 n2:Int) (l3:LL) (k0:Int→LL→Option R) (k1:Nat→LL→Option R):Option R:=recN (α:=Nat→Int→Int→LL→Option R) (fun _ _ _ _=>none) (fun n self l_m0 n1 n2 l3=>hparse_l0f lf n self l_m0 n1 n2 l3 k0 k1) n l_m0 n1 n2 l3
theorem hparse_l0_s {R:Type} (lf n:Nat) (l_m0:Nat) (n1 n2:Int) (l3:LL) (k0:Int→LL→Option R) (k1:Nat→LL→Option R):hparse_l0 lf (n+1) l_m0 n1 n2 l3 k0 k1=hparse_l0f lf n (fun l_m0 n1 n2 l3=>hparse_l0 lf n l_m0 n1 n2 l3 k0 k1) l_m0 n1 n2 l3 k0 k1:=rfl
theorem hparse_l0_eq (n:Nat) (l_m0:Nat) (n1 n2:Int) (l3:LL):loopK 2 ((c_hparse lf).keep 16) (bd (c_hparse lf) cl yh (cd [1,1,1,1,1,1,1,0,1,0,0] b_hparse)) n ⟨gp [(2,.ptr 0 0 0),(5,.vw 1 0 l_m0),(41,.vw 1 0 l_m0),(0,.s (.int .i64 n1)),(0,.s (.int .i64 n2))] 31,[.box [.s (.int .i64 (0:Int)),.s (.str ([]:List UInt8)),.s (.int .u32 (0:Int)),.s (.int .u16 (0:Int)),.s (.int .u16 (0:Int)),.s (.int .u16 (0:Int)),.s (.int .u16 (0:Int)),.s (.int .u16 (0:Int)),.s (.int .u16 (0:Int)),.s (.int .u16 (0:Int)),.s (.int .u16 (0:Int))],.arr false 9 1 l3],s⟩ k =
 hparse_l0 lf n l_m0 n1 n2 l3 (fun n0 l1=>k .ret ⟨gp [(2,.ptr 0 0 0),(0,.s (.int .i64 n0))] 80,[.box [.s (.int .i64 (0:Int)),.s (.str ([]:List UInt8)),.s (.int .u32 (0:Int)),.s (.int .u16 (0:Int)),.s (.int .u16 (0:Int)),.s (.int .u16 (0:Int)),.s (.int .u16 (0:Int)),.s (.int .u16 (0:Int)),.s (.int .u16 (0:Int)),.s (.int .u16 (0:Int)),.s (.int .u16 (0:Int))],.arr false 9 1 l1],s⟩) (fun l_m0 l1=>k (.exit 1) ⟨gp [(2,.ptr 0 0 0),(5,.vw 1 0 l_m0)] 75,[.box [.s (.int .i64 (0:Int)),.s (.str ([]:List UInt8)),.s (.int .u32 (0:Int)),.s (.int .u16 (0:Int)),.s (.int .u16 (0:Int)),.s (.int .u16 (0:Int)),.s (.int .u16 (0:Int)),.s (.int .u16 (0:Int)),.s (.int .u16 (0:Int)),.s (.int .u16 (0:Int)),.s (.int .u16 (0:Int))],.arr false 9 1 l1],s⟩):=by
 induction n generalizing l_m0 n1 n2 l3 with
 | zero=>rfl
 | succ n ih=>rw [hparse_l0_s];unfold hparse_l0f;exact (Eq.trans (by kernel_rfl) (cond_congr (cond_congr (cond_congr (vl_congr fun s'33=>(cond_congr (vl_congr fun n'35=>(cond_congr rfl (cond_congr (cond_congr (vl_congr fun l'36=>(ih l_m0 n1 (wi64 (n2+(1:Int))) l'36)) rfl) rfl))) rfl)) rfl) rfl) rfl))
noncomputable def hparse {R:Type} (lf:Nat) (raw0:By) (k0:Int→By→Int→Int→Int→Int→Int→Int→Int→Int→Int→Int→Int→By→Int→Int→Int→Int→Int→Int→Int→Int→Int→Option R) (k1:Int→By→Int→Int→By→LL→Option R):Option R:=cond (ltI (1024:Int) (↑(List.length raw0):Int)) (k0 0 ([]:List UInt8) 0 0 0 0 0 0 0 0 0 3 0 ([]:List UInt8) 0 0 0 0 0 0 0 0 0) (cond (small (List.length raw0)) (cond (List.isPrefixOf (([91]:List UInt8)) raw0) (cond (small (List.length raw0)) (cond (isBr raw0) (vl (↑(HostV.kind ((addrH raw0)).1):Int) fun n'12=>vl (HostV.name ((addrH raw0)).1) fun s'13=>vl (↑(HostV.v4 ((addrH raw0)).1):Int) fun n'14=>vl (↑(List.getD (HostV.v6 ((addrH raw0)).1) 0 0):Int) fun n'15=>vl (↑(List.getD (HostV.v6 ((addrH raw0)).1) 1 0):Int) fun n'16=>vl (↑(List.getD (HostV.v6 ((addrH raw0)).1) 2 0):Int) fun n'17=>vl (↑(List.getD (HostV.v6 ((addrH raw0)).1) 3 0):Int) fun n'18=>vl (↑(List.getD (HostV.v6 ((addrH raw0)).1) 4 0):Int) fun n'19=>vl (↑(List.getD (HostV.v6 ((addrH raw0)).1) 5 0):Int) fun n'20=>vl (↑(List.getD (HostV.v6 ((addrH raw0)).1) 6 0):Int) fun n'21=>vl (↑(List.getD (HostV.v6 ((addrH raw0)).1) 7 0):Int) fun n'22=>vl (↑((addrH raw0)).2:Int) fun n'23=>k0 n'12 s'13 n'14 n'15 n'16 n'17 n'18 n'19 n'20 n'21 n'22 n'23 n'12 s'13 n'14 n'15 n'16 n'17 n'18 n'19 n'20 n'21 n'22) (none)) (none)) (cond (small (List.length raw0)) (cond (not (Option.isSome (pctB raw0))) (k0 0 ([]:List UInt8) 0 0 0 0 0 0 0 0 0 14 0 ([]:List UInt8) 0 0 0 0 0 0 0 0 0) (cond (small (List.length (pctV raw0))) (vl (tsuf (pctV raw0) (([46]:List UInt8))) fun s'25=>cond (small (List.length s'25)) (cond (numericB s'25) (cond (small (List.length s'25)) (vl (↑(optN (pnB s'25)):Int) fun n'29=>cond (not (Option.isSome (pnB s'25))) (k0 0 ([]:List UInt8) 0 0 0 0 0 0 0 0 0 14 0 ([]:List UInt8) 0 0 0 0 0 0 0 0 0) (k0 2 ([]:List UInt8) n'29 0 0 0 0 0 0 0 0 0 2 ([]:List UInt8) n'29 0 0 0 0 0 0 0 0)) (none)) (cond (small (List.length s'25)) (cond (1==1) (vl (strE (pcs (List.getD (([46]:List UInt8)) 0 0) s'25)) fun l'31=>hparse_l0 lf lf (List.length (pcs (List.getD (([46]:List UInt8)) 0 0) s'25)) (↑(List.length (pcs (List.getD (([46]:List UInt8)) 0 0) s'25)):Int) 0 l'31 (fun n'37 l'38=>k1 0 ([]:List UInt8) n'37 0 ([]:List UInt8) l'38) (fun l_m'39 l'40=>cond (List.all (List.take l_m'39 (List.drop 0 l'40)) isS) (cond (small (List.length (Lib.join (List.map elS (List.take l_m'39 (List.drop 0 l'40))) (([46]:List UInt8))))) (cond (small (List.length (List.take l_m'39 (List.drop 0 l'40)))) (vl (Lib.join (List.map elS (List.take l_m'39 (List.drop 0 l'40))) (([46]:List UInt8))) fun s'42=>cond (ltI (253:Int) (↑(List.length s'42):Int)) (k1 0 ([]:List UInt8) 3 0 ([]:List UInt8) l'40) (cond (small (List.length s'42)) (cond (numericB s'42) (k1 0 ([]:List UInt8) 14 0 ([]:List UInt8) l'40) (k1 1 s'42 0 1 s'42 l'40)) (none))) (none)) (none)) (none))) (none)) (none))) (none)) (none))) (none))) (none))
theorem hparse_ev (d:Nat) (raw0:By):evC (c_hparse lf) (d+1) σ yh 21 [.s (.str raw0)] [] s=hparse lf raw0 (fun r0 r1 r2 r3 r4 r5 r6 r7 r8 r9 r10 r11 n12 s13 n14 n15 n16 n17 n18 n19 n20 n21 n22=>some (.tup [.agg [.s (.int .i64 r0),.s (.str r1),.s (.int .u32 r2),.s (.int .u16 r3),.s (.int .u16 r4),.s (.int .u16 r5),.s (.int .u16 r6),.s (.int .u16 r7),.s (.int .u16 r8),.s (.int .u16 r9),.s (.int .u16 r10)],.s (.int .i64 r11)],[.box [.s (.int .i64 n12),.s (.str s13),.s (.int .u32 n14),.s (.int .u16 n15),.s (.int .u16 n16),.s (.int .u16 n17),.s (.int .u16 n18),.s (.int .u16 n19),.s (.int .u16 n20),.s (.int .u16 n21),.s (.int .u16 n22)]],s)) (fun r0 r1 r2 n3 s4 l5=>some (.tup [.agg [.s (.int .i64 r0),.s (.str r1),.s (.int .u32 (0:Int)),.s (.int .u16 (0:Int)),.s (.int .u16 (0:Int)),.s (.int .u16 (0:Int)),.s (.int .u16 (0:Int)),.s (.int .u16 (0:Int)),.s (.int .u16 (0:Int)),.s (.int .u16 (0:Int)),.s (.int .u16 (0:Int))],.s (.int .i64 r2)],[.box [.s (.int .i64 n3),.s (.str s4),.s (.int .u32 (0:Int)),.s (.int .u16 (0:Int)),.s (.int .u16 (0:Int)),.s (.int .u16 (0:Int)),.s (.int .u16 (0:Int)),.s (.int .u16 (0:Int)),.s (.int .u16 (0:Int)),.s (.int .u16 (0:Int)),.s (.int .u16 (0:Int))],.arr false 9 1 l5],s)):=by
 refine (evC_eq (fn:=Tryz.f21) (by kernel_rfl) (by kernel_rfl) (by kernel_rfl)).trans ?_
 generalize evC (c_hparse lf) d=cl
 unfold hparse;exact (Eq.trans (by kernel_rfl) (cond_congr rfl (cond_congr (cond_congr (cond_congr (cond_congr (vl_congr fun n'12=>(vl_congr fun s'13=>(vl_congr fun n'14=>(vl_congr fun n'15=>(vl_congr fun n'16=>(vl_congr fun n'17=>(vl_congr fun n'18=>(vl_congr fun n'19=>(vl_congr fun n'20=>(vl_congr fun n'21=>(vl_congr fun n'22=>(vl_congr fun n'23=>rfl)))))))))))) rfl) rfl) (cond_congr (cond_congr rfl (cond_congr (vl_congr fun s'25=>(cond_congr (cond_congr (cond_congr (vl_congr fun n'29=>(cond_congr rfl rfl)) rfl) (cond_congr (cond_congr (vl_congr fun l'31=>((hparse_l0_eq lf cl yh s (blkK 1 (seqK (c_hparse lf) cl yh (cd [1,1,1,1,1,1,1,1] b_hparse) (retK (c_hparse lf) Tryz.f21))) lf (List.length (pcs (List.getD (([46]:List UInt8)) 0 0) s'25)) (↑(List.length (pcs (List.getD (([46]:List UInt8)) 0 0) s'25)):Int) 0 l'31).trans (congr (congr rfl (funext fun n'37=>(funext fun l'38=>(by kernel_rfl)))) (funext fun l_m'39=>(funext fun l'40=>(by kernel_rfl)))))) rfl) rfl)) rfl)) rfl)) rfl)) rfl)))
noncomputable abbrev b_lprop:Code:=bodyOf Tryz.f114
noncomputable def c_lprop (lf:Nat):Cfg:=mkCfg lf [114] (lookK [(6,[0,1,0,1,10,0,0])]) [(155,X_pdec),(98,X_penc)] (lookK [(13,[2]),(12,[0,3,0,2]),(11,[0,2,1,10,0,0]),(10,[0,2,1,10,0,0]),(9,[2]),(8,[0,2,1,1,8,0,0,8]),(7,[0,2,1,1,8,0,0]),(6,[0,2,1,10,0,0,0]),(5,[0,2,1,10,0,0]),(4,[0,2,1]),(3,[2]),(2,[0,2,11]),(1,[0,2,0]),(0,[0])]) [98] (lookK [(0,[0,2,1]),(1,[0,2,1,10,0,0])]) (some [2]) [] [] []
noncomputable def lprop_l0f {R:Type} (lf n:Nat) (self:By→Bool→LL→Bool→Int→Int→Option R) (s0:By) (points_z1:Bool) (points2:LL) (basic3:Bool) (n4 n5:Int) (k0:Unit→Option R) (k1:By→Bool→LL→Bool→Option R):Option R:=cond (ltI n5 n4) (cond (inR n5 (List.length points2)) (cond (okE tI64 points2 (Int.toNat n5) 0) (vl (gE points2 (Int.toNat n5) 0) fun n'1=>cond (not (ltI n'1 (65:Int))) (cond (not (ltI (90:Int) n'1)) (k0 ()) (cond basic3 (self s0 points_z1 points2 (ltI n'1 (128:Int)) n4 (wi64 (n5+(1:Int)))) (self s0 points_z1 points2 false n4 (wi64 (n5+(1:Int)))))) (cond basic3 (self s0 points_z1 points2 (ltI n'1 (128:Int)) n4 (wi64 (n5+(1:Int)))) (self s0 points_z1 points2 false n4 (wi64 (n5+(1:Int)))))) (none)) (none)) (k1 s0 points_z1 points2 basic3)
noncomputable def lprop_l0 {R:Type} (lf n:Nat) (s0:By) (points_z1:Bool) (points2:LL) (basic3:Bool) (n4 n5:Int) (k0:Unit→Option R) (k1:By→Bool→LL→Bool→Option R):Option R:=recN (α:=By→Bool→LL→Bool→Int→Int→Option R) (fun _ _ _ _ _ _=>none) (fun n self s0 points_z1 points2 basic3 n4 n5=>lprop_l0f lf n self s0 points_z1 points2 basic3 n4 n5 k0 k1) n s0 points_z1 points2 basic3 n4 n5
theorem lprop_l0_s {R:Type} (lf n:Nat) (s0:By) (points_z1:Bool) (points2:LL) (basic3:Bool) (n4 n5:Int) (k0:Unit→Option R) (k1:By→Bool→LL→Bool→Option R):lprop_l0 lf (n+1) s0 points_z1 points2 basic3 n4 n5 k0 k1=lprop_l0f lf n (fun s0 points_z1 points2 basic3 n4 n5=>lprop_l0 lf n s0 points_z1 points2 basic3 n4 n5 k0 k1) s0 points_z1 points2 basic3 n4 n5 k0 k1:=rfl
theorem lprop_l0_eq (n:Nat) (s0:By) (points_z1:Bool) (points2:LL) (basic3:Bool) (n4 n5:Int):loopK 0 ((c_lprop lf).keep 6) (bd (c_lprop lf) cl yh (cd [1,1,1,1,0,1,0,0] b_lprop)) n ⟨gp [(0,.s (.str s0)),(2,.s (.sl points_z1 points_z1 1 points2)),(1,.s (.bool basic3)),(10,.s (.sl points_z1 points_z1 1 points2)),(0,.s (.int .i64 n4)),(0,.s (.int .i64 n5))] 31,[],s⟩ k =
 lprop_l0 lf n s0 points_z1 points2 basic3 n4 n5 (fun _=>k .ret ⟨gp [(2,.s (.bool false))] 47,[],s⟩) (fun s0 points_z1 points2 basic3=>k (.exit 0) ⟨gp [(0,.s (.str s0)),(2,.s (.sl points_z1 points_z1 1 points2)),(1,.s (.bool basic3))] 44,[],s⟩):=by
 induction n generalizing s0 points_z1 points2 basic3 n4 n5 with
 | zero=>rfl
 | succ n ih=>rw [lprop_l0_s];unfold lprop_l0f;exact (Eq.trans (by kernel_rfl) (cond_congr (cond_congr (cond_congr (vl_congr fun n'1=>(cond_congr (cond_congr rfl (cond_congr (ih s0 points_z1 points2 (ltI n'1 (128:Int)) n4 (wi64 (n5+(1:Int)))) (ih s0 points_z1 points2 false n4 (wi64 (n5+(1:Int)))))) (cond_congr (ih s0 points_z1 points2 (ltI n'1 (128:Int)) n4 (wi64 (n5+(1:Int)))) (ih s0 points_z1 points2 false n4 (wi64 (n5+(1:Int))))))) rfl) rfl) rfl))
noncomputable def lprop {R:Type} (lf:Nat) (s0:By) (k0:Bool→Option R):Option R:=cond (small (List.length s0)) (cond ((↑((decP s0)).2:Int) != (0:Int)) (k0 false) (lprop_l0 lf lf s0 (List.isEmpty ((decP s0)).1) (natR ((decP s0)).1) true (↑(List.length (natR ((decP s0)).1)):Int) 0 (fun _=>k0 false) (fun s'2 points_z'3 points'4 basic'5=>cond (List.all points'4 isI64) (vl ((encI (List.map elI points'4))).1 fun s'8=>vl (↑((encI (List.map elI points'4))).2:Int) fun n'9=>cond (not basic'5) (cond (n'9==(0:Int)) (k0 (s'8==s'2)) (k0 false)) (k0 false)) (none)))) (none)
theorem lprop_ev (d:Nat) (s0:By):evC (c_lprop lf) (d+1) σ yh 114 [.s (.str s0)] [] s=lprop lf s0 (fun r0=>some (.s (.bool r0),[],s)):=by
 refine (evC_eq (fn:=Tryz.f114) (by kernel_rfl) (by kernel_rfl) (by kernel_rfl)).trans ?_
 generalize evC (c_lprop lf) d=cl
 unfold lprop;exact (Eq.trans (by kernel_rfl) (cond_congr (cond_congr rfl ((lprop_l0_eq lf cl yh s (blkK 0 (seqK (c_lprop lf) cl yh (cd [1,1,1,1,1] b_lprop) (retK (c_lprop lf) Tryz.f114))) lf s0 (List.isEmpty ((decP s0)).1) (natR ((decP s0)).1) true (↑(List.length (natR ((decP s0)).1)):Int) 0).trans (congr (congr rfl (funext fun _=>(by kernel_rfl))) (funext fun s'2=>(funext fun points_z'3=>(funext fun points'4=>(funext fun basic'5=>(by kernel_rfl)))))))) rfl))
noncomputable abbrev b_lval:Code:=bodyOf Tryz.f61
noncomputable def c_lval (lf:Nat):Cfg:=mkCfg lf [61] (lookK [(4,[0,1,26,0])]) [(113,X_cpre),(114,X_lprop)] (lookK [(11,[2]),(10,[5,0]),(9,[0,28,0]),(8,[2]),(7,[0,28,0,28]),(6,[0,3,24,0]),(5,[0,2,25,0]),(4,[0,28,0,0]),(3,[0,28,0]),(2,[2]),(1,[0,26]),(0,[0])]) [113,114] (lookK [(0,[0]),(1,[0,28,0])]) (some [2]) [] [] []
noncomputable def lval_l0f {R:Type} (lf n:Nat) (self:By→Int→Int→Option R) (s0:By) (n1 n2:Int) (k0:Unit→Option R) (k1:By→Option R):Option R:=cond (ltI n2 n1) (cond (inR n2 (List.length s0)) (cond (not (ltI (bAt s0 n2) (97:Int))) (cond (not (not (ltI (122:Int) (bAt s0 n2)))) (cond (not (ltI (bAt s0 n2) (48:Int))) (cond (not (not (ltI (57:Int) (bAt s0 n2)))) (cond ((bAt s0 n2) != (45:Int)) (cond ((bAt s0 n2) != (95:Int)) (k0 ()) (self s0 n1 (wi64 (n2+(1:Int))))) (self s0 n1 (wi64 (n2+(1:Int))))) (self s0 n1 (wi64 (n2+(1:Int))))) (cond ((bAt s0 n2) != (45:Int)) (cond ((bAt s0 n2) != (95:Int)) (k0 ()) (self s0 n1 (wi64 (n2+(1:Int))))) (self s0 n1 (wi64 (n2+(1:Int)))))) (self s0 n1 (wi64 (n2+(1:Int))))) (cond (not (ltI (bAt s0 n2) (48:Int))) (cond (not (not (ltI (57:Int) (bAt s0 n2)))) (cond ((bAt s0 n2) != (45:Int)) (cond ((bAt s0 n2) != (95:Int)) (k0 ()) (self s0 n1 (wi64 (n2+(1:Int))))) (self s0 n1 (wi64 (n2+(1:Int))))) (self s0 n1 (wi64 (n2+(1:Int))))) (cond ((bAt s0 n2) != (45:Int)) (cond ((bAt s0 n2) != (95:Int)) (k0 ()) (self s0 n1 (wi64 (n2+(1:Int))))) (self s0 n1 (wi64 (n2+(1:Int))))))) (none)) (k1 s0)
noncomputable def lval_l0 {R:Type} (lf n:Nat) (s0:By) (n1 n2:Int) (k0:Unit→Option R) (k1:By→Option R):Option R:=recN (α:=By→Int→Int→Option R) (fun _ _ _=>none) (fun n self s0 n1 n2=>lval_l0f lf n self s0 n1 n2 k0 k1) n s0 n1 n2
theorem lval_l0_s {R:Type} (lf n:Nat) (s0:By) (n1 n2:Int) (k0:Unit→Option R) (k1:By→Option R):lval_l0 lf (n+1) s0 n1 n2 k0 k1=lval_l0f lf n (fun s0 n1 n2=>lval_l0 lf n s0 n1 n2 k0 k1) s0 n1 n2 k0 k1:=rfl
theorem lval_l0_eq (n:Nat) (s0:By) (n1 n2:Int):loopK 0 ((c_lval lf).keep 4) (bd (c_lval lf) cl yh (cd [1,1,0,1,0,0] b_lval)) n ⟨gp [(0,.s (.str s0)),(28,.s (.int .i64 n1)),(0,.s (.int .i64 n2))] 41,[],s⟩ k =
 lval_l0 lf n s0 n1 n2 (fun _=>k .ret ⟨gp [(2,.s (.bool false))] 69,[],s⟩) (fun s0=>k (.exit 0) ⟨gp [(0,.s (.str s0))] 71,[],s⟩):=by
 induction n generalizing s0 n1 n2 with
 | zero=>rfl
 | succ n ih=>rw [lval_l0_s];unfold lval_l0f;exact (Eq.trans (by kernel_rfl) (cond_congr (cond_congr (cond_congr (cond_congr (cond_congr (cond_congr (cond_congr (cond_congr rfl (ih s0 n1 (wi64 (n2+(1:Int))))) (ih s0 n1 (wi64 (n2+(1:Int))))) (ih s0 n1 (wi64 (n2+(1:Int))))) (cond_congr (cond_congr rfl (ih s0 n1 (wi64 (n2+(1:Int))))) (ih s0 n1 (wi64 (n2+(1:Int)))))) (ih s0 n1 (wi64 (n2+(1:Int))))) (cond_congr (cond_congr (cond_congr (cond_congr rfl (ih s0 n1 (wi64 (n2+(1:Int))))) (ih s0 n1 (wi64 (n2+(1:Int))))) (ih s0 n1 (wi64 (n2+(1:Int))))) (cond_congr (cond_congr rfl (ih s0 n1 (wi64 (n2+(1:Int))))) (ih s0 n1 (wi64 (n2+(1:Int))))))) rfl) rfl))
noncomputable def lval {R:Type} (lf:Nat) (s0:By) (k0:Bool→Option R):Option R:=cond (ltI (↑(List.length s0):Int) (1:Int)) (k0 false) (cond (ltI (63:Int) (↑(List.length s0):Int)) (k0 false) (cond (inR (0:Int) (List.length s0)) (cond ((bAt s0 (0:Int))==(45:Int)) (k0 false) (vl (wi64 ((↑(List.length s0):Int)-(1:Int))) fun n'1=>cond (inR n'1 (List.length s0)) (cond ((bAt s0 n'1)==(45:Int)) (k0 false) (lval_l0 lf lf s0 (↑(List.length s0):Int) 0 (fun _=>k0 false) (fun s'2=>cond (small (List.length s'2)) (vl (cutp s'2 (([120,110,45,45]:List UInt8))) fun s'3=>cond (not (List.isPrefixOf (([120,110,45,45]:List UInt8)) s'2)) (k0 true) (cond (small (List.length s'3)) (k0 (properB s'3)) (none))) (none)))) (none))) (none)))
theorem lval_ev (d:Nat) (s0:By):evC (c_lval lf) (d+1) σ yh 61 [.s (.str s0)] [] s=lval lf s0 (fun r0=>some (.s (.bool r0),[],s)):=by
 refine (evC_eq (fn:=Tryz.f61) (by kernel_rfl) (by kernel_rfl) (by kernel_rfl)).trans ?_
 generalize evC (c_lval lf) d=cl
 unfold lval;exact (Eq.trans (by kernel_rfl) (cond_congr rfl (cond_congr rfl (cond_congr (cond_congr rfl (vl_congr fun n'1=>(cond_congr (cond_congr rfl ((lval_l0_eq lf cl yh s (blkK 0 (seqK (c_lval lf) cl yh (cd [1,1,1] b_lval) (retK (c_lval lf) Tryz.f61))) lf s0 (↑(List.length s0):Int) 0).trans (congr (congr rfl (funext fun _=>(by kernel_rfl))) (funext fun s'2=>(by kernel_rfl))))) rfl))) rfl))))
noncomputable abbrev b_lasc:Code:=bodyOf Tryz.f51
noncomputable def c_lasc (lf:Nat):Cfg:=mkCfg lf [51] (lookK [(9,[2,0,1,20])]) [(95,X_uvalid),(96,X_ucount),(97,X_lowc),(98,X_penc),(61,X_lval)] (lookK [(18,[2,0]),(17,[2,0]),(16,[4,41]),(15,[4]),(14,[2,0]),(13,[8,32]),(12,[8,0]),(11,[5,20]),(10,[5,1,18]),(9,[5,20,0,0]),(8,[5,20]),(7,[4,0]),(6,[4,19]),(5,[0,3]),(2,[2,0]),(4,[2,0]),(3,[0,13]),(1,[0,9]),(0,[0])]) [95,96,97,98,61] (lookK [(1,[5]),(2,[5,20]),(0,[0])]) (some [2,0]) [] [] []
noncomputable def lasc_l0f {R:Type} (lf n:Nat) (self:LL→By→Nat→Option R) (l0:LL) (s1:By) (m2:Nat) (k0:LL→By→Nat→Option R):Option R:=cond (decide (m2<(List.length s1))) (vl ((Utf8.decode ⟨List.toArray s1⟩ m2)).1 fun n'4=>cond (roomy ((List.length l0)+1)) (self (l0++[[(SV.int .i64 (wi64 n'4))]]) s1 (m2+((Utf8.decode ⟨List.toArray s1⟩ m2)).2)) (none)) (k0 l0 s1 m2)
noncomputable def lasc_l0 {R:Type} (lf n:Nat) (l0:LL) (s1:By) (m2:Nat) (k0:LL→By→Nat→Option R):Option R:=recN (α:=LL→By→Nat→Option R) (fun _ _ _=>none) (fun n self l0 s1 m2=>lasc_l0f lf n self l0 s1 m2 k0) n l0 s1 m2
theorem lasc_l0_s {R:Type} (lf n:Nat) (l0:LL) (s1:By) (m2:Nat) (k0:LL→By→Nat→Option R):lasc_l0 lf (n+1) l0 s1 m2 k0=lasc_l0f lf n (fun l0 s1 m2=>lasc_l0 lf n l0 s1 m2 k0) l0 s1 m2 k0:=rfl
theorem lasc_l0_eq (n:Nat) (l0:LL) (s1:By) (m2:Nat):loopK 2 ((c_lasc lf).keep 9) (bd (c_lasc lf) cl yh (cd [1,1,1,0,1,0,1,0,1,0,0] b_lasc)) n ⟨gp [(5,.fl 0),(20,.it 1)] 21,[.arr true 3 1 l0,.iter s1 m2],s⟩ k =
 lasc_l0 lf n l0 s1 m2 (fun l0 s1 m2=>k (.exit 1) ⟨gp [(5,.fl 0)] 42,[.arr true 3 1 l0,.iter s1 m2],s⟩):=by
 induction n generalizing l0 s1 m2 with
 | zero=>rfl
 | succ n ih=>rw [lasc_l0_s];unfold lasc_l0f;exact (Eq.trans (by kernel_rfl) (cond_congr (vl_congr fun n'4=>(cond_congr (ih (l0++[[(SV.int .i64 (wi64 n'4))]]) s1 (m2+((Utf8.decode ⟨List.toArray s1⟩ m2)).2)) rfl)) rfl))
noncomputable def lasc {R:Type} (lf:Nat) (s0:By) (k0:By→Int→Option R) (k1:By→Int→LL→By→Nat→Option R):Option R:=cond (small (List.length s0)) (cond (not (Option.isSome (ptsB s0))) (k0 ([]:List UInt8) 4) (cond (small (List.length s0)) (vl (↑(Lib.runeCountL s0):Int) fun n'1=>cond (ltI (256:Int) n'1) (k0 ([]:List UInt8) 3) (cond (small (List.length s0)) (cond (small (List.length s0)) (vl (↑(Lib.runeCountL s0):Int) fun n'3=>cond (ltI n'3 (↑(List.length s0):Int)) (lasc_l0 lf lf [] (lower s0) 0 (fun l'5 s'6 m'7=>cond (List.all l'5 isI64) (vl ((encI (List.map elI l'5))).1 fun s'8=>vl (↑((encI (List.map elI l'5))).2:Int) fun n'9=>cond (n'9 != (0:Int)) (k1 ([]:List UInt8) 14 l'5 s'6 m'7) (cond (catOk 4 (List.length s'8)) (vl ((([120,110,45,45]:List UInt8))++s'8) fun s'10=>cond (small (List.length s'10)) (cond (not (validL s'10)) (k1 ([]:List UInt8) 14 l'5 s'6 m'7) (k1 s'10 0 l'5 s'6 m'7)) (none)) (none))) (none))) (cond (small (List.length (lower s0))) (cond (not (validL (lower s0))) (k0 ([]:List UInt8) 14) (k0 (lower s0) 0)) (none))) (none)) (none))) (none))) (none)
theorem lasc_ev (d:Nat) (s0:By):evC (c_lasc lf) (d+1) σ yh 51 [.s (.str s0)] [] s=lasc lf s0 (fun r0 r1=>some (.tup [.s (.str r0),.s (.int .i64 r1)],[],s)) (fun r0 r1 l2 s3 m4=>some (.tup [.s (.str r0),.s (.int .i64 r1)],[.arr true 3 1 l2,.iter s3 m4],s)):=by
 refine (evC_eq (fn:=Tryz.f51) (by kernel_rfl) (by kernel_rfl) (by kernel_rfl)).trans ?_
 generalize evC (c_lasc lf) d=cl
 unfold lasc;exact (Eq.trans (by kernel_rfl) (cond_congr (cond_congr rfl (cond_congr (vl_congr fun n'1=>(cond_congr rfl (cond_congr (cond_congr (vl_congr fun n'3=>(cond_congr ((lasc_l0_eq lf cl yh s (blkK 1 (seqK (c_lasc lf) cl yh (cd [1,1,1,0,1,0,1,1] b_lasc) (seqK (c_lasc lf) cl yh (cd [1,1,1,1] b_lasc) (retK (c_lasc lf) Tryz.f51)))) lf [] (lower s0) 0).trans (congr rfl (funext fun l'5=>(funext fun s'6=>(funext fun m'7=>(by kernel_rfl)))))) (cond_congr (cond_congr rfl rfl) rfl))) rfl) rfl))) rfl)) rfl))
noncomputable abbrev b_hdig:Code:=bodyOf Tryz.f88
noncomputable def c_hdig (lf:Nat):Cfg:=mkCfg lf [88] (lookK []) [] (lookK [(7,[2]),(2,[2]),(4,[2]),(6,[2]),(5,[0,23]),(3,[0,12]),(1,[0,2]),(0,[0])]) [] (lookK [(0,[])]) (some [2]) [] [] []
noncomputable def hdig_j0 {R:Type} (b0:Int) (b1:Bool) (k0:Int→Option R) (k1:Int→Bool→Option R):Option R:=cond b1 (vl (wi64 (wu8 (b0-(97:Int)))) fun n'1=>vl (wi64 (n'1+(10:Int))) fun n'2=>k0 n'2) (cond (not (ltI b0 (65:Int))) (cond (not (ltI (70:Int) b0)) (vl (wi64 (wu8 (b0-(65:Int)))) fun n'3=>vl (wi64 (n'3+(10:Int))) fun n'4=>k0 n'4) (k1 b0 (not (ltI (70:Int) b0)))) (k1 b0 false))
abbrev hdig_j0_P (b:Code):Prop:=∀ (k:Out→St σ→Option R) (b0:Int) (b1:Bool),evCode (c_hdig lf) cl yh b ⟨gp [(0,.s (.int .u8 b0)),(12,.s (.bool b1))] 21,[],s⟩ k=hdig_j0 b0 b1 (fun n0=>k .ret ⟨gp [(2,.s (.int .i64 n0))] 32,[],s⟩) (fun b0 b1=>k .normal ⟨gp [(0,.s (.int .u8 b0)),(23,.s (.bool b1))] 10,[],s⟩)
theorem hdig_j0_eq:hdig_j0_P (R:=R) lf cl yh s (cd [1,0,0,1,1,1] b_hdig):=by
 intro k b0 b1;unfold hdig_j0;kernel_rfl
noncomputable def hdig_j1 {R:Type} (b0:Int) (b1:Bool) (k0:Int→Option R) (k1:Int→Bool→Option R):Option R:=cond b1 (vl (wi64 (wu8 (b0-(48:Int)))) fun n'0=>k0 n'0) (cond (not (ltI b0 (97:Int))) (hdig_j0 b0 (not (ltI (102:Int) b0)) (fun n'5=>k0 n'5) (fun b'6 b'7=>k1 b'6 b'7)) (hdig_j0 b0 false (fun n'8=>k0 n'8) (fun b'9 b'10=>k1 b'9 b'10)))
abbrev hdig_j1_P (b:Code):Prop:=∀ (k:Out→St σ→Option R) (b0:Int) (b1:Bool),evCode (c_hdig lf) cl yh b ⟨gp [(0,.s (.int .u8 b0)),(2,.s (.bool b1))] 31,[],s⟩ k=hdig_j1 b0 b1 (fun n0=>k .ret ⟨gp [(2,.s (.int .i64 n0))] 32,[],s⟩) (fun b0 b1=>k .normal ⟨gp [(0,.s (.int .u8 b0)),(23,.s (.bool b1))] 10,[],s⟩)
theorem hdig_j1_eq (b_100111:Code) (h_hdig_j0:hdig_j0_P (R:=R) lf cl yh s b_100111):hdig_j1_P (R:=R) lf cl yh s (cd [1,0,0,1] (putC [1,0,0,1,1,1] b_100111 b_hdig)):=by
 intro k b0 b1;unfold hdig_j1;exact (Eq.trans (by kernel_rfl) (cond_congr (vl_congr fun n'0=>rfl) (cond_congr ((h_hdig_j0 k b0 (not (ltI (102:Int) b0))).trans (congr (congr rfl (funext fun n'5=>(by kernel_rfl))) (funext fun b'6=>(funext fun b'7=>(by kernel_rfl))))) ((h_hdig_j0 k b0 false).trans (congr (congr rfl (funext fun n'8=>(by kernel_rfl))) (funext fun b'9=>(funext fun b'10=>(by kernel_rfl))))))))
theorem hdig_j1_fu:hdig_j1_P (R:=R) lf cl yh s (cd [1,0,0,1] b_hdig):=by
 intro k b0 b1;exact Eq.trans (by kernel_rfl) (hdig_j1_eq lf cl yh s (cd [1,0,0,1,1,1] b_hdig) (hdig_j0_eq lf cl yh s) k b0 b1)
noncomputable def hdig {R:Type} (lf:Nat) (b0:Int) (k0:Int→Option R):Option R:=cond (not (ltI b0 (48:Int))) (hdig_j1 b0 (not (ltI (57:Int) b0)) (fun n'11=>k0 n'11) (fun b'12 b'13=>k0 (-1))) (hdig_j1 b0 false (fun n'14=>k0 n'14) (fun b'15 b'16=>k0 (-1)))
theorem hdig_eq (b_1001:Code) (h_hdig_j1:hdig_j1_P (R:=PV × List Blk × σ) lf cl yh s b_1001) (b0:Int):evCode (c_hdig lf) cl yh (cd [] (putC [1,0,0,1] b_1001 b_hdig)) ⟨[.s (.int .u8 b0)]++tps 34,[],s⟩ (retK (c_hdig lf) Tryz.f88)=hdig lf b0 (fun r0=>some (.s (.int .i64 r0),[],s)):=by
 unfold hdig;exact (Eq.trans (by kernel_rfl) (cond_congr ((h_hdig_j1 (blkK 0 (seqK (c_hdig lf) cl yh (cd [1,1] b_hdig) (retK (c_hdig lf) Tryz.f88))) b0 (not (ltI (57:Int) b0))).trans (congr (congr rfl (funext fun n'11=>(by kernel_rfl))) (funext fun b'12=>(funext fun b'13=>(by kernel_rfl))))) ((h_hdig_j1 (blkK 0 (seqK (c_hdig lf) cl yh (cd [1,1] b_hdig) (retK (c_hdig lf) Tryz.f88))) b0 false).trans (congr (congr rfl (funext fun n'14=>(by kernel_rfl))) (funext fun b'15=>(funext fun b'16=>(by kernel_rfl)))))))
theorem hdig_ev (d:Nat) (b0:Int):evC (c_hdig lf) (d+1) σ yh 88 [.s (.int .u8 b0)] [] s=hdig lf b0 (fun r0=>some (.s (.int .i64 r0),[],s)):=
 (evC_eq (fn:=Tryz.f88) (by kernel_rfl) (by kernel_rfl) (by kernel_rfl)).trans (Eq.trans (by kernel_rfl) (hdig_eq lf (evC (c_hdig lf) d) yh s (cd [1,0,0,1] b_hdig) (hdig_j1_fu lf (evC (c_hdig lf) d) yh s) b0))
noncomputable abbrev b_hdec:Code:=bodyOf Tryz.f46
noncomputable def c_hdec (lf:Nat):Cfg:=mkCfg lf [46] (lookK [(3,[0,1,0,0,0])]) [(88,X_hdig)] (lookK [(14,[2,0]),(4,[0,3,0]),(13,[0,3,0]),(12,[0,3,0]),(11,[2,0]),(10,[0,3,0,0,0,39]),(9,[0,3,0,0,0]),(8,[2,0]),(7,[0,3,0,25]),(6,[0,3,0]),(5,[0,3,0,14]),(3,[0,3,0,8]),(2,[0,3,0]),(1,[0,3]),(0,[0])]) [88] (lookK [(0,[4]),(1,[0,3,0])]) (some [2,0]) [] [] []
noncomputable def hdec_l0f {R:Type} (lf n:Nat) (self:By→Int→LL→Option R) (s0:By) (i1:Int) (l2:LL) (k0:LL→Option R) (k1:LL→Option R):Option R:=cond (ltI i1 (↑(List.length s0):Int)) (cond (inR i1 (List.length s0)) (cond ((bAt s0 i1) != (37:Int)) (cond (inR i1 (List.length s0)) (cond (roomy ((List.length l2)+1)) (self s0 (wi64 (i1+(1:Int))) (l2++[[(SV.int .u8 (bAt s0 i1))]])) (none)) (none)) (cond (not (ltI (wi64 (i1+(2:Int))) (↑(List.length s0):Int))) (k0 l2) (cond (inR (wi64 (i1+(1:Int))) (List.length s0)) (vl (bAt s0 (wi64 (i1+(1:Int)))) fun n'2=>cond (inR n'2 256) (cond (inR (wi64 (i1+(2:Int))) (List.length s0)) (vl (bAt s0 (wi64 (i1+(2:Int)))) fun n'3=>cond (inR n'3 256) (cond (ltI (digI (u8n n'2)) (0:Int)) (k0 l2) (cond (ltI (digI (u8n n'3)) (0:Int)) (k0 l2) (vl (wi64 ((16:Int)*(digI (u8n n'2)))) fun n'4=>vl (wi64 (n'4+(digI (u8n n'3)))) fun n'5=>cond (roomy ((List.length l2)+1)) (vl (wi64 ((wi64 (i1+(2:Int)))+(1:Int))) fun n'6=>self s0 n'6 (l2++[[(SV.int .u8 (wu8 n'5))]])) (none)))) (none)) (none)) (none)) (none)))) (none)) (k1 l2)
noncomputable def hdec_l0 {R:Type} (lf n:Nat) (s0:By) (i1:Int) (l2:LL) (k0:LL→Option R) (k1:LL→Option R):Option R:=recN (α:=By→Int→LL→Option R) (fun _ _ _=>none) (fun n self s0 i1 l2=>hdec_l0f lf n self s0 i1 l2 k0 k1) n s0 i1 l2
theorem hdec_l0_s {R:Type} (lf n:Nat) (s0:By) (i1:Int) (l2:LL) (k0:LL→Option R) (k1:LL→Option R):hdec_l0 lf (n+1) s0 i1 l2 k0 k1=hdec_l0f lf n (fun s0 i1 l2=>hdec_l0 lf n s0 i1 l2 k0 k1) s0 i1 l2 k0 k1:=rfl
theorem hdec_l0_eq (n:Nat) (s0:By) (i1:Int) (l2:LL):loopK 1 ((c_hdec lf).keep 3) (bd (c_hdec lf) cl yh (cd [1,0,1,1,0,1,0,0] b_hdec)) n ⟨gp [(0,.s (.str s0)),(3,.fl 0),(0,.s (.int .i64 i1))] 54,[.arr false 5 1 l2],s⟩ k =
 hdec_l0 lf n s0 i1 l2 (fun l0=>k .ret ⟨gp [(2,.s (.str ([]:List UInt8))),(0,.s (.bool false))] 56,[.arr false 5 1 l0],s⟩) (fun l0=>k (.exit 0) ⟨gp [(4,.fl 0)] 55,[.arr false 5 1 l0],s⟩):=by
 induction n generalizing s0 i1 l2 with
 | zero=>rfl
 | succ n ih=>rw [hdec_l0_s];unfold hdec_l0f;exact (Eq.trans (by kernel_rfl) (cond_congr (cond_congr (cond_congr (cond_congr (cond_congr (ih s0 (wi64 (i1+(1:Int))) (l2++[[(SV.int .u8 (bAt s0 i1))]])) rfl) rfl) (cond_congr rfl (cond_congr (vl_congr fun n'2=>(cond_congr (cond_congr (vl_congr fun n'3=>(cond_congr (cond_congr rfl (cond_congr rfl (vl_congr fun n'4=>(vl_congr fun n'5=>(cond_congr (vl_congr fun n'6=>(ih s0 n'6 (l2++[[(SV.int .u8 (wu8 n'5))]]))) rfl))))) rfl)) rfl) rfl)) rfl))) rfl) rfl))
noncomputable def hdec {R:Type} (lf:Nat) (s0:By) (k0:By→Bool→LL→Option R):Option R:=cond ((decide ((0:Int)≤(↑(List.length s0):Int)))&&(roomy (Int.toNat (↑(List.length s0):Int)))) (hdec_l0 lf lf s0 0 [] (fun l'7=>k0 ([]:List UInt8) false l'7) (fun l'8=>cond (List.all l'8 isU8) (k0 (List.map elU8 l'8) true l'8) (none))) (none)
theorem hdec_ev (d:Nat) (s0:By):evC (c_hdec lf) (d+1) σ yh 46 [.s (.str s0)] [] s=hdec lf s0 (fun r0 r1 l2=>some (.tup [.s (.str r0),.s (.bool r1)],[.arr false 5 1 l2],s)):=by
 refine (evC_eq (fn:=Tryz.f46) (by kernel_rfl) (by kernel_rfl) (by kernel_rfl)).trans ?_
 generalize evC (c_hdec lf) d=cl
 unfold hdec;exact (Eq.trans (by kernel_rfl) (cond_congr ((hdec_l0_eq lf cl yh s (blkK 0 (seqK (c_hdec lf) cl yh (cd [1,0,1,1,1] b_hdec) (retK (c_hdec lf) Tryz.f46))) lf s0 0 []).trans (congr (congr rfl (funext fun l'7=>(by kernel_rfl))) (funext fun l'8=>(by kernel_rfl)))) rfl))
noncomputable def c_haddr (lf:Nat):Cfg:=mkCfg lf [45] (lookK []) [(87,X_v6p)] (lookK [(6,[2,0]),(5,[2,0]),(4,[2,2,15]),(3,[2,2,0]),(2,[0,1,1,8]),(1,[0,1,1]),(0,[0,1])]) [] (lookK []) (some [2,0]) [] [] []
noncomputable def haddr {R:Type} (lf:Nat) (s0:By) (k0:Int→Int→Int→Int→Int→Int→Int→Int→Int→Int→Int→LL→Option R) (k1:Unit→Option R):Option R:=vl (wi64 ((↑(List.length s0):Int)-(1:Int))) fun n'1=>cond (inR n'1 (List.length s0)) (cond ((bAt s0 n'1)==(93:Int)) (cond (sub3 (1:Int) n'1 (List.length s0)) (cond (small (List.length (cut s0 (1:Int) n'1))) (vl (↑(v6c 0 (cut s0 (1:Int) n'1)):Int) fun n'2=>vl (↑(v6c 1 (cut s0 (1:Int) n'1)):Int) fun n'3=>vl (↑(v6c 2 (cut s0 (1:Int) n'1)):Int) fun n'4=>vl (↑(v6c 3 (cut s0 (1:Int) n'1)):Int) fun n'5=>vl (↑(v6c 4 (cut s0 (1:Int) n'1)):Int) fun n'6=>vl (↑(v6c 5 (cut s0 (1:Int) n'1)):Int) fun n'7=>vl (↑(v6c 6 (cut s0 (1:Int) n'1)):Int) fun n'8=>vl (↑(v6c 7 (cut s0 (1:Int) n'1)):Int) fun n'9=>cond (Option.isSome (v6B (cut s0 (1:Int) n'1))) (k0 3 n'2 n'3 n'4 n'5 n'6 n'7 n'8 n'9 0 3 [[(SV.int .u16 n'2)],[(SV.int .u16 n'3)],[(SV.int .u16 n'4)],[(SV.int .u16 n'5)],[(SV.int .u16 n'6)],[(SV.int .u16 n'7)],[(SV.int .u16 n'8)],[(SV.int .u16 n'9)]]) (k0 0 0 0 0 0 0 0 0 0 14 0 [[(SV.int .u16 n'2)],[(SV.int .u16 n'3)],[(SV.int .u16 n'4)],[(SV.int .u16 n'5)],[(SV.int .u16 n'6)],[(SV.int .u16 n'7)],[(SV.int .u16 n'8)],[(SV.int .u16 n'9)]])) (none)) (none)) (k1 ())) (none)
theorem haddr_ev (d:Nat) (s0:By):evC (c_haddr lf) (d+1) σ yh 45 [.s (.str s0)] [] s=haddr lf s0 (fun r0 r1 r2 r3 r4 r5 r6 r7 r8 r9 n10 l11=>some (.tup [.agg [.s (.int .i64 r0),.s (.str ([]:List UInt8)),.s (.int .u32 (0:Int)),.s (.int .u16 r1),.s (.int .u16 r2),.s (.int .u16 r3),.s (.int .u16 r4),.s (.int .u16 r5),.s (.int .u16 r6),.s (.int .u16 r7),.s (.int .u16 r8)],.s (.int .i64 r9)],[.box [.s (.int .i64 n10),.s (.str ([]:List UInt8)),.s (.int .u32 (0:Int)),.s (.int .u16 r1),.s (.int .u16 r2),.s (.int .u16 r3),.s (.int .u16 r4),.s (.int .u16 r5),.s (.int .u16 r6),.s (.int .u16 r7),.s (.int .u16 r8)],.arr false 26 1 l11],s)) (fun _=>some (.tup [.agg [.s (.int .i64 (0:Int)),.s (.str ([]:List UInt8)),.s (.int .u32 (0:Int)),.s (.int .u16 (0:Int)),.s (.int .u16 (0:Int)),.s (.int .u16 (0:Int)),.s (.int .u16 (0:Int)),.s (.int .u16 (0:Int)),.s (.int .u16 (0:Int)),.s (.int .u16 (0:Int)),.s (.int .u16 (0:Int))],.s (.int .i64 (14:Int))],[.box [.s (.int .i64 (0:Int)),.s (.str ([]:List UInt8)),.s (.int .u32 (0:Int)),.s (.int .u16 (0:Int)),.s (.int .u16 (0:Int)),.s (.int .u16 (0:Int)),.s (.int .u16 (0:Int)),.s (.int .u16 (0:Int)),.s (.int .u16 (0:Int)),.s (.int .u16 (0:Int)),.s (.int .u16 (0:Int))]],s)):=by
 refine (evC_eq (fn:=Tryz.f45) (by kernel_rfl) (by kernel_rfl) (by kernel_rfl)).trans ?_
 generalize evC (c_haddr lf) d=cl
 unfold haddr;kernel_rfl
noncomputable def hval {R:Type} (lf:Nat) (h0:Int) (h1:By) (h2 h3 h4 h5 h6 h7 h8 h9 h10:Int) (k0:Bool→Int→By→Int→Int→Int→Int→Int→Int→Int→Int→Int→LL→Option R):Option R:=cond (h0==(1:Int)) (cond (small (List.length h1)) (cond (validN h1) (cond (h2==(0:Int)) (k0 ((h3==(0:Int))&&((h4==(0:Int))&&((h5==(0:Int))&&((h6==(0:Int))&&((h7==(0:Int))&&((h8==(0:Int))&&((h9==(0:Int))&&((h10==(0:Int))&&true)))))))) h0 h1 h2 h3 h4 h5 h6 h7 h8 h9 h10 (List.replicate 8 [(SV.int .u16 (0:Int))])) (k0 false h0 h1 h2 h3 h4 h5 h6 h7 h8 h9 h10 (List.replicate 8 [(SV.int .u16 (0:Int))]))) (k0 false h0 h1 h2 h3 h4 h5 h6 h7 h8 h9 h10 (List.replicate 8 [(SV.int .u16 (0:Int))]))) (none)) (cond (h0==(2:Int)) (cond (h1==([]:List UInt8)) (k0 ((h3==(0:Int))&&((h4==(0:Int))&&((h5==(0:Int))&&((h6==(0:Int))&&((h7==(0:Int))&&((h8==(0:Int))&&((h9==(0:Int))&&((h10==(0:Int))&&true)))))))) h0 h1 h2 h3 h4 h5 h6 h7 h8 h9 h10 (List.replicate 8 [(SV.int .u16 (0:Int))])) (k0 false h0 h1 h2 h3 h4 h5 h6 h7 h8 h9 h10 (List.replicate 8 [(SV.int .u16 (0:Int))]))) (cond (h0==(3:Int)) (cond (h1==([]:List UInt8)) (k0 (h2==(0:Int)) h0 h1 h2 h3 h4 h5 h6 h7 h8 h9 h10 (List.replicate 8 [(SV.int .u16 (0:Int))])) (k0 false h0 h1 h2 h3 h4 h5 h6 h7 h8 h9 h10 (List.replicate 8 [(SV.int .u16 (0:Int))]))) (k0 false h0 h1 h2 h3 h4 h5 h6 h7 h8 h9 h10 (List.replicate 8 [(SV.int .u16 (0:Int))]))))
noncomputable def c_hlab (lf:Nat):Cfg:=mkCfg lf [26] (lookK []) [(25,X_hvn),(62,X_scnt)] (lookK [(3,[2]),(2,[2]),(1,[0,4]),(0,[0])]) [25,62] (lookK []) (some [2]) [] [] []
noncomputable def hlab {R:Type} (lf:Nat) (name0:By) (k0:Int→Option R):Option R:=cond (small (List.length name0)) (cond (not (validN name0)) (k0 0) (cond (1==1) (vl (↑(List.count (List.getD (([46]:List UInt8)) 0 0) name0):Int) fun n'0=>k0 (wi64 (n'0+(1:Int)))) (none))) (none)
theorem hlab_ev (d:Nat) (name0:By):evC (c_hlab lf) (d+1) σ yh 26 [.s (.str name0)] [] s=hlab lf name0 (fun r0=>some (.s (.int .i64 r0),[],s)):=by
 refine (evC_eq (fn:=Tryz.f26) (by kernel_rfl) (by kernel_rfl) (by kernel_rfl)).trans ?_
 generalize evC (c_hlab lf) d=cl
 unfold hlab;kernel_rfl
noncomputable def c_hcov (lf:Nat):Cfg:=mkCfg lf [31] (lookK []) [(25,X_hvn),(63,X_hsuf)] (lookK [(1,[4]),(0,[0,0])]) [25,63] (lookK []) (some [4]) [] [] []
noncomputable def hcov {R:Type} (lf:Nat) (super0 name1:By) (k0:Bool→Option R):Option R:=cond (small (List.length super0)) (cond (validN super0) (cond (small (List.length name1)) (cond (validN name1) (cond (super0==name1) (k0 true) (cond (catOk 1 (List.length super0)) (vl ((([46]:List UInt8))++super0) fun s'0=>cond (small (List.length name1)) (k0 (List.isSuffixOf s'0 name1)) (none)) (none))) (k0 false)) (none)) (k0 false)) (none)
theorem hcov_ev (d:Nat) (super0 name1:By):evC (c_hcov lf) (d+1) σ yh 31 [.s (.str super0),.s (.str name1)] [] s=hcov lf super0 name1 (fun r0=>some (.s (.bool r0),[],s)):=by
 refine (evC_eq (fn:=Tryz.f31) (by kernel_rfl) (by kernel_rfl) (by kernel_rfl)).trans ?_
 generalize evC (c_hcov lf) d=cl
 unfold hcov;kernel_rfl
end
end Go.Proofs.YtokehocipgepnaaGreatDoor.E
namespace Go.Proofs.YtokehocipgepnaaGreatDoor.E
open Go Go.Proofs 
set_option linter.unusedVariables false
set_option maxRecDepth 100000
section
variable {σ R : Type} (lf : Nat) (cl : CallT) (yh : Yh σ) (s : σ) (k : Out → St σ → Option R)
noncomputable def c_pthr (lf:Nat):Cfg:=mkCfg lf [175] (lookK []) [] (lookK [(2,[2]),(1,[1,1]),(0,[1])]) [] (lookK []) (some [2]) [] [] []
noncomputable def pthr {R:Type} (lf:Nat) (b:Int) (k0:Int→Option R):Option R:=k0 b
theorem pthr_ev (d:Nat) (b:Int):evC (c_pthr lf) (d+1) σ yh 175 [.s (.int .i64 b)] [] s=pthr lf b (fun n0=>some (.fnr (Fn.func 195) [] [.ptr 1 0 0,.ptr 0 0 0],[.box [.s (.int .i64 n0)],.box [.s (.int .i64 (0:Int))]],s)):=by
 refine (evC_eq (fn:=Tryz.f175) (by kernel_rfl) (by kernel_rfl) (by kernel_rfl)).trans ?_
 generalize evC (c_pthr lf) d=cl
 unfold pthr;kernel_rfl
noncomputable def c_pnext (lf:Nat):Cfg:=mkCfg lf [195] (lookK []) [] (lookK [(2,[2]),(1,[0,0]),(0,[0,0])]) [] (lookK []) (some [2]) [] [] []
noncomputable def pnext {R:Type} (lf:Nat) (k b:Int) (k0:Int→Int→Int→Option R):Option R:=vl (wi64 ((wi64 (k+(36:Int)))-b)) fun n'0=>vl (if ((26:Int)<(if ((1:Int) > n'0) then (1:Int) else n'0)) then (26:Int) else (if ((1:Int) > n'0) then (1:Int) else n'0)) fun n'1=>k0 n'1 (wi64 (k+(36:Int))) b
theorem pnext_ev (d:Nat) (k b:Int):evC (c_pnext lf) (d+1) σ yh 195 [.ptr 0 0 0,.ptr 1 0 0] [.box [.s (.int .i64 k)],.box [.s (.int .i64 b)]] s=pnext lf k b (fun r0 n1 n2=>some (.s (.int .i64 r0),[.box [.s (.int .i64 n1)],.box [.s (.int .i64 n2)]],s)):=by
 refine (evC_eq (fn:=Tryz.f195) (by kernel_rfl) (by kernel_rfl) (by kernel_rfl)).trans ?_
 generalize evC (c_pnext lf) d=cl
 unfold pnext;kernel_rfl
noncomputable abbrev b_papp:Code:=bodyOf Tryz.f140
noncomputable def c_papp (lf:Nat):Cfg:=mkCfg lf [140] (lookK [(2,[0,0,4,0])]) [(175,X_pthr),(176,X_pdig)] (lookK [(6,[0,0,5]),(5,[0,0,5,0]),(4,[6]),(3,[0,0,5,0,6]),(2,[0,0,5,0]),(1,[0,0,5]),(0,[0,0,0])]) [176] (lookK [(0,[6]),(1,[0,0,5])]) (some [6]) [(195,X_pnext)] [] [195]
noncomputable def papp_l0f {R:Type} (lf n:Nat) (self:Int→Bool→LL→Int→Int→Option R) (q0:Int) (z1:Bool) (l2:LL) (n3 n4:Int) (k0:Bool→LL→Int→Int→Option R):Option R:=cond (ltN n4 1000000000000) (cond (ltN n3 1000000) (cond (ltI q0 (thrI n4 n3)) (cond (ltN q0 36) (vl (↑(UInt8.toNat (dig36 (Int.toNat q0))):Int) fun n'1=>cond (roomy ((List.length l2)+1)) (k0 z1 (l2++[[(SV.int .u8 n'1)]]) n3 (Int.add n4 (36:Int))) (none)) (none)) (vl (wi64 (q0-(thrI n4 n3))) fun n'2=>vl (wi64 ((36:Int)-(thrI n4 n3))) fun n'3=>cond (n'3 != (0:Int)) (vl (wi64 ((thrI n4 n3)+(Int.tmod n'2 n'3))) fun n'4=>cond (ltN n'4 36) (vl (↑(UInt8.toNat (dig36 (Int.toNat n'4))):Int) fun n'5=>cond (roomy ((List.length l2)+1)) (vl (wi64 (q0-(thrI n4 n3))) fun n'6=>vl (wi64 ((36:Int)-(thrI n4 n3))) fun n'7=>cond (n'7 != (0:Int)) (vl (wi64 (Int.tdiv n'6 n'7)) fun n'8=>self n'8 z1 (l2++[[(SV.int .u8 n'5)]]) n3 (Int.add n4 (36:Int))) (none)) (none)) (none)) (none))) (none)) (none)
noncomputable def papp_l0 {R:Type} (lf n:Nat) (q0:Int) (z1:Bool) (l2:LL) (n3 n4:Int) (k0:Bool→LL→Int→Int→Option R):Option R:=recN (α:=Int→Bool→LL→Int→Int→Option R) (fun _ _ _ _ _=>none) (fun n self q0 z1 l2 n3 n4=>papp_l0f lf n self q0 z1 l2 n3 n4 k0) n q0 z1 l2 n3 n4
theorem papp_l0_s {R:Type} (lf n:Nat) (q0:Int) (z1:Bool) (l2:LL) (n3 n4:Int) (k0:Bool→LL→Int→Int→Option R):papp_l0 lf (n+1) q0 z1 l2 n3 n4 k0=papp_l0f lf n (fun q0 z1 l2 n3 n4=>papp_l0 lf n q0 z1 l2 n3 n4 k0) q0 z1 l2 n3 n4 k0:=rfl
theorem papp_l0_eq (n:Nat) (q0:Int) (z1:Bool) (l2:LL) (n3 n4:Int):loopK 3 ((c_papp lf).keep 2) (bd (c_papp lf) cl yh (cd [1,1,0,0] b_papp)) n ⟨gp [(0,.fl 0),(0,.s (.int .i64 q0)),(5,.fnr (Fn.func 195) [] [.ptr 2 0 0,.ptr 1 0 0])] 31,[.arr z1 5 1 l2,.box [.s (.int .i64 n3)],.box [.s (.int .i64 n4)]],s⟩ k =
 papp_l0 lf n q0 z1 l2 n3 n4 (fun z0 l1 n2 n3=>k .ret ⟨gp [(6,.fl 0)] 32,[.arr z0 5 1 l1,.box [.s (.int .i64 n2)],.box [.s (.int .i64 n3)]],s⟩):=by
 induction n generalizing q0 z1 l2 n3 n4 with
 | zero=>rfl
 | succ n ih=>rw [papp_l0_s];unfold papp_l0f;exact (Eq.trans (by kernel_rfl) (cond_congr (cond_congr (cond_congr (cond_congr (vl_congr fun n'1=>(cond_congr rfl rfl)) rfl) (vl_congr fun n'2=>(vl_congr fun n'3=>(cond_congr (vl_congr fun n'4=>(cond_congr (vl_congr fun n'5=>(cond_congr (vl_congr fun n'6=>(vl_congr fun n'7=>(cond_congr (vl_congr fun n'8=>(ih n'8 z1 (l2++[[(SV.int .u8 n'5)]]) n3 (Int.add n4 (36:Int)))) rfl))) rfl)) rfl)) rfl)))) rfl) rfl))
noncomputable def papp {R:Type} (lf:Nat) (q b:Int) (z:Bool) (l:LL) (k0:Bool→LL→Int→Int→Option R):Option R:=papp_l0 lf lf q z l b 0 (fun z'9 l'10 n'11 n'12=>k0 z'9 l'10 n'11 n'12)
theorem papp_ev (d:Nat) (q b:Int) (z:Bool) (l:LL):evC (c_papp lf) (d+1) σ yh 140 [.fl 0,.s (.int .i64 q),.s (.int .i64 b)] [.arr z 5 1 l] s=papp lf q b z l (fun z0 l1 n2 n3=>some (.fl 0,[.arr z0 5 1 l1,.box [.s (.int .i64 n2)],.box [.s (.int .i64 n3)]],s)):=by
 refine (evC_eq (fn:=Tryz.f140) (by kernel_rfl) (by kernel_rfl) (by kernel_rfl)).trans ?_
 generalize evC (c_papp lf) d=cl
 unfold papp;exact (Eq.trans (by kernel_rfl) ((papp_l0_eq lf cl yh s (blkK 0 (retK (c_papp lf) Tryz.f140)) lf q z l b 0).trans (congr rfl (funext fun z'9=>(funext fun l'10=>(funext fun n'11=>(funext fun n'12=>(by kernel_rfl))))))))
noncomputable abbrev b_penc:Code:=bodyOf Tryz.f98
noncomputable def c_penc (lf:Nat):Cfg:=mkCfg lf [98] (lookK [(29,[0,1,0,0,2,0,0,0,0,61,0,0]),(21,[0,1,0,0,2,0,0,0,0,0,38,0,0]),(17,[0,1,0,0,2,0,0,0,0]),(5,[0,1,0,0,15,0,0])]) [(139,X_ppoint),(141,X_padapt)] (lookK [(40,[2,0]),(18,[0,3,2,0,0,0,0]),(39,[0,3,2,0,0,0,0]),(38,[0,3,2,0,0,0,0,61,0,0]),(32,[0,3,2,0,0,0,0,61,0,0]),(37,[0,3,2,0,0,0,0,61,0,0]),(36,[0,3,2,0,0,0,0,61,0,0]),(35,[0,3,2,0,1,0,61,0,0]),(34,[0,3,2,0,0,1,61,0,0]),(33,[0,3,2,0,0,0,0,61,0,0,9]),(31,[0,3,2,0,0,0,0,4,56,0,0,3]),(30,[0,3,2,0,0,0,0,4,56,0,0]),(29,[0,3,2,0,0,0,0,61,0,0,0]),(28,[0,3,2,0,0,0,0,61,0,0]),(27,[0,3,2,0,0,0,0]),(26,[0,3,2,1,0,0,0]),(25,[0,3,2,0,0,0,0,0,38,0,0]),(24,[0,3,2,0,0,0,0,0,38,0,0]),(23,[0,3,2,0,0,0,0,0,1,36,0,0,5]),(22,[0,3,2,0,0,0,0,0,1,36,0,0]),(21,[0,3,2,0,0,0,0,0,38,0,0,0]),(20,[0,3,2,0,0,0,0,0,38,0,0]),(19,[0,3,2,0,0,0,0,0]),(17,[0,3,2,0,0,0,0,36]),(16,[0,3,2,0,0,0,0]),(15,[0,3,2,0,0,0]),(14,[0,3,2]),(13,[0,3,2,32]),(12,[0,3,2]),(11,[0,3,15,0,0]),(10,[0,3,15,0,0]),(9,[0,3,1,13,0,0,7]),(8,[2,0]),(7,[0,3,1,13,0,0,5]),(6,[0,3,1,13,0,0]),(5,[0,3,15,0,0,0]),(4,[0,3,15,0,0]),(3,[0,3]),(2,[2,0]),(1,[0,18]),(0,[0])]) [139,141] (lookK [(2,[4]),(3,[0,3,2,0,0,0,0]),(6,[0,3,2,0,0,0,0]),(7,[0,3,2,0,0,0,0,61,0,0]),(8,[0,3,2,0,0,0,0,61,0,0]),(4,[0,3,2,0,0,0,0,0]),(5,[0,3,2,0,0,0,0,0,38,0,0]),(0,[0,3]),(1,[0,3,15,0,0])]) (some [2,0]) [(140,X_papp)] [] [140]
noncomputable def penc_l0f {R:Type} (lf n:Nat) (self:Bool→Bool→LL→Int→Int→LL→Option R) (points_z0 points_t1:Bool) (points2:LL) (n3 n4:Int) (l5:LL) (k0:LL→Option R) (k1:Bool→Bool→LL→LL→Option R):Option R:=cond (ltI n4 n3) (cond (inR n4 (List.length points2)) (cond (okE tI64 points2 (Int.toNat n4) 0) (vl (gE points2 (Int.toNat n4) 0) fun n'1=>cond (not (ptI n'1)) (k0 l5) (cond (ltI n'1 (128:Int)) (cond (roomy ((List.length l5)+1)) (self points_z0 points_t1 points2 n3 (wi64 (n4+(1:Int))) (l5++[[(SV.int .u8 (wu8 n'1))]])) (none)) (self points_z0 points_t1 points2 n3 (wi64 (n4+(1:Int))) l5))) (none)) (none)) (k1 points_z0 points_t1 points2 l5)
noncomputable def penc_l0 {R:Type} (lf n:Nat) (points_z0 points_t1:Bool) (points2:LL) (n3 n4:Int) (l5:LL) (k0:LL→Option R) (k1:Bool→Bool→LL→LL→Option R):Option R:=recN (α:=Bool→Bool→LL→Int→Int→LL→Option R) (fun _ _ _ _ _ _=>none) (fun n self points_z0 points_t1 points2 n3 n4 l5=>penc_l0f lf n self points_z0 points_t1 points2 n3 n4 l5 k0 k1) n points_z0 points_t1 points2 n3 n4 l5
theorem penc_l0_s {R:Type} (lf n:Nat) (points_z0 points_t1:Bool) (points2:LL) (n3 n4:Int) (l5:LL) (k0:LL→Option R) (k1:Bool→Bool→LL→LL→Option R):penc_l0 lf (n+1) points_z0 points_t1 points2 n3 n4 l5 k0 k1=penc_l0f lf n (fun points_z0 points_t1 points2 n3 n4 l5=>penc_l0 lf n points_z0 points_t1 points2 n3 n4 l5 k0 k1) points_z0 points_t1 points2 n3 n4 l5 k0 k1:=rfl
theorem penc_l0_eq (n:Nat) (points_z0 points_t1:Bool) (points2:LL) (n3 n4:Int) (l5:LL):loopK 1 ((c_penc lf).keep 5) (bd (c_penc lf) cl yh (cd [1,1,1,0,1,0,0] b_penc)) n ⟨gp [(0,.s (.sl points_z0 points_t1 1 points2)),(3,.fl 0),(15,.s (.sl points_z0 points_t1 1 points2)),(0,.s (.int .i64 n3)),(0,.s (.int .i64 n4))] 84,[.arr true 5 1 l5],s⟩ k =
 penc_l0 lf n points_z0 points_t1 points2 n3 n4 l5 (fun l0=>k .ret ⟨gp [(2,.s (.str ([]:List UInt8))),(0,.s (.int .i64 (2:Int)))] 103,[.arr true 5 1 l0],s⟩) (fun points_z0 points_t1 points2 l3=>k (.exit 0) ⟨gp [(0,.s (.sl points_z0 points_t1 1 points2)),(3,.fl 0)] 102,[.arr true 5 1 l3],s⟩):=by
 induction n generalizing points_z0 points_t1 points2 n3 n4 l5 with
 | zero=>rfl
 | succ n ih=>rw [penc_l0_s];unfold penc_l0f;exact (Eq.trans (by kernel_rfl) (cond_congr (cond_congr (cond_congr (vl_congr fun n'1=>(cond_congr rfl (cond_congr (cond_congr (ih points_z0 points_t1 points2 n3 (wi64 (n4+(1:Int))) (l5++[[(SV.int .u8 (wu8 n'1))]])) rfl) (ih points_z0 points_t1 points2 n3 (wi64 (n4+(1:Int))) l5)))) rfl) rfl) rfl))
noncomputable def penc_l1f {R:Type} (lf n:Nat) (self:Bool→Bool→LL→Int→Int→Int→Int→Int→Int→Int→Int→LL→Option R) (points_z0 points_t1:Bool) (points2:LL) (basic3 n4 delta5 bias6 done7 m8 n9 n10:Int) (l11:LL) (k0:Bool→Bool→LL→Int→Int→Int→Int→Int→Int→LL→Option R):Option R:=cond (ltI n10 n9) (cond (inR n10 (List.length points2)) (cond (okE tI64 points2 (Int.toNat n10) 0) (vl (gE points2 (Int.toNat n10) 0) fun n'9=>cond (not (ltI n'9 n4)) (vl (if (n'9<m8) then n'9 else m8) fun n'10=>self points_z0 points_t1 points2 basic3 n4 delta5 bias6 done7 n'10 n9 (wi64 (n10+(1:Int))) l11) (self points_z0 points_t1 points2 basic3 n4 delta5 bias6 done7 m8 n9 (wi64 (n10+(1:Int))) l11)) (none)) (none)) (k0 points_z0 points_t1 points2 basic3 n4 delta5 bias6 done7 m8 l11)
noncomputable def penc_l1 {R:Type} (lf n:Nat) (points_z0 points_t1:Bool) (points2:LL) (basic3 n4 delta5 bias6 done7 m8 n9 n10:Int) (l11:LL) (k0:Bool→Bool→LL→Int→Int→Int→Int→Int→Int→LL→Option R):Option R:=recN (α:=Bool→Bool→LL→Int→Int→Int→Int→Int→Int→Int→Int→LL→Option R) (fun _ _ _ _ _ _ _ _ _ _ _ _=>none) (fun n self points_z0 points_t1 points2 basic3 n4 delta5 bias6 done7 m8 n9 n10 l11=>penc_l1f lf n self points_z0 points_t1 points2 basic3 n4 delta5 bias6 done7 m8 n9 n10 l11 k0) n points_z0 points_t1 points2 basic3 n4 delta5 bias6 done7 m8 n9 n10 l11
theorem penc_l1_s {R:Type} (lf n:Nat) (points_z0 points_t1:Bool) (points2:LL) (basic3 n4 delta5 bias6 done7 m8 n9 n10:Int) (l11:LL) (k0:Bool→Bool→LL→Int→Int→Int→Int→Int→Int→LL→Option R):penc_l1 lf (n+1) points_z0 points_t1 points2 basic3 n4 delta5 bias6 done7 m8 n9 n10 l11 k0=penc_l1f lf n (fun points_z0 points_t1 points2 basic3 n4 delta5 bias6 done7 m8 n9 n10 l11=>penc_l1 lf n points_z0 points_t1 points2 basic3 n4 delta5 bias6 done7 m8 n9 n10 l11 k0) points_z0 points_t1 points2 basic3 n4 delta5 bias6 done7 m8 n9 n10 l11 k0:=rfl
theorem penc_l1_eq (n:Nat) (points_z0 points_t1:Bool) (points2:LL) (basic3 n4 delta5 bias6 done7 m8 n9 n10:Int) (l11:LL):loopK 1 ((c_penc lf).keep 21) (bd (c_penc lf) cl yh (cd [1,1,1,1,1,1,1,0,1,0,0,1,0,0,1,0,1,0,0] b_penc)) n ⟨gp [(0,.s (.sl points_z0 points_t1 1 points2)),(3,.fl 0),(2,.s (.int .i64 basic3)),(0,.s (.int .i64 n4)),(0,.s (.int .i64 delta5)),(0,.s (.int .i64 bias6)),(0,.s (.int .i64 done7)),(0,.s (.int .i64 m8)),(38,.s (.sl points_z0 points_t1 1 points2)),(0,.s (.int .i64 n9)),(0,.s (.int .i64 n10))] 53,[.arr true 5 1 l11],s⟩ k =
 penc_l1 lf n points_z0 points_t1 points2 basic3 n4 delta5 bias6 done7 m8 n9 n10 l11 (fun points_z0 points_t1 points2 basic3 n4 delta5 bias6 done7 m8 l9=>k (.exit 4) ⟨gp [(0,.s (.sl points_z0 points_t1 1 points2)),(3,.fl 0),(2,.s (.int .i64 basic3)),(0,.s (.int .i64 n4)),(0,.s (.int .i64 delta5)),(0,.s (.int .i64 bias6)),(0,.s (.int .i64 done7)),(0,.s (.int .i64 m8))] 94,[.arr true 5 1 l9],s⟩):=by
 induction n generalizing points_z0 points_t1 points2 basic3 n4 delta5 bias6 done7 m8 n9 n10 l11 with
 | zero=>rfl
 | succ n ih=>rw [penc_l1_s];unfold penc_l1f;exact (Eq.trans (by kernel_rfl) (cond_congr (cond_congr (cond_congr (vl_congr fun n'9=>(cond_congr (vl_congr fun n'10=>(ih points_z0 points_t1 points2 basic3 n4 delta5 bias6 done7 n'10 n9 (wi64 (n10+(1:Int))) l11)) (ih points_z0 points_t1 points2 basic3 n4 delta5 bias6 done7 m8 n9 (wi64 (n10+(1:Int))) l11))) rfl) rfl) rfl))
noncomputable def penc_l2f {R:Type} (lf n:Nat) (self:Bool→Bool→LL→Int→Int→Int→Int→Int→Int→Int→LL→Option R) (points_z0 points_t1:Bool) (points2:LL) (basic3 n4 delta5 bias6 done7 n8 n9:Int) (l10:LL) (k0:Bool→Bool→LL→Int→Int→Int→Int→Int→LL→Option R):Option R:=cond (ltI n9 n8) (cond (inR n9 (List.length points2)) (cond (okE tI64 points2 (Int.toNat n9) 0) (vl (gE points2 (Int.toNat n9) 0) fun n'26=>cond (ltI n'26 n4) (vl (wi64 (delta5+(1:Int))) fun n'27=>self points_z0 points_t1 points2 basic3 n4 n'27 bias6 done7 n8 (wi64 (n9+(1:Int))) l10) (cond (n'26==n4) (cond (ltN delta5 1152921504606846976) (cond (ltN bias6 1000000) (cond (Nat.ble (List.length l10) 100000) (vl (List.append l10 (List.map u8el (encNum (Int.toNat delta5) 0 (Int.toNat bias6)))) fun l'29=>vl (wi64 (done7+(1:Int))) fun n'30=>cond (ltN delta5 1152921504606846976) (cond (ltN n'30 1000000) (cond (ltI (0:Int) n'30) (vl (↑(adapt (Int.toNat delta5) (Int.toNat n'30) (done7==basic3)):Int) fun n'31=>vl (wi64 (done7+(1:Int))) fun n'32=>self points_z0 points_t1 points2 basic3 n4 0 n'31 n'32 n8 (wi64 (n9+(1:Int))) l'29) (none)) (none)) (none)) (none)) (none)) (none)) (self points_z0 points_t1 points2 basic3 n4 delta5 bias6 done7 n8 (wi64 (n9+(1:Int))) l10))) (none)) (none)) (k0 points_z0 points_t1 points2 basic3 n4 delta5 bias6 done7 l10)
noncomputable def penc_l2 {R:Type} (lf n:Nat) (points_z0 points_t1:Bool) (points2:LL) (basic3 n4 delta5 bias6 done7 n8 n9:Int) (l10:LL) (k0:Bool→Bool→LL→Int→Int→Int→Int→Int→LL→Option R):Option R:=recN (α:=Bool→Bool→LL→Int→Int→Int→Int→Int→Int→Int→LL→Option R) (fun _ _ _ _ _ _ _ _ _ _ _=>none) (fun n self points_z0 points_t1 points2 basic3 n4 delta5 bias6 done7 n8 n9 l10=>penc_l2f lf n self points_z0 points_t1 points2 basic3 n4 delta5 bias6 done7 n8 n9 l10 k0) n points_z0 points_t1 points2 basic3 n4 delta5 bias6 done7 n8 n9 l10
theorem penc_l2_s {R:Type} (lf n:Nat) (points_z0 points_t1:Bool) (points2:LL) (basic3 n4 delta5 bias6 done7 n8 n9:Int) (l10:LL) (k0:Bool→Bool→LL→Int→Int→Int→Int→Int→LL→Option R):penc_l2 lf (n+1) points_z0 points_t1 points2 basic3 n4 delta5 bias6 done7 n8 n9 l10 k0=penc_l2f lf n (fun points_z0 points_t1 points2 basic3 n4 delta5 bias6 done7 n8 n9 l10=>penc_l2 lf n points_z0 points_t1 points2 basic3 n4 delta5 bias6 done7 n8 n9 l10 k0) points_z0 points_t1 points2 basic3 n4 delta5 bias6 done7 n8 n9 l10 k0:=rfl
theorem penc_l2_eq (n:Nat) (points_z0 points_t1:Bool) (points2:LL) (basic3 n4 delta5 bias6 done7 n8 n9:Int) (l10:LL):loopK 1 ((c_penc lf).keep 29) (bd (c_penc lf) cl yh (cd [1,1,1,1,1,1,1,0,1,0,0,1,0,0,1,1,1,1,0,1,0,0] b_penc)) n ⟨gp [(0,.s (.sl points_z0 points_t1 1 points2)),(3,.fl 0),(2,.s (.int .i64 basic3)),(0,.s (.int .i64 n4)),(0,.s (.int .i64 delta5)),(0,.s (.int .i64 bias6)),(0,.s (.int .i64 done7)),(61,.s (.sl points_z0 points_t1 1 points2)),(0,.s (.int .i64 n8)),(0,.s (.int .i64 n9))] 31,[.arr true 5 1 l10],s⟩ k =
 penc_l2 lf n points_z0 points_t1 points2 basic3 n4 delta5 bias6 done7 n8 n9 l10 (fun points_z0 points_t1 points2 basic3 n4 delta5 bias6 done7 l8=>k (.exit 6) ⟨gp [(0,.s (.sl points_z0 points_t1 1 points2)),(3,.fl 0),(2,.s (.int .i64 basic3)),(0,.s (.int .i64 n4)),(0,.s (.int .i64 delta5)),(0,.s (.int .i64 bias6)),(0,.s (.int .i64 done7))] 95,[.arr true 5 1 l8],s⟩):=by
 induction n generalizing points_z0 points_t1 points2 basic3 n4 delta5 bias6 done7 n8 n9 l10 with
 | zero=>rfl
 | succ n ih=>rw [penc_l2_s];unfold penc_l2f;exact (Eq.trans (by kernel_rfl) (cond_congr (cond_congr (cond_congr (vl_congr fun n'26=>(cond_congr (vl_congr fun n'27=>(ih points_z0 points_t1 points2 basic3 n4 n'27 bias6 done7 n8 (wi64 (n9+(1:Int))) l10)) (cond_congr (cond_congr (cond_congr (cond_congr (vl_congr fun l'29=>(vl_congr fun n'30=>(cond_congr (cond_congr (cond_congr (vl_congr fun n'31=>(vl_congr fun n'32=>(ih points_z0 points_t1 points2 basic3 n4 0 n'31 n'32 n8 (wi64 (n9+(1:Int))) l'29))) rfl) rfl) rfl))) rfl) rfl) rfl) (ih points_z0 points_t1 points2 basic3 n4 delta5 bias6 done7 n8 (wi64 (n9+(1:Int))) l10)))) rfl) rfl) rfl))
noncomputable def penc_l3f {R:Type} (lf n:Nat) (self:Bool→Bool→LL→Int→Int→Int→Int→Int→LL→Option R) (points_z0 points_t1:Bool) (points2:LL) (basic3 n4 delta5 bias6 done7:Int) (l8:LL) (k0:LL→Option R):Option R:=cond (ltI done7 (↑(List.length points2):Int)) (penc_l1 lf lf points_z0 points_t1 points2 basic3 n4 delta5 bias6 done7 1114112 (↑(List.length points2):Int) 0 l8 (fun points_z'11 points_t'12 points'13 basic'14 n'15 delta'16 bias'17 done'18 m'19 l'20=>vl (wi64 (done'18+(1:Int))) fun n'23=>vl (wi64 ((wi64 (m'19-n'15))*n'23)) fun n'24=>penc_l2 lf lf points_z'11 points_t'12 points'13 basic'14 m'19 (wi64 (delta'16+n'24)) bias'17 done'18 (↑(List.length points'13):Int) 0 l'20 (fun points_z'33 points_t'34 points'35 basic'36 n'37 delta'38 bias'39 done'40 l'41=>vl (wi64 (delta'38+(1:Int))) fun n'42=>vl (wi64 (n'37+(1:Int))) fun n'43=>self points_z'33 points_t'34 points'35 basic'36 n'43 n'42 bias'39 done'40 l'41))) (k0 l8)
noncomputable def penc_l3 {R:Type} (lf n:Nat) (points_z0 points_t1:Bool) (points2:LL) (basic3 n4 delta5 bias6 done7:Int) (l8:LL) (k0:LL→Option R):Option R:=recN (α:=Bool→Bool→LL→Int→Int→Int→Int→Int→LL→Option R) (fun _ _ _ _ _ _ _ _ _=>none) (fun n self points_z0 points_t1 points2 basic3 n4 delta5 bias6 done7 l8=>penc_l3f lf n self points_z0 points_t1 points2 basic3 n4 delta5 bias6 done7 l8 k0) n points_z0 points_t1 points2 basic3 n4 delta5 bias6 done7 l8
theorem penc_l3_s {R:Type} (lf n:Nat) (points_z0 points_t1:Bool) (points2:LL) (basic3 n4 delta5 bias6 done7:Int) (l8:LL) (k0:LL→Option R):penc_l3 lf (n+1) points_z0 points_t1 points2 basic3 n4 delta5 bias6 done7 l8 k0=penc_l3f lf n (fun points_z0 points_t1 points2 basic3 n4 delta5 bias6 done7 l8=>penc_l3 lf n points_z0 points_t1 points2 basic3 n4 delta5 bias6 done7 l8 k0) points_z0 points_t1 points2 basic3 n4 delta5 bias6 done7 l8 k0:=rfl
theorem penc_l3_eq (n:Nat) (points_z0 points_t1:Bool) (points2:LL) (basic3 n4 delta5 bias6 done7:Int) (l8:LL):loopK 1 ((c_penc lf).keep 17) (bd (c_penc lf) cl yh (cd [1,1,1,1,1,1,1,0,1,0,0] b_penc)) n ⟨gp [(0,.s (.sl points_z0 points_t1 1 points2)),(3,.fl 0),(2,.s (.int .i64 basic3)),(0,.s (.int .i64 n4)),(0,.s (.int .i64 delta5)),(0,.s (.int .i64 bias6)),(0,.s (.int .i64 done7))] 95,[.arr true 5 1 l8],s⟩ k =
 penc_l3 lf n points_z0 points_t1 points2 basic3 n4 delta5 bias6 done7 l8 (fun l0=>k (.exit 2) ⟨gp [(4,.fl 0)] 102,[.arr true 5 1 l0],s⟩):=by
 induction n generalizing points_z0 points_t1 points2 basic3 n4 delta5 bias6 done7 l8 with
 | zero=>rfl
 | succ n ih=>rw [penc_l3_s];unfold penc_l3f;exact (Eq.trans (by kernel_rfl) (cond_congr ((penc_l1_eq lf cl yh s (blkK 4 (seqK (c_penc lf) cl yh (cd [1,1,1,1,1,1,1,0,1,0,0,1,0,0,1,1] b_penc) (blkK 3 (seqK (c_penc lf) cl yh (cd [1,1,1,1,1,1,1,0,1,0,0,1,1] b_penc) (lpK 1 ((c_penc lf).keep 17) (bd (c_penc lf) cl yh (cd [1,1,1,1,1,1,1,0,1,0,0] b_penc)) n k))))) lf points_z0 points_t1 points2 basic3 n4 delta5 bias6 done7 1114112 (↑(List.length points2):Int) 0 l8).trans (congr rfl (funext fun points_z'11=>(funext fun points_t'12=>(funext fun points'13=>(funext fun basic'14=>(funext fun n'15=>(funext fun delta'16=>(funext fun bias'17=>(funext fun done'18=>(funext fun m'19=>(funext fun l'20=>(Eq.trans (by kernel_rfl) (vl_congr fun n'23=>(vl_congr fun n'24=>((penc_l2_eq lf cl yh s (blkK 6 (seqK (c_penc lf) cl yh (cd [1,1,1,1,1,1,1,0,1,0,0,1,0,0,1,1,1,1,1] b_penc) (blkK 3 (seqK (c_penc lf) cl yh (cd [1,1,1,1,1,1,1,0,1,0,0,1,1] b_penc) (lpK 1 ((c_penc lf).keep 17) (bd (c_penc lf) cl yh (cd [1,1,1,1,1,1,1,0,1,0,0] b_penc)) n k))))) lf points_z'11 points_t'12 points'13 basic'14 m'19 (wi64 (delta'16+n'24)) bias'17 done'18 (↑(List.length points'13):Int) 0 l'20).trans (congr rfl (funext fun points_z'33=>(funext fun points_t'34=>(funext fun points'35=>(funext fun basic'36=>(funext fun n'37=>(funext fun delta'38=>(funext fun bias'39=>(funext fun done'40=>(funext fun l'41=>(Eq.trans (by kernel_rfl) (vl_congr fun n'42=>(vl_congr fun n'43=>(ih points_z'33 points_t'34 points'35 basic'36 n'43 n'42 bias'39 done'40 l'41)))))))))))))))))))))))))))))) rfl))
noncomputable def penc {R:Type} (lf:Nat) (p_z p_t:Bool) (p:LL) (k0:Unit→Option R) (k1:By→Int→LL→Option R):Option R:=cond (ltI (256:Int) (↑(List.length p):Int)) (k0 ()) (penc_l0 lf lf p_z p_t p (↑(List.length p):Int) 0 [] (fun l'2=>k1 ([]:List UInt8) 2 l'2) (fun points_z'3 points_t'4 points'5 l'6=>vl (↑(List.length l'6):Int) fun n'8=>cond (ltI (0:Int) n'8) (cond (roomy ((List.length l'6)+1)) (penc_l3 lf lf points_z'3 points_t'4 points'5 n'8 128 0 72 n'8 (l'6++[[(SV.int .u8 (45:Int))]]) (fun l'44=>cond (List.all l'44 isU8) (k1 (List.map elU8 l'44) 0 l'44) (none))) (none)) (penc_l3 lf lf points_z'3 points_t'4 points'5 n'8 128 0 72 n'8 l'6 (fun l'45=>cond (List.all l'45 isU8) (k1 (List.map elU8 l'45) 0 l'45) (none)))))
theorem penc_ev (d:Nat) (p_z p_t:Bool) (p:LL):evC (c_penc lf) (d+1) σ yh 98 [.s (.sl p_z p_t 1 p)] [] s=penc lf p_z p_t p (fun _=>some (.tup [.s (.str ([]:List UInt8)),.s (.int .i64 (3:Int))],[],s)) (fun r0 r1 l2=>some (.tup [.s (.str r0),.s (.int .i64 r1)],[.arr true 5 1 l2],s)):=by
 refine (evC_eq (fn:=Tryz.f98) (by kernel_rfl) (by kernel_rfl) (by kernel_rfl)).trans ?_
 generalize evC (c_penc lf) d=cl
 unfold penc;exact (Eq.trans (by kernel_rfl) (cond_congr rfl ((penc_l0_eq lf cl yh s (blkK 0 (seqK (c_penc lf) cl yh (cd [1,1,1,1] b_penc) (retK (c_penc lf) Tryz.f98))) lf p_z p_t p (↑(List.length p):Int) 0 []).trans (congr (congr rfl (funext fun l'2=>(by kernel_rfl))) (funext fun points_z'3=>(funext fun points_t'4=>(funext fun points'5=>(funext fun l'6=>(Eq.trans (by kernel_rfl) (vl_congr fun n'8=>(cond_congr (cond_congr ((penc_l3_eq lf cl yh s (blkK 2 (seqK (c_penc lf) cl yh (cd [1,1,1,1,1,1,1,1] b_penc) (retK (c_penc lf) Tryz.f98))) lf points_z'3 points_t'4 points'5 n'8 128 0 72 n'8 (l'6++[[(SV.int .u8 (45:Int))]])).trans (congr rfl (funext fun l'44=>(by kernel_rfl)))) rfl) ((penc_l3_eq lf cl yh s (blkK 2 (seqK (c_penc lf) cl yh (cd [1,1,1,1,1,1,1,1] b_penc) (retK (c_penc lf) Tryz.f98))) lf points_z'3 points_t'4 points'5 n'8 128 0 72 n'8 l'6).trans (congr rfl (funext fun l'45=>(by kernel_rfl)))))))))))))))
end
end Go.Proofs.YtokehocipgepnaaGreatDoor.E
namespace Go.Proofs.YtokehocipgepnaaGreatDoor.E
open Go Go.Proofs
set_option linter.unusedVariables false
set_option linter.unusedSimpArgs false
theorem thrI_nat (k b:Nat):thrI ((36*k:Nat):Int) (b:Int)=(thr k b:Int):=by
 unfold thrI thr
 omega
theorem pthr_spec {R:Type} {k0:Int→Option R} (b:Int):pthr LF b k0=k0 b:=rfl
theorem pnext_spec {R:Type} {k0:Int→Int→Int→Option R} (k b:Int) (h0:ltN k 1000000000000=true) (h1:ltN b 1000000=true):pnext LF k b k0=k0 (thrI k b) (Int.add k 36) b:=by
 obtain ⟨a0,a1⟩:=ltN_iff.1 h0
 obtain ⟨b0,b1⟩:=ltN_iff.1 h1
 unfold pnext
 have e1:wi64 (k+36)=k+36:=wi64_id (by omega) (by omega)
 have e2:wi64 (k+36-b)=k+36-b:=wi64_id (by omega) (by omega)
 simp only [vl,e1,e2]
 have:(if (26:Int)<(if (1:Int) > k+36-b then (1:Int) else k+36-b) then (26:Int) else (if (1:Int) > k+36-b then (1:Int) else k+36-b))=thrI k b:=by
  unfold thrI
  split<;>split<;>omega
 rw [this]
 rfl
theorem encNum_lt {q k b:Nat} (h:q<thr k b):encNum q k b=[dig36 q]:=by rw [encNum,dif_pos h]
theorem encNum_ge {q k b:Nat} (h:¬ q<thr k b):encNum q k b=dig36 (thr k b+(q-thr k b) % (36-thr k b))::encNum ((q-thr k b) / (36-thr k b)) (k+1) b:=by rw [encNum,dif_neg h]
theorem div_ten {x y m:Nat} (hy:10≤y) (h:x<10*m):x / y<m:=by
 have h1:x / y≤x / 10:=Nat.div_le_div_left hy (by omega)
 omega
theorem encNum_len (b:Nat):∀ (r q k:Nat),q<10 ^ r→(encNum q k b).length≤r+1:=by
 intro r
 induction r with
 | zero=>
  intro q k h
  have ht:=thr_range k b
  rw [encNum_lt (by simp at h;omega)]
  simp
 | succ r ih=>
  intro q k h
  have ht:=thr_range k b
  by_cases hq:q<thr k b
  ·rw [encNum_lt hq];simp
  ·rw [encNum_ge hq,List.length_cons]
   have:=ih ((q-thr k b) / (36-thr k b)) (k+1) (div_ten (by omega) (by rw [Nat.pow_succ] at h;omega))
   omega
theorem papp_loop (z:Bool) (b:Nat) (hb:b<1000000):∀ (r q k n:Nat) (l:LL),q<10 ^ r→q<1152921504606846976→k+r≤1000→r<n→l.length+r≤200000→
  ∃ (n2 n3:Int),∀ (R:Type) (k0:Bool→LL→Int→Int→Option R),papp_l0 LF n (q:Int) z l (b:Int) ((36*k:Nat):Int) k0=k0 z (l++(encNum q k b).map u8el) n2 n3:=by
 have fin:∀ (q k n:Nat) (l:LL),q<thr k b→k≤1000→l.length≤200000→∃ (n2 n3:Int),∀ (R:Type) (k0:Bool→LL→Int→Int→Option R),papp_l0 LF (n+1) (q:Int) z l (b:Int) ((36*k:Nat):Int) k0=k0 z (l++(encNum q k b).map u8el) n2 n3:=by
  intro q k n l hq hk hl
  have ht:=thr_range k b
  refine ⟨(b:Int),Int.add ((36*k:Nat):Int) 36,fun R k0=>?_⟩
  rw [papp_l0_s]
  unfold papp_l0f
  rw [ltN_t (by omega) (by omega),ltN_t (by omega) (by omega),thrI_nat,ltI_t (by omega),ltN_t (by omega) (by omega),encNum_lt hq]
  simp only [vl,cond_true,Int.toNat_natCast]
  rw [roomy_of (by omega)]
  rfl
 intro r
 induction r with
 | zero=>
  intro q k n l h _ hk hn hl
  have ht:=thr_range k b
  obtain ⟨n,rfl⟩:∃ m,n=m+1:=⟨n-1,by omega⟩
  exact fin q k n l (by simp at h;omega) (by omega) (by omega)
 | succ r ih=>
  intro q k n l h hq60 hk hn hl
  have ht:=thr_range k b
  obtain ⟨n,rfl⟩:∃ m,n=m+1:=⟨n-1,by omega⟩
  by_cases hq:q<thr k b
  ·exact fin q k n l hq (by omega) (by omega)
  ·have hd:(q-thr k b) / (36-thr k b)<10 ^ r:=div_ten (by omega) (by rw [Nat.pow_succ] at h;omega)
   have hd2:(q-thr k b) / (36-thr k b)≤q:=Nat.le_trans (Nat.div_le_self _ _) (by omega)
   have hm2:(q-thr k b) % (36-thr k b)<36-thr k b:=Nat.mod_lt _ (by omega)
   obtain ⟨n2,n3,e⟩:=ih ((q-thr k b) / (36-thr k b)) (k+1) n (l++[u8el (dig36 (thr k b+(q-thr k b) % (36-thr k b)))]) hd (by omega) (by omega) (by omega) (by rw [List.length_append,List.length_singleton];omega)
   refine ⟨n2,n3,fun R k0=>?_⟩
   rw [papp_l0_s]
   unfold papp_l0f
   have c1:wi64 ((q:Int)-(thr k b:Int))=((q-thr k b:Nat):Int):=by rw [wi64_id (by omega) (by omega)];omega
   have c2:wi64 ((36:Int)-(thr k b:Int))=((36-thr k b:Nat):Int):=by rw [wi64_id (by omega) (by omega)];omega
   have c3:Int.tmod ((q-thr k b:Nat):Int) ((36-thr k b:Nat):Int)=(((q-thr k b) % (36-thr k b):Nat):Int):=tmod_nat _ _
   have c4:Int.tdiv ((q-thr k b:Nat):Int) ((36-thr k b:Nat):Int)=(((q-thr k b) / (36-thr k b):Nat):Int):=tdiv_nat _ _
   have c7:((((36-thr k b:Nat):Int)) != 0)=true:=by rw [bne_iff_ne];omega
   rw [ltN_t (by omega) (by omega),ltN_t (by omega) (by omega),thrI_nat,ltI_f (by omega)]
   simp only [vl,c1,c2,c3,c4,c7,cond_true,cond_false]
   rw [encNum_ge hq]
   generalize hA:(q-thr k b) / (36-thr k b)=A at *
   generalize hB:(q-thr k b) % (36-thr k b)=B at *
   have c5:wi64 ((thr k b:Int)+(B:Int))=((thr k b+B:Nat):Int):=by rw [wi64_id (by omega) (by omega)];rfl
   have c6:wi64 (A:Int)=(A:Int):=wi64_id (by omega) (by omega)
   rw [c5,c6,ltN_t (by omega) (by omega),roomy_of (by omega),Int.toNat_natCast,show Int.add ((36*k:Nat):Int) 36=((36*(k+1):Nat):Int) from (by show ((36*k:Nat):Int)+36=_;omega)]
   refine Eq.trans (e R k0) ?_
   simp [List.append_assoc]
theorem papp_spec (q b:Int) (z:Bool) (l:LL) (h0:ltN q 1152921504606846976=true) (h1:ltN b 1000000=true) (h2:Nat.ble l.length 100000=true) :
  ∃ (n2 n3:Int),∀ (R:Type) (k0:Bool→LL→Int→Int→Option R),papp LF q b z l k0=k0 z (List.append l ((encNum q.toNat 0 b.toNat).map u8el)) n2 n3:=by
 obtain ⟨a0,a1⟩:=ltN_iff.1 h0
 obtain ⟨b0,b1⟩:=ltN_iff.1 h1
 obtain ⟨q,rfl⟩:=Int.eq_ofNat_of_zero_le a0
 obtain ⟨b,rfl⟩:=Int.eq_ofNat_of_zero_le b0
 have hl:=Nat.le_of_ble_eq_true h2
 have hLF:=LF_big
 obtain ⟨n2,n3,e⟩:=papp_loop z b (by omega) 19 q 0 LF l (by omega) (by omega) (by omega) (by omega) (by omega)
 exact ⟨n2,n3,fun R k0=>e R _⟩
def i64E (l:List Int):LL:=l.map fun x=>[SV.int .i64 x]
def natE (l:List Nat):LL:=l.map fun x:Nat=>[SV.int .i64 (x:Int)]
theorem natE_i64E (l:List Nat):i64E (l.map fun n:Nat=>(n:Int))=natE l:=by simp [i64E,natE,Function.comp_def]
theorem i64E_len (l:List Int):(i64E l).length=l.length:=by simp [i64E]
theorem natE_len (l:List Nat):(natE l).length=l.length:=by simp [natE]
theorem natE_app (a b:List Nat):natE (a++b)=natE a++natE b:=by simp [natE]
theorem okE_i64 {l:List Int} {i:Nat} (h:i<l.length):okE tI64 (i64E l) i 0=true:=by
 unfold okE i64E tI64
 simp [List.getD_eq_getElem?_getD,h,okS,SV.has]
theorem gE_i64 (l:List Int) (i:Nat) (h:i<l.length):gE (i64E l) i 0=l.getD i 0:=by
 unfold gE gC i64E
 simp [List.getD_eq_getElem?_getD,List.getElem?_eq_getElem h,SV.gI]
theorem okE_nat {l:List Nat} {i:Nat} (h:i<l.length):okE tI64 (natE l) i 0=true:=by
 rw [←natE_i64E];exact okE_i64 (by simpa using h)
theorem gE_nat (l:List Nat) (i:Nat) (h:i<l.length):gE (natE l) i 0=(l.getD i 0:Int):=by
 rw [←natE_i64E,gE_i64 _ _ (by simpa using h)]
 simp [List.getD_eq_getElem?_getD,h]
theorem i64_row {l:LL} (h:l.all isI64=true):∃ P:List Int,l=i64E P:=by
 induction l with
 | nil=>exact ⟨[],rfl⟩
 | cons x r ih=>
  simp only [List.all_cons,Bool.and_eq_true] at h
  obtain ⟨P,rfl⟩:=ih h.2
  have hx:=h.1
  unfold isI64 at hx
  split at hx
  ·rename_i n
   exact ⟨n::P,rfl⟩
  ·cases hx
theorem elI_i64E (P:List Int):(i64E P).map elI=P:=by
 unfold i64E
 rw [List.map_map]
 conv=>rhs;rw [←List.map_id P]
 apply List.map_congr_left
 intro x _
 simp [elI,SV.gI]
theorem drop_int (l:List Int) (i:Nat) (h:i<l.length):l.drop i=l.getD i 0::l.drop (i+1):=by
 rw [List.getD_eq_getElem?_getD,List.getElem?_eq_getElem h,Option.getD_some,List.getElem_cons_drop]
theorem drop_nat (l:List Nat) (i:Nat) (h:i<l.length):l.drop i=l.getD i 0::l.drop (i+1):=by
 rw [List.getD_eq_getElem?_getD,List.getElem?_eq_getElem h,Option.getD_some,List.getElem_cons_drop]
theorem adGo_le:∀ (r d k:Nat),d<456*35 ^ r→adGo d k≤k+36*r+36:=by
 intro r
 induction r with
 | zero=>
  intro d k h
  rw [adGo_small (by simp at h;omega)]
  have:36*d / (d+38)≤36:=by
   apply Nat.div_le_of_le_mul
   rw [Nat.add_mul];omega
  omega
 | succ r ih=>
  intro d k h
  by_cases hd:455<d
  ·rw [adGo_big hd]
   have h1:d / 35<456*35 ^ r:=by
    rw [Nat.pow_succ] at h
    omega
   have:=ih (d / 35) (k+36) h1
   omega
  ·rw [adGo_small hd]
   have:36*d / (d+38)≤36:=by
    apply Nat.div_le_of_le_mul
    rw [Nat.add_mul];omega
   omega
theorem adapt_le (d c:Nat) (f:Bool) (h:d<1152921504606846976):adapt d c f≤500:=by
 unfold adapt
 have hx:∀ x:Nat,x≤d→adGo (x+x / c) 0≤500:=by
  intro x hx
  have:=Nat.div_le_self x c
  have:=adGo_le 11 (x+x / c) 0 (by omega)
  omega
 cases f with
 | true=>exact hx _ (Nat.div_le_self _ _)
 | false=>exact hx _ (Nat.div_le_self _ _)
theorem encNum_20 {q k b:Nat} (h:q<1152921504606846976):(encNum q k b).length≤20:=encNum_len b 19 q k (by omega)
theorem penc_in (z t:Bool) (pts:List Nat) (basic m:Nat) (hm:m≤1114112) (hl:pts.length≤256):∀ (r i n:Nat) (s:EncS),i+r=pts.length→r<n→s.delta+r≤1000000000000→s.bias≤500→s.out.length+20*r≤90000→s.done+r≤1000→basic≤256→
  (∀ (R:Type) (k0:Bool→Bool→LL→Int→Int→Int→Int→Int→LL→Option R),penc_l2 LF n z t (natE pts) (basic:Int) (m:Int) (s.delta:Int) (s.bias:Int) (s.done:Int) (pts.length:Int) (i:Int) (s.out.map u8el) k0 =
   k0 z t (natE pts) (basic:Int) (m:Int) ((encIn m basic (pts.drop i) s).delta:Int) ((encIn m basic (pts.drop i) s).bias:Int) ((encIn m basic (pts.drop i) s).done:Int) ((encIn m basic (pts.drop i) s).out.map u8el))∧
  (encIn m basic (pts.drop i) s).bias≤500∧(encIn m basic (pts.drop i) s).out.length≤s.out.length+20*(pts.drop i).countP (· == m)∧(encIn m basic (pts.drop i) s).done=s.done+(pts.drop i).countP (· == m)∧
  (encIn m basic (pts.drop i) s).delta≤(if 0<(pts.drop i).countP (· == m) then r else s.delta+r):=by
 intro r
 induction r with
 | zero=>
  intro i n s hi hn h1 h2 h3 h4 hb
  obtain ⟨n,rfl⟩:∃ m,n=m+1:=⟨n-1,by omega⟩
  rw [List.drop_of_length_le (by omega)]
  refine ⟨fun R k0=>?_,h2,by simp [encIn],by simp [encIn],by simp [encIn]⟩
  rw [penc_l2_s]
  unfold penc_l2f
  rw [ltI_f (by omega)]
  rfl
 | succ r ih=>
  intro i n s hi hn h1 h2 h3 h4 hb
  obtain ⟨n,rfl⟩:∃ m,n=m+1:=⟨n-1,by omega⟩
  rw [drop_nat pts i (by omega)]
  have hg:=gE_nat pts i (by omega)
  have ok:=okE_nat (l:=pts) (i:=i) (by omega)
  generalize pts.getD i 0=p at *
  have e1:wi64 ((i:Int)+1)=((i+1:Nat):Int):=by rw [wi64_id (by omega) (by omega)];rfl
  have e2:wi64 ((s.delta:Int)+1)=((s.delta+1:Nat):Int):=by rw [wi64_id (by omega) (by omega)];rfl
  have e3:wi64 ((s.done:Int)+1)=((s.done+1:Nat):Int):=by rw [wi64_id (by omega) (by omega)];rfl
  by_cases hp:p<m
  ·have hne:(p==m)=false:=by rw [beq_eq_false_iff_ne];omega
   have hs:encIn m basic (p::pts.drop (i+1)) s=encIn m basic (pts.drop (i+1)) { s with delta:=s.delta+1 }:=by rw [encIn,if_pos hp]
   obtain ⟨q1,q2,q3,q4,q5⟩:=ih (i+1) n { s with delta:=s.delta+1 } (by omega) (by omega) (by simp only;omega) h2 (by simp only;omega) (by simp only;omega) hb
   rw [hs,List.countP_cons_of_neg (by rw [hne];simp)]
   refine ⟨fun R k0=>?_,q2,q3,q4,?_⟩
   ·rw [penc_l2_s]
    unfold penc_l2f
    rw [ltI_t (by omega),natE_len,inR_t (by omega) (by omega),Int.toNat_natCast,ok]
    simp only [cond_true,vl,hg,e1,e2]
    rw [ltI_t (by omega),cond_true]
    exact q1 R k0
   ·simp only at q5
    split at q5<;>split<;>omega
  ·by_cases hq:p=m
   ·subst hq
    have hn20:=encNum_20 (q:=s.delta) (k:=0) (b:=s.bias) (by omega)
    have had:=adapt_le s.delta (s.done+1) (s.done==basic) (by omega)
    have hs:encIn p basic (p::pts.drop (i+1)) s=encIn p basic (pts.drop (i+1)) { delta:=0,bias:=adapt s.delta (s.done+1) (s.done==basic),done:=s.done+1,out:=s.out++encNum s.delta 0 s.bias }:=by rw [encIn,if_neg hp,if_pos rfl]
    obtain ⟨q1,q2,q3,q4,q5⟩:=ih (i+1) n { delta:=0,bias:=adapt s.delta (s.done+1) (s.done==basic),done:=s.done+1,out:=s.out++encNum s.delta 0 s.bias } (by omega) (by omega) (by simp only;omega) had (by simp only [List.length_append];omega) (by simp only;omega) hb
    rw [hs,List.countP_cons_of_pos (by simp)]
    refine ⟨fun R k0=>?_,q2,?_,?_,?_⟩
    ·rw [penc_l2_s]
     unfold penc_l2f
     have hbeq:((s.done:Int)==(basic:Int))=(s.done==basic):=by
      rw [Bool.eq_iff_iff,beq_iff_eq,beq_iff_eq];omega
     rw [ltI_t (by omega),natE_len,inR_t (by omega) (by omega),Int.toNat_natCast,ok]
     simp only [cond_true,vl,hg,e1,e3]
     rw [ltI_f (by omega),cond_false,beq_self_eq_true,cond_true,ltN_t (by omega) (by omega),ltN_t (by omega) (by omega),List.length_map,Nat.ble_eq_true_of_le (show s.out.length≤100000 by omega),ltN_t (by omega) (by omega),ltI_t (by omega),hbeq]
     simp only [cond_true,Int.toNat_natCast]
     have hrow:List.append (s.out.map u8el) ((encNum s.delta 0 s.bias).map u8el)=(s.out++encNum s.delta 0 s.bias).map u8el:=by rw [List.map_append];rfl
     rw [hrow]
     exact q1 R k0
    ·simp only [List.length_append] at q3;omega
    ·simp only at q4;omega
    ·simp only at q5
     rw [if_pos (by omega)]
     split at q5<;>omega
   ·have hne:(p==m)=false:=by rw [beq_eq_false_iff_ne];omega
    have hs:encIn m basic (p::pts.drop (i+1)) s=encIn m basic (pts.drop (i+1)) s:=by rw [encIn,if_neg hp,if_neg hq]
    obtain ⟨q1,q2,q3,q4,q5⟩:=ih (i+1) n s (by omega) (by omega) (by omega) h2 (by omega) (by omega) hb
    rw [hs,List.countP_cons_of_neg (by rw [hne];simp)]
    refine ⟨fun R k0=>?_,q2,q3,q4,?_⟩
    ·rw [penc_l2_s]
     unfold penc_l2f
     rw [ltI_t (by omega),natE_len,inR_t (by omega) (by omega),Int.toNat_natCast,ok]
     simp only [cond_true,vl,hg,e1]
     rw [ltI_f (by omega),cond_false,show ((p:Int)==(m:Int))=false by rw [beq_eq_false_iff_ne];omega,cond_false]
     exact q1 R k0
    ·split at q5<;>split<;>omega
theorem penc_least {R:Type} {k0:Bool→Bool→LL→Int→Int→Int→Int→Int→Int→LL→Option R} (z t:Bool) (pts:List Nat) (hl:pts.length≤256) (n0:Nat) (basic delta bias done:Int) (l:LL):∀ (r i n m:Nat),i+r=pts.length→r<n→
  penc_l1 LF n z t (natE pts) basic (n0:Int) delta bias done (m:Int) (pts.length:Int) (i:Int) l k0=k0 z t (natE pts) basic (n0:Int) delta bias done ((leastP n0 (pts.drop i) m:Nat):Int) l:=by
 intro r
 induction r with
 | zero=>
  intro i n m hi hn
  obtain ⟨n,rfl⟩:∃ m,n=m+1:=⟨n-1,by omega⟩
  rw [penc_l1_s]
  unfold penc_l1f
  rw [ltI_f (by omega),List.drop_of_length_le (by omega)]
  rfl
 | succ r ih=>
  intro i n m hi hn
  obtain ⟨n,rfl⟩:∃ m,n=m+1:=⟨n-1,by omega⟩
  have hg:=gE_nat pts i (by omega)
  have ok:=okE_nat (l:=pts) (i:=i) (by omega)
  rw [penc_l1_s,drop_nat pts i (by omega)]
  unfold penc_l1f
  generalize pts.getD i 0=p at *
  have e1:wi64 ((i:Int)+1)=((i+1:Nat):Int):=by rw [wi64_id (by omega) (by omega)];rfl
  rw [ltI_t (by omega),natE_len,inR_t (by omega) (by omega),Int.toNat_natCast,ok]
  simp only [cond_true,vl,hg,e1,leastP]
  by_cases h:n0≤p
  ·rw [if_pos h,ltI_f (by omega),Bool.not_false,cond_true]
   have:(if (p:Int)<(m:Int) then (p:Int) else (m:Int))=((min m p:Nat):Int):=by split<;>omega
   rw [this]
   exact ih (i+1) n (min m p) (by omega) (by omega)
  ·rw [if_neg h,ltI_t (by omega),Bool.not_true,cond_false]
   exact ih (i+1) n m (by omega) (by omega)
theorem leastP_spec (n:Nat):∀ (l:List Nat) (m:Nat),(leastP n l m=m∨(leastP n l m∈l∧n≤leastP n l m))∧leastP n l m≤m∧∀ p∈l,n≤p→leastP n l m≤p
 | [],m=>⟨.inl rfl,Nat.le_refl _,fun p h=>by cases h⟩
 | q::r,m=>by
  obtain ⟨h1,h2,h3⟩:=leastP_spec n r (if n≤q then min m q else m)
  simp only [leastP]
  by_cases hq:n≤q
  ·rw [if_pos hq] at h1 h2 h3 ⊢
   refine ⟨?_,by omega,fun p hp hn=>?_⟩
   ·rcases h1 with h1 | ⟨h1,h1'⟩
    ·by_cases hm:m≤q
     ·left;omega
     ·right;exact ⟨by rw [h1,show min m q=q by omega];simp,by omega⟩
    ·right;exact ⟨List.mem_cons_of_mem _ h1,h1'⟩
   ·rcases List.mem_cons.1 hp with rfl | hp
    ·omega
    ·exact h3 p hp hn
  ·rw [if_neg hq] at h1 h2 h3 ⊢
   refine ⟨?_,h2,fun p hp hn=>?_⟩
   ·rcases h1 with h1 | ⟨h1,h1'⟩
    ·left;exact h1
    ·right;exact ⟨List.mem_cons_of_mem _ h1,h1'⟩
   ·rcases List.mem_cons.1 hp with rfl | hp
    ·omega
    ·exact h3 p hp hn
theorem cnt_step {n m:Nat} (hnm:n≤m):∀ l:List Nat,(∀ p∈l,n≤p→m≤p)→l.countP (fun p=>decide (p<m+1))=l.countP (fun p=>decide (p<n))+l.countP (· == m)
 | [],_=>rfl
 | p::l,h=>by
  have ih:=cnt_step hnm l (fun q hq=>h q (List.mem_cons_of_mem _ hq))
  have hp:=h p List.mem_cons_self
  simp only [List.countP_cons,ih]
  by_cases h1:p<n
  ·have:(p==m)=false:=by rw [beq_eq_false_iff_ne];omega
   rw [this]
   simp [h1,show p<m+1 by omega]
   omega
  ·by_cases h2:p=m
   ·subst h2
    simp [h1]
    omega
   ·have:(p==m)=false:=by rw [beq_eq_false_iff_ne];exact h2
    have:=hp (by omega)
    rw [‹(p==m)=false›]
    simp [h1,show ¬ p<m+1 by omega]
theorem cnt_lt {n:Nat} {l:List Nat} (h:l.countP (fun p=>decide (p<n))<l.length):∃ p∈l,n≤p:=by
 apply Classical.byContradiction
 intro hc
 have:l.countP (fun p=>decide (p<n))=l.length:=by
  rw [List.countP_eq_length]
  intro p hp
  apply decide_eq_true
  apply Classical.byContradiction
  intro h2
  exact hc ⟨p,hp,by omega⟩
 omega
theorem penc_out (z t:Bool) (pts:List Nat) (basic:Nat) (hl:pts.length≤256) (hb:basic≤256) (hall:∀ p∈pts,p≤1114111):∀ (f n n':Nat) (s:EncS),s.done=pts.countP (fun p=>decide (p<n))→pts.length≤s.done+f→f<n'→s.delta≤300→s.bias≤500→s.out.length+20*(pts.length-s.done)≤80000→n≤1114112→
  ∀ (R:Type) (k0:LL→Option R),penc_l3 LF n' z t (natE pts) (basic:Int) (n:Int) (s.delta:Int) (s.bias:Int) (s.done:Int) (s.out.map u8el) k0=k0 ((encOut pts basic f n s).out.map u8el):=by
 intro f
 have hLF:=LF_big
 induction f with
 | zero=>
  intro n n' s hd hf hn h1 h2 h3 h4 R k0
  obtain ⟨n',rfl⟩:∃ m,n'=m+1:=⟨n'-1,by omega⟩
  rw [penc_l3_s]
  unfold penc_l3f
  rw [natE_len,ltI_f (by omega)]
  rfl
 | succ f ih=>
  intro n n' s hd hf hn h1 h2 h3 h4 R k0
  obtain ⟨n',rfl⟩:∃ m,n'=m+1:=⟨n'-1,by omega⟩
  rw [penc_l3_s]
  unfold penc_l3f
  rw [natE_len]
  have hcl:pts.countP (fun p=>decide (p<n))≤pts.length:=List.countP_le_length
  by_cases hlt:s.done<pts.length
  ·obtain ⟨p0,hp0,hp1⟩:=cnt_lt (n:=n) (l:=pts) (by omega)
   obtain ⟨g1,g2,g3⟩:=leastP_spec n pts 1114112
   have g4:=g3 p0 hp0 hp1
   have g5:=hall p0 hp0
   have hmem:leastP n pts 1114112∈pts∧n≤leastP n pts 1114112:=by
    rcases g1 with g1 | g1
    ·omega
    ·exact g1
   have he:encOut pts basic (f+1) n s=encOut pts basic f (leastP n pts 1114112+1) { encIn (leastP n pts 1114112) basic pts { s with delta:=s.delta+(leastP n pts 1114112-n)*(s.done+1) } with delta:=(encIn (leastP n pts 1114112) basic pts { s with delta:=s.delta+(leastP n pts 1114112-n)*(s.done+1) }).delta+1 }:=by
    rw [encOut,if_pos hlt]
   rw [he,ltI_t (by omega),cond_true]
   have hleast:=fun (K:Bool→Bool→LL→Int→Int→Int→Int→Int→Int→LL→Option R)=>penc_least (k0:=K) z t pts hl n (basic:Int) (s.delta:Int) (s.bias:Int) (s.done:Int) (s.out.map u8el) pts.length 0 LF 1114112 (by omega) (by omega)
   rw [List.drop_zero] at hleast
   refine Eq.trans (hleast _) ?_
   generalize leastP n pts 1114112=m at *
   have hmul:(m-n)*(s.done+1)≤1114112*256:=Nat.mul_le_mul (by omega) (by omega)
   have e1:wi64 ((s.done:Int)+1)=((s.done+1:Nat):Int):=by rw [wi64_id (by omega) (by omega)];rfl
   have e2:wi64 ((m:Int)-(n:Int))=((m-n:Nat):Int):=by rw [wi64_id (by omega) (by omega)];omega
   have e3:wi64 (((m-n:Nat):Int)*((s.done+1:Nat):Int))=(((m-n)*(s.done+1):Nat):Int):=by
    rw [←Int.natCast_mul]
    exact wi64_id (by omega) (by omega)
   have e4:wi64 ((s.delta:Int)+(((m-n)*(s.done+1):Nat):Int))=((s.delta+(m-n)*(s.done+1):Nat):Int):=by
    rw [wi64_id (by omega) (by omega)];rfl
   simp only [vl,e1,e2,e3,e4]
   have hin:=penc_in z t pts basic m (by omega) hl pts.length 0 LF { s with delta:=s.delta+(m-n)*(s.done+1) } (by omega) (by omega) (by simp only;omega) h2 (by simp only;omega) (by simp only;omega) hb
   rw [List.drop_zero] at hin
   obtain ⟨q1,q2,q3,q4,q5⟩:=hin
   rw [natE_len]
   refine Eq.trans (q1 R _) ?_
   have hcnt:0<pts.countP (· == m):=List.countP_pos_iff.2 ⟨m,hmem.1,by simp⟩
   rw [if_pos hcnt] at q5
   have hstep:=cnt_step hmem.2 pts g3
   generalize encIn m basic pts { s with delta:=s.delta+(m-n)*(s.done+1) } = s' at *
   simp only at q3 q4
   have e5:wi64 ((s'.delta:Int)+1)=((s'.delta+1:Nat):Int):=by rw [wi64_id (by omega) (by omega)];rfl
   have e6:wi64 ((m:Int)+1)=((m+1:Nat):Int):=by rw [wi64_id (by omega) (by omega)];rfl
   have hcl2:pts.countP (fun p=>decide (p<m+1))≤pts.length:=List.countP_le_length
   simp only [e5,e6]
   exact ih (m+1) n' { s' with delta:=s'.delta+1 } (by simp only;omega) (by simp only;omega) (by omega) (by simp only;omega) q2 (by simp only;omega) (by omega) R k0
  ·rw [ltI_f (by omega)]
   rw [encOut,if_neg hlt]
   rfl
def basicI (l:List Int):By:=(l.filter fun x=>decide (x<128)).map fun x=>UInt8.ofNat x.toNat
theorem u8_row (x:Int) (h0:0≤x) (h:x<128):[SV.int .u8 (wu8 x)]=u8el (UInt8.ofNat x.toNat):=by
 unfold u8el
 have e:wu8 x=x:=by unfold wu8;exact Int.emod_eq_of_lt h0 (show x<256 by omega)
 rw [e]
 have:((UInt8.ofNat x.toNat).toNat:Int)=x:=by simp;omega
 rw [this]
theorem ptI_nonneg {x:Int} (h:ptI x=true):0≤x∧x≤1114111:=by
 cases x with
 | negSucc m=>cases h
 | ofNat m=>
  have:isPt m=true:=h
  unfold isPt at this
  simp only [Bool.and_eq_true,Nat.ble_eq] at this
  simp only [Int.ofNat_eq_natCast]
  omega
theorem penc_basic (z t:Bool) (P:List Int) (hl:P.length≤256):∀ (r i n:Nat) (out:By),i+r=P.length→r<n→out.length+r≤1000→
  ((P.drop i).all ptI=true→∀ (R:Type) (k0:LL→Option R) (k1:Bool→Bool→LL→LL→Option R),penc_l0 LF n z t (i64E P) (P.length:Int) (i:Int) (out.map u8el) k0 k1=k1 z t (i64E P) ((out++basicI (P.drop i)).map u8el))∧
  ((P.drop i).all ptI=false→∃ l,∀ (R:Type) (k0:LL→Option R) (k1:Bool→Bool→LL→LL→Option R),penc_l0 LF n z t (i64E P) (P.length:Int) (i:Int) (out.map u8el) k0 k1=k0 l):=by
 intro r
 induction r with
 | zero=>
  intro i n out hi hn ho
  obtain ⟨n,rfl⟩:∃ m,n=m+1:=⟨n-1,by omega⟩
  rw [List.drop_of_length_le (by omega)]
  refine ⟨fun _ R k0 k1=>?_,fun h=>(by cases h)⟩
  rw [penc_l0_s]
  unfold penc_l0f
  rw [ltI_f (by omega)]
  simp [basicI]
 | succ r ih=>
  intro i n out hi hn ho
  obtain ⟨n,rfl⟩:∃ m,n=m+1:=⟨n-1,by omega⟩
  have hg:=gE_i64 P i (by omega)
  have ok:=okE_i64 (l:=P) (i:=i) (by omega)
  rw [drop_int P i (by omega)]
  generalize P.getD i 0=x at *
  have e1:wi64 ((i:Int)+1)=((i+1:Nat):Int):=by rw [wi64_id (by omega) (by omega)];rfl
  cases hx:ptI x with
  | false=>
   refine ⟨fun h=>?_,fun _=>⟨out.map u8el,fun R k0 k1=>?_⟩⟩
   ·rw [List.all_cons,hx] at h;cases h
   ·rw [penc_l0_s]
    unfold penc_l0f
    rw [ltI_t (by omega),i64E_len,inR_t (by omega) (by omega),Int.toNat_natCast,ok]
    simp only [cond_true,vl,hg,hx,Bool.not_false]
  | true=>
   obtain ⟨p0,p1⟩:=ptI_nonneg hx
   rw [List.all_cons,hx,Bool.true_and]
   by_cases h128:x<128
   ·have hbs:basicI (x::P.drop (i+1))=UInt8.ofNat x.toNat::basicI (P.drop (i+1)):=by
     unfold basicI;rw [List.filter_cons_of_pos (by simpa using h128)];rfl
    have hrow:out.map u8el++[[SV.int .u8 (wu8 x)]]=(out++[UInt8.ofNat x.toNat]).map u8el:=by rw [u8_row x p0 h128];simp
    obtain ⟨q1,q2⟩:=ih (i+1) n (out++[UInt8.ofNat x.toNat]) (by omega) (by omega) (by simp;omega)
    have step:∀ (R:Type) (k0:LL→Option R) (k1:Bool→Bool→LL→LL→Option R),penc_l0 LF (n+1) z t (i64E P) (P.length:Int) (i:Int) (out.map u8el) k0 k1=penc_l0 LF n z t (i64E P) (P.length:Int) ((i+1:Nat):Int) ((out++[UInt8.ofNat x.toNat]).map u8el) k0 k1:=by
     intro R k0 k1
     rw [penc_l0_s]
     unfold penc_l0f
     rw [ltI_t (by omega),i64E_len,inR_t (by omega) (by omega),Int.toNat_natCast,ok]
     simp only [cond_true,vl,hg,hx,Bool.not_true,cond_false,e1]
     rw [ltI_t h128,List.length_map,roomy_of (by omega),hrow]
     rfl
    refine ⟨fun h R k0 k1=>?_,fun h=>?_⟩
    ·rw [step,q1 h,hbs];simp
    ·obtain ⟨l,e⟩:=q2 h
     exact ⟨l,fun R k0 k1=>by rw [step];exact e R k0 k1⟩
   ·have hbs:basicI (x::P.drop (i+1))=basicI (P.drop (i+1)):=by
     unfold basicI;rw [List.filter_cons_of_neg (by simpa using h128)]
    obtain ⟨q1,q2⟩:=ih (i+1) n out (by omega) (by omega) (by omega)
    have step:∀ (R:Type) (k0:LL→Option R) (k1:Bool→Bool→LL→LL→Option R),penc_l0 LF (n+1) z t (i64E P) (P.length:Int) (i:Int) (out.map u8el) k0 k1=penc_l0 LF n z t (i64E P) (P.length:Int) ((i+1:Nat):Int) (out.map u8el) k0 k1:=by
     intro R k0 k1
     rw [penc_l0_s]
     unfold penc_l0f
     rw [ltI_t (by omega),i64E_len,inR_t (by omega) (by omega),Int.toNat_natCast,ok]
     simp only [cond_true,vl,hg,hx,Bool.not_true,cond_false,e1]
     rw [ltI_f (by omega)]
     rfl
    refine ⟨fun h R k0 k1=>?_,fun h=>?_⟩
    ·rw [step,q1 h,hbs]
    ·obtain ⟨l,e⟩:=q2 h
     exact ⟨l,fun R k0 k1=>by rw [step];exact e R k0 k1⟩
theorem pts_nat {P:List Int} (h:P.all ptI=true):∃ pts:List Nat,P=pts.map (fun n:Nat=>(n:Int))∧pts.all isPt=true∧∀ p∈pts,p≤1114111:=by
 induction P with
 | nil=>exact ⟨[],rfl,rfl,by simp⟩
 | cons x P ih=>
  rw [List.all_cons,Bool.and_eq_true] at h
  obtain ⟨pts,rfl,h1,h2⟩:=ih h.2
  obtain ⟨p0,p1⟩:=ptI_nonneg h.1
  obtain ⟨m,rfl⟩:=Int.eq_ofNat_of_zero_le p0
  refine ⟨m::pts,rfl,?_,?_⟩
  ·rw [List.all_cons,h1,Bool.and_true];exact h.1
  ·intro p hp
   rcases List.mem_cons.1 hp with rfl | hp
   ·omega
   ·exact h2 p hp
theorem basicI_nat (pts:List Nat):basicI (pts.map fun n:Nat=>(n:Int))=basicB pts:=by
 unfold basicI basicB
 induction pts with
 | nil=>rfl
 | cons p r ih=>
  rw [List.map_cons]
  by_cases h:p<128
  ·rw [List.filter_cons_of_pos (by simp;omega),List.filter_cons_of_pos (by simpa using h),List.map_cons,List.map_cons,ih]
   rfl
  ·rw [List.filter_cons_of_neg (by simp;omega),List.filter_cons_of_neg (by simpa using h),ih]
theorem basicB_len (pts:List Nat):(basicB pts).length=pts.countP (fun p=>decide (p<128)):=by
 unfold basicB
 rw [List.length_map,List.countP_eq_length_filter]
theorem penc_cases (z t:Bool) (P:List Int):(encI P=([],3)∧∀ (R:Type) (k0:Unit→Option R) (k1:By→Int→LL→Option R),penc LF z t (i64E P) k0 k1=k0 ())∨
  (∃ l,∀ (R:Type) (k0:Unit→Option R) (k1:By→Int→LL→Option R),penc LF z t (i64E P) k0 k1=k1 (encI P).1 ((encI P).2:Nat) l):=by
 have hLF:=LF_big
 by_cases hl:256<P.length
 ·refine .inl ⟨by unfold encI;rw [if_pos hl],fun R k0 k1=>?_⟩
  unfold penc
  rw [i64E_len,ltI_t (by omega)]
  rfl
 ·right
  obtain ⟨q1,q2⟩:=penc_basic z t P (by omega) P.length 0 LF [] (by omega) (by omega) (by simp;omega)
  rw [List.drop_zero] at q1 q2
  cases ha:P.all ptI with
  | false=>
   obtain ⟨l,e⟩:=q2 ha
   refine ⟨l,fun R k0 k1=>?_⟩
   unfold penc
   rw [i64E_len,ltI_f (by omega),cond_false]
   refine Eq.trans (e R _ _) ?_
   unfold encI
   rw [if_neg hl,ha]
   rfl
  | true=>
   obtain ⟨pts,rfl,hp1,hp2⟩:=pts_nat ha
   rw [List.length_map] at hl
   have hen:encI (pts.map fun n:Nat=>(n:Int))=encP pts:=by
    unfold encI
    rw [List.length_map,if_neg hl,ha]
    simp [Function.comp_def]
   have hbl:=basicB_len pts
   have hbc:pts.countP (fun p=>decide (p<128))≤pts.length:=List.countP_le_length
   have main:∀ (o:By),o.length≤300→∀ (R:Type) (k0:LL→Option R),penc_l3 LF LF z t (natE pts) ((basicB pts).length:Int) 128 0 72 ((basicB pts).length:Int) (o.map u8el) k0=k0 ((encOut pts (basicB pts).length 256 128 { delta:=0,bias:=72,done:=(basicB pts).length,out:=o }).out.map u8el):=by
    intro o ho R k0
    exact penc_out z t pts (basicB pts).length (by omega) (by omega) hp2 256 128 LF { delta:=0,bias:=72,done:=(basicB pts).length,out:=o } hbl (by simp only;omega) (by omega) (by simp) (by simp) (by simp only;omega) (by omega) R k0
   have he2:encP pts=((encOut pts (basicB pts).length 256 128 { delta:=0,bias:=72,done:=(basicB pts).length,out:=if (basicB pts).isEmpty then [] else basicB pts++[45] }).out,0):=by
    unfold encP
    rw [if_neg hl,hp1]
    rfl
   refine ⟨(encP pts).1.map u8el,fun R k0 k1=>?_⟩
   unfold penc
   rw [i64E_len,List.length_map,ltI_f (by omega),cond_false,hen]
   have q1':=q1 ha R
   rw [List.length_map] at q1'
   refine Eq.trans (q1' _ _) ?_
   rw [List.nil_append,basicI_nat,natE_i64E]
   simp only [vl,List.length_map]
   by_cases hbe:basicB pts=[]
   ·rw [hbe,List.length_nil,ltI_f (by omega),cond_false]
    have mm:=main [] (by simp) R
    rw [hbe,List.length_nil] at mm
    rw [List.map_nil] at mm
    refine Eq.trans (mm _) ?_
    rw [hbe] at he2
    rw [he2]
    simp only [List.isEmpty_nil,if_true,List.length_nil]
    rw [all_isU8,map_elU8]
    rfl
   ·have hpos:0<(basicB pts).length:=List.length_pos_iff.2 hbe
    rw [ltI_t (by omega),cond_true,roomy_of (by omega),cond_true]
    have hrow:(basicB pts).map u8el++[[SV.int .u8 (45:Int)]]=(basicB pts++[45]).map u8el:=by rw [List.map_append];rfl
    rw [hrow]
    refine Eq.trans (main (basicB pts++[45]) (by simp;omega) R _) ?_
    rw [he2,if_neg (by simpa using hbe)]
    rw [all_isU8,map_elU8]
    rfl
theorem penc_sp (z t:Bool) (p:LL) (h0:p.all isI64=true):∃ r H,penc LF z t p (fun _=>rv (.tup [.s (.str []),.s (.int .i64 3)]) []) (fun r0 r1 l=>rv (.tup [.s (.str r0),.s (.int .i64 r1)]) [.arr true 5 1 l])=rv r H∧
  r.stab [0,0] H = .tup [.s (.str (encI (p.map elI)).1),.s (.int .i64 ((encI (p.map elI)).2:Nat))]:=by
 obtain ⟨P,rfl⟩:=i64_row h0
 rw [elI_i64E]
 rcases penc_cases z t P with ⟨h1,h2⟩ | ⟨l,h2⟩
 ·exact ⟨_,_,h2 _ _ _,by rw [h1];rfl⟩
 ·exact ⟨_,_,h2 _ _ _,rfl⟩
end Go.Proofs.YtokehocipgepnaaGreatDoor.E
namespace Go.Proofs.YtokehocipgepnaaGreatDoor.E
open Go Go.Proofs 
set_option linter.unusedVariables false
set_option maxRecDepth 100000
section
variable {σ R : Type} (lf : Nat) (cl : CallT) (yh : Yh σ) (s : σ) (k : Out → St σ → Option R)
noncomputable abbrev b_dnum:Code:=bodyOf Tryz.f196
noncomputable def c_dnum (lf:Nat):Cfg:=mkCfg lf [196] (lookK [(3,[0,1,0,0])]) [(175,X_pthr),(205,X_pval)] (lookK [(17,[2]),(16,[0,2,0,53]),(15,[0,2,0]),(14,[2]),(13,[0,2,0,1,45]),(12,[0,2,0,0,0]),(11,[2]),(10,[0,2,0,0,41]),(9,[0,2,0,0]),(8,[0,2,0,0]),(7,[2]),(6,[0,2,0,0,18]),(5,[0,2,0,0]),(4,[2]),(3,[0,2,0,11]),(2,[0,2,0]),(1,[0,2]),(0,[0])]) [205] (lookK [(0,[2]),(1,[0,2,0])]) (some [2]) [(195,X_pnext)] [] [195]
noncomputable def dnum_l0f {R:Type} (lf n:Nat) (self:Int→By→Int→Int→Int→Bool→Bool→LL→Int→Option R) (w0:Int) (s1:By) (n2 n3 n4:Int) (b5 z6:Bool) (l7:LL) (n8:Int) (k0:Int→By→Int→Int→Int→Bool→Bool→LL→Int→Option R):Option R:=cond (s1==([]:List UInt8)) (k0 4 s1 n2 n3 n4 b5 z6 l7 n8) (cond (inR (0:Int) (List.length s1)) (cond (inR (bAt s1 (0:Int)) 256) (vl (val36I (u8n (bAt s1 (0:Int)))) fun n'1=>cond (ltI n'1 (0:Int)) (k0 4 s1 n2 n3 n4 b5 z6 l7 n8) (cond (sub3 (1:Int) (↑(List.length s1):Int) (List.length s1)) (vl (cut s1 (1:Int) (↑(List.length s1):Int)) fun s'3=>vl (wi64 (n3+(wi64 (n'1*w0)))) fun n'5=>cond (ltI (1099511627776:Int) n'5) (k0 19 s'3 n2 n'5 n4 b5 z6 l7 n8) (cond (ltN n8 1000000000000) (cond (ltN n4 1000000) (cond (ltI n'1 (thrI n8 n4)) (k0 0 s'3 n2 n'5 n4 b5 z6 l7 (Int.add n8 (36:Int))) (vl (wi64 ((36:Int)-(thrI n8 n4))) fun n'6=>cond (ltI (1099511627776:Int) (wi64 (w0*n'6))) (k0 19 s'3 n2 n'5 n4 b5 z6 l7 (Int.add n8 (36:Int))) (self (wi64 (w0*n'6)) s'3 n2 n'5 n4 b5 z6 l7 (Int.add n8 (36:Int))))) (none)) (none))) (none))) (none)) (none))
noncomputable def dnum_l0 {R:Type} (lf n:Nat) (w0:Int) (s1:By) (n2 n3 n4:Int) (b5 z6:Bool) (l7:LL) (n8:Int) (k0:Int→By→Int→Int→Int→Bool→Bool→LL→Int→Option R):Option R:=recN (α:=Int→By→Int→Int→Int→Bool→Bool→LL→Int→Option R) (fun _ _ _ _ _ _ _ _ _=>none) (fun n self w0 s1 n2 n3 n4 b5 z6 l7 n8=>dnum_l0f lf n self w0 s1 n2 n3 n4 b5 z6 l7 n8 k0) n w0 s1 n2 n3 n4 b5 z6 l7 n8
theorem dnum_l0_s {R:Type} (lf n:Nat) (w0:Int) (s1:By) (n2 n3 n4:Int) (b5 z6:Bool) (l7:LL) (n8:Int) (k0:Int→By→Int→Int→Int→Bool→Bool→LL→Int→Option R):dnum_l0 lf (n+1) w0 s1 n2 n3 n4 b5 z6 l7 n8 k0=dnum_l0f lf n (fun w0 s1 n2 n3 n4 b5 z6 l7 n8=>dnum_l0 lf n w0 s1 n2 n3 n4 b5 z6 l7 n8 k0) w0 s1 n2 n3 n4 b5 z6 l7 n8 k0:=rfl
theorem dnum_l0_eq (n:Nat) (w0:Int) (s1:By) (n2 n3 n4:Int) (b5 z6:Bool) (l7:LL) (n8:Int):loopK 4 ((c_dnum lf).keep 3) (bd (c_dnum lf) cl yh (cd [1,1,1,0,0] b_dnum)) n ⟨gp [(0,.ptr 0 0 0),(2,.fnr (Fn.func 195) [] [.ptr 3 0 0,.ptr 2 0 0]),(0,.s (.int .i64 w0))] 54,[.box [.s (.str s1),.fl 1,.s (.int .i64 n2),.s (.int .i64 n3),.s (.int .i64 n4),.s (.bool b5)],.arr z6 3 1 l7,.box [.s (.int .i64 n4)],.box [.s (.int .i64 n8)]],s⟩ k =
 dnum_l0 lf n w0 s1 n2 n3 n4 b5 z6 l7 n8 (fun n0 s1 n2 n3 n4 b5 z6 l7 n8=>k .ret ⟨gp [(2,.s (.int .i64 n0))] 56,[.box [.s (.str s1),.fl 1,.s (.int .i64 n2),.s (.int .i64 n3),.s (.int .i64 n4),.s (.bool b5)],.arr z6 3 1 l7,.box [.s (.int .i64 n4)],.box [.s (.int .i64 n8)]],s⟩):=by
 induction n generalizing w0 s1 n2 n3 n4 b5 z6 l7 n8 with
 | zero=>rfl
 | succ n ih=>rw [dnum_l0_s];unfold dnum_l0f;exact (Eq.trans (by kernel_rfl) (cond_congr rfl (cond_congr (cond_congr (vl_congr fun n'1=>(cond_congr rfl (cond_congr (vl_congr fun s'3=>(vl_congr fun n'5=>(cond_congr rfl (cond_congr (cond_congr (cond_congr rfl (vl_congr fun n'6=>(cond_congr rfl (ih (wi64 (w0*n'6)) s'3 n2 n'5 n4 b5 z6 l7 (Int.add n8 (36:Int)))))) rfl) rfl)))) rfl))) rfl) rfl)))
noncomputable def dnum {R:Type} (lf:Nat) (rest:By) (n i b:Int) (st z:Bool) (l:LL) (k0:Int→By→Int→Int→Int→Bool→Bool→LL→Int→Option R):Option R:=dnum_l0 lf lf 1 rest n i b st z l 0 (fun n'7 s'8 n'9 n'10 n'11 b'12 z'13 l'14 n'15=>k0 n'7 s'8 n'9 n'10 n'11 b'12 z'13 l'14 n'15)
theorem dnum_ev (d:Nat) (rest:By) (n i b:Int) (st z:Bool) (l:LL):evC (c_dnum lf) (d+1) σ yh 196 [.ptr 0 0 0] [.box [.s (.str rest),.fl 1,.s (.int .i64 n),.s (.int .i64 i),.s (.int .i64 b),.s (.bool st)],.arr z 3 1 l] s=dnum lf rest n i b st z l (fun r0 s1 n2 n3 n4 b5 z6 l7 n8=>some (.s (.int .i64 r0),[.box [.s (.str s1),.fl 1,.s (.int .i64 n2),.s (.int .i64 n3),.s (.int .i64 n4),.s (.bool b5)],.arr z6 3 1 l7,.box [.s (.int .i64 n4)],.box [.s (.int .i64 n8)]],s)):=by
 refine (evC_eq (fn:=Tryz.f196) (by kernel_rfl) (by kernel_rfl) (by kernel_rfl)).trans ?_
 generalize evC (c_dnum lf) d=cl
 unfold dnum;exact (Eq.trans (by kernel_rfl) ((dnum_l0_eq lf cl yh s (blkK 0 (retK (c_dnum lf) Tryz.f196)) lf 1 rest n i b st z l 0).trans (congr rfl (funext fun n'7=>(funext fun s'8=>(funext fun n'9=>(funext fun n'10=>(funext fun n'11=>(funext fun b'12=>(funext fun z'13=>(funext fun l'14=>(funext fun n'15=>(by kernel_rfl)))))))))))))
noncomputable def c_dstep (lf:Nat):Cfg:=mkCfg lf [182] (lookK []) [(141,X_padapt),(139,X_ppoint)] (lookK [(16,[2]),(15,[]),(14,[0]),(13,[2]),(12,[0,67]),(11,[2]),(10,[0,4,60]),(9,[0,4]),(8,[0,4]),(7,[0,4]),(6,[0,4]),(5,[0,2,1]),(4,[2]),(3,[0,2,0,8]),(2,[0,2,0]),(1,[0,2]),(0,[0])]) [141,139] (lookK []) (some [2]) [(196,X_dnum),(197,X_sins)] [] [196,197]
noncomputable def dstep {R:Type} (lf:Nat) (rest:By) (n i b:Int) (st z:Bool) (l:LL) (k0:Int→By→Int→Int→Int→Bool→Bool→LL→Option R):Option R:=cond (small (List.length rest)) (cond (ltN b 1000000) (cond (ltN i 1099511627777) (cond ((numE b rest i) != (0:Int)) (k0 (numE b rest i) (numR b rest i) n (numI b rest i) b st z l) (vl (wi64 ((↑(List.length l):Int)+(1:Int))) fun n'1=>vl (wi64 ((numI b rest i)-i)) fun n'4=>cond (ltN n'4 1152921504606846976) (cond (ltN n'1 1000000) (cond (ltI (0:Int) n'1) (vl (↑(adapt (Int.toNat n'4) (Int.toNat n'1) (not st)):Int) fun n'5=>cond (n'1 != (0:Int)) (vl (wi64 (Int.tdiv (numI b rest i) n'1)) fun n'7=>cond (n'1 != (0:Int)) (vl (Int.tmod (numI b rest i) n'1) fun n'9=>cond (not (ptI (wi64 (n+n'7)))) (k0 2 (numR b rest i) (wi64 (n+n'7)) n'9 n'5 true z l) (cond (ltI (256:Int) n'1) (k0 3 (numR b rest i) (wi64 (n+n'7)) n'9 n'5 true z l) (cond (ltN n'9 (Nat.add (List.length l) 1)) (cond (Nat.ble (List.length l) 100000) (vl (insR l (Int.toNat n'9) (wi64 (n+n'7))) fun l'11=>k0 0 (numR b rest i) (wi64 (n+n'7)) (wi64 (n'9+(1:Int))) n'5 true z l'11) (none)) (none)))) (none)) (none)) (none)) (none)) (none))) (none)) (none)) (none)
theorem dstep_ev (d:Nat) (rest:By) (n i b:Int) (st z:Bool) (l:LL):evC (c_dstep lf) (d+1) σ yh 182 [.ptr 0 0 0] [.box [.s (.str rest),.fl 1,.s (.int .i64 n),.s (.int .i64 i),.s (.int .i64 b),.s (.bool st)],.arr z 3 1 l] s=dstep lf rest n i b st z l (fun r0 s1 n2 n3 n4 b5 z6 l7=>some (.s (.int .i64 r0),[.box [.s (.str s1),.fl 1,.s (.int .i64 n2),.s (.int .i64 n3),.s (.int .i64 n4),.s (.bool b5)],.arr z6 3 1 l7],s)):=by
 refine (evC_eq (fn:=Tryz.f182) (by kernel_rfl) (by kernel_rfl) (by kernel_rfl)).trans ?_
 generalize evC (c_dstep lf) d=cl
 unfold dstep;kernel_rfl
noncomputable abbrev b_pdec:Code:=bodyOf Tryz.f155
noncomputable def c_pdec (lf:Nat):Cfg:=mkCfg lf [155] (lookK [(20,[2,0,1]),(13,[0,1,0,1,0,22,0]),(4,[0,1,0,9,0])]) [(127,X_lastb)] (lookK [(24,[2,0]),(23,[2,0]),(22,[5,2,59]),(21,[5,2]),(20,[5,58]),(19,[2,0]),(18,[5,53]),(17,[5]),(16,[0,4,0,22,0]),(15,[0,4,0,22,0]),(14,[0,4,0,0,21,0]),(13,[0,4,0,22,0,0]),(12,[0,4,0,22,0]),(11,[0,4,0,21]),(10,[0,4,0]),(9,[0,4]),(8,[0,12,0]),(7,[2,0]),(6,[0,12,0,5]),(5,[0,3,8,0]),(4,[0,12,0,0]),(3,[0,12,0]),(2,[2,0]),(1,[0,10]),(0,[0])]) [127] (lookK [(4,[5]),(5,[5]),(2,[0,4,0]),(3,[0,4,0,22,0]),(0,[0]),(1,[0,12,0])]) (some [2,0]) [(182,X_dstep)] [] [182] (nt:=[(190,1,3,1)])
noncomputable def pdec_l0f {R:Type} (lf n:Nat) (self:By→Int→Int→Option R) (s0:By) (n1 n2:Int) (k0:Unit→Option R) (k1:By→Option R):Option R:=cond (ltI n2 n1) (cond (inR n2 (List.length s0)) (cond (not (ltI (bAt s0 n2) (128:Int))) (k0 ()) (self s0 n1 (wi64 (n2+(1:Int))))) (none)) (k1 s0)
noncomputable def pdec_l0 {R:Type} (lf n:Nat) (s0:By) (n1 n2:Int) (k0:Unit→Option R) (k1:By→Option R):Option R:=recN (α:=By→Int→Int→Option R) (fun _ _ _=>none) (fun n self s0 n1 n2=>pdec_l0f lf n self s0 n1 n2 k0 k1) n s0 n1 n2
theorem pdec_l0_s {R:Type} (lf n:Nat) (s0:By) (n1 n2:Int) (k0:Unit→Option R) (k1:By→Option R):pdec_l0 lf (n+1) s0 n1 n2 k0 k1=pdec_l0f lf n (fun s0 n1 n2=>pdec_l0 lf n s0 n1 n2 k0 k1) s0 n1 n2 k0 k1:=rfl
theorem pdec_l0_eq (n:Nat) (s0:By) (n1 n2:Int):loopK 0 ((c_pdec lf).keep 4) (bd (c_pdec lf) cl yh (cd [1,1,0,1,0,0] b_pdec)) n ⟨gp [(0,.s (.str s0)),(12,.s (.int .i64 n1)),(0,.s (.int .i64 n2))] 59,[],s⟩ k =
 pdec_l0 lf n s0 n1 n2 (fun _=>k .ret ⟨gp [(2,.fl 0),(0,.s (.int .i64 (4:Int)))] 70,[.arr true 3 1 []],s⟩) (fun s0=>k (.exit 0) ⟨gp [(0,.s (.str s0))] 73,[],s⟩):=by
 induction n generalizing s0 n1 n2 with
 | zero=>rfl
 | succ n ih=>rw [pdec_l0_s];unfold pdec_l0f;exact (Eq.trans (by kernel_rfl) (cond_congr (cond_congr (cond_congr rfl (ih s0 n1 (wi64 (n2+(1:Int))))) rfl) rfl))
noncomputable def pdec_l1f {R:Type} (lf n:Nat) (self:By→Int→Int→LL→Option R) (s0:By) (kk1 n2:Int) (l3:LL) (k0:By→Int→LL→Option R):Option R:=cond (ltI n2 kk1) (cond (inR n2 (List.length s0)) (cond (roomy ((List.length l3)+1)) (self s0 kk1 (wi64 (n2+(1:Int))) (l3++[[(SV.int .i64 (wi64 (bAt s0 n2)))]])) (none)) (none)) (k0 s0 kk1 l3)
noncomputable def pdec_l1 {R:Type} (lf n:Nat) (s0:By) (kk1 n2:Int) (l3:LL) (k0:By→Int→LL→Option R):Option R:=recN (α:=By→Int→Int→LL→Option R) (fun _ _ _ _=>none) (fun n self s0 kk1 n2 l3=>pdec_l1f lf n self s0 kk1 n2 l3 k0) n s0 kk1 n2 l3
theorem pdec_l1_s {R:Type} (lf n:Nat) (s0:By) (kk1 n2:Int) (l3:LL) (k0:By→Int→LL→Option R):pdec_l1 lf (n+1) s0 kk1 n2 l3 k0=pdec_l1f lf n (fun s0 kk1 n2 l3=>pdec_l1 lf n s0 kk1 n2 l3 k0) s0 kk1 n2 l3 k0:=rfl
theorem pdec_l1_eq (n:Nat) (s0:By) (kk1 n2:Int) (l3:LL):loopK 2 ((c_pdec lf).keep 13) (bd (c_pdec lf) cl yh (cd [1,1,1,1,0,1,1,0,0,1,0,0] b_pdec)) n ⟨gp [(0,.s (.str s0)),(4,.ptr 1 0 0),(0,.s (.int .i64 kk1)),(22,.s (.int .i64 kk1)),(0,.s (.int .i64 n2))] 43,[.arr true 3 1 l3,.box [.s (.str s0),.fl 0,.s (.int .i64 (128:Int)),.s (.int .i64 (0:Int)),.s (.int .i64 (72:Int)),.s (.bool false)]],s⟩ k =
 pdec_l1 lf n s0 kk1 n2 l3 (fun s0 kk1 l2=>k (.exit 2) ⟨gp [(0,.s (.str s0)),(4,.ptr 1 0 0),(0,.s (.int .i64 kk1))] 67,[.arr true 3 1 l2,.box [.s (.str s0),.fl 0,.s (.int .i64 (128:Int)),.s (.int .i64 (0:Int)),.s (.int .i64 (72:Int)),.s (.bool false)]],s⟩):=by
 induction n generalizing s0 kk1 n2 l3 with
 | zero=>rfl
 | succ n ih=>rw [pdec_l1_s];unfold pdec_l1f;exact (Eq.trans (by kernel_rfl) (cond_congr (cond_congr (cond_congr (ih s0 kk1 (wi64 (n2+(1:Int))) (l3++[[(SV.int .i64 (wi64 (bAt s0 n2)))]])) rfl) rfl) rfl))
noncomputable def pdec_l2f {R:Type} (lf n:Nat) (self:LL→By→Int→Int→Int→Bool→Option R) (l0:LL) (s1:By) (n2 n3 n4:Int) (b5:Bool) (k0:Int→LL→By→Int→Int→Int→Bool→Option R) (k1:LL→By→Int→Int→Int→Bool→Option R):Option R:=cond (not (s1==([]:List UInt8))) (cond (small (List.length s1)) (cond (ltN n4 1000000) (cond (ltN n3 1099511627777) (cond (ltN n2 1152921504606846976) (cond (Nat.ble (List.length l0) 100000) (vl ((dsStep (DS.mk s1 n2 n3 n4 b5 l0))).1 fun n'10=>vl (DS.l ((dsStep (DS.mk s1 n2 n3 n4 b5 l0))).2) fun l'11=>cond (n'10 != (0:Int)) (k0 n'10 l'11 (DS.rest ((dsStep (DS.mk s1 n2 n3 n4 b5 l0))).2) (DS.n ((dsStep (DS.mk s1 n2 n3 n4 b5 l0))).2) (DS.i ((dsStep (DS.mk s1 n2 n3 n4 b5 l0))).2) (DS.b ((dsStep (DS.mk s1 n2 n3 n4 b5 l0))).2) (DS.st ((dsStep (DS.mk s1 n2 n3 n4 b5 l0))).2)) (self l'11 (DS.rest ((dsStep (DS.mk s1 n2 n3 n4 b5 l0))).2) (DS.n ((dsStep (DS.mk s1 n2 n3 n4 b5 l0))).2) (DS.i ((dsStep (DS.mk s1 n2 n3 n4 b5 l0))).2) (DS.b ((dsStep (DS.mk s1 n2 n3 n4 b5 l0))).2) (DS.st ((dsStep (DS.mk s1 n2 n3 n4 b5 l0))).2))) (none)) (none)) (none)) (none)) (none)) (k1 l0 s1 n2 n3 n4 b5)
noncomputable def pdec_l2 {R:Type} (lf n:Nat) (l0:LL) (s1:By) (n2 n3 n4:Int) (b5:Bool) (k0:Int→LL→By→Int→Int→Int→Bool→Option R) (k1:LL→By→Int→Int→Int→Bool→Option R):Option R:=recN (α:=LL→By→Int→Int→Int→Bool→Option R) (fun _ _ _ _ _ _=>none) (fun n self l0 s1 n2 n3 n4 b5=>pdec_l2f lf n self l0 s1 n2 n3 n4 b5 k0 k1) n l0 s1 n2 n3 n4 b5
theorem pdec_l2_s {R:Type} (lf n:Nat) (l0:LL) (s1:By) (n2 n3 n4:Int) (b5:Bool) (k0:Int→LL→By→Int→Int→Int→Bool→Option R) (k1:LL→By→Int→Int→Int→Bool→Option R):pdec_l2 lf (n+1) l0 s1 n2 n3 n4 b5 k0 k1=pdec_l2f lf n (fun l0 s1 n2 n3 n4 b5=>pdec_l2 lf n l0 s1 n2 n3 n4 b5 k0 k1) l0 s1 n2 n3 n4 b5 k0 k1:=rfl
theorem pdec_l2_eq (n:Nat) (l0:LL) (s1:By) (n2 n3 n4:Int) (b5:Bool):loopK 2 ((c_pdec lf).keep 20) (bd (c_pdec lf) cl yh (cd [1,1,1,1,1,1,0,0,0] b_pdec)) n ⟨gp [(5,.ptr 1 0 0)] 68,[.arr true 3 1 l0,.box [.s (.str s1),.fl 0,.s (.int .i64 n2),.s (.int .i64 n3),.s (.int .i64 n4),.s (.bool b5)]],s⟩ k =
 pdec_l2 lf n l0 s1 n2 n3 n4 b5 (fun n0 l1 s2 n3 n4 n5 b6=>k .ret ⟨gp [(2,.fl 2),(0,.s (.int .i64 n0))] 70,[.arr true 3 1 l1,.box [.s (.str s2),.fl 0,.s (.int .i64 n3),.s (.int .i64 n4),.s (.int .i64 n5),.s (.bool b6)],.arr true 3 1 []],s⟩) (fun l0 s1 n2 n3 n4 b5=>k (.exit 4) ⟨gp [(5,.ptr 1 0 0)] 68,[.arr true 3 1 l0,.box [.s (.str s1),.fl 0,.s (.int .i64 n2),.s (.int .i64 n3),.s (.int .i64 n4),.s (.bool b5)]],s⟩):=by
 induction n generalizing l0 s1 n2 n3 n4 b5 with
 | zero=>rfl
 | succ n ih=>rw [pdec_l2_s];unfold pdec_l2f;exact (Eq.trans (by kernel_rfl) (cond_congr (cond_congr (cond_congr (cond_congr (cond_congr (cond_congr (vl_congr fun n'10=>(vl_congr fun l'11=>(cond_congr rfl (ih l'11 (DS.rest ((dsStep (DS.mk s1 n2 n3 n4 b5 l0))).2) (DS.n ((dsStep (DS.mk s1 n2 n3 n4 b5 l0))).2) (DS.i ((dsStep (DS.mk s1 n2 n3 n4 b5 l0))).2) (DS.b ((dsStep (DS.mk s1 n2 n3 n4 b5 l0))).2) (DS.st ((dsStep (DS.mk s1 n2 n3 n4 b5 l0))).2))))) rfl) rfl) rfl) rfl) rfl) rfl))
noncomputable def pdec {R:Type} (lf:Nat) (s0:By) (k0:Int→Option R) (k1:Int→LL→By→Int→Int→Int→Bool→Option R) (k2:LL→By→Int→Int→Int→Bool→Option R):Option R:=cond (ltI (1024:Int) (↑(List.length s0):Int)) (k0 3) (pdec_l0 lf lf s0 (↑(List.length s0):Int) 0 (fun _=>k0 4) (fun s'0=>cond (small (List.length s'0)) (vl (lastI (u8n (45:Int)) s'0) fun n'4=>cond (ltI (0:Int) n'4) (pdec_l1 lf lf s'0 n'4 0 [] (fun s'5 kk'6 l'7=>vl (wi64 (kk'6+(1:Int))) fun n'8=>cond (sub3 n'8 (↑(List.length s'5):Int) (List.length s'5)) (vl (cut s'5 n'8 (↑(List.length s'5):Int)) fun s'9=>cond (ltI (256:Int) (↑(List.length l'7):Int)) (k1 3 l'7 s'9 128 0 72 false) (pdec_l2 lf lf l'7 s'9 128 0 72 false (fun n'12 l'13 s'14 n'15 n'16 n'17 b'18=>k1 n'12 l'13 s'14 n'15 n'16 n'17 b'18) (fun l'19 s'20 n'21 n'22 n'23 b'24=>k2 l'19 s'20 n'21 n'22 n'23 b'24))) (none))) (pdec_l2 lf lf [] s'0 128 0 72 false (fun n'25 l'26 s'27 n'28 n'29 n'30 b'31=>k1 n'25 l'26 s'27 n'28 n'29 n'30 b'31) (fun l'32 s'33 n'34 n'35 n'36 b'37=>k2 l'32 s'33 n'34 n'35 n'36 b'37))) (none)))
theorem pdec_ev (d:Nat) (s0:By):evC (c_pdec lf) (d+1) σ yh 155 [.s (.str s0)] [] s=pdec lf s0 (fun r0=>some (.tup [.fl 0,.s (.int .i64 r0)],[.arr true 3 1 []],s)) (fun r0 l1 s2 n3 n4 n5 b6=>some (.tup [.fl 2,.s (.int .i64 r0)],[.arr true 3 1 l1,.box [.s (.str s2),.fl 0,.s (.int .i64 n3),.s (.int .i64 n4),.s (.int .i64 n5),.s (.bool b6)],.arr true 3 1 []],s)) (fun l0 s1 n2 n3 n4 b5=>some (.tup [.fl 0,.s (.int .i64 (0:Int))],[.arr true 3 1 l0,.box [.s (.str s1),.fl 0,.s (.int .i64 n2),.s (.int .i64 n3),.s (.int .i64 n4),.s (.bool b5)]],s)):=by
 refine (evC_eq (fn:=Tryz.f155) (by kernel_rfl) (by kernel_rfl) (by kernel_rfl)).trans ?_
 generalize evC (c_pdec lf) d=cl
 unfold pdec;exact (Eq.trans (by kernel_rfl) (cond_congr rfl ((pdec_l0_eq lf cl yh s (blkK 0 (seqK (c_pdec lf) cl yh (cd [1,1,1] b_pdec) (retK (c_pdec lf) Tryz.f155))) lf s0 (↑(List.length s0):Int) 0).trans (congr (congr rfl (funext fun _=>(by kernel_rfl))) (funext fun s'0=>(Eq.trans (by kernel_rfl) (cond_congr (vl_congr fun n'4=>(cond_congr ((pdec_l1_eq lf cl yh s (blkK 2 (seqK (c_pdec lf) cl yh (cd [1,1,1,1,0,1,1,0,1] b_pdec) (seqK (c_pdec lf) cl yh (cd [1,1,1,1,1] b_pdec) (retK (c_pdec lf) Tryz.f155)))) lf s'0 n'4 0 []).trans (congr rfl (funext fun s'5=>(funext fun kk'6=>(funext fun l'7=>(Eq.trans (by kernel_rfl) (vl_congr fun n'8=>(cond_congr (vl_congr fun s'9=>(cond_congr rfl ((pdec_l2_eq lf cl yh s (blkK 4 (seqK (c_pdec lf) cl yh (cd [1,1,1,1,1,1,1] b_pdec) (retK (c_pdec lf) Tryz.f155))) lf l'7 s'9 128 0 72 false).trans (congr (congr rfl (funext fun n'12=>(funext fun l'13=>(funext fun s'14=>(funext fun n'15=>(funext fun n'16=>(funext fun n'17=>(funext fun b'18=>(by kernel_rfl))))))))) (funext fun l'19=>(funext fun s'20=>(funext fun n'21=>(funext fun n'22=>(funext fun n'23=>(funext fun b'24=>(by kernel_rfl))))))))))) rfl)))))))) ((pdec_l2_eq lf cl yh s (blkK 4 (seqK (c_pdec lf) cl yh (cd [1,1,1,1,1,1,1] b_pdec) (retK (c_pdec lf) Tryz.f155))) lf [] s'0 128 0 72 false).trans (congr (congr rfl (funext fun n'25=>(funext fun l'26=>(funext fun s'27=>(funext fun n'28=>(funext fun n'29=>(funext fun n'30=>(funext fun b'31=>(by kernel_rfl))))))))) (funext fun l'32=>(funext fun s'33=>(funext fun n'34=>(funext fun n'35=>(funext fun n'36=>(funext fun b'37=>(by kernel_rfl))))))))))) rfl)))))))
noncomputable abbrev b_ilastb:Code:=bodyOf Tryz.f160
noncomputable def c_ilastb (lf:Nat):Cfg:=mkCfg lf [160] (lookK [(2,[0,0,2,0])]) [] (lookK [(6,[4]),(3,[0,0,3]),(5,[4]),(4,[0,0,3,11]),(2,[0,0,3,4]),(1,[0,0,3]),(0,[0,0])]) [] (lookK [(0,[]),(1,[0,0,3])]) (some [4]) [] [] []
noncomputable def ilastb_l0f {R:Type} (lf n:Nat) (self:By→Int→Int→Option R) (s0:By) (c1 i2:Int) (k0:Int→Option R) (k1:Unit→Option R):Option R:=cond (not (ltI i2 (0:Int))) (cond (inR i2 (List.length s0)) (cond ((bAt s0 i2)==c1) (k0 i2) (self s0 c1 (wi64 (i2-(1:Int))))) (none)) (k1 ())
noncomputable def ilastb_l0 {R:Type} (lf n:Nat) (s0:By) (c1 i2:Int) (k0:Int→Option R) (k1:Unit→Option R):Option R:=recN (α:=By→Int→Int→Option R) (fun _ _ _=>none) (fun n self s0 c1 i2=>ilastb_l0f lf n self s0 c1 i2 k0 k1) n s0 c1 i2
theorem ilastb_l0_s {R:Type} (lf n:Nat) (s0:By) (c1 i2:Int) (k0:Int→Option R) (k1:Unit→Option R):ilastb_l0 lf (n+1) s0 c1 i2 k0 k1=ilastb_l0f lf n (fun s0 c1 i2=>ilastb_l0 lf n s0 c1 i2 k0 k1) s0 c1 i2 k0 k1:=rfl
theorem ilastb_l0_eq (n:Nat) (s0:By) (c1 i2:Int):loopK 0 ((c_ilastb lf).keep 2) (bd (c_ilastb lf) cl yh (cd [1,0,1,0,0] b_ilastb)) n ⟨gp [(0,.s (.str s0)),(0,.s (.int .u8 c1)),(3,.s (.int .i64 i2))] 13,[],s⟩ k =
 ilastb_l0 lf n s0 c1 i2 (fun n0=>k .ret ⟨gp [(4,.s (.int .i64 n0))] 14,[],s⟩) (fun _=>k (.exit 0) ⟨gp [] 19,[],s⟩):=by
 induction n generalizing s0 c1 i2 with
 | zero=>rfl
 | succ n ih=>rw [ilastb_l0_s];unfold ilastb_l0f;exact (Eq.trans (by kernel_rfl) (cond_congr (cond_congr (cond_congr rfl (ih s0 c1 (wi64 (i2-(1:Int))))) rfl) rfl))
noncomputable def ilastb {R:Type} (lf:Nat) (s0:By) (c1:Int) (k0:Int→Option R):Option R:=vl (wi64 ((↑(List.length s0):Int)-(1:Int))) fun n'1=>ilastb_l0 lf lf s0 c1 n'1 (fun n'2=>k0 n'2) (fun _=>k0 (-1))
theorem ilastb_ev (d:Nat) (s0:By) (c1:Int):evC (c_ilastb lf) (d+1) σ yh 160 [.s (.str s0),.s (.int .u8 c1)] [] s=ilastb lf s0 c1 (fun r0=>some (.s (.int .i64 r0),[],s)):=by
 refine (evC_eq (fn:=Tryz.f160) (by kernel_rfl) (by kernel_rfl) (by kernel_rfl)).trans ?_
 generalize evC (c_ilastb lf) d=cl
 unfold ilastb;exact (Eq.trans (by kernel_rfl) (vl_congr fun n'1=>((ilastb_l0_eq lf cl yh s (blkK 0 (seqK (c_ilastb lf) cl yh (cd [1,1] b_ilastb) (retK (c_ilastb lf) Tryz.f160))) lf s0 c1 n'1).trans (congr (congr rfl (funext fun n'2=>(by kernel_rfl))) (funext fun _=>(by kernel_rfl))))))
noncomputable def c_lastb (lf:Nat):Cfg:=mkCfg lf [127] (lookK []) [(160,X_ilastb)] (lookK [(1,[4]),(0,[0,0])]) [160] (lookK []) (some [4]) [] [] []
noncomputable def lastb {R:Type} (lf:Nat) (s0:By) (c1:Int) (k0:Int→Option R):Option R:=cond (small (List.length s0)) (cond (inR c1 256) (k0 (lastI (u8n c1) s0)) (none)) (none)
theorem lastb_ev (d:Nat) (s0:By) (c1:Int):evC (c_lastb lf) (d+1) σ yh 127 [.s (.str s0),.s (.int .u8 c1)] [] s=lastb lf s0 c1 (fun r0=>some (.s (.int .i64 r0),[],s)):=by
 refine (evC_eq (fn:=Tryz.f127) (by kernel_rfl) (by kernel_rfl) (by kernel_rfl)).trans ?_
 generalize evC (c_lastb lf) d=cl
 unfold lastb;kernel_rfl
end
end Go.Proofs.YtokehocipgepnaaGreatDoor.E
namespace Go.Proofs.YtokehocipgepnaaGreatDoor.E
open Go Go.Proofs
set_option linter.unusedVariables false
set_option linter.unusedSimpArgs false
theorem val36I_range (c:UInt8):-1≤val36I c∧val36I c≤35:=by
 unfold val36I val36
 have:=c.toNat_lt
 split
 ·rename_i n h
  split at h
  ·simp only [Option.some.injEq] at h;omega
  ·split at h
   ·simp only [Option.some.injEq] at h;omega
   ·split at h
    ·simp only [Option.some.injEq] at h;omega
    ·cases h
 ·omega
theorem thrI_range (k b:Int):1≤thrI k b∧thrI k b≤26:=by unfold thrI;omega
theorem mul_range {x w:Int} (h0:0≤x) (h1:x≤35) (w0:0≤w) (w1:w≤1099511627776):0≤x*w∧x*w≤38482906972160:=by
 refine ⟨Int.mul_nonneg h0 w0,?_⟩
 have:=Int.mul_le_mul h1 w1 w0 (show (0:Int)≤35 by omega)
 omega
theorem dnGo_bd (b:Int):∀ (s:By) (i w k:Int),0≤i→0≤w→w≤1099511627776→(dnGo b s i w k).1=0→i≤(dnGo b s i w k).2.2∧(dnGo b s i w k).2.2≤1099511627776∧(dnGo b s i w k).2.1.length<s.length
 | [],i,w,k,_,_,_,h=>by simp [dnGo] at h
 | c::r,i,w,k,hi,hw,hw1,h=>by
  have hv:=val36I_range c
  have ht:=thrI_range k b
  unfold dnGo at h ⊢
  split at h
  ·simp at h
  ·rename_i h1
   rw [if_neg h1]
   have hm:=mul_range (by omega) hv.2 hw hw1
   split at h
   ·simp at h
   ·rename_i h2
    rw [if_neg h2]
    split at h
    ·rename_i h3
     rw [if_pos h3]
     refine ⟨by simp only;omega,by simp only;omega,by simp⟩
    ·rename_i h3
     rw [if_neg h3]
     split at h
     ·simp at h
     ·rename_i h4
      rw [if_neg h4]
      obtain ⟨q1,q2,q3⟩:=dnGo_bd b r (i+val36I c*w) (w*(36-thrI k b)) (k+36) (by omega) (Int.mul_nonneg hw (by omega)) (by omega) h
      exact ⟨by omega,q2,by rw [List.length_cons];omega⟩
theorem dnum_loop (n2:Int) (b:Int) (st z:Bool) (l:LL) (hb0:0≤b) (hb1:b<1000000):∀ (s:By) (n:Nat) (i w k:Int),s.length<n→s.length≤1000000000→0≤i→i≤1099511627776→0≤w→w≤1099511627776→0≤k→k+36*s.length≤100000000000→
  ∃ k',∀ (R:Type) (k0:Int→By→Int→Int→Int→Bool→Bool→LL→Int→Option R),dnum_l0 LF n w s n2 i b st z l k k0=k0 (dnGo b s i w k).1 (dnGo b s i w k).2.1 n2 (dnGo b s i w k).2.2 b st z l k':=by
 intro s
 induction s with
 | nil=>
  intro n i w k hn hs hi hi1 hw hw1 hk hk1
  obtain ⟨n,rfl⟩:∃ m,n=m+1:=⟨n-1,by omega⟩
  refine ⟨k,fun R k0=>?_⟩
  rw [dnum_l0_s]
  rfl
 | cons c r ih=>
  intro n i w k hn hs hi hi1 hw hw1 hk hk1
  obtain ⟨n,rfl⟩:∃ m,n=m+1:=⟨n-1,by omega⟩
  rw [List.length_cons] at hn hs hk1
  have hv:=val36I_range c
  have ht:=thrI_range k b
  have hu:u8n (bAt (c::r) 0)=c:=by unfold u8n bAt;simp
  have hin:inR (bAt (c::r) 0) 256=true:=by rw [bAt_zero];have:=c.toNat_lt;exact inR_t (by omega) (by simp;omega)
  have hcut:cut (c::r) 1 ((c::r).length:Int)=r:=by
   have:=cut_nat (c::r) 1 (c::r).length
   rw [show ((1:Nat):Int)=1 from rfl] at this
   rw [this,List.take_length]
   rfl
  have hne:((c::r)==([]:By))=false:=rfl
  have start:∀ (R:Type) (k0:Int→By→Int→Int→Int→Bool→Bool→LL→Int→Option R),dnum_l0 LF (n+1) w (c::r) n2 i b st z l k k0 =
    cond (ltI (val36I c) 0) (k0 4 (c::r) n2 i b st z l k)
     (vl (wi64 (i+(wi64 (val36I c*w)))) fun n'5=>cond (ltI 1099511627776 n'5) (k0 19 r n2 n'5 b st z l k)
      (cond (ltI (val36I c) (thrI k b)) (k0 0 r n2 n'5 b st z l (Int.add k 36))
       (vl (wi64 (36-(thrI k b))) fun n'6=>cond (ltI 1099511627776 (wi64 (w*n'6))) (k0 19 r n2 n'5 b st z l (Int.add k 36)) (dnum_l0 LF n (wi64 (w*n'6)) r n2 n'5 b st z l (Int.add k 36) k0)))):=by
   intro R k0
   rw [dnum_l0_s]
   unfold dnum_l0f
   rw [hne,hin,inR_t (by omega) (by rw [List.length_cons];omega),sub3_t (by omega) (by rw [List.length_cons];omega) (by omega),hcut,hu,ltN_t (by omega) (by omega),ltN_t (by omega) (by omega)]
   rfl
  unfold dnGo
  by_cases h1:val36I c<0
  ·rw [if_pos h1]
   refine ⟨k,fun R k0=>?_⟩
   rw [start,ltI_t h1]
   rfl
  ·rw [if_neg h1]
   have hm:=mul_range (by omega) hv.2 hw hw1
   have e1:wi64 (val36I c*w)=val36I c*w:=wi64_id (by omega) (by omega)
   have e2:wi64 (i+val36I c*w)=i+val36I c*w:=wi64_id (by omega) (by omega)
   by_cases h2:1099511627776<i+val36I c*w
   ·rw [if_pos h2]
    refine ⟨k,fun R k0=>?_⟩
    rw [start,ltI_f (by omega),e1,e2]
    simp only [vl,cond_false]
    rw [ltI_t h2]
    rfl
   ·rw [if_neg h2]
    by_cases h3:val36I c<thrI k b
    ·rw [if_pos h3]
     refine ⟨Int.add k 36,fun R k0=>?_⟩
     rw [start,ltI_f (by omega),e1,e2]
     simp only [vl,cond_false]
     rw [ltI_f (by omega),ltI_t h3]
     rfl
    ·rw [if_neg h3]
     have e3:wi64 (36-thrI k b)=36-thrI k b:=wi64_id (by omega) (by omega)
     have hm2:=mul_range (x:=36-thrI k b) (by omega) (by omega) hw hw1
     rw [Int.mul_comm] at hm2
     have e4:wi64 (w*(36-thrI k b))=w*(36-thrI k b):=wi64_id (by omega) (by omega)
     by_cases h4:1099511627776<w*(36-thrI k b)
     ·rw [if_pos h4]
      refine ⟨Int.add k 36,fun R k0=>?_⟩
      rw [start,ltI_f (by omega),e1,e2]
      simp only [vl,cond_false]
      rw [ltI_f (by omega),ltI_f (by omega),e3,e4,ltI_t h4]
      rfl
     ·rw [if_neg h4]
      obtain ⟨k',e⟩:=ih n (i+val36I c*w) (w*(36-thrI k b)) (k+36) (by omega) (by omega) (by omega) (by omega) (by omega) (by omega) (by omega) (by omega)
      refine ⟨k',fun R k0=>?_⟩
      rw [start,ltI_f (by omega),e1,e2]
      simp only [vl,cond_false]
      rw [ltI_f (by omega),ltI_f (by omega),e3,e4,ltI_f (by omega)]
      exact e R k0
theorem dnum_spec (rest:By) (n i b:Int) (st z:Bool) (l:LL) (h0:small rest.length=true) (h1:ltN b 1000000=true) (h2:ltN i 1099511627777=true) :
  ∃ k',∀ (R:Type) (k0:Int→By→Int→Int→Int→Bool→Bool→LL→Int→Option R),dnum LF rest n i b st z l k0=k0 (numE b rest i) (numR b rest i) n (numI b rest i) b st z l k':=by
 have hs:=maxL h0
 obtain ⟨b0,b1⟩:=ltN_iff.1 h1
 obtain ⟨i0,i1⟩:=ltN_iff.1 h2
 have hLF:=LF_big
 obtain ⟨k',e⟩:=dnum_loop n b st z l b0 (by omega) rest LF i 1 0 (by omega) (by omega) i0 (by omega) (by omega) (by omega) (by omega) (by omega)
 exact ⟨k',fun R k0=>e R _⟩
theorem dstep_spec {R:Type} {k0:Int→By→Int→Int→Int→Bool→Bool→LL→Option R} (rest:By) (n i b:Int) (st z:Bool) (l:LL) (h0:small rest.length=true) (h1:ltN b 1000000=true) (h2:ltN i 1099511627777=true) (h3:ltN n 1152921504606846976=true) (h4:Nat.ble l.length 100000=true) :
  dstep LF rest n i b st z l k0=k0 (dsStep ⟨rest,n,i,b,st,l⟩).1 (dsStep ⟨rest,n,i,b,st,l⟩).2.rest (dsStep ⟨rest,n,i,b,st,l⟩).2.n (dsStep ⟨rest,n,i,b,st,l⟩).2.i (dsStep ⟨rest,n,i,b,st,l⟩).2.b (dsStep ⟨rest,n,i,b,st,l⟩).2.st z (dsStep ⟨rest,n,i,b,st,l⟩).2.l:=by
 obtain ⟨i0,i1⟩:=ltN_iff.1 h2
 obtain ⟨n0,n1⟩:=ltN_iff.1 h3
 have hl:=Nat.le_of_ble_eq_true h4
 unfold dstep dsStep
 rw [h0,h1,h2]
 simp only [cond_true]
 by_cases he:numE b rest i=0
 ·rw [if_pos he,he]
  obtain ⟨q1,q2,q3⟩:=dnGo_bd b rest i 1 0 i0 (by omega) (by omega) he
  have q1':i≤numI b rest i:=q1
  have q2':numI b rest i≤1099511627776:=q2
  have e1:wi64 ((l.length:Int)+1)=(l.length:Int)+1:=wi64_id (by omega) (by omega)
  simp only [vl]
  rw [e1]
  generalize numI b rest i=x at *
  have hx0:0≤x:=by omega
  obtain ⟨X,rfl⟩:=Int.eq_ofNat_of_zero_le hx0
  have e2:wi64 ((X:Int)-i)=(X:Int)-i:=wi64_id (by omega) (by omega)
  have ec:((l.length:Int)+1)=((l.length+1:Nat):Int):=rfl
  have ed:Int.tdiv (X:Int) ((l.length+1:Nat):Int)=((X / (l.length+1):Nat):Int):=tdiv_nat _ _
  have em:Int.tmod (X:Int) ((l.length+1:Nat):Int)=((X % (l.length+1):Nat):Int):=tmod_nat _ _
  have hd:=Nat.div_le_self X (l.length+1)
  have hm:=Nat.mod_lt X (show 0<l.length+1 by omega)
  rw [e2,ec,ed,em]
  generalize hA:X / (l.length+1)=A at *
  generalize hB:X % (l.length+1)=B at *
  have e3:wi64 (A:Int)=(A:Int):=wi64_id (by omega) (by omega)
  have e4:wi64 (n+(A:Int))=n+(A:Int):=wi64_id (by omega) (by omega)
  have e5:wi64 ((B:Int)+1)=(B:Int)+1:=wi64_id (by omega) (by omega)
  have c0:((0:Int) != 0)=false:=rfl
  have c1:((((l.length+1:Nat):Int)) != 0)=true:=by rw [bne_iff_ne];omega
  rw [e3,e4,e5,c0,ltN_t (by omega) (by omega),ltN_t (by omega) (by omega),ltI_t (by omega),c1]
  simp only [cond_true,cond_false]
  cases hp:ptI (n+(A:Int)) with
  | false=>simp
  | true=>
   simp only [Bool.not_true,cond_false,if_true]
   by_cases h256:(256:Int)<((l.length+1:Nat):Int)
   ·rw [if_pos h256,ltI_t h256]
    rfl
   ·rw [if_neg h256,ltI_f (by omega),cond_false,ltN_t (by omega) (by show (B:Int)<((l.length+1:Nat):Int);omega),h4]
    rfl
 ·rw [if_neg he,show (numE b rest i != 0)=true from bne_iff_ne.2 he]
  rfl
theorem lastI_ge (c:UInt8):∀ l:By,-1≤lastI c l
 | []=>by simp [lastI]
 | b::r=>by
  have:=lastI_ge c r
  unfold lastI
  split
  ·split<;>omega
  ·omega
theorem lastI_snoc (c b:UInt8):∀ l:By,lastI c (l++[b])=if b=c then (l.length:Int) else lastI c l
 | []=>by
  by_cases h:b=c<;>simp [lastI,h]
 | a::l=>by
  have ih:=lastI_snoc c b l
  rw [List.cons_append,lastI,ih]
  by_cases h:b=c
  ·rw [if_pos h,if_pos h,if_neg (by omega)]
   simp
  ·rw [if_neg h,if_neg h]
   rfl
theorem ilastb_loop {R:Type} {k0:Int→Option R} {k1:Unit→Option R} (s:By) (c:UInt8) (hs:s.length≤1000000000):∀ (m n:Nat),m≤s.length→m<n→
  ilastb_l0 LF n s (c.toNat:Int) ((m:Int)-1) k0 k1=if lastI c (s.take m)<0 then k1 () else k0 (lastI c (s.take m)):=by
 intro m
 induction m with
 | zero=>
  intro n hm hn
  obtain ⟨n,rfl⟩:∃ m,n=m+1:=⟨n-1,by omega⟩
  rw [ilastb_l0_s]
  unfold ilastb_l0f
  rw [ltI_t (by omega)]
  rfl
 | succ m ih=>
  intro n hm hn
  obtain ⟨n,rfl⟩:∃ m,n=m+1:=⟨n-1,by omega⟩
  rw [ilastb_l0_s]
  unfold ilastb_l0f
  have e0:(((m+1:Nat):Int)-1)=(m:Int):=by omega
  have e1:wi64 ((m:Int)-1)=(m:Int)-1:=wi64_id (by omega) (by omega)
  have ht:s.take (m+1)=s.take m++[s.getD m 0]:=by
   rw [List.take_add_one,List.getD_eq_getElem?_getD,List.getElem?_eq_getElem (by omega)]
   rfl
  rw [e0,e1,ltI_f (by omega),inR_t (by omega) (by omega),bAt_nat,ht,lastI_snoc]
  simp only [Bool.not_false,cond_true]
  by_cases h:s.getD m 0=c
  ·rw [if_pos h,h,beq_self_eq_true,cond_true,List.length_take,Nat.min_eq_left (by omega),if_neg (by omega)]
  ·have hne:(((s.getD m 0).toNat:Int)==(c.toNat:Int))=false:=by
    rw [beq_eq_false_iff_ne]
    intro he
    exact h (UInt8.toNat.inj (Int.ofNat.inj he))
   rw [if_neg h,hne,cond_false]
   exact ih n (by omega) (by omega)
theorem u8n_back {c:Int} (h:inR c 256=true):c=((u8n c).toNat:Int):=by
 simp only [inR,Bool.and_eq_true,decide_eq_true_eq] at h
 unfold u8n
 simp
 omega
theorem ilastb_spec {R:Type} {k0:Int→Option R} (s:By) (c:Int) (h0:small s.length=true) (h1:inR c 256=true):ilastb LF s c k0=k0 (lastI (u8n c) s):=by
 have hs:=maxL h0
 have hLF:=LF_big
 have hc:=u8n_back h1
 generalize u8n c=d at *
 subst hc
 unfold ilastb
 have e1:wi64 ((s.length:Int)-1)=(s.length:Int)-1:=wi64_id (by omega) (by omega)
 simp only [vl]
 rw [e1]
 refine Eq.trans (ilastb_loop s d (by omega) s.length LF (by omega) (by omega)) ?_
 rw [List.take_length]
 have:=lastI_ge d s
 by_cases h:lastI d s<0
 ·rw [if_pos h,show lastI d s = -1 by omega]
 ·rw [if_neg h]
theorem lastb_spec {R:Type} {k0:Int→Option R} (s:By) (c:Int) (h0:small s.length=true) (h1:inR c 256=true):lastb LF s c k0=k0 (lastI (u8n c) s):=by
 unfold lastb
 rw [h0,h1]
 rfl
theorem lastDash_eq:∀ s:By,(45∈s→lastI 45 s=(lastDash s:Int))∧(45∉s→lastI 45 s = -1∧lastDash s=0)
 | []=>⟨fun h=>(by cases h),fun _=>⟨rfl,rfl⟩⟩
 | b::r=>by
  obtain ⟨h1,h2⟩:=lastDash_eq r
  unfold lastI lastDash
  by_cases hr:45∈r
  ·have:=h1 hr
   rw [if_pos hr,if_neg (by omega),this]
   exact ⟨fun _=>by simp,fun h=>absurd (List.mem_cons_of_mem _ hr) h⟩
  ·obtain ⟨q1,q2⟩:=h2 hr
   rw [if_neg hr,if_pos (by omega)]
   refine ⟨fun h=>?_,fun h=>?_⟩
   ·rcases List.mem_cons.1 h with h | h
    ·rw [if_pos h.symm];rfl
    ·exact absurd h hr
   ·rw [if_neg (fun hb=>h (by rw [hb];exact List.mem_cons_self))]
    exact ⟨rfl,rfl⟩
theorem val36I_none {c:UInt8} (h:val36 c=none):val36I c = -1:=by unfold val36I;rw [h]
theorem val36I_some {c:UInt8} {x:Nat} (h:val36 c=some x):val36I c=x:=by unfold val36I;rw [h]
theorem dnGo_nat (b:Nat):∀ (s:By) (i w k:Nat),dnGo (b:Int) s (i:Int) (w:Int) ((36*k:Nat):Int)=((((decNum b s i w k).2.2:Nat):Int),(dnGo (b:Int) s (i:Int) (w:Int) ((36*k:Nat):Int)).2)∧
  ((decNum b s i w k).2.2=0→(dnGo (b:Int) s (i:Int) (w:Int) ((36*k:Nat):Int)).2=((decNum b s i w k).2.1,((decNum b s i w k).1:Int)))
 | [],i,w,k=>⟨rfl,fun h=>by simp [decNum] at h⟩
 | c::r,i,w,k=>by
  unfold dnGo decNum
  cases hv:val36 c with
  | none=>
   rw [val36I_none hv,if_pos (by omega)]
   exact ⟨rfl,fun h=>by simp at h⟩
  | some x=>
   rw [val36I_some hv,if_neg (by omega),thrI_nat]
   have e1:(i:Int)+(x:Int)*(w:Int)=((i+x*w:Nat):Int):=by push_cast;rfl
   have ht:=thr_range k b
   have e2:(w:Int)*(36-(thr k b:Int))=((w*(36-thr k b):Nat):Int):=by
    rw [show (36:Int)-(thr k b:Int)=((36-thr k b:Nat):Int) by omega];push_cast;rfl
   have e3:((36*k:Nat):Int)+36=((36*(k+1):Nat):Int):=by omega
   have hsat:satB=1099511627776:=by decide
   rw [e1,e2,e3,hsat]
   simp only
   generalize i+x*w=I
   generalize w*(36-thr k b)=W
   by_cases h2:1099511627776<I
   ·rw [if_pos (by omega),if_pos h2]
    exact ⟨rfl,fun h=>by simp at h⟩
   ·rw [if_neg (by omega),if_neg h2]
    by_cases h3:x<thr k b
    ·rw [if_pos (by omega),if_pos h3]
     exact ⟨rfl,fun _=>rfl⟩
    ·rw [if_neg (by omega),if_neg h3]
     by_cases h4:1099511627776<W
     ·rw [if_pos (by omega),if_pos h4]
      exact ⟨rfl,fun h=>by simp at h⟩
     ·rw [if_neg (by omega),if_neg h4]
      exact dnGo_nat b r I W (k+1)
theorem insR_nat (l:List Nat) (i n:Nat):insR (natE l) i (n:Int)=natE (insAt l i n):=by
 unfold insR insAt natE
 rw [List.map_append,List.map_take,List.map_cons,List.map_drop]
theorem num_nat (b:Nat) (s:By) (i:Nat):numE (b:Int) s (i:Int)=((decNum b s i 1 0).2.2:Int)∧((decNum b s i 1 0).2.2=0→numR (b:Int) s (i:Int)=(decNum b s i 1 0).2.1∧numI (b:Int) s (i:Int)=((decNum b s i 1 0).1:Int)):=by
 obtain ⟨h1,h2⟩:=dnGo_nat b s i 1 0
 have e:dnGo (b:Int) s (i:Int) 1 0=dnGo (b:Int) s (i:Int) ((1:Nat):Int) ((36*0:Nat):Int):=rfl
 unfold numE numR numI
 rw [e]
 refine ⟨by rw [h1],fun h=>?_⟩
 have:=h2 h
 rw [this]
 exact ⟨rfl,rfl⟩
theorem ds_ok (s:By) (pts:List Nat) (n i b:Nat) (st:Bool) (h:(decNum b s i 1 0).2.2=0) (hi:i≤(decNum b s i 1 0).1) (hp:isPt (n+(decNum b s i 1 0).1 / (pts.length+1))=true) (hc:¬ 256<pts.length+1) :
  dsStep ⟨s,(n:Int),(i:Int),(b:Int),st,natE pts⟩=(0,⟨(decNum b s i 1 0).2.1,((n+(decNum b s i 1 0).1 / (pts.length+1):Nat):Int),(((decNum b s i 1 0).1 % (pts.length+1)+1:Nat):Int),((adapt ((decNum b s i 1 0).1-i) (pts.length+1) (!st):Nat):Int),true,natE (insAt pts ((decNum b s i 1 0).1 % (pts.length+1)) (n+(decNum b s i 1 0).1 / (pts.length+1)))⟩):=by
 obtain ⟨h1,h2⟩:=num_nat b s i
 obtain ⟨h3,h4⟩:=h2 h
 unfold dsStep
 simp only
 rw [h1,h,if_pos (show ((0:Nat):Int)=0 from rfl),h3,h4,natE_len]
 generalize (decNum b s i 1 0).1=X at *
 have ec:((pts.length:Int)+1)=((pts.length+1:Nat):Int):=rfl
 have ed:Int.tdiv (X:Int) ((pts.length+1:Nat):Int)=((X / (pts.length+1):Nat):Int):=tdiv_nat _ _
 have em:Int.tmod (X:Int) ((pts.length+1:Nat):Int)=((X % (pts.length+1):Nat):Int):=tmod_nat _ _
 have en:(n:Int)+((X / (pts.length+1):Nat):Int)=((n+X / (pts.length+1):Nat):Int):=rfl
 rw [ec,ed,em,en,ptI_nat,hp,if_pos rfl,if_neg (by omega),Int.toNat_natCast,insR_nat,Int.toNat_natCast,show ((X:Int)-(i:Int)).toNat=X-i by omega]
 rfl
theorem ds_err (s:By) (pts:List Nat) (n i b:Nat) (st:Bool):((decNum b s i 1 0).2.2≠0→(dsStep ⟨s,(n:Int),(i:Int),(b:Int),st,natE pts⟩).1=((decNum b s i 1 0).2.2:Int))∧
  ((decNum b s i 1 0).2.2=0→isPt (n+(decNum b s i 1 0).1 / (pts.length+1))=false→(dsStep ⟨s,(n:Int),(i:Int),(b:Int),st,natE pts⟩).1=2)∧
  ((decNum b s i 1 0).2.2=0→isPt (n+(decNum b s i 1 0).1 / (pts.length+1))=true→256<pts.length+1→(dsStep ⟨s,(n:Int),(i:Int),(b:Int),st,natE pts⟩).1=3):=by
 obtain ⟨h1,h2⟩:=num_nat b s i
 have ec:(((natE pts).length:Int)+1)=((pts.length+1:Nat):Int):=by rw [natE_len];rfl
 have ed:∀ X:Nat,Int.tdiv (X:Int) ((pts.length+1:Nat):Int)=((X / (pts.length+1):Nat):Int):=fun X=>tdiv_nat _ _
 have en:∀ A:Nat,(n:Int)+(A:Int)=((n+A:Nat):Int):=fun A=>rfl
 refine ⟨fun h=>?_,fun h hp=>?_,fun h hp hc=>?_⟩
 ·unfold dsStep
  simp only
  rw [h1,if_neg (by omega)]
 ·obtain ⟨h3,h4⟩:=h2 h
  unfold dsStep
  simp only
  rw [h1,h,if_pos (show ((0:Nat):Int)=0 from rfl),h4,ec,ed,en,ptI_nat,hp,if_neg (by simp)]
 ·obtain ⟨h3,h4⟩:=h2 h
  unfold dsStep
  simp only
  rw [h1,h,if_pos (show ((0:Nat):Int)=0 from rfl),h4,ec,ed,en,ptI_nat,hp,if_pos rfl,if_pos (by omega)]
theorem decGoP_nil (pts:List Nat) (n i b:Nat) (f:Bool):decGoP [] pts n i b f=(pts,0):=by rw [decGoP];rfl
theorem decGoP_err {s:By} (hs:s≠[]) (pts:List Nat) (n i b:Nat) (f:Bool) (h:(decNum b s i 1 0).2.2≠0):decGoP s pts n i b f=([],(decNum b s i 1 0).2.2):=by
 rw [decGoP,dif_neg hs]
 simp only
 rw [dif_neg h]
theorem decGoP_step {s:By} (hs:s≠[]) (pts:List Nat) (n i b:Nat) (f:Bool) (h:(decNum b s i 1 0).2.2=0):decGoP s pts n i b f =
  if isPt (n+(decNum b s i 1 0).1 / (pts.length+1)) then (if 256<pts.length+1 then ([],3) else decGoP (decNum b s i 1 0).2.1 (insAt pts ((decNum b s i 1 0).1 % (pts.length+1)) (n+(decNum b s i 1 0).1 / (pts.length+1))) (n+(decNum b s i 1 0).1 / (pts.length+1)) ((decNum b s i 1 0).1 % (pts.length+1)+1) (adapt ((decNum b s i 1 0).1-i) (pts.length+1) f) false) else ([],2):=by
 rw [decGoP,dif_neg hs]
 simp only
 rw [dif_pos h]
theorem insAt_len (l:List Nat) (i n:Nat):(insAt l i n).length=l.length+1:=by
 unfold insAt
 rw [List.length_append,List.length_cons,List.length_take,List.length_drop]
 omega
theorem pdec_loop:∀ (r:Nat) (s:By) (pts:List Nat) (n i b f:Nat) (st:Bool),s.length≤r→r<f→s.length≤1000000→pts.length≤256→n≤1114111→i≤1000→b≤500→
  ((decGoP s pts n i b (!st)).2=0→∃ s' n' i' b' st',∀ (R:Type) (k0:Int→LL→By→Int→Int→Int→Bool→Option R) (k1:LL→By→Int→Int→Int→Bool→Option R),pdec_l2 LF f (natE pts) s (n:Int) (i:Int) (b:Int) st k0 k1=k1 (natE (decGoP s pts n i b (!st)).1) s' n' i' b' st')∧
  ((decGoP s pts n i b (!st)).2≠0→(decGoP s pts n i b (!st)).1=[]∧∃ l s' n' i' b' st',∀ (R:Type) (k0:Int→LL→By→Int→Int→Int→Bool→Option R) (k1:LL→By→Int→Int→Int→Bool→Option R),pdec_l2 LF f (natE pts) s (n:Int) (i:Int) (b:Int) st k0 k1=k0 ((decGoP s pts n i b (!st)).2:Nat) l s' n' i' b' st'):=by
 intro r
 induction r with
 | zero=>
  intro s pts n i b f st h hf _ _ _ _ _
  obtain ⟨f,rfl⟩:∃ m,f=m+1:=⟨f-1,by omega⟩
  have hs:s=[]:=List.length_eq_zero_iff.1 (by omega)
  subst hs
  rw [decGoP_nil]
  refine ⟨fun _=>⟨[],n,i,b,st,fun R k0 k1=>?_⟩,fun h=>absurd rfl h⟩
  rw [pdec_l2_s]
  rfl
 | succ r ih=>
  intro s pts n i b f st h hf h1 h2 h3 h4 h5
  obtain ⟨f,rfl⟩:∃ m,f=m+1:=⟨f-1,by omega⟩
  by_cases hs:s=[]
  ·subst hs
   rw [decGoP_nil]
   refine ⟨fun _=>⟨[],n,i,b,st,fun R k0 k1=>?_⟩,fun h=>absurd rfl h⟩
   rw [pdec_l2_s]
   rfl
  ·have start:∀ (R:Type) (k0:Int→LL→By→Int→Int→Int→Bool→Option R) (k1:LL→By→Int→Int→Int→Bool→Option R),pdec_l2 LF (f+1) (natE pts) s (n:Int) (i:Int) (b:Int) st k0 k1 =
     cond ((dsStep ⟨s,n,i,b,st,natE pts⟩).1 != 0) (k0 (dsStep ⟨s,n,i,b,st,natE pts⟩).1 (dsStep ⟨s,n,i,b,st,natE pts⟩).2.l (dsStep ⟨s,n,i,b,st,natE pts⟩).2.rest (dsStep ⟨s,n,i,b,st,natE pts⟩).2.n (dsStep ⟨s,n,i,b,st,natE pts⟩).2.i (dsStep ⟨s,n,i,b,st,natE pts⟩).2.b (dsStep ⟨s,n,i,b,st,natE pts⟩).2.st)
      (pdec_l2 LF f (dsStep ⟨s,n,i,b,st,natE pts⟩).2.l (dsStep ⟨s,n,i,b,st,natE pts⟩).2.rest (dsStep ⟨s,n,i,b,st,natE pts⟩).2.n (dsStep ⟨s,n,i,b,st,natE pts⟩).2.i (dsStep ⟨s,n,i,b,st,natE pts⟩).2.b (dsStep ⟨s,n,i,b,st,natE pts⟩).2.st k0 k1):=by
    intro R k0 k1
    rw [pdec_l2_s]
    unfold pdec_l2f
    rw [show (s==([]:By))=false from beq_eq_false_iff_ne.2 hs,small_t (by omega),ltN_t (by omega) (by omega),ltN_t (by omega) (by omega),ltN_t (by omega) (by omega),natE_len,Nat.ble_eq_true_of_le (show pts.length≤100000 by omega)]
    rfl
   obtain ⟨d1,d2,d3⟩:=ds_err s pts n i b st
   have hok:=ds_ok s pts n i b st
   generalize dsStep ⟨s,n,i,b,st,natE pts⟩=D at *
   by_cases he:(decNum b s i 1 0).2.2=0
   ·rw [decGoP_step hs pts n i b (!st) he]
    obtain ⟨m1,m2⟩:=num_nat b s i
    obtain ⟨m3,m4⟩:=m2 he
    have hE:numE (b:Int) s (i:Int)=0:=by rw [m1,he];rfl
    obtain ⟨q1,q2,q3⟩:=dnGo_bd b s i 1 0 (by omega) (by omega) (by omega) hE
    have q1':(i:Int)≤numI (b:Int) s (i:Int):=q1
    have q2':numI (b:Int) s (i:Int)≤1099511627776:=q2
    have q3':(numR (b:Int) s (i:Int)).length<s.length:=q3
    rw [m4] at q1' q2'
    rw [m3] at q3'
    cases hp:isPt (n+(decNum b s i 1 0).1 / (pts.length+1)) with
    | false=>
     rw [if_neg (by simp)]
     refine ⟨fun h=>by simp at h,fun _=>⟨rfl,D.2.l,D.2.rest,D.2.n,D.2.i,D.2.b,D.2.st,fun R k0 k1=>?_⟩⟩
     ·rw [start,d2 he hp]
      rfl
    | true=>
     rw [if_pos rfl]
     by_cases hc:256<pts.length+1
     ·rw [if_pos hc]
      refine ⟨fun h=>by simp at h,fun _=>⟨rfl,D.2.l,D.2.rest,D.2.n,D.2.i,D.2.b,D.2.st,fun R k0 k1=>?_⟩⟩
      rw [start,d3 he hp hc]
      rfl
     ·rw [if_neg hc]
      have hok:=hok he (by omega) hp hc
      have hn':n+(decNum b s i 1 0).1 / (pts.length+1)≤1114111:=by
       unfold isPt at hp
       simp only [Bool.and_eq_true,Nat.ble_eq] at hp
       exact hp.1
      have hmod:=Nat.mod_lt (decNum b s i 1 0).1 (show 0<pts.length+1 by omega)
      have had:=adapt_le ((decNum b s i 1 0).1-i) (pts.length+1) (!st) (by omega)
      have:=ih (decNum b s i 1 0).2.1 (insAt pts ((decNum b s i 1 0).1 % (pts.length+1)) (n+(decNum b s i 1 0).1 / (pts.length+1))) (n+(decNum b s i 1 0).1 / (pts.length+1)) ((decNum b s i 1 0).1 % (pts.length+1)+1) (adapt ((decNum b s i 1 0).1-i) (pts.length+1) (!st)) f true (by omega) (by omega) (by omega) (by rw [insAt_len];omega) hn' (by omega) had
      obtain ⟨p1,p2⟩:=this
      refine ⟨fun h=>?_,fun h=>?_⟩
      ·obtain ⟨s',n',i',b',st',e⟩:=p1 h
       refine ⟨s',n',i',b',st',fun R k0 k1=>?_⟩
       rw [start,hok]
       exact e R k0 k1
      ·obtain ⟨pe,l,s',n',i',b',st',e⟩:=p2 h
       refine ⟨pe,l,s',n',i',b',st',fun R k0 k1=>?_⟩
       rw [start,hok]
       exact e R k0 k1
   ·rw [decGoP_err hs pts n i b (!st) he]
    refine ⟨fun h=>absurd h he,fun _=>⟨rfl,D.2.l,D.2.rest,D.2.n,D.2.i,D.2.b,D.2.st,fun R k0 k1=>?_⟩⟩
    rw [start,d1 he,show (((decNum b s i 1 0).2.2:Int) != 0)=true by rw [bne_iff_ne];omega]
    rfl
theorem natR_natE (l:List Nat):natR l=natE l:=rfl
theorem pdec_ascii {R:Type} {k0:Unit→Option R} {k1:By→Option R} (s:By) (hs:s.length≤1000000):∀ (r i n:Nat),i+r=s.length→r<n→
  pdec_l0 LF n s (s.length:Int) (i:Int) k0 k1=if (s.drop i).any (fun b=>Nat.ble 128 b.toNat) then k0 () else k1 s:=by
 intro r
 induction r with
 | zero=>
  intro i n hi hn
  obtain ⟨n,rfl⟩:∃ m,n=m+1:=⟨n-1,by omega⟩
  rw [pdec_l0_s]
  unfold pdec_l0f
  rw [ltI_f (by omega),List.drop_of_length_le (by omega)]
  rfl
 | succ r ih=>
  intro i n hi hn
  obtain ⟨n,rfl⟩:∃ m,n=m+1:=⟨n-1,by omega⟩
  rw [pdec_l0_s]
  unfold pdec_l0f
  have e1:wi64 ((i:Int)+1)=((i+1:Nat):Int):=by rw [wi64_id (by omega) (by omega)];rfl
  rw [ltI_t (by omega),inR_t (by omega) (by omega),bAt_nat,drop_cons s i (by omega),e1,List.any_cons]
  simp only [cond_true]
  generalize s.getD i 0=b
  by_cases h:128≤b.toNat
  ·rw [ltI_f (by omega),Nat.ble_eq_true_of_le h]
   rfl
  ·have:Nat.ble 128 b.toNat=false:=by rw [Bool.eq_false_iff,ne_eq,Nat.ble_eq];exact h
   rw [ltI_t (by omega),this,Bool.false_or]
   exact ih (i+1) n (by omega) (by omega)
theorem pdec_copy {R:Type} {k0:By→Int→LL→Option R} (s:By) (hs:s.length≤1000000) (k:Nat) (hk:k≤s.length):∀ (r i n:Nat) (l:List Nat),i+r=k→r<n→l.length=i→
  pdec_l1 LF n s (k:Int) (i:Int) (natE l) k0=k0 s (k:Int) (natE (l++((s.take k).drop i).map (·.toNat))):=by
 intro r
 induction r with
 | zero=>
  intro i n l hi hn hl
  obtain ⟨n,rfl⟩:∃ m,n=m+1:=⟨n-1,by omega⟩
  rw [pdec_l1_s]
  unfold pdec_l1f
  rw [ltI_f (by omega),List.drop_of_length_le (by rw [List.length_take];omega)]
  simp
 | succ r ih=>
  intro i n l hi hn hl
  obtain ⟨n,rfl⟩:∃ m,n=m+1:=⟨n-1,by omega⟩
  rw [pdec_l1_s]
  unfold pdec_l1f
  have e1:wi64 ((i:Int)+1)=((i+1:Nat):Int):=by rw [wi64_id (by omega) (by omega)];rfl
  have hd:(s.take k).drop i=s.getD i 0::(s.take k).drop (i+1):=by
   rw [drop_cons (s.take k) i (by rw [List.length_take];omega)]
   congr 1
   rw [List.getD_eq_getElem?_getD,List.getD_eq_getElem?_getD,List.getElem?_take_of_lt (by omega)]
  rw [ltI_t (by omega),inR_t (by omega) (by omega),bAt_nat,hd,natE_len,roomy_of (by omega),e1]
  simp only [cond_true]
  generalize s.getD i 0=b
  have hb:=b.toNat_lt
  have e2:wi64 (b.toNat:Int)=(b.toNat:Int):=wi64_id (by omega) (by omega)
  have hrow:natE l++[[SV.int .i64 (wi64 (b.toNat:Int))]]=natE (l++[b.toNat]):=by rw [e2,natE_app];rfl
  rw [hrow,ih (i+1) n _ (by omega) (by omega) (by simp;omega)]
  simp
theorem lastDash_lt:∀ s:By,lastDash s≤s.length-1
 | []=>by simp [lastDash]
 | b::r=>by
  have:=lastDash_lt r
  unfold lastDash
  split
  ·rename_i h
   have:0<r.length:=List.length_pos_of_mem h
   rw [List.length_cons];omega
  ·omega
theorem pdec_cases (s:By) (h0:small s.length=true):(∃ e,decP s=([],e)∧∀ (R:Type) (k0:Int→Option R) (k1:Int→LL→By→Int→Int→Int→Bool→Option R) (k2:LL→By→Int→Int→Int→Bool→Option R),pdec LF s k0 k1 k2=k0 (e:Nat))∨
  (∃ e l s' n' i' b' st',decP s=([],e)∧∀ (R:Type) (k0:Int→Option R) (k1:Int→LL→By→Int→Int→Int→Bool→Option R) (k2:LL→By→Int→Int→Int→Bool→Option R),pdec LF s k0 k1 k2=k1 (e:Nat) l s' n' i' b' st')∨
  ((decP s).2=0∧∃ s' n' i' b' st',∀ (R:Type) (k0:Int→Option R) (k1:Int→LL→By→Int→Int→Int→Bool→Option R) (k2:LL→By→Int→Int→Int→Bool→Option R),pdec LF s k0 k1 k2=k2 (natE (decP s).1) s' n' i' b' st'):=by
 have hLF:=LF_big
 unfold decP
 by_cases hl:1024<s.length
 ·rw [if_pos hl]
  refine .inl ⟨3,rfl,fun R k0 k1 k2=>?_⟩
  unfold pdec
  rw [ltI_t (by omega)]
  rfl
 ·rw [if_neg hl]
  have asc:=fun (R:Type) (K0:Unit→Option R) (K1:By→Option R)=>pdec_ascii (k0:=K0) (k1:=K1) s (by omega) s.length 0 LF (by omega) (by omega)
  rw [List.drop_zero] at asc
  cases ha:s.any (fun b=>Nat.ble 128 b.toNat) with
  | true=>
   rw [if_pos rfl]
   refine .inl ⟨4,rfl,fun R k0 k1 k2=>?_⟩
   unfold pdec
   rw [ltI_f (by omega),cond_false]
   refine Eq.trans (asc R _ _) ?_
   rw [ha,if_pos rfl]
   rfl
  | false=>
   rw [if_neg (by simp)]
   obtain ⟨d1,d2⟩:=lastDash_eq s
   have hlt:=lastDash_lt s
   have key:∀ (pts:List Nat) (t:By),pts.length≤256→t.length≤1024→(∀ (R:Type) (k0:Int→Option R) (k1:Int→LL→By→Int→Int→Int→Bool→Option R) (k2:LL→By→Int→Int→Int→Bool→Option R),pdec LF s k0 k1 k2=pdec_l2 LF LF (natE pts) t 128 0 72 false k1 k2)→
     (∃ e l s' n' i' b' st',decGoP t pts 128 0 72 true=([],e)∧∀ (R:Type) (k0:Int→Option R) (k1:Int→LL→By→Int→Int→Int→Bool→Option R) (k2:LL→By→Int→Int→Int→Bool→Option R),pdec LF s k0 k1 k2=k1 (e:Nat) l s' n' i' b' st')∨
     ((decGoP t pts 128 0 72 true).2=0∧∃ s' n' i' b' st',∀ (R:Type) (k0:Int→Option R) (k1:Int→LL→By→Int→Int→Int→Bool→Option R) (k2:LL→By→Int→Int→Int→Bool→Option R),pdec LF s k0 k1 k2=k2 (natE (decGoP t pts 128 0 72 true).1) s' n' i' b' st'):=by
    intro pts t hp ht he
    obtain ⟨p1,p2⟩:=pdec_loop t.length t pts 128 0 72 LF false (Nat.le_refl _) (by omega) (by omega) hp (by omega) (by omega) (by omega)
    rw [Bool.not_false] at p1 p2
    by_cases hz:(decGoP t pts 128 0 72 true).2=0
    ·obtain ⟨s',n',i',b',st',e⟩:=p1 hz
     exact .inr ⟨hz,s',n',i',b',st',fun R k0 k1 k2=>by rw [he];exact e R k1 k2⟩
    ·obtain ⟨pe,l,s',n',i',b',st',e⟩:=p2 hz
     exact .inl ⟨_,l,s',n',i',b',st',Prod.ext pe rfl,fun R k0 k1 k2=>by rw [he];exact e R k1 k2⟩
   have hu:u8n 45=45:=rfl
   have top:∀ (R:Type) (k0:Int→Option R) (k1:Int→LL→By→Int→Int→Int→Bool→Option R) (k2:LL→By→Int→Int→Int→Bool→Option R),pdec LF s k0 k1 k2 =
     cond (ltI 0 (lastI 45 s)) (pdec_l1 LF LF s (lastI 45 s) 0 [] (fun s'5 k'6 l'7=>cond (sub3 (wi64 (k'6+1)) (s'5.length:Int) s'5.length)
      (vl (cut s'5 (wi64 (k'6+1)) (s'5.length:Int)) fun s'8=>cond (ltI 256 (l'7.length:Int)) (k1 3 l'7 s'8 128 0 72 false) (pdec_l2 LF LF l'7 s'8 128 0 72 false k1 k2)) none))
      (pdec_l2 LF LF [] s 128 0 72 false k1 k2):=by
    intro R k0 k1 k2
    unfold pdec
    rw [ltI_f (by omega),cond_false]
    refine Eq.trans (asc R _ _) ?_
    rw [ha,if_neg (by simp),h0,hu]
    rfl
   by_cases hd:0<lastDash s
   ·have hmem:45∈s:=by
     apply Classical.byContradiction
     intro h
     have:=(d2 h).2
     omega
    have hI:=d1 hmem
    generalize lastDash s=m at *
    have hcopy:=fun (R:Type) (K:By→Int→LL→Option R)=>pdec_copy (k0:=K) s (by omega) m (by omega) m 0 LF [] (by omega) (by omega) rfl
    rw [List.drop_zero] at hcopy
    have e1:wi64 ((m:Int)+1)=((m+1:Nat):Int):=by rw [wi64_id (by omega) (by omega)];rfl
    have hlen:((s.take m).map (·.toNat)).length=m:=by rw [List.length_map,List.length_take];omega
    have top2:∀ (R:Type) (k0:Int→Option R) (k1:Int→LL→By→Int→Int→Int→Bool→Option R) (k2:LL→By→Int→Int→Int→Bool→Option R),pdec LF s k0 k1 k2 =
      cond (ltI 256 (m:Int)) (k1 3 (natE ((s.take m).map (·.toNat))) (s.drop (m+1)) 128 0 72 false) (pdec_l2 LF LF (natE ((s.take m).map (·.toNat))) (s.drop (m+1)) 128 0 72 false k1 k2):=by
     intro R k0 k1 k2
     rw [top,hI,ltI_t (by omega),cond_true]
     refine Eq.trans (hcopy R _) ?_
     rw [e1,sub3_t (by omega) (by omega) (by omega),cut_nat,List.take_length,List.nil_append,natE_len,hlen]
     rfl
    by_cases h256:256<m
    ·rw [if_pos h256]
     refine .inr (.inl ⟨3,natE ((s.take m).map (·.toNat)),s.drop (m+1),128,0,72,false,rfl,fun R k0 k1 k2=>?_⟩)
     rw [top2,ltI_t (by omega)]
     rfl
    ·rw [if_neg h256,if_neg (show ¬ m=0 by omega)]
     exact .inr (key _ (s.drop (m+1)) (by rw [hlen];omega) (by rw [List.length_drop];omega) (fun R k0 k1 k2=>by rw [top2,ltI_f (by omega)];rfl))
   ·have hz:lastDash s=0:=by omega
    have hI:¬ 0<lastI 45 s:=by
     by_cases hm:45∈s
     ·rw [d1 hm,hz];omega
     ·rw [(d2 hm).1];omega
    rw [hz,if_neg (by omega),if_pos rfl]
    refine .inr (key [] s (by simp) (by omega) (fun R k0 k1 k2=>?_))
    rw [top,ltI_f (by omega)]
    rfl
theorem natE_isEmpty (l:List Nat):(natE l).isEmpty=l.isEmpty:=by cases l<;>rfl
theorem pdec_sp (s:By) (h0:small s.length=true):∃ r H,pdec LF s (fun r0=>rv (.tup [.fl 0,.s (.int .i64 r0)]) [.arr true 3 1 []]) (fun r0 l1 s2 n3 n4 n5 b6=>rv (.tup [.fl 2,.s (.int .i64 r0)]) [.arr true 3 1 l1,.box [.s (.str s2),.fl 0,.s (.int .i64 n3),.s (.int .i64 n4),.s (.int .i64 n5),.s (.bool b6)],.arr true 3 1 []]) (fun l0 s1 n2 n3 n4 b5=>rv (.tup [.fl 0,.s (.int .i64 (0:Int))]) [.arr true 3 1 l0,.box [.s (.str s1),.fl 0,.s (.int .i64 n2),.s (.int .i64 n3),.s (.int .i64 n4),.s (.bool b5)]])=rv r H∧
  r.stab [1,0] H = .tup [.s (.sl (decP s).1.isEmpty (decP s).1.isEmpty 1 (natR (decP s).1)),.s (.int .i64 ((decP s).2:Nat))]:=by
 rcases pdec_cases s h0 with ⟨e,h1,h2⟩ | ⟨e,l,s',n',i',b',st',h1,h2⟩ | ⟨h1,s',n',i',b',st',h2⟩
 ·refine ⟨_,_,h2 _ _ _ _,?_⟩
  rw [h1]
  rfl
 ·refine ⟨_,_,h2 _ _ _ _,?_⟩
  rw [h1]
  rfl
 ·refine ⟨_,_,h2 _ _ _ _,?_⟩
  rw [h1,natR_natE]
  simp [PV.stab,fixC,fix1,PV.snap,snapL,natE_isEmpty]
end Go.Proofs.YtokehocipgepnaaGreatDoor.E
namespace Go.Proofs.YtokehocipgepnaaGreatDoor.E
open Go
set_option linter.unusedVariables false
theorem join_cons2 (x y:By) (r:List By) (p:By):Lib.join (x::y::r) p=x++(p++Lib.join (y::r) p):=by
 simp [Lib.join,List.intercalate]
theorem pcs_join (c:UInt8):∀ l:List By,l≠[]→(∀ x∈l,c∉x)→pcs c (Lib.join l [c])=l
 | [],h,_=>absurd rfl h
 | [x],_,h=>by rw [Lib.join_one,pcs_none (h x (by simp))]
 | x::y::r,_,h=>by
  rw [join_cons2,List.singleton_append,pcs_app (h x (by simp)),pcs_join c (y::r) (by simp) (fun z hz=>h z (by simp [hz]))]
theorem join_pcs (c:UInt8):∀ (n:Nat) (s:By),s.length≤n→Lib.join (pcs c s) [c]=s
 | n,s,hn=>by
  rcases split_first c s with h | ⟨p,r,rfl,h⟩
  ·rw [pcs_none h,Lib.join_one]
  ·rw [pcs_app h]
   cases n with
   | zero=>simp at hn
   | succ n=>
    have ih:=join_pcs c n r (by simp at hn;omega)
    cases hp:pcs c r with
    | nil=>exact absurd hp (pcs_ne c r)
    | cons y q=>
     rw [join_cons2,←hp,ih]
     rfl
theorem join_pcs' (c:UInt8) (s:By):Lib.join (pcs c s) [c]=s:=join_pcs c _ s (Nat.le_refl _)
theorem mem_join {c b:UInt8}:∀ l:List By,b∈Lib.join l [c]→b=c∨∃ x∈l,b∈x
 | [],h=>by simp [Lib.join_nil] at h
 | [x],h=>by rw [Lib.join_one] at h;exact .inr ⟨x,by simp,h⟩
 | x::y::r,h=>by
  rw [join_cons2] at h
  simp only [List.mem_append,List.mem_singleton] at h
  rcases h with h | h | h
  ·exact .inr ⟨x,by simp,h⟩
  ·exact .inl h
  ·rcases mem_join (y::r) h with h | ⟨z,hz,h⟩
   ·exact .inl h
   ·exact .inr ⟨z,by simp [hz],h⟩
theorem mem_pcs {c b:UInt8} {s:By} (h:b∈s):b=c∨∃ x∈pcs c s,b∈x:=by
 rw [←join_pcs' c s] at h
 exact mem_join _ h
theorem lowB_46 (b:UInt8):lowB b=46↔b=46:=by
 rcases lowB_cases b with ⟨h,e⟩ | ⟨h,e⟩ | ⟨h,h2,e⟩
 ·rw [e]
 ·rw [e]
 ·constructor
  ·intro h3;rw [h3] at e;simp at e;omega
  ·intro h3;subst h3;simp at h
theorem lower_app (a b:By):lower (a++b)=lower a++lower b:=List.map_append
theorem lower_len (s:By):(lower s).length=s.length:=List.length_map _
theorem splitGo_lower:∀ (s acc:By),splitGo 46 (lower acc) (lower s)=(splitGo 46 acc s).map lower
 | [],acc=>rfl
 | b::r,acc=>by
  show (if lowB b=46 then _ else _)=_
  simp only [splitGo]
  by_cases h:b=46
  ·rw [if_pos ((lowB_46 b).2 h),if_pos h,List.map_cons]
   have:=splitGo_lower r []
   rw [←this]
   rfl
  ·rw [if_neg (fun e=>h ((lowB_46 b).1 e)),if_neg h,←splitGo_lower r (acc++[b]),lower_app]
   rfl
theorem pcs_lower (s:By):pcs 46 (lower s)=(pcs 46 s).map lower:=splitGo_lower s []
theorem dig_low (b:UInt8):dig (lowB b)=dig b:=by
 rcases lowB_cases b with ⟨h,e⟩ | ⟨h,e⟩ | ⟨h,h2,e⟩
 ·rw [e]
 ·rw [e]
 ·unfold dig
  rw [e]
  repeat' split
  all_goals omega
theorem digGo_low (base:Nat):∀ (s:By) (n:Nat),digGo base n (lower s)=digGo base n s
 | [],n=>rfl
 | b::r,n=>by
  show (if dig (lowB b)<base then _ else _)=_
  simp only [digGo,dig_low]
  split
  ·exact digGo_low base r _
  ·rfl
theorem lowB_48 (b:UInt8):lowB b=48↔b=48:=by
 rcases lowB_cases b with ⟨h,e⟩ | ⟨h,e⟩ | ⟨h,h2,e⟩
 ·rw [e]
 ·rw [e]
 ·constructor
  ·intro h3;rw [h3] at e;simp at e;omega
  ·intro h3;subst h3;simp at h
theorem lowB_x (b:UInt8):(lowB b=120∨lowB b=88)↔(b=120∨b=88):=by
 rcases lowB_cases b with ⟨h,e⟩ | ⟨h,e⟩ | ⟨h,h2,e⟩
 ·rw [e]
 ·rw [e]
 ·constructor
  ·rintro (h3 | h3)
   ·rw [h3] at e
    right
    apply UInt8.toNat_inj.1
    simp at e ⊢
    omega
   ·rw [h3] at e;simp at e;omega
  ·rintro (h3 | h3)
   ·subst h3;simp at h2
   ·subst h3;left;apply UInt8.toNat_inj.1;rw [e];rfl
theorem lower_getD (s:By) (i:Nat):(lower s).getD i 0=lowB (s.getD i 0):=by
 unfold lower
 simp only [List.getD_eq_getElem?_getD,List.getElem?_map]
 cases s[i]?<;>rfl
theorem isHex_low (s:By):isHex (lower s)=isHex s:=by
 rw [Bool.eq_iff_iff,isHex_iff,isHex_iff,lower_getD,lower_getD,lowB_48,lowB_x]
theorem lower_nil {s:By}:lower s=[]↔s=[]:=by unfold lower;simp
theorem getLastD_map (l:List By):(l.map lower).getLastD []=lower (l.getLastD []):=by
 rw [List.getLastD_eq_getLast?,List.getLastD_eq_getLast?,List.getLast?_map]
 cases l.getLast?<;>rfl
theorem partsB_low (s:By):partsB (lower s)=(partsB s).map lower:=by
 unfold partsB
 rw [pcs_lower,getLastD_map]
 simp only [List.length_map,lower_nil]
 split
 ·rw [List.map_dropLast]
 ·rfl
theorem lastB_low (s:By):lastB (lower s)=lower (lastB s):=by
 unfold lastB
 rw [partsB_low,getLastD_map]
theorem lower_drop (s:By) (i:Nat):(lower s).drop i=lower (s.drop i):=by unfold lower;rw [List.map_drop]
theorem lower_isEmpty (s:By):(lower s).isEmpty=s.isEmpty:=by cases s<;>rfl
theorem numericB_low (s:By):numericB (lower s)=numericB s:=by
 unfold numericB
 rw [lastB_low,isHex_low,lower_drop,digGo_low,digGo_low,lower_isEmpty]
theorem ptsGo_ascii:∀ (n:Nat) (s:By),s.length≤n→(∀ b∈s,b.toNat<128)→ptsGo n s=some (s.map (·.toNat))
 | 0,s,h,_=>by
  have:s=[]:=List.length_eq_zero_iff.1 (by omega)
  subst this;rfl
 | n+1,[],_,_=>by simp [ptsGo]
 | n+1,b::r,h,hs=>by
  simp only [ptsGo]
  rw [if_neg (by simp),Lib.decodeL_ascii b r (hs b (by simp))]
  have hb:=hs b (by simp)
  rw [if_neg (by simp;omega)]
  simp only [List.drop_succ_cons,List.drop_zero]
  rw [ptsGo_ascii n r (by simp at h;omega) (fun c hc=>hs c (by simp [hc]))]
  rfl
theorem ptsB_ascii (s:By) (h:∀ b∈s,b.toNat<128):ptsB s=some (s.map (·.toNat)):=ptsGo_ascii _ s (Nat.le_refl _) h
theorem lblByte_iff (b:UInt8):lblByte b=true↔(97≤b.toNat∧b.toNat≤122)∨(48≤b.toNat∧b.toNat≤57)∨b=45∨b=95:=by
 simp [lblByte,or_assoc]
theorem lblByte_lt {b:UInt8} (h:lblByte b=true):b.toNat<128∧(b.toNat<65∨90<b.toNat)∧b≠46∧b≠37∧b≠91:=by
 rw [lblByte_iff] at h
 have key:∀ c:UInt8,b=c→b.toNat=c.toNat:=fun c e=>by rw [e]
 rcases h with h | h | h | h
 ·refine ⟨by omega,by omega,?_,?_,?_⟩<;>intro e<;>have:=key _ e<;>simp at this<;>omega
 ·refine ⟨by omega,by omega,?_,?_,?_⟩<;>intro e<;>have:=key _ e<;>simp at this<;>omega
 ·subst h;decide
 ·subst h;decide
structure VL (s:By):Prop where
 ne:s≠[]
 le:s.length≤63
 byt:∀ b∈s,lblByte b=true
theorem validL_VL {s:By} (h:validL s=true):VL s:=by
 unfold validL at h
 simp only [Bool.and_eq_true,Bool.not_eq_true',List.all_eq_true] at h
 obtain ⟨⟨⟨⟨⟨h1,h2⟩,h3⟩,h4⟩,h5⟩,h6⟩:=h
 refine ⟨by intro e;subst e;simp at h1,Nat.le_of_ble_eq_true h2,fun b hb=>h5 b hb⟩
theorem low_ascii {s:By} (h:∀ b∈lower s,b.toNat<128):∀ b∈s,b.toNat<128:=by
 intro b hb
 have:=h (lowB b) (List.mem_map_of_mem hb)
 rcases lowB_cases b with ⟨_,e⟩ | ⟨_,e⟩ | ⟨h1,h2,e⟩
 ·omega
 ·rw [e] at this;exact this
 ·omega
theorem toAsc_low {s:By} (h:validL (lower s)=true):toAsc s=(lower s,0):=by
 have v:=validL_VL h
 have ha:=low_ascii (fun b hb=>(lblByte_lt (v.byt b hb)).1)
 have hl:=lower_len s
 have h63:=v.le
 unfold toAsc
 rw [ptsB_ascii s ha]
 simp only [List.length_map]
 rw [if_neg (by omega),if_neg (by omega),if_pos h]
theorem asciis_low:∀ l:List By,(l.map lower).all validL=true→asciis l=(l.map lower,0)
 | [],_=>rfl
 | x::r,h=>by
  simp only [List.map_cons,List.all_cons,Bool.and_eq_true] at h
  unfold asciis
  rw [toAsc_low h.1,asciis_low r h.2]
  rfl
structure VN (s:By):Prop where
 le:s.length≤253
 num:numericB s=false
 all:∀ x∈pcs 46 s,validL x=true
theorem validN_iff {s:By}:validN s=true↔VN s:=by
 unfold validN
 simp only [Bool.and_eq_true,Bool.not_eq_true',List.all_eq_true]
 exact ⟨fun h=>⟨Nat.le_of_ble_eq_true h.1.1,h.1.2,h.2⟩,fun h=>⟨⟨Nat.ble_eq_true_of_le h.le,h.num⟩,h.all⟩⟩
theorem VN.byt {s:By} (h:VN s):∀ b∈s,b=46∨lblByte b=true:=by
 intro b hb
 rcases mem_pcs (c:=46) hb with h1 | ⟨x,hx,h1⟩
 ·exact .inl h1
 ·exact .inr ((validL_VL (h.all x hx)).byt b h1)
theorem VN.byt' {s:By} (h:VN s) {b:UInt8} (hb:b∈s):b.toNat<128∧(b.toNat<65∨90<b.toNat)∧b≠37∧b≠91:=by
 rcases h.byt b hb with h1 | h1
 ·subst h1;decide
 ·have:=lblByte_lt h1
  exact ⟨this.1,this.2.1,this.2.2.2.1,this.2.2.2.2⟩
theorem join_last (c:UInt8):∀ (l:List By),(∀ x∈l,x≠[]∧c∉x)→(Lib.join l [c]).getLast?≠some c
 | [],_=>by simp [Lib.join_nil]
 | [x],h=>by
  rw [Lib.join_one]
  intro e
  have:=List.mem_of_getLast? e
  exact (h x (by simp)).2 this
 | x::y::r,h=>by
  have ih:=join_last c (y::r) (fun z hz=>h z (by simp [hz]))
  have hne:Lib.join (y::r) [c]≠[]:=by
   intro e
   have:pcs c (Lib.join (y::r) [c])=y::r:=pcs_join c _ (by simp) (fun z hz=>(h z (by simp [hz])).2)
   rw [e] at this
   have h2:pcs c []=[[]]:=rfl
   rw [h2] at this
   simp at this
   exact (h y (by simp)).1 (by rw [←this.1])
  rw [join_cons2,List.getLast?_append,List.getLast?_append]
  cases hq:(Lib.join (y::r) [c]).getLast? with
  | none=>rw [List.getLast?_eq_none_iff] at hq;exact absurd hq hne
  | some z=>
   rw [hq] at ih
   simpa using ih
theorem VN.last {s:By} (h:VN s):s.getLast?≠some 46:=by
 have:=join_last 46 (pcs 46 s) (fun x hx=>⟨(validL_VL (h.all x hx)).ne,(pcs_mem hx).1⟩)
 rwa [join_pcs'] at this
theorem pctB_id:∀ s:By,(∀ b∈s,b≠37)→pctB s=some s
 | [],_=>by unfold pctB;rfl
 | b::r,h=>by
  unfold pctB
  rw [if_neg (h b (by simp)),pctB_id r (fun c hc=>h c (by simp [hc]))]
  rfl
theorem parse_spelled {raw t' t name:By} (h1:raw.length≤1024) (h2:raw.head?≠some 91) (h3:pctB raw=some t') (h4:trimDot t'=t) (h5:lower t=name) (hn:VN name):parseH raw=(⟨1,name,0,z8⟩,0):=by
 subst h5
 have hnum:numericB t=false:=by rw [←numericB_low];exact hn.num
 have hal:((pcs 46 t).map lower).all validL=true:=by
  rw [←pcs_lower,List.all_eq_true]
  exact hn.all
 unfold parseH
 rw [if_neg (by omega),if_neg h2,h3]
 simp only [h4,hnum]
 rw [asciis_low _ hal]
 simp only [Bool.false_eq_true,if_false,if_true]
 rw [←pcs_lower,join_pcs',if_neg (by have:=hn.le;omega),hn.num]
 simp
def hexU (n:Nat):UInt8:=if n<10 then UInt8.ofNat (48+n) else UInt8.ofNat (55+n)
def sp1 (k:Nat) (b:UInt8):By:=
 if k=1∧97≤b.toNat∧b.toNat≤122 then [UInt8.ofNat (b.toNat-32)] else if k=2 then [37,hexU (b.toNat / 16),hexD (b.toNat % 16)] else [b]
def spell:List (Nat × UInt8)→By
 | []=>[]
 | (k,b)::r=>sp1 k b++spell r
theorem dig_hexU (n:Nat) (h:n<16):dig (hexU n)=n:=by
 unfold hexU dig
 split
 ·have:(UInt8.ofNat (48+n)).toNat=48+n:=by simp;omega
  rw [this];repeat' split
  all_goals omega
 ·have:(UInt8.ofNat (55+n)).toNat=55+n:=by simp;omega
  rw [this];repeat' split
  all_goals omega
theorem dig_hexD (n:Nat) (h:n<16):dig (hexD n)=n:=by
 unfold hexD dig
 split
 ·have:(UInt8.ofNat (48+n)).toNat=48+n:=by simp;omega
  rw [this];repeat' split
  all_goals omega
 ·have:(UInt8.ofNat (87+n)).toNat=87+n:=by simp;omega
  rw [this];repeat' split
  all_goals omega
theorem spell_pct:∀ l:List (Nat × UInt8),(∀ q∈l,q.2.toNat<128∧(q.2.toNat<65∨90<q.2.toNat)∧q.2≠37∧q.2≠91)→∀ e:By,(∀ b∈e,b≠37)→
  ∃ t,pctB (spell l++e)=some (t++e)∧lower t=l.map (·.2)
 | [],_,e,he=>⟨[],by simpa [spell] using pctB_id e he,rfl⟩
 | (k,b)::r,h,e,he=>by
  obtain ⟨t,h1,h2⟩:=spell_pct r (fun q hq=>h q (by simp [hq])) e he
  obtain ⟨hb1,hb2,hb3,hb4⟩:=h (k,b) (by simp)
  simp only at hb1 hb2 hb3 hb4
  have plain:∀ c:UInt8,c≠37→lowB c=b→∃ t,pctB (([c]++spell r)++e)=some (t++e)∧lower t=((k,b)::r).map (·.2):=by
   intro c hc hl
   refine ⟨c::t,?_,?_⟩
   ·rw [List.append_assoc,List.singleton_append]
    unfold pctB
    rw [if_neg hc,h1]
    rfl
   ·show lowB c::lower t=_
    rw [hl,h2]
    rfl
  have hlb:lowB b=b:=by
   rcases lowB_cases b with ⟨_,e⟩ | ⟨_,e⟩ | ⟨h1,h2,e⟩
   ·exact e
   ·exact e
   ·omega
  show ∃ t,pctB ((sp1 k b++spell r)++e)=_∧_
  unfold sp1
  by_cases c1:k=1∧97≤b.toNat∧b.toNat≤122
  ·rw [if_pos c1]
   have hn:(UInt8.ofNat (b.toNat-32)).toNat=b.toNat-32:=by simp;omega
   refine plain _ ?_ ?_
   ·intro e;rw [e] at hn;simp at hn;omega
   ·apply UInt8.toNat_inj.1
    rcases lowB_cases (UInt8.ofNat (b.toNat-32)) with ⟨h1,e⟩ | ⟨h1,e⟩ | ⟨h1,h2,e⟩<;>rw [hn] at h1<;>first | omega | (rw [hn] at e;omega)
  ·rw [if_neg c1]
   by_cases c2:k=2
   ·rw [if_pos c2]
    refine ⟨b::t,?_,?_⟩
    ·simp only [List.cons_append,List.nil_append]
     unfold pctB
     rw [if_pos rfl]
     simp only [dig_hexU (b.toNat / 16) (by omega),dig_hexD (b.toNat % 16) (by omega)]
     rw [if_pos (by omega),h1]
     have:UInt8.ofNat (16*(b.toNat / 16)+b.toNat % 16)=b:=by
      rw [Nat.div_add_mod];simp
     rw [this]
     rfl
    ·show lowB b::lower t=_
     rw [hlb,h2]
     rfl
   ·rw [if_neg c2]
    exact plain b hb3 hlb
theorem sp1_len (k:Nat) (b:UInt8):(sp1 k b).length≤3∧sp1 k b≠[]:=by
 unfold sp1
 repeat' split
 all_goals simp
theorem spell_len:∀ l:List (Nat × UInt8),(spell l).length≤3*l.length
 | []=>by simp [spell]
 | (k,b)::r=>by
  have h1:=spell_len r
  have h2:=(sp1_len k b).1
  simp only [spell,List.length_append,List.length_cons]
  omega
theorem spell_head (l:List (Nat × UInt8)) (h:∀ q∈l,q.2.toNat<128∧(q.2.toNat<65∨90<q.2.toNat)∧q.2≠37∧q.2≠91):∀ e:By,e.head?≠some 91→(spell l++e).head?≠some 91:=by
 intro e he
 cases l with
 | nil=>simpa [spell] using he
 | cons q r=>
  obtain ⟨k,b⟩:=q
  obtain ⟨hb1,hb2,hb3,hb4⟩:=h (k,b) (by simp)
  simp only at hb1 hb2 hb3 hb4
  simp only [spell]
  unfold sp1
  split
  ·rename_i c1
   simp only [List.cons_append,List.head?_cons]
   intro e
   have hn:(UInt8.ofNat (b.toNat-32)).toNat=b.toNat-32:=by simp;omega
   rw [Option.some.inj e] at hn
   simp at hn
   omega
  ·split
   ·simp
   ·simpa using hb4
theorem spell_parse {name:By} (hn:VN name) (h2:name.length≤253) (ks:List Nat) (hk:ks.length=name.length) :
  parseH (spell (ks.zip name))=(⟨1,name,0,z8⟩,0)∧parseH (spell (ks.zip name)++[46])=(⟨1,name,0,z8⟩,0):=by
 have hq:∀ q∈ks.zip name,q.2.toNat<128∧(q.2.toNat<65∨90<q.2.toNat)∧q.2≠37∧q.2≠91:=fun q h=>hn.byt' (List.of_mem_zip (a:=q.1) (b:=q.2) h).2
 have hm:(ks.zip name).map (·.2)=name:=List.map_snd_zip (by omega)
 have hl:=spell_len (ks.zip name)
 rw [List.length_zip,hk,Nat.min_self] at hl
 obtain ⟨t,h3,h4⟩:=spell_pct _ hq [] (by simp)
 obtain ⟨u,h5,h6⟩:=spell_pct _ hq [46] (by simp)
 rw [List.append_nil,List.append_nil] at h3
 rw [hm] at h4 h6
 have hlast:∀ t,lower t=name→t.getLast?≠some 46:=by
  intro t h e
  have h1:=hn.last
  rw [←h] at h1
  unfold lower at h1
  rw [List.getLast?_map,e] at h1
  exact h1 rfl
 refine ⟨parse_spelled (by omega) (by simpa using spell_head _ hq [] (by simp)) h3 (by unfold trimDot;rw [if_neg (hlast t h4)]) h4 hn,parse_spelled (by simp;omega) (spell_head _ hq [46] (by simp)) h5 ?_ h6 hn⟩
 unfold trimDot
 rw [if_pos (by simp),List.dropLast_concat]
def sh (n:Nat) (i:Int):Int:=if i = -1 then -1 else i+n
theorem toAsc_ok {s:By} (h:(toAsc s).2=0):validL (toAsc s).1=true:=by
 unfold toAsc at h ⊢
 cases hp:ptsB s with
 | none=>rw [hp] at h;simp at h
 | some p=>
  rw [hp] at h
  simp only at h ⊢
  split at h
  ·simp at h
  ·rename_i h1
   rw [if_neg h1]
   split at h
   ·rename_i h2
    rw [if_pos h2]
    cases hq:ptsB (lower s) with
    | none=>rw [hq] at h;simp at h
    | some q=>
     rw [hq] at h
     simp only at h ⊢
     split at h
     ·rename_i h3
      rw [if_pos h3]
      split at h
      ·rename_i h4
       rw [if_pos h4]
       exact h4
      ·simp at h
     ·simp at h
   ·rename_i h2
    rw [if_neg h2]
    split at h
    ·rename_i h3
     rw [if_pos h3]
     exact h3
    ·simp at h
theorem asciis_ok:∀ l:List By,(asciis l).2=0→(∀ x∈(asciis l).1,validL x=true)∧(asciis l).1.length=l.length
 | [],_=>⟨by simp [asciis],rfl⟩
 | x::r,h=>by
  unfold asciis at h ⊢
  by_cases hx:(toAsc x).2=0
  ·rw [if_pos hx] at h ⊢
   obtain ⟨h1,h2⟩:=asciis_ok r h
   refine ⟨fun y hy=>?_,by simp [h2]⟩
   rcases List.mem_cons.1 hy with rfl | hy
   ·exact toAsc_ok hx
   ·exact h1 y hy
  ·rw [if_neg hx] at h
   exact absurd h hx
theorem ptsGo_valid:∀ (f:Nat) (l:By),Lib.validGoD f l=(ptsGo f l).isSome
 | 0,_=>rfl
 | f+1,l=>by
  unfold Lib.validGoD ptsGo
  split
  ·rfl
  ·split
   ·rfl
   ·rw [ptsGo_valid f,Option.isSome_map]
theorem validD_pts (l:By):Lib.validD l=(ptsB l).isSome:=ptsGo_valid _ l
theorem ptsGo_fuel:∀ (n m:Nat) (l:By),l.length≤n→l.length≤m→ptsGo n l=ptsGo m l
 | 0,m,l,hn,_=>by
  have:l=[]:=List.length_eq_zero_iff.1 (by omega)
  subst this;cases m<;>simp [ptsGo]
 | n+1,0,l,_,hm=>by
  have:l=[]:=List.length_eq_zero_iff.1 (by omega)
  subst this;simp [ptsGo]
 | n+1,m+1,l,hn,hm=>by
  unfold ptsGo
  split
  ·rfl
  ·rename_i hne
   have hw:=Lib.decodeL_width l
   have hl:0<l.length:=List.length_pos_iff.2 hne
   rw [ptsGo_fuel n m (l.drop (Lib.decodeL l).2) (by rw [List.length_drop];omega) (by rw [List.length_drop];omega)]
theorem ptsB_step (l:By) (hne:l≠[]):ptsB l=if (Lib.decodeL l).1=65533∧(Lib.decodeL l).2=1 then none else (ptsB (l.drop (Lib.decodeL l).2)).map ((Lib.decodeL l).1::·):=by
 have hl:0<l.length:=List.length_pos_iff.2 hne
 have hw:=Lib.decodeL_width l
 obtain ⟨n,hn⟩:∃ n,l.length=n+1:=⟨l.length-1,by omega⟩
 unfold ptsB
 rw [hn]
 conv=>lhs;unfold ptsGo
 rw [if_neg hne,ptsGo_fuel n (l.drop (Lib.decodeL l).2).length _ (by rw [List.length_drop];omega) (Nat.le_refl _)]
theorem runes_pts:∀ (f:Nat) (s:ByteArray) (pos:Nat) (p:List Nat),pos≤s.size→ptsGo f (s.data.toList.drop pos)=some p→s.size-pos≤f→Lib.runeCountFrom s f pos=p.length
 | 0,s,pos,p,hp,h,hf=>by
  simp only [ptsGo,Option.some.injEq] at h
  subst h;rfl
 | f+1,s,pos,p,hp,h,hf=>by
  have hsz:s.data.toList.length=s.size:=by rw [Array.length_toList];rfl
  unfold ptsGo at h
  rw [Lib.decodeL_drop] at h
  by_cases hps:pos<s.size
  ·rw [if_neg (by rw [←List.length_eq_zero_iff,List.length_drop];omega)] at h
   split at h
   ·cases h
   ·cases hq:ptsGo f (List.drop (Utf8.decode s pos).2 (List.drop pos s.data.toList)) with
    | none=>rw [hq] at h;cases h
    | some q=>
     rw [hq] at h
     simp only [Option.map_some,Option.some.injEq] at h
     subst h
     have hw:=Lib.decode_width_pos s pos hps
     have hwl:pos+(Utf8.decode s pos).2≤s.size:=by
      have:=Lib.decodeL_le (s.data.toList.drop pos) (by rw [ne_eq,←List.length_eq_zero_iff,List.length_drop];omega)
      rw [Lib.decodeL_drop,List.length_drop] at this
      omega
     rw [List.drop_drop] at hq
     unfold Lib.runeCountFrom
     rw [if_pos hps,runes_pts f s _ q hwl hq (by omega)]
     simp;omega
  ·rw [if_pos (by rw [←List.length_eq_zero_iff,List.length_drop];omega)] at h
   simp only [Option.some.injEq] at h
   subst h
   rw [Lib.runeCountFrom_end s _ _ hps];rfl
theorem runeCountL_pts {l:By} {p:List Nat} (h:ptsB l=some p):Lib.runeCountL l=p.length:=by
 unfold Lib.runeCountL Lib.runeCount
 have hs:(ByteArray.mk l.toArray).size=l.length:=by simp [ByteArray.size]
 refine runes_pts _ _ 0 p (Nat.zero_le _) ?_ (by omega)
 rw [hs,List.drop_zero]
 simpa [ptsB] using h
open Lib in theorem dec2 (n b0 b1 b2 b3:Nat) (hb:194≤b0∧b0<224) (h1:b1<256):decodeN n b0 b1 b2 b3=if 2≤n∧128≤b1∧b1≤191 then ((b0-192)*64+b1-128,2) else (65533,1):=by
 unfold decodeN
 rw [if_neg (by omega)]
 by_cases hc:2≤n∧128≤b1∧b1≤191
 ·rw [if_pos hc,if_pos (by omega),if_pos (by omega)]
  exact Prod.ext (by show b0 % 32*64+b1 % 64=(b0-192)*64+b1-128;omega) rfl
 ·rw [if_neg hc,if_neg (by omega),if_neg (by omega),if_neg (by omega)]
open Lib in theorem dec3 (n b0 b1 b2 b3:Nat) (hb:224≤b0∧b0<240) (h1:b1<256) (h2:b2<256):decodeN n b0 b1 b2 b3=if 3≤n∧(128≤b1∧b1≤191)∧(128≤b2∧b2≤191) then
  (if 2048≤((b0-224)*64+b1-128)*64+b2-128∧isPt (((b0-224)*64+b1-128)*64+b2-128)=true then (((b0-224)*64+b1-128)*64+b2-128,3) else (65533,1)) else (65533,1):=by
 unfold decodeN
 rw [if_neg (by omega),if_neg (by omega)]
 by_cases hc:3≤n∧(128≤b1∧b1≤191)∧(128≤b2∧b2≤191)
 ·rw [if_pos hc,if_pos (by omega)]
  have e:b0 % 16*4096+b1 % 64*64+b2 % 64=((b0-224)*64+b1-128)*64+b2-128:=by omega
  rw [e]
  generalize ((b0-224)*64+b1-128)*64+b2-128=v
  congr 1
  simp only [isPt,Bool.and_eq_true,Bool.or_eq_true,Nat.ble_eq,Nat.blt_eq]
  apply propext;omega
 ·rw [if_neg hc,if_neg (by omega),if_neg (by omega)]
open Lib in theorem dec4 (n b0 b1 b2 b3:Nat) (hb:240≤b0∧b0<245) (h1:b1<256) (h2:b2<256) (h3:b3<256):decodeN n b0 b1 b2 b3=if 4≤n∧(128≤b1∧b1≤191)∧(128≤b2∧b2≤191)∧(128≤b3∧b3≤191) then
  (if 65536≤(((b0-240)*64+b1-128)*64+b2-128)*64+b3-128∧isPt ((((b0-240)*64+b1-128)*64+b2-128)*64+b3-128)=true then ((((b0-240)*64+b1-128)*64+b2-128)*64+b3-128,4) else (65533,1)) else (65533,1):=by
 unfold decodeN
 rw [if_neg (by omega),if_neg (by omega),if_neg (by omega)]
 by_cases hc:4≤n∧(128≤b1∧b1≤191)∧(128≤b2∧b2≤191)∧(128≤b3∧b3≤191)
 ·rw [if_pos hc,if_pos (by omega)]
  have e:b0 % 8*262144+b1 % 64*4096+b2 % 64*64+b3 % 64=(((b0-240)*64+b1-128)*64+b2-128)*64+b3-128:=by omega
  rw [e]
  generalize (((b0-240)*64+b1-128)*64+b2-128)*64+b3-128=v
  congr 1
  simp only [isPt,Bool.and_eq_true,Bool.or_eq_true,Nat.ble_eq,Nat.blt_eq]
  apply propext;omega
 ·rw [if_neg hc,if_neg (by omega)]
end Go.Proofs.YtokehocipgepnaaGreatDoor.E
namespace Go.Proofs.YtokehocipgepnaaGreatDoor.E
open Go Go.Proofs
set_option linter.unusedVariables false
set_option linter.unusedSimpArgs false
theorem encI_nat (l:List Nat):encI (l.map fun n:Nat=>(n:Int))=encP l:=by
 have h1:(l.map fun n:Nat=>(n:Int)).all ptI=l.all isPt:=by
  rw [List.all_map]
  congr 1
 have h2:(l.map fun n:Nat=>(n:Int)).map Int.toNat=l:=by
  rw [List.map_map]
  exact (List.map_congr_left fun a _=>by simp).trans (List.map_id l)
 unfold encI
 rw [List.length_map,h1,h2]
 by_cases h:256<l.length
 ·rw [if_pos h];unfold encP;rw [if_pos h]
 ·rw [if_neg h]
  cases hp:l.all isPt with
  | true=>rw [if_pos rfl]
  | false=>
   rw [if_neg (by simp)]
   unfold encP
   rw [if_neg h,hp]
   rfl
theorem elI_natE (l:List Nat):(natE l).map elI=l.map fun n:Nat=>(n:Int):=by
 unfold natE
 rw [List.map_map]
 exact List.map_congr_left fun a _=>rfl
theorem all_isI64_nat (l:List Nat):(natE l).all isI64=true:=by
 unfold natE
 rw [List.all_map,List.all_eq_true]
 intro x _
 rfl
theorem lprop_loop {R:Type} {k0:Unit→Option R} {k1:By→Bool→LL→Bool→Option R} (s:By) (z:Bool) (p:List Nat) (hp:p.length≤1000000000):∀ (r i n:Nat) (b:Bool),i+r=p.length→r<n→
  lprop_l0 LF n s z (natE p) b (p.length:Int) (i:Int) k0 k1=if (p.drop i).any (fun p=>Nat.ble 65 p&&Nat.ble p 90) then k0 () else k1 s z (natE p) (b && !((p.drop i).any fun p=>Nat.ble 128 p)):=by
 intro r
 induction r with
 | zero=>
  intro i n b hi hn
  obtain ⟨n,rfl⟩:∃ m,n=m+1:=⟨n-1,by omega⟩
  rw [lprop_l0_s]
  unfold lprop_l0f
  rw [ltI_f (by omega),List.drop_of_length_le (by omega)]
  simp
 | succ r ih=>
  intro i n b hi hn
  obtain ⟨n,rfl⟩:∃ m,n=m+1:=⟨n-1,by omega⟩
  rw [lprop_l0_s]
  unfold lprop_l0f
  have e1:wi64 ((i:Int)+1)=((i+1:Nat):Int):=by rw [wi64_id (by omega) (by omega)];rfl
  have hd:p.drop i=p.getD i 0::p.drop (i+1):=by
   rw [List.getD_eq_getElem?_getD,List.getElem?_eq_getElem (by omega),Option.getD_some,List.getElem_cons_drop]
  rw [ltI_t (by omega),natE_len,inR_t (by omega) (by omega),Int.toNat_natCast,okE_nat (by omega),gE_nat _ _ (by omega),hd,List.any_cons,List.any_cons,e1]
  simp only [cond_true,vl]
  generalize p.getD i 0=q
  have go:∀ c:Bool,lprop_l0 LF n s z (natE p) c (p.length:Int) ((i+1:Nat):Int) k0 k1=_:=fun c=>ih (i+1) n c (by omega) (by omega)
  by_cases h1:q<65
  ·rw [ltI_t (by omega),show Nat.ble 65 q=false by rw [Bool.eq_false_iff,ne_eq,Nat.ble_eq];omega]
   have h2:Nat.ble 128 q=false:=by rw [Bool.eq_false_iff,ne_eq,Nat.ble_eq];omega
   rw [show ltI (q:Int) (128:Int)=true from ltI_t (by omega),h2]
   simp only [Bool.not_true,cond_false,Bool.false_and,Bool.false_or]
   cases b<;>simp only [cond_true,cond_false]<;>rw [go]
  ·rw [ltI_f (by omega),show Nat.ble 65 q=true by rw [Nat.ble_eq];omega]
   simp only [Bool.not_false,cond_true,Bool.true_and]
   by_cases h2:90<q
   ·rw [ltI_t (by omega),show Nat.ble q 90=false by rw [Bool.eq_false_iff,ne_eq,Nat.ble_eq];omega]
    simp only [Bool.not_true,cond_false,Bool.false_or]
    by_cases h3:q<128
    ·rw [show ltI (q:Int) (128:Int)=true from ltI_t (by omega),show Nat.ble 128 q=false by rw [Bool.eq_false_iff,ne_eq,Nat.ble_eq];omega]
     cases b<;>simp only [cond_true,cond_false,Bool.false_or]<;>rw [go]
    ·rw [show ltI (q:Int) (128:Int)=false from ltI_f (by omega),show Nat.ble 128 q=true by rw [Nat.ble_eq];omega]
     cases b<;>simp only [cond_true,cond_false,Bool.true_or,Bool.not_true,Bool.and_false]<;>rw [go]<;>simp
   ·rw [ltI_f (by omega),show Nat.ble q 90=true by rw [Nat.ble_eq];omega]
    simp
theorem decGoP_len:∀ (m:Nat) (s:By) (pts:List Nat) (n i b:Nat) (f:Bool),s.length≤m→pts.length≤256→(decGoP s pts n i b f).1.length≤256:=by
 intro m
 induction m with
 | zero=>
  intro s pts n i b f hs hp
  obtain rfl:=List.length_eq_zero_iff.1 (Nat.le_zero.1 hs)
  rw [decGoP_nil]
  exact hp
 | succ m ih=>
  intro s pts n i b f hs hp
  by_cases h:s=[]
  ·subst h
   rw [decGoP_nil]
   exact hp
  ·by_cases hq:(decNum b s i 1 0).2.2=0
   ·rw [decGoP_step h _ _ _ _ _ hq]
    have hlt:=decNum_lt b s i 1 0 hq
    split
    ·split
     ·exact Nat.zero_le _
     ·rename_i h2
      exact ih _ _ _ _ _ _ (by omega) (by rw [insAt_len];omega)
    ·exact Nat.zero_le _
   ·rw [decGoP_err h _ _ _ _ _ hq]
    exact Nat.zero_le _
theorem decP_len (s:By):(decP s).1.length≤256:=by
 unfold decP
 split
 ·exact Nat.zero_le _
 ·split
  ·exact Nat.zero_le _
  ·split
   ·exact Nat.zero_le _
   ·rename_i h
    exact decGoP_len _ _ _ _ _ _ _ (Nat.le_refl _) (by rw [List.length_map,List.length_take];omega)
theorem lprop_spec {R:Type} {k0:Bool→Option R} (s:By) (h0:small s.length=true):lprop LF s k0=k0 (properB s):=by
 have hLF:=LF_big
 unfold lprop properB
 rw [h0,cond_true]
 by_cases h:(decP s).2=0
 ·have e:(((decP s).2:Int) != (0:Int))=false:=by rw [h];rfl
  rw [e,cond_false,natR_natE,natE_len,h]
  have hl:=decP_len s
  refine Eq.trans (lprop_loop s _ (decP s).1 (by omega) (decP s).1.length 0 LF true (by omega) (by omega)) ?_
  rw [List.drop_zero]
  cases h1:(decP s).1.any (fun p=>Nat.ble 65 p&&Nat.ble p 90) with
  | true=>simp
  | false=>
   rw [if_neg (by simp),all_isI64_nat,elI_natE,encI_nat]
   simp only [cond_true,vl,Bool.true_and,Bool.not_false]
   cases h2:(decP s).1.any (fun p=>Nat.ble 128 p) with
   | false=>simp
   | true=>
    simp only [Bool.not_true,Bool.not_false,cond_true,Bool.and_true,beq_self_eq_true,Bool.true_and]
    by_cases h3:(encP (decP s).1).2=0
    ·rw [h3];simp
    ·have:(((encP (decP s).1).2:Int)==(0:Int))=false:=by simpa using h3
     have h3':((encP (decP s).1).2==0)=false:=by simpa using h3
     rw [this,h3']
     rfl
 ·have e:(((decP s).2:Int) != (0:Int))=true:=by simpa using h
  have h':((decP s).2==0)=false:=by simpa using h
  rw [e,cond_true,h']
  rfl
theorem lval_loop {R:Type} {k0:Unit→Option R} {k1:By→Option R} (s:By) (hs:s.length≤1000000000):∀ (r i n:Nat),i+r=s.length→r<n→
  lval_l0 LF n s (s.length:Int) (i:Int) k0 k1=if (s.drop i).all lblByte then k1 s else k0 ():=by
 intro r
 induction r with
 | zero=>
  intro i n hi hn
  obtain ⟨n,rfl⟩:∃ m,n=m+1:=⟨n-1,by omega⟩
  rw [lval_l0_s]
  unfold lval_l0f
  rw [ltI_f (by omega),List.drop_of_length_le (by omega)]
  rfl
 | succ r ih=>
  intro i n hi hn
  obtain ⟨n,rfl⟩:∃ m,n=m+1:=⟨n-1,by omega⟩
  rw [lval_l0_s]
  unfold lval_l0f
  have e1:wi64 ((i:Int)+1)=((i+1:Nat):Int):=by rw [wi64_id (by omega) (by omega)];rfl
  rw [ltI_t (by omega),inR_t (by omega) (by omega),bAt_nat,drop_cons s i (by omega),e1,List.all_cons]
  simp only [cond_true]
  rw [ih (i+1) n (by omega) (by omega)]
  generalize s.getD i 0=b
  have hb:=lblByte_iff b
  have q1:((b.toNat:Int) != 45) = !(b==45):=congrArg _ (u8_eqn b 45 (by omega))
  have q2:((b.toNat:Int) != 95) = !(b==95):=congrArg _ (u8_eqn b 95 (by omega))
  rw [q1,q2]
  have t:∀ {x:Bool},lblByte b=x→(if (lblByte b&&(s.drop (i+1)).all lblByte)=true then k1 s else k0 ())=if (x&&(s.drop (i+1)).all lblByte)=true then k1 s else k0 ():=fun h=>by rw [h]
  cases hl:lblByte b with
  | true=>
   rw [hb] at hl
   simp only [Bool.true_and]
   by_cases h1:b=45
   ·subst h1
    simp (disch:=decide) [ltI]
   ·by_cases h2:b=95
    ·subst h2
     simp (disch:=decide) [ltI]
    ·rcases hl with hl | hl | hl | hl
     ·rw [show ltI (b.toNat:Int) 97=false from ltI_f (by omega),show ltI (122:Int) b.toNat=false from ltI_f (by omega)];rfl
     ·rw [show ltI (b.toNat:Int) 97=true from ltI_t (by omega),show ltI (b.toNat:Int) 48=false from ltI_f (by omega),show ltI (57:Int) b.toNat=false from ltI_f (by omega)];rfl
     ·exact absurd hl h1
     ·exact absurd hl h2
  | false=>
   have hn:¬ ((97≤b.toNat∧b.toNat≤122)∨(48≤b.toNat∧b.toNat≤57)∨b=45∨b=95):=fun h=>by rw [hb.2 h] at hl;cases hl
   have n1:(b==45)=false:=by simpa using fun h=>hn (.inr (.inr (.inl h)))
   have n2:(b==95)=false:=by simpa using fun h=>hn (.inr (.inr (.inr h)))
   rw [n1,n2]
   simp only [Bool.not_false,cond_true,Bool.false_and,Bool.false_eq_true,if_false]
   by_cases h1:b.toNat<48
   ·rw [show ltI (b.toNat:Int) 97=true from ltI_t (by omega),show ltI (b.toNat:Int) 48=true from ltI_t (by omega)];rfl
   ·by_cases h2:b.toNat<97
    ·rw [show ltI (b.toNat:Int) 97=true from ltI_t (by omega),show ltI (b.toNat:Int) 48=false from ltI_f (by omega),show ltI (57:Int) b.toNat=true from ltI_t (by omega)];rfl
    ·rw [show ltI (b.toNat:Int) 97=false from ltI_f (by omega),show ltI (122:Int) b.toNat=true from ltI_t (by omega),show ltI (b.toNat:Int) 48=false from ltI_f (by omega),show ltI (57:Int) b.toNat=true from ltI_t (by omega)];rfl
theorem lval_spec {R:Type} {k0:Bool→Option R} (s:By) (h0:small s.length=true):lval LF s k0=k0 (validL s):=by
 have hs:=maxL h0
 have hLF:=LF_big
 unfold lval validL
 by_cases h1:s=[]
 ·subst h1
  rw [ltI_t (by simp)]
  rfl
 ·have hl:0<s.length:=List.length_pos_iff.2 h1
  have he:s.isEmpty=false:=by simpa using h1
  rw [ltI_f (by omega),cond_false,he]
  by_cases h2:63<s.length
  ·rw [ltI_t (by omega),show Nat.ble s.length 63=false by rw [Bool.eq_false_iff,ne_eq,Nat.ble_eq];omega]
   rfl
  ·rw [ltI_f (by omega),cond_false,show Nat.ble s.length 63=true by rw [Nat.ble_eq];omega,inR_t (by omega) (by omega)]
   have q1:(bAt s 0==(45:Int))=(s.getD 0 0==45):=by rw [bAt_zero];exact u8_eqn _ 45 (by omega)
   have e1:wi64 ((s.length:Int)-1)=((s.length-1:Nat):Int):=by rw [wi64_id (by omega) (by omega)];omega
   rw [q1,e1]
   simp only [cond_true,vl]
   rw [inR_t (by omega) (by omega),bAt_nat,show ((((s.getD (s.length-1) 0).toNat:Nat):Int)==45)=(s.getD (s.length-1) 0==45) from u8_eqn _ 45 (by omega)]
   cases h3:(s.getD 0 0==45) with
   | true=>
    rw [show (s.getD 0 0 != 45)=false by unfold bne;rw [h3];rfl]
    simp
   | false=>
    rw [show (s.getD 0 0 != 45)=true by unfold bne;rw [h3];rfl]
    simp only [cond_true,cond_false]
    cases h4:(s.getD (s.length-1) 0==45) with
    | true=>
     rw [show (s.getD (s.length-1) 0 != 45)=false by unfold bne;rw [h4];rfl]
     simp
    | false=>
     rw [show (s.getD (s.length-1) 0 != 45)=true by unfold bne;rw [h4];rfl]
     simp only [cond_false]
     refine Eq.trans (lval_loop s hs s.length 0 LF (by omega) (by omega)) ?_
     rw [List.drop_zero]
     cases h5:s.all lblByte with
     | false=>simp
     | true=>
      rw [if_pos rfl,h0,cond_true]
      simp only [Bool.not_false,Bool.true_and,Bool.and_true]
      show cond (!(xnB.isPrefixOf s)) _ _=_
      cases h6:xnB.isPrefixOf s with
      | false=>rfl
      | true=>
       have hc:cutp s xnB=s.drop 4:=by unfold cutp;rw [h6];rfl
       show cond (small (cutp s xnB).length) (k0 (properB (cutp s xnB))) none=_
       rw [hc,small_t (by rw [List.length_drop];omega)]
       rfl
theorem encOut_len (pts:List Nat) (basic:Nat) (hl:pts.length≤256) (hb:basic≤256) (hall:∀ p∈pts,p≤1114111):∀ (f n:Nat) (s:EncS),s.done=pts.countP (fun p=>decide (p<n))→s.delta≤300→s.bias≤500→s.out.length+20*(pts.length-s.done)≤80000→n≤1114112→
  (encOut pts basic f n s).out.length≤80000:=by
 intro f
 have hLF:=LF_big
 induction f with
 | zero=>intro n s hd h1 h2 h3 h4;unfold encOut;omega
 | succ f ih=>
  intro n s hd h1 h2 h3 h4
  have hcl:pts.countP (fun p=>decide (p<n))≤pts.length:=List.countP_le_length
  by_cases hlt:s.done<pts.length
  ·obtain ⟨p0,hp0,hp1⟩:=cnt_lt (n:=n) (l:=pts) (by omega)
   obtain ⟨g1,g2,g3⟩:=leastP_spec n pts 1114112
   have g4:=g3 p0 hp0 hp1
   have g5:=hall p0 hp0
   have hmem:leastP n pts 1114112∈pts∧n≤leastP n pts 1114112:=by
    rcases g1 with g1 | g1
    ·omega
    ·exact g1
   have he:encOut pts basic (f+1) n s=encOut pts basic f (leastP n pts 1114112+1) { encIn (leastP n pts 1114112) basic pts { s with delta:=s.delta+(leastP n pts 1114112-n)*(s.done+1) } with delta:=(encIn (leastP n pts 1114112) basic pts { s with delta:=s.delta+(leastP n pts 1114112-n)*(s.done+1) }).delta+1 }:=by
    rw [encOut,if_pos hlt]
   rw [he]
   generalize leastP n pts 1114112=m at *
   have hmul:(m-n)*(s.done+1)≤1114112*256:=Nat.mul_le_mul (by omega) (by omega)
   have hin:=penc_in false false pts basic m (by omega) hl pts.length 0 LF { s with delta:=s.delta+(m-n)*(s.done+1) } (by omega) (by omega) (by simp only;omega) h2 (by simp only;omega) (by simp only;omega) hb
   rw [List.drop_zero] at hin
   obtain ⟨_,q2,q3,q4,q5⟩:=hin
   have hcnt:0<pts.countP (· == m):=List.countP_pos_iff.2 ⟨m,hmem.1,by simp⟩
   rw [if_pos hcnt] at q5
   have hstep:=cnt_step hmem.2 pts g3
   generalize encIn m basic pts { s with delta:=s.delta+(m-n)*(s.done+1) } = s' at *
   simp only at q3 q4
   have hcl2:pts.countP (fun p=>decide (p<m+1))≤pts.length:=List.countP_le_length
   exact ih (m+1) { s' with delta:=s'.delta+1 } (by simp only;omega) (by simp only;omega) q2 (by simp only;omega) (by omega)
  ·rw [encOut,if_neg hlt];omega
theorem encP_len (p:List Nat):(encP p).1.length≤80000:=by
 unfold encP
 split
 ·exact Nat.zero_le _
 ·rename_i h
  split
  ·exact Nat.zero_le _
  ·rename_i h2
   have hp:∀ q∈p,q≤1114111:=fun q hq=>by
    have h2:p.all isPt=true:=by simpa using h2
    have:=List.all_eq_true.1 h2 q hq
    simp only [isPt,Bool.and_eq_true,Nat.ble_eq] at this
    exact this.1
   have hbl:=basicB_len p
   have hbc:p.countP (fun q=>decide (q<128))≤p.length:=List.countP_le_length
   refine encOut_len p _ (by omega) (by omega) hp 256 128 _ hbl (by simp) (by simp) ?_ (by omega)
   simp only
   split
   ·simp;omega
   ·simp;omega
theorem lowB_hi {b:UInt8} (h:128≤b.toNat):lowB b=b:=by
 rcases lowB_cases b with ⟨_,e⟩ | ⟨_,e⟩ | ⟨_,h2,_⟩
 ·exact e
 ·exact e
 ·omega
theorem lowB_lo {b:UInt8} (h:b.toNat<128):(lowB b).toNat<128:=by
 rcases lowB_cases b with ⟨_,e⟩ | ⟨_,e⟩ | ⟨_,h2,e⟩
 ·rw [e];exact h
 ·rw [e];exact h
 ·omega
theorem decN_lowB (n:Nat) (b0 b1 b2 b3:UInt8) (h:128≤b0.toNat):Lib.decodeN n b0.toNat (lowB b1).toNat (lowB b2).toNat (lowB b3).toNat=Lib.decodeN n b0.toNat b1.toNat b2.toNat b3.toNat:=by
 have k1:∀ b:UInt8,b.toNat / 64=2→lowB b=b:=fun b hb=>lowB_hi (by omega)
 have k2:∀ b:UInt8,¬ b.toNat / 64=2→¬ (lowB b).toNat / 64=2:=fun b hb h=>by
  by_cases h2:128≤b.toNat
  ·rw [lowB_hi h2] at h;exact hb h
  ·have:=lowB_lo (b:=b) (by omega)
   omega
 unfold Lib.decodeN
 by_cases c1:b1.toNat / 64=2
 ·rw [k1 b1 c1]
  by_cases c2:b2.toNat / 64=2
  ·rw [k1 b2 c2]
   by_cases c3:b3.toNat / 64=2
   ·rw [k1 b3 c3]
   ·have:=k2 b3 c3
    simp only [c3,this,and_false,if_false]
  ·have:=k2 b2 c2
   simp only [c2,this,and_false,false_and,if_false]
 ·have:=k2 b1 c1
  simp only [c1,this,and_false,false_and,if_false]
theorem dec_low (l:By) (hne:l≠[]):(Lib.decodeL (lower l)).2=(Lib.decodeL l).2∧(¬ ((Lib.decodeL l).1=65533∧(Lib.decodeL l).2=1)→¬ ((Lib.decodeL (lower l)).1=65533∧(Lib.decodeL (lower l)).2=1)):=by
 cases l with
 | nil=>exact absurd rfl hne
 | cons b t=>
  by_cases hb:b.toNat<128
  ·have e1:=Lib.decodeL_ascii b t hb
   have e2:Lib.decodeL (lower (b::t))=((lowB b).toNat,1):=Lib.decodeL_ascii (lowB b) (lower t) (lowB_lo hb)
   rw [e1,e2]
   refine ⟨rfl,fun _ h=>?_⟩
   have:=lowB_lo hb
   have h:=h.1
   simp only at h
   omega
  ·have e:Lib.decodeL (lower (b::t))=Lib.decodeL (b::t):=by
    rw [Lib.decodeL_N,Lib.decodeL_N,lower_len,lower_getD,lower_getD,lower_getD,lower_getD]
    have e0:lowB ((b::t).getD 0 0)=b:=lowB_hi (b:=b) (show 128≤b.toNat by omega)
    rw [e0]
    exact decN_lowB (b::t).length b ((b::t).getD 1 0) ((b::t).getD 2 0) ((b::t).getD 3 0) (show 128≤b.toNat by omega)
   rw [e]
   exact ⟨rfl,fun h=>h⟩
theorem ptsGo_low:∀ (f:Nat) (l:By),(ptsGo f l).isSome=true→(ptsGo f (lower l)).isSome=true
 | 0,_,_=>rfl
 | f+1,l,h=>by
  unfold ptsGo at h ⊢
  by_cases hl:l=[]
  ·subst hl;rfl
  ·rw [if_neg hl] at h
   rw [if_neg (by rw [lower_nil];exact hl)]
   obtain ⟨d1,d2⟩:=dec_low l hl
   split at h
   ·cases h
   ·rename_i hv
    rw [if_neg (d2 hv),Option.isSome_map,d1,lower_drop]
    rw [Option.isSome_map] at h
    exact ptsGo_low f _ h
theorem ptsB_low {l:By} (h:(ptsB l).isSome=true):(ptsB (lower l)).isSome=true:=by
 unfold ptsB at h ⊢
 rw [lower_len]
 exact ptsGo_low _ _ h
theorem lasc_loop (t:By) (ht:t.length≤1000000000):∀ (f pos:Nat) (P q:List Nat) (n:Nat),pos≤t.length→t.length-pos≤f→f<n→P.length≤pos→ptsGo f (t.drop pos)=some q→
  ∃ m,∀ (R:Type) (k0:LL→By→Nat→Option R),lasc_l0 LF n (natE P) t pos k0=k0 (natE (P++q)) t m:=by
 intro f
 induction f with
 | zero=>
  intro pos P q n h1 h2 h3 h4 h5
  obtain ⟨n,rfl⟩:∃ m,n=m+1:=⟨n-1,by omega⟩
  simp only [ptsGo,Option.some.injEq] at h5
  subst h5
  refine ⟨pos,fun R k0=>?_⟩
  rw [lasc_l0_s]
  unfold lasc_l0f
  rw [decide_eq_false (by omega),cond_false,List.append_nil]
 | succ f ih=>
  intro pos P q n h1 h2 h3 h4 h5
  obtain ⟨n,rfl⟩:∃ m,n=m+1:=⟨n-1,by omega⟩
  by_cases hp:pos<t.length
  ·have hne:t.drop pos≠[]:=by rw [ne_eq,←List.length_eq_zero_iff,List.length_drop];omega
   have hd:=Lib.decodeL_drop ⟨t.toArray⟩ pos
   have hd':Utf8.decode ⟨List.toArray t⟩ pos=Lib.decodeL (t.drop pos):=by rw [←hd]
   unfold ptsGo at h5
   rw [if_neg hne] at h5
   split at h5
   ·cases h5
   ·have hw:=Lib.decodeL_width (t.drop pos)
    have hle:=Lib.decodeL_le (t.drop pos) hne
    have hr:=Lib.decodeL_rune (t.drop pos)
    rw [List.length_drop] at hle
    rw [List.drop_drop] at h5
    generalize Lib.decodeL (t.drop pos)=dd at *
    obtain ⟨c,wd⟩:=dd
    simp only at *
    cases hq:ptsGo f (t.drop (pos+wd)) with
    | none=>rw [hq] at h5;cases h5
    | some q'=>
     rw [hq] at h5
     simp only [Option.map_some,Option.some.injEq] at h5
     subst h5
     obtain ⟨m,e⟩:=ih (pos+wd) (P++[c]) q' n (by omega) (by omega) (by omega) (by simp;omega) hq
     refine ⟨m,fun R k0=>?_⟩
     rw [lasc_l0_s]
     unfold lasc_l0f
     rw [decide_eq_true hp,cond_true,hd',natE_len,roomy_of (by omega)]
     simp only [vl,cond_true]
     have e1:wi64 (c:Int)=(c:Int):=wi64_id (by omega) (by omega)
     have hrow:natE P++[[SV.int .i64 (wi64 (c:Int))]]=natE (P++[c]):=by rw [e1,natE_app];rfl
     rw [hrow,e,List.append_assoc]
     rfl
  ·have hnil:t.drop pos=[]:=by rw [←List.length_eq_zero_iff,List.length_drop];omega
   unfold ptsGo at h5
   rw [hnil,if_pos rfl] at h5
   simp only [Option.some.injEq] at h5
   subst h5
   refine ⟨pos,fun R k0=>?_⟩
   rw [lasc_l0_s]
   unfold lasc_l0f
   rw [decide_eq_false hp,cond_false,List.append_nil]
theorem lasc_cases (s:By) (h0:small s.length=true):(∀ (R:Type) (k0:By→Int→Option R) (k1:By→Int→LL→By→Nat→Option R),lasc LF s k0 k1=k0 (toAsc s).1 ((toAsc s).2:Nat))∨
  (∃ l t m,∀ (R:Type) (k0:By→Int→Option R) (k1:By→Int→LL→By→Nat→Option R),lasc LF s k0 k1=k1 (toAsc s).1 ((toAsc s).2:Nat) l t m):=by
 have hs:=maxL h0
 have hLF:=LF_big
 unfold toAsc
 cases hp:ptsB s with
 | none=>
  refine .inl fun R k0 k1=>?_
  unfold lasc
  rw [h0,hp]
  rfl
 | some p=>
  have hrc:=runeCountL_pts hp
  have top:∀ (R:Type) (k0:By→Int→Option R) (k1:By→Int→LL→By→Nat→Option R),lasc LF s k0 k1=cond (ltI 256 (p.length:Int)) (k0 [] 3) (cond (ltI (p.length:Int) (s.length:Int)) (lasc_l0 LF LF [] (lower s) 0 (fun l'5 s'6 m'7=>cond (List.all l'5 isI64)
      (cond (((encI (List.map elI l'5)).2:Int) != (0:Int))
       (k1 ([]:List UInt8) 14 l'5 s'6 m'7)
       (cond (catOk 4 (List.length ((encI (List.map elI l'5))).1))
        (cond (small (List.length (xnB++((encI (List.map elI l'5))).1)))
         (cond (not (validL (xnB++((encI (List.map elI l'5))).1)))
         (k1 ([]:List UInt8) 14 l'5 s'6 m'7)
         (k1 (xnB++((encI (List.map elI l'5))).1) 0 l'5 s'6 m'7))
         (none))
        (none)))
      (none)))
     (cond (small (List.length (lower s)))
      (cond (not (validL (lower s)))
      (k0 ([]:List UInt8) 14)
      (k0 (lower s) 0))
      (none))):=by
   intro R k0 k1
   unfold lasc
   rw [h0,hp,hrc]
   rfl
  simp only
  by_cases h1:256<p.length
  ·rw [if_pos h1]
   refine .inl fun R k0 k1=>?_
   rw [top,ltI_t (by omega)]
   rfl
  ·rw [if_neg h1]
   by_cases h2:p.length<s.length
   ·rw [if_pos h2]
    have hlow:=ptsB_low (l:=s) (by rw [hp];rfl)
    cases hq:ptsB (lower s) with
    | none=>rw [hq] at hlow;cases hlow
    | some q=>
     have hll:=lower_len s
     obtain ⟨m,e⟩:=lasc_loop (lower s) (by omega) (lower s).length 0 [] q LF (by omega) (by omega) (by omega) (by simp) (by rw [List.drop_zero];exact hq)
     refine .inr ⟨natE q,lower s,m,fun R k0 k1=>?_⟩
     rw [top,ltI_f (by omega),cond_false,ltI_t (by omega),cond_true]
     refine Eq.trans (e R _) ?_
     have hel:=encP_len q
     rw [List.nil_append,all_isI64_nat,elI_natE,encI_nat,cond_true,catOk_t (by omega),cond_true,small_t (by rw [List.length_append];simp only [xnB,List.length_cons,List.length_nil];omega),cond_true]
     simp only
     by_cases h3:(encP q).2=0
     ·rw [h3,if_pos rfl]
      cases h4:validL (xnB++(encP q).1) with
      | true=>rfl
      | false=>rfl
     ·rw [if_neg h3]
      have:(((encP q).2:Int) != (0:Int))=true:=by simpa using h3
      rw [this]
      rfl
   ·rw [if_neg h2]
    refine .inl fun R k0 k1=>?_
    rw [top,ltI_f (by omega),cond_false,ltI_f (by omega),cond_false,small_t (by rw [lower_len];exact hs),cond_true]
    cases validL (lower s)<;>rfl
theorem lasc_sp (s:By) (h0:small s.length=true):∃ r H,lasc LF s (fun r0 r1=>rv (.tup [.s (.str r0),.s (.int .i64 r1)]) []) (fun r0 r1 l2 s3 m4=>rv (.tup [.s (.str r0),.s (.int .i64 r1)]) [.arr true 3 1 l2,.iter s3 m4])=rv r H∧
  r.stab [0,0] H = .tup [.s (.str (toAsc s).1),.s (.int .i64 ((toAsc s).2:Nat))]:=by
 rcases lasc_cases s h0 with h | ⟨l,t,m,h⟩
 ·exact ⟨_,_,h _ _ _,rfl⟩
 ·exact ⟨_,_,h _ _ _,rfl⟩
theorem hdig_spec {R:Type} {k0:Int→Option R} (b:Int) (h0:inR b 256=true):hdig LF b k0=k0 (digI (u8n b)):=by
 simp only [inR,Bool.and_eq_true,decide_eq_true_eq] at h0
 have hc:b=((u8n b).toNat:Int):=by
  unfold u8n
  simp
  omega
 generalize u8n b=c at *
 subst hc
 have hbt:=c.toNat_lt
 unfold hdig
 simp only [hdig_j1,hdig_j0,vl,digI]
 rcases dig_cases c with ⟨h1,h2,e⟩ | ⟨h1,h2,e⟩ | ⟨h1,h2,e⟩ | ⟨h1,h2,h3,e⟩
 ·have e2:wi64 (wu8 ((c.toNat:Int)-48))=((dig c:Nat):Int):=by
   rw [wu8_id (by omega) (by omega),wi64_id (by omega) (by omega)];omega
  rw [if_pos (by omega)]
  simp (disch:=omega) only [ltI_t,ltI_f,Bool.not_true,Bool.not_false,cond_false,cond_true,e2]
 ·have e2:wi64 (wi64 (wu8 ((c.toNat:Int)-97))+10)=((dig c:Nat):Int):=by
   rw [wu8_id (by omega) (by omega),wi64_id (n:=(c.toNat:Int)-97) (by omega) (by omega),wi64_id (by omega) (by omega)];omega
  rw [if_pos (by omega)]
  simp (disch:=omega) only [ltI_t,ltI_f,Bool.not_true,Bool.not_false,cond_false,cond_true,e2]
 ·have e2:wi64 (wi64 (wu8 ((c.toNat:Int)-65))+10)=((dig c:Nat):Int):=by
   rw [wu8_id (by omega) (by omega),wi64_id (n:=(c.toNat:Int)-65) (by omega) (by omega),wi64_id (by omega) (by omega)];omega
  rw [if_pos (by omega)]
  simp (disch:=omega) only [ltI_t,ltI_f,Bool.not_true,Bool.not_false,cond_false,cond_true,e2]
 ·rw [e,if_neg (by decide)]
  by_cases c1:c.toNat<48
  ·simp (disch:=omega) only [ltI_t,ltI_f,Bool.not_true,Bool.not_false,cond_false,cond_true]
  ·by_cases c2:c.toNat<65
   ·simp (disch:=omega) only [ltI_t,ltI_f,Bool.not_true,Bool.not_false,cond_false,cond_true]
   ·by_cases c3:c.toNat<97
    ·simp (disch:=omega) only [ltI_t,ltI_f,Bool.not_true,Bool.not_false,cond_false,cond_true]
    ·simp (disch:=omega) only [ltI_t,ltI_f,Bool.not_true,Bool.not_false,cond_false,cond_true]
theorem pctB_ne {b:UInt8} (r:By) (h:b≠37):pctB (b::r)=(pctB r).map (b::·):=by
 conv=>lhs;unfold pctB
 rw [if_neg h]
theorem pctB_two (x y:UInt8) (r:By):pctB (37::x::y::r)=if dig x<16∧dig y<16 then (pctB r).map (UInt8.ofNat (16*dig x+dig y)::·) else none:=by
 conv=>lhs;unfold pctB
 rw [if_pos rfl]
theorem digI_neg (x:UInt8):ltI (digI x) 0 = !(decide (dig x<16)):=by
 unfold digI
 by_cases h:dig x<16
 ·rw [if_pos h,ltI_f (by omega),decide_eq_true h];rfl
 ·rw [if_neg h,ltI_t (by omega),decide_eq_false h];rfl
theorem pctB_le:∀ (s t:By),pctB s=some t→t.length≤s.length
 | [],t,h=>by simp only [pctB,Option.some.injEq] at h;subst h;exact Nat.le_refl _
 | b::r,t,h=>by
  by_cases hb:b=37
  ·subst hb
   match r,h with
   | [],h=>cases h
   | [x],h=>cases h
   | x::y::r',h=>
    rw [pctB_two] at h
    split at h
    ·cases hq:pctB r' with
     | none=>rw [hq] at h;cases h
     | some q=>
      rw [hq] at h
      simp only [Option.map_some,Option.some.injEq] at h
      subst h
      have:=pctB_le r' q hq
      simp only [List.length_cons]
      omega
    ·cases h
  ·rw [pctB_ne _ hb] at h
   cases hq:pctB r with
   | none=>rw [hq] at h;cases h
   | some q=>
    rw [hq] at h
    simp only [Option.map_some,Option.some.injEq] at h
    subst h
    have:=pctB_le r q hq
    simp only [List.length_cons]
    omega
theorem hdec_loop (s:By) (hs:s.length≤1000000000):∀ (m i n:Nat) (acc:By),i≤s.length→s.length-i≤m→m<n→acc.length≤i→
  (∀ t,pctB (s.drop i)=some t→∀ (R:Type) (k0:LL→Option R) (k1:LL→Option R),hdec_l0 LF n s (i:Int) (acc.map u8el) k0 k1=k1 ((acc++t).map u8el))∧
  (pctB (s.drop i)=none→∃ l,∀ (R:Type) (k0:LL→Option R) (k1:LL→Option R),hdec_l0 LF n s (i:Int) (acc.map u8el) k0 k1=k0 l):=by
 intro m
 induction m with
 | zero=>
  intro i n acc hi hm hn ha
  obtain ⟨n,rfl⟩:∃ m,n=m+1:=⟨n-1,by omega⟩
  rw [List.drop_of_length_le (by omega)]
  refine ⟨fun t ht R k0 k1=>?_,fun h=>(by cases h)⟩
  simp only [pctB,Option.some.injEq] at ht
  subst ht
  rw [hdec_l0_s]
  unfold hdec_l0f
  rw [ltI_f (by omega),List.append_nil]
  rfl
 | succ m ih=>
  intro i n acc hi hm hn ha
  obtain ⟨n,rfl⟩:∃ m,n=m+1:=⟨n-1,by omega⟩
  by_cases hlt:i<s.length
  ·have e1:wi64 ((i:Int)+1)=((i+1:Nat):Int):=by rw [wi64_id (by omega) (by omega)];rfl
   have e2:wi64 ((i:Int)+2)=((i+2:Nat):Int):=by rw [wi64_id (by omega) (by omega)];rfl
   have e3:wi64 (((i+2:Nat):Int)+1)=((i+3:Nat):Int):=by rw [wi64_id (by omega) (by omega)];omega
   have hal:(acc.map u8el).length=acc.length:=List.length_map _
   have hrow:∀ b:UInt8,acc.map u8el++[[SV.int .u8 (b.toNat:Int)]]=(acc++[b]).map u8el:=fun b=>by rw [List.map_append];rfl
   have q1:(((s.getD i 0).toNat:Int) != 37) = !(s.getD i 0==37):=congrArg _ (u8_eqn _ 37 (by omega))
   rw [drop_cons s i hlt]
   by_cases h37:s.getD i 0=37
   ·by_cases h3:i+2<s.length
    ·rw [drop_cons s (i+1) (by omega),drop_cons s (i+1+1) (by omega),h37,pctB_two]
     obtain ⟨i1,i2⟩:=ih (i+3) n (acc++[UInt8.ofNat (16*dig (s.getD (i+1) 0)+dig (s.getD (i+2) 0))]) (by omega) (by omega) (by omega) (by simp;omega)
     have top:∀ (R:Type) (k0:LL→Option R) (k1:LL→Option R),hdec_l0 LF (n+1) s (i:Int) (acc.map u8el) k0 k1=cond (decide (dig (s.getD (i+1) 0)<16)&&decide (dig (s.getD (i+2) 0)<16)) (hdec_l0 LF n s ((i+3:Nat):Int) ((acc++[UInt8.ofNat (16*dig (s.getD (i+1) 0)+dig (s.getD (i+2) 0))]).map u8el) k0 k1) (k0 (acc.map u8el)):=by
      intro R k0 k1
      rw [hdec_l0_s]
      unfold hdec_l0f
      rw [ltI_t (by omega),inR_t (by omega) (by omega),bAt_nat,q1,h37,hal,e2,ltI_t (by omega),e1,inR_t (by omega) (by omega),inR_t (by omega) (by omega),bAt_nat,bAt_nat]
      simp only [cond_true,vl,Bool.not_true,cond_false,beq_self_eq_true,u8_inR,u8n_nat,digI_neg,roomy_of (show acc.length+1≤68719476736 by omega),e3]
      generalize s.getD (i+1) 0=x at *
      generalize s.getD (i+2) 0=y at *
      by_cases hx:dig x<16
      ·by_cases hy:dig y<16
       ·have w1:digI x=(dig x:Int):=by unfold digI;rw [if_pos hx]
        have w2:digI y=(dig y:Int):=by unfold digI;rw [if_pos hy]
        have w3:wi64 ((16:Int)*(dig x:Int))=((16*dig x:Nat):Int):=by rw [wi64_id (by omega) (by omega)];omega
        have w4:wi64 (((16*dig x:Nat):Int)+(dig y:Int))=((16*dig x+dig y:Nat):Int):=by rw [wi64_id (by omega) (by omega)];omega
        have w5:wu8 ((16*dig x+dig y:Nat):Int)=((UInt8.ofNat (16*dig x+dig y)).toNat:Int):=by
         rw [wu8_id (by omega) (by omega)]
         simp
         omega
        rw [decide_eq_true hx,decide_eq_true hy,w1,w2,w3,w4,w5,hrow]
        rfl
       ·rw [decide_eq_true hx,decide_eq_false hy]
        rfl
      ·rw [decide_eq_false hx]
       rfl
     by_cases hd:dig (s.getD (i+1) 0)<16∧dig (s.getD (i+2) 0)<16
     ·rw [if_pos hd]
      have hc:(decide (dig (s.getD (i+1) 0)<16)&&decide (dig (s.getD (i+2) 0)<16))=true:=by rw [decide_eq_true hd.1,decide_eq_true hd.2];rfl
      refine ⟨fun t ht R k0 k1=>?_,fun h=>?_⟩
      ·cases hq:pctB (s.drop (i+3)) with
       | none=>rw [show i+1+1+1=i+3 from rfl,hq] at ht;cases ht
       | some q=>
        rw [show i+1+1+1=i+3 from rfl,hq] at ht
        simp only [Option.map_some,Option.some.injEq] at ht
        subst ht
        rw [top,hc,cond_true,i1 q hq,List.append_assoc]
        rfl
      ·cases hq:pctB (s.drop (i+3)) with
       | some q=>rw [show i+1+1+1=i+3 from rfl,hq] at h;cases h
       | none=>
        obtain ⟨l,e⟩:=i2 hq
        exact ⟨l,fun R k0 k1=>by rw [top,hc,cond_true,e]⟩
     ·rw [if_neg hd]
      have hc:(decide (dig (s.getD (i+1) 0)<16)&&decide (dig (s.getD (i+2) 0)<16))=false:=by
       rw [Bool.eq_false_iff,ne_eq,Bool.and_eq_true,decide_eq_true_eq,decide_eq_true_eq];exact hd
      exact ⟨fun t h=>(by cases h),fun _=>⟨_,fun R k0 k1=>by rw [top,hc,cond_false]⟩⟩
    ·have hnone:pctB (s.getD i 0::s.drop (i+1))=none:=by
      rw [h37]
      cases hd:s.drop (i+1) with
      | nil=>rfl
      | cons x r=>
       cases r with
       | nil=>rfl
       | cons y r'=>
        exfalso
        have:=congrArg List.length hd
        rw [List.length_drop,List.length_cons,List.length_cons] at this
        omega
     rw [hnone]
     refine ⟨fun t h=>(by cases h),fun _=>⟨acc.map u8el,fun R k0 k1=>?_⟩⟩
     rw [hdec_l0_s]
     unfold hdec_l0f
     rw [ltI_t (by omega),inR_t (by omega) (by omega),bAt_nat,q1,h37,e2,ltI_f (by omega)]
     rfl
   ·rw [pctB_ne _ h37]
    obtain ⟨i1,i2⟩:=ih (i+1) n (acc++[s.getD i 0]) (by omega) (by omega) (by omega) (by simp;omega)
    have hb37:(s.getD i 0==37)=false:=by simpa using h37
    have top:∀ (R:Type) (k0:LL→Option R) (k1:LL→Option R),hdec_l0 LF (n+1) s (i:Int) (acc.map u8el) k0 k1=hdec_l0 LF n s ((i+1:Nat):Int) ((acc++[s.getD i 0]).map u8el) k0 k1:=by
     intro R k0 k1
     rw [hdec_l0_s]
     unfold hdec_l0f
     rw [ltI_t (by omega),inR_t (by omega) (by omega),bAt_nat,q1,hb37,hal,roomy_of (by omega),e1,hrow]
     rfl
    refine ⟨fun t ht R k0 k1=>?_,fun h=>?_⟩
    ·cases hq:pctB (s.drop (i+1)) with
     | none=>rw [hq] at ht;cases ht
     | some q=>
      rw [hq] at ht
      simp only [Option.map_some,Option.some.injEq] at ht
      subst ht
      rw [top,i1 q hq,List.append_assoc]
      rfl
    ·cases hq:pctB (s.drop (i+1)) with
     | some q=>rw [hq] at h;cases h
     | none=>
      obtain ⟨l,e⟩:=i2 hq
      exact ⟨l,fun R k0 k1=>by rw [top,e]⟩
  ·rw [List.drop_of_length_le (by omega)]
   refine ⟨fun t ht R k0 k1=>?_,fun h=>(by cases h)⟩
   simp only [pctB,Option.some.injEq] at ht
   subst ht
   rw [hdec_l0_s]
   unfold hdec_l0f
   rw [ltI_f (by omega),List.append_nil]
   rfl
theorem hdec_sp (s:By) (h0:small s.length=true):∃ r H,hdec LF s (fun r0 r1 l2=>rv (.tup [.s (.str r0),.s (.bool r1)]) [.arr false 5 1 l2])=rv r H∧
  r.stab [0,0] H = .tup [.s (.str (pctV s)),.s (.bool (pctB s).isSome)]:=by
 have hs:=maxL h0
 have hLF:=LF_big
 have hroom:((decide ((0:Int)≤(s.length:Int)))&&(roomy (Int.toNat (s.length:Int))))=true:=by
  rw [Int.toNat_natCast,roomy_of (by omega),decide_eq_true (by omega)];rfl
 obtain ⟨p1,p2⟩:=hdec_loop s hs s.length 0 LF [] (by omega) (by omega) (by omega) (by simp)
 rw [List.drop_zero] at p1 p2
 unfold pctV
 cases hp:pctB s with
 | none=>
  obtain ⟨l,e⟩:=p2 hp
  refine ⟨.tup [.s (.str []),.s (.bool false)],[.arr false 5 1 l],?_,rfl⟩
  unfold hdec
  rw [hroom,cond_true]
  exact e _ _ _
 | some t=>
  refine ⟨.tup [.s (.str t),.s (.bool true)],[.arr false 5 1 (t.map u8el)],?_,rfl⟩
  unfold hdec
  rw [hroom,cond_true]
  refine Eq.trans (p1 t hp _ _ _) ?_
  rw [List.nil_append,all_isU8,map_elU8]
  rfl
abbrev aggH (kd:Int) (nm:By) (v4 a0 a1 a2 a3 a4 a5 a6 a7:Int):List PV:=[.s (.int .i64 kd),.s (.str nm),.s (.int .u32 v4),.s (.int .u16 a0),.s (.int .u16 a1),.s (.int .u16 a2),.s (.int .u16 a3),.s (.int .u16 a4),.s (.int .u16 a5),.s (.int .u16 a6),.s (.int .u16 a7)]
def hostA (h:HostV):PV:=.agg [.s (.int .i64 (h.kind:Nat)),.s (.str h.name),.s (.int .u32 (h.v4:Nat)),.s (.int .u16 (h.v6.getD 0 0:Nat)),.s (.int .u16 (h.v6.getD 1 0:Nat)),.s (.int .u16 (h.v6.getD 2 0:Nat)),.s (.int .u16 (h.v6.getD 3 0:Nat)),.s (.int .u16 (h.v6.getD 4 0:Nat)),.s (.int .u16 (h.v6.getD 5 0:Nat)),.s (.int .u16 (h.v6.getD 6 0:Nat)),.s (.int .u16 (h.v6.getD 7 0:Nat))]
abbrev haK0:Int→Int→Int→Int→Int→Int→Int→Int→Int→Int→Int→LL→Option (PV × List Blk × Unit):=fun r0 r1 r2 r3 r4 r5 r6 r7 r8 r9 n10 l11=>rv (.tup [.agg (aggH r0 [] 0 r1 r2 r3 r4 r5 r6 r7 r8),.s (.int .i64 r9)]) [.box (aggH n10 [] 0 r1 r2 r3 r4 r5 r6 r7 r8),.arr false 26 1 l11]
abbrev haK1:Unit→Option (PV × List Blk × Unit):=fun _=>rv (.tup [.agg (aggH 0 [] 0 0 0 0 0 0 0 0 0),.s (.int .i64 14)]) [.box (aggH 0 [] 0 0 0 0 0 0 0 0 0)]
theorem last_eq (s:By) (c:UInt8) (h:s≠[]):(s.getLast? = some c)↔s.getD (s.length-1) 0=c:=by
 have:0<s.length:=List.length_pos_iff.2 h
 rw [List.getLast?_eq_getElem?,List.getD_eq_getElem?_getD,List.getElem?_eq_getElem (by omega)]
 simp
theorem haddr_sp (s:By) (h0:small s.length=true) (h1:isBr s=true):∃ r H,haddr LF s haK0 haK1=rv r H∧r.stab [0,0] H = .tup [hostA (addrH s).1,.s (.int .i64 ((addrH s).2:Nat))]:=by
 have hs:=maxL h0
 have hne:s≠[]:=by rintro rfl;cases h1
 have hl:0<s.length:=List.length_pos_iff.2 hne
 have hb0:s.getD 0 0=91:=by
  cases s with
  | nil=>exact absurd rfl hne
  | cons b t=>
   simp only [isBr,List.isPrefixOf,Bool.and_true,beq_iff_eq] at h1
   exact h1.symm
 have e1:wi64 ((s.length:Int)-1)=((s.length-1:Nat):Int):=by rw [wi64_id (by omega) (by omega)];omega
 have q1:(((s.getD (s.length-1) 0).toNat:Int)==93)=(s.getD (s.length-1) 0==93):=u8_eqn _ 93 (by omega)
 have bad:∃ r H,haK1 ()=rv r H∧r.stab [0,0] H = .tup [hostA noHost,.s (.int .i64 14)]:=⟨_,_,rfl,rfl⟩
 unfold haddr addrH
 simp only [vl,e1]
 rw [inR_t (by omega) (by omega),bAt_nat,q1,cond_true]
 by_cases h93:s.getD (s.length-1) 0=93
 ·have h2:2≤s.length:=by
   apply Classical.byContradiction
   intro h
   rw [show s.length-1=0 by omega,hb0] at h93
   exact absurd h93 (by decide)
  rw [if_pos ⟨(last_eq s 93 hne).2 h93,h2⟩,h93,beq_self_eq_true,cond_true,show (1:Int)=((1:Nat):Int) from rfl,sub3_t (by omega) (by omega) (by omega),cond_true,cut_nat]
  have hlt:((s.take (s.length-1)).drop 1).length≤s.length:=by rw [List.length_drop,List.length_take];omega
  rw [small_t (by omega),cond_true]
  unfold v6c
  cases hv:v6B ((s.take (s.length-1)).drop 1) with
  | none=>exact ⟨_,_,rfl,rfl⟩
  | some a=>exact ⟨_,_,rfl,rfl⟩
 ·rw [if_neg (fun h=>h93 ((last_eq s 93 hne).1 h.1)),show (s.getD (s.length-1) 0==93)=false by simpa using h93]
  exact bad
theorem strE_set (l:List By) (i:Nat) (y:By) (h:i<l.length):List.set (strE l) i (putAt ((strE l).getD i []) 0 [SV.str y])=strE (l.set i y):=by
 have e:(strE l).getD i []=[SV.str (l.getD i [])]:=by
  unfold strE
  rw [List.getD_eq_getElem?_getD,List.getElem?_map,List.getElem?_eq_getElem h,List.getD_eq_getElem?_getD,List.getElem?_eq_getElem h]
  rfl
 rw [e]
 unfold strE
 rw [List.map_set]
 rfl
theorem hparse_loop (N:Nat) (hN:N≤1000000001):∀ (rest:List By) (done:List By) (n:Nat),done.length+rest.length=N→rest.length<n→(∀ x∈rest,x.length≤1000000000)→
  ((asciis rest).2=0→∀ (R:Type) (k0:Int→LL→Option R) (k1:Nat→LL→Option R),hparse_l0 LF n N (N:Int) (done.length:Int) (strE (done++rest)) k0 k1=k1 N (strE (done++(asciis rest).1)))∧
  ((asciis rest).2≠0→∃ l,∀ (R:Type) (k0:Int→LL→Option R) (k1:Nat→LL→Option R),hparse_l0 LF n N (N:Int) (done.length:Int) (strE (done++rest)) k0 k1=k0 ((asciis rest).2:Nat) l):=by
 intro rest
 induction rest with
 | nil=>
  intro done n hd hn hx
  obtain ⟨n,rfl⟩:∃ m,n=m+1:=⟨n-1,by simp at hn;omega⟩
  simp only [List.length_nil] at hd
  refine ⟨fun _ R k0 k1=>?_,fun h=>absurd rfl h⟩
  rw [hparse_l0_s]
  unfold hparse_l0f
  rw [ltI_f (by omega)]
  rfl
 | cons x r ih=>
  intro done n hd hn hx
  simp only [List.length_cons] at hd hn
  obtain ⟨n,rfl⟩:∃ m,n=m+1:=⟨n-1,by omega⟩
  have e1:wi64 ((done.length:Int)+1)=((done.length+1:Nat):Int):=by rw [wi64_id (by omega) (by omega)];rfl
  have hlen:(done++x::r).length=N:=by rw [List.length_append,List.length_cons];omega
  have hgx:(done++x::r).getD done.length []=x:=by
   rw [List.getD_eq_getElem?_getD,List.getElem?_append_right (Nat.le_refl _),Nat.sub_self]
   rfl
  have hset:∀ y,(done++x::r).set done.length y=(done++[y])++r:=fun y=>by
   rw [List.set_append_right _ _ (Nat.le_refl _),Nat.sub_self,List.set_cons_zero,List.append_assoc]
   rfl
  have top:∀ (R:Type) (k0:Int→LL→Option R) (k1:Nat→LL→Option R),hparse_l0 LF (n+1) N (N:Int) (done.length:Int) (strE (done++x::r)) k0 k1=cond (((toAsc x).2:Int) != 0) (k0 ((toAsc x).2:Nat) (strE (done++x::r))) (hparse_l0 LF n N (N:Int) ((done.length+1:Nat):Int) (strE ((done++[(toAsc x).1])++r)) k0 k1):=by
   intro R k0 k1
   rw [hparse_l0_s]
   unfold hparse_l0f
   rw [ltI_t (by omega),inR_t (by omega) (by omega),Int.toNat_natCast,Nat.zero_add,okE_strE (by omega),gX_strE,hgx]
   simp only [vl,cond_true]
   rw [small_t (hx x (by simp)),strE_len,decide_eq_true (show done.length<(done++x::r).length by omega),strE_set _ _ _ (by omega),hset,e1]
   rfl
  unfold asciis
  obtain ⟨i1,i2⟩:=ih (done++[(toAsc x).1]) n (by simp;omega) (by omega) (fun y hy=>hx y (by simp [hy]))
  have hdl:(done++[(toAsc x).1]).length=done.length+1:=by simp
  rw [hdl] at i1 i2
  by_cases h:(toAsc x).2=0
  ·rw [if_pos h]
   have hb:(((toAsc x).2:Int) != 0)=false:=by rw [h];rfl
   refine ⟨fun h2 R k0 k1=>?_,fun h2=>?_⟩
   ·rw [top,hb,cond_false,i1 h2,List.append_assoc]
    rfl
   ·obtain ⟨l,e⟩:=i2 h2
    exact ⟨l,fun R k0 k1=>by rw [top,hb,cond_false,e]⟩
  ·rw [if_neg h]
   have hb:(((toAsc x).2:Int) != 0)=true:=by simpa using h
   exact ⟨fun h2=>absurd h2 h,fun _=>⟨_,fun R k0 k1=>by rw [top,hb,cond_true]⟩⟩
theorem join_le (p:By) (m:Nat):∀ l:List By,(∀ x∈l,x.length≤m)→(Lib.join l p).length≤(m+p.length)*l.length
 | [],_=>by simp [Lib.join]
 | [x],h=>by
  have:=h x (by simp)
  rw [show Lib.join [x] p=x by simp [Lib.join,Lib.joinTail]]
  simp
  omega
 | x::y::r,h=>by
  have h1:=h x (by simp)
  have h2:=join_le p m (y::r) (fun z hz=>h z (by simp [hz]))
  rw [join_cons2,List.length_append,List.length_append,List.length_cons,Nat.mul_add,Nat.mul_one]
  omega
theorem all_isS_strE (l:List By):(strE l).all isS=true:=by
 unfold strE
 rw [List.all_map,List.all_eq_true]
 intro x _
 rfl
theorem tsuf_dot (s:By):tsuf s [46]=trimDot s:=by
 unfold tsuf trimDot
 by_cases h:s.getLast? = some 46
 ·obtain ⟨t,rfl⟩:=List.getLast?_eq_some_iff.1 h
  rw [if_pos h,if_pos (by rw [List.isSuffixOf_iff_suffix];exact ⟨t,rfl⟩)]
  simp
 ·rw [if_neg h,if_neg]
  rw [List.isSuffixOf_iff_suffix]
  rintro ⟨t,ht⟩
  exact h (List.getLast?_eq_some_iff.2 ⟨t,ht.symm⟩)
abbrev hpK0:Int→By→Int→Int→Int→Int→Int→Int→Int→Int→Int→Int→Int→By→Int→Int→Int→Int→Int→Int→Int→Int→Int→Option (PV × List Blk × Unit):=fun r0 r1 r2 r3 r4 r5 r6 r7 r8 r9 r10 r11 n12 s13 n14 n15 n16 n17 n18 n19 n20 n21 n22=>rv (.tup [.agg (aggH r0 r1 r2 r3 r4 r5 r6 r7 r8 r9 r10),.s (.int .i64 r11)]) [.box (aggH n12 s13 n14 n15 n16 n17 n18 n19 n20 n21 n22)]
abbrev hpK1:Int→By→Int→Int→By→LL→Option (PV × List Blk × Unit):=fun r0 r1 r2 n3 s4 l5=>rv (.tup [.agg (aggH r0 r1 0 0 0 0 0 0 0 0 0),.s (.int .i64 r2)]) [.box (aggH n3 s4 0 0 0 0 0 0 0 0 0),.arr false 9 1 l5]
theorem hparse_sp (s:By) (h0:small s.length=true):∃ r H,hparse LF s hpK0 hpK1=rv r H∧r.stab [0,0] H = .tup [hostA (parseH s).1,.s (.int .i64 ((parseH s).2:Nat))]:=by
 have hs:=maxL h0
 have hLF:=LF_big
 have bad:∀ e:Nat,∃ r H,hpK0 0 [] 0 0 0 0 0 0 0 0 0 (e:Int) 0 [] 0 0 0 0 0 0 0 0 0=rv r H∧r.stab [0,0] H = .tup [hostA noHost,.s (.int .i64 (e:Nat))]:=fun e=>⟨_,_,rfl,rfl⟩
 have bad2:∀ (e:Nat) (l:LL),∃ r H,hpK1 0 [] (e:Int) 0 [] l=rv r H∧r.stab [0,0] H = .tup [hostA noHost,.s (.int .i64 (e:Nat))]:=fun e l=>⟨_,_,rfl,rfl⟩
 by_cases h1:1024<s.length
 ·have e:parseH s=(noHost,3):=by unfold parseH;rw [if_pos h1]
  rw [e]
  unfold hparse
  rw [ltI_t (by omega),cond_true]
  exact bad 3
 ·have hbr:([91]:By).isPrefixOf s=decide (s.head? = some 91):=by
   cases s with
   | nil=>rfl
   | cons b t=>
    simp only [List.isPrefixOf,Bool.and_true,List.head?_cons,Option.some.injEq]
    rw [Bool.eq_iff_iff,beq_iff_eq,decide_eq_true_eq]
    exact eq_comm
  by_cases h2:s.head? = some 91
  ·have hb:([91]:By).isPrefixOf s=true:=by rw [hbr,decide_eq_true h2]
   have e:parseH s=addrH s:=by unfold parseH addrH;rw [if_neg h1,if_pos h2]<;>rfl
   rw [e]
   unfold hparse
   rw [ltI_f (by omega),cond_false,h0,cond_true,hb,cond_true,cond_true,show isBr s=true from hb,cond_true]
   exact ⟨_,_,rfl,rfl⟩
  ·have hb:([91]:By).isPrefixOf s=false:=by rw [hbr,decide_eq_false h2]
   unfold hparse
   rw [ltI_f (by omega),cond_false,h0,cond_true,hb,cond_false,cond_true]
   cases hp:pctB s with
   | none=>
    have e:parseH s=(noHost,14):=by unfold parseH;rw [if_neg h1,if_neg h2,hp]
    rw [e]
    exact bad 14
   | some t=>
    have htl:t.length≤s.length:=pctB_le s t hp
    have hv:pctV s=t:=by unfold pctV;rw [hp];rfl
    rw [hv,small_t (by omega)]
    simp only [Option.isSome_some,Bool.not_true,cond_false,cond_true,vl]
    rw [tsuf_dot]
    have htd:(trimDot t).length≤t.length:=by unfold trimDot;split<;>simp
    have hP:parseH s=if numericB (trimDot t) then (match pnB (trimDot t) with
      | some v=>(⟨2,[],v,z8⟩,0)
      | none=>(noHost,14))
     else if (asciis (pcs 46 (trimDot t))).2=0 then (
      let name:=Lib.join (asciis (pcs 46 (trimDot t))).1 [46]
      if 253<name.length then (noHost,3) else if numericB name then (noHost,14) else (⟨1,name,0,z8⟩,0))
     else (noHost,(asciis (pcs 46 (trimDot t))).2):=by
     unfold parseH
     rw [if_neg h1,if_neg h2,hp]
     rfl
    rw [hP]
    generalize trimDot t=u at *
    rw [small_t (by omega),cond_true]
    cases hn:numericB u with
    | true=>
     rw [if_pos rfl,cond_true,cond_true]
     cases hq:pnB u with
     | none=>exact bad 14
     | some v=>exact ⟨_,_,rfl,rfl⟩
    | false=>
     rw [if_neg (by simp),cond_false,cond_true,show ((1:Nat)==1)=true from rfl,cond_true]
     have hc:([46]:By).getD 0 0=46:=rfl
     rw [hc]
     have hpl:=pcs_len 46 u
     have hcl:=count_le 46 u
     obtain ⟨i1,i2⟩:=hparse_loop (pcs 46 u).length (by omega) (pcs 46 u) [] LF (by simp) (by omega) (fun x hx=>by have:=(pcs_mem hx).2;omega)
     rw [List.nil_append,List.length_nil] at i1 i2
     by_cases hz:(asciis (pcs 46 u)).2=0
     ·rw [if_pos hz]
      obtain ⟨a1,a2⟩:=asciis_ok _ hz
      have hjl:=join_le [46] 63 (asciis (pcs 46 u)).1 (fun x hx=>(validL_VL (a1 x hx)).le)
      have he:∀ {R:Type} (K0:Int→LL→Option R) (K1:Nat→LL→Option R),hparse_l0 LF LF (pcs 46 u).length ((pcs 46 u).length:Int) 0 (strE (pcs 46 u)) K0 K1=K1 (pcs 46 u).length (strE (asciis (pcs 46 u)).1):=fun K0 K1=>i1 hz _ K0 K1
      rw [he]
      have hA:(asciis (pcs 46 u)).1.length≤1025:=by omega
      have htk:List.take (pcs 46 u).length (List.drop 0 (strE (asciis (pcs 46 u)).1))=strE (asciis (pcs 46 u)).1:=by
       rw [List.drop_zero,List.take_of_length_le (by rw [strE_len];omega)]
      have hmul:(63+([46]:By).length)*(asciis (pcs 46 u)).1.length≤64*1025:=Nat.mul_le_mul (by simp) hA
      rw [htk,all_isS_strE,elS_strE,strE_len,small_t (by omega),small_t (by omega)]
      simp only [cond_true]
      generalize Lib.join (asciis (pcs 46 u)).1 [46]=name at *
      by_cases h253:253<name.length
      ·rw [if_pos h253,ltI_t (by omega),cond_true]
       exact bad2 3 _
      ·rw [if_neg h253,ltI_f (by omega),cond_false]
       cases hnn:numericB name with
       | true=>exact bad2 14 _
       | false=>exact ⟨_,_,rfl,rfl⟩
     ·rw [if_neg hz]
      obtain ⟨l,e⟩:=i2 hz
      have he:∀ {R:Type} (K0:Int→LL→Option R) (K1:Nat→LL→Option R),hparse_l0 LF LF (pcs 46 u).length ((pcs 46 u).length:Int) 0 (strE (pcs 46 u)) K0 K1=K0 ((asciis (pcs 46 u)).2:Nat) l:=fun K0 K1=>e _ K0 K1
      rw [he]
      exact bad2 _ _
theorem hvn_loop {R:Type} {k0 k1:Unit→Option R}:∀ l:List By,(∀ x∈l,x.length≤1000000000)→hvn_g0 LF l k0 k1=if l.all validL then k0 () else k1 ()
 | [],_=>rfl
 | x::r,h=>by
  rw [hvn_g0_s]
  unfold hvn_g0f
  rw [small_t (h x (by simp)),cond_true,List.all_cons]
  have ih:=hvn_loop (k0:=k0) (k1:=k1) r (fun y hy=>h y (by simp [hy]))
  cases validL x with
  | true=>rw [Bool.true_and];exact ih
  | false=>rfl
theorem hvn_sp (s:By) (h0:small s.length=true):∃ r H,hvn LF s (fun _=>rv (.s (.bool false)) [.box [.s (.bool false)]]) (fun r0 b1=>rv (.s (.bool r0)) [.box [.s (.bool b1)],.box [.bad],.box [.bad],.box [.bad]])=rv r H∧r.stab [] H = .s (.bool (validN s)):=by
 have hs:=maxL h0
 unfold hvn hvn_e1 validN
 by_cases h1:253<s.length
 ·rw [ltI_t (by omega),show Nat.ble s.length 253=false by rw [Bool.eq_false_iff,ne_eq,Nat.ble_eq];omega]
  exact ⟨_,_,rfl,rfl⟩
 ·rw [ltI_f (by omega),cond_false,h0,cond_true,show Nat.ble s.length 253=true by rw [Nat.ble_eq];omega]
  cases h2:numericB s with
  | true=>exact ⟨_,_,rfl,rfl⟩
  | false=>
   rw [cond_false,show ((1:Nat)==1&&(0:Int)==(0:Int))=true from rfl,show ([46]:By).getD 0 0=46 from rfl,Bool.and_true,cond_true,hvn_loop _ (fun x hx=>by have:=(pcs_mem hx).2;omega)]
   cases h3:(pcs 46 s).all validL with
   | true=>exact ⟨_,_,rfl,rfl⟩
   | false=>exact ⟨_,_,rfl,rfl⟩
theorem hlab_spec {R:Type} {k0:Int→Option R} (s:By) (h0:small s.length=true):hlab LF s k0=k0 (labelsN s:Nat):=by
 have hs:=maxL h0
 have hc:=count_le 46 s
 unfold hlab labelsN
 rw [h0,cond_true]
 cases validN s with
 | false=>rfl
 | true=>
  rw [show ([46]:By).getD 0 0=46 from rfl,if_pos rfl]
  simp only [vl]
  rw [wi64_id (by omega) (by omega)]
  rfl
theorem hcov_spec {R:Type} {k0:Bool→Option R} (p s:By) (h0:small p.length=true) (h1:small s.length=true):hcov LF p s k0=k0 (coversN p s):=by
 have hp:=maxL h0
 unfold hcov coversN
 rw [h0,h1,catOk_t (by omega)]
 cases validN p with
 | false=>rfl
 | true=>
  cases validN s with
  | false=>rfl
  | true=>
   cases (p==s) with
   | true=>rfl
   | false=>rfl
theorem lsseq_spec {R:Type} {k0:By→By→Int→Option R} (t p:By) (n:Int):lsseq LF t p n k0=k0 t p n:=rfl
theorem sseq_spec {R:Type} {k0:By→By→Option R} (t p:By):sseq LF t p k0=k0 t p:=rfl
theorem sseqf_loop {σ R:Type} (yh:Yh σ) (c:UInt8):∀ (m:Nat) (t:By) (n:Nat) (s s':σ),t.length≤m→t.length≤1000000000→m<n→seqRun yh ((pcs c t).map fun x=>([.s (.str x)]:List PV)) s=some s'→
  ∃ t' , (∃ s0:σ,∃ b:Bool,yh [.s (.str t')] s0=some (b,s')∧∀ (k0 k1:By→By→Int→σ→Option R),sseqf_l1 yh LF n [c] t 0 s k0 k1=k0 [c] t' 0 s0)∨(∀ (k0 k1:By→By→Int→σ→Option R),sseqf_l1 yh LF n [c] t 0 s k0 k1=k1 [c] t' 0 s'):=by
 intro m
 induction m with
 | zero=>
  intro t n s s' ht ht2 hn h
  obtain rfl:=List.length_eq_zero_iff.1 (Nat.le_zero.1 ht)
  obtain ⟨n,rfl⟩:∃ m,n=m+1:=⟨n-1,by omega⟩
  rw [pcs_none (by simp)] at h
  simp only [List.map_cons,List.map_nil,seqRun] at h
  refine ⟨[],.inl ⟨s,?_⟩⟩
  have e:∀ (k0 k1:By→By→Int→σ→Option R),sseqf_l1 yh LF (n+1) [c] [] 0 s k0 k1=k0 [c] [] 0 s:=fun k0 k1=>by
   rw [sseqf_l1_s]
   unfold sseqf_l1f
   rw [index_none (by simp)]
   rfl
  cases hy:yh [.s (.str [])] s with
  | none=>rw [hy] at h;cases h
  | some q=>
   obtain ⟨b,s1⟩:=q
   rw [hy] at h
   have:s1=s':=by cases b<;>simpa using h
   subst this
   exact ⟨b,rfl,e⟩
 | succ m ih=>
  intro t n s s' ht ht2 hn h
  obtain ⟨n,rfl⟩:∃ m,n=m+1:=⟨n-1,by omega⟩
  rcases split_first c t with hc | ⟨p,r,rfl,hc⟩
  ·rw [pcs_none hc] at h
   simp only [List.map_cons,List.map_nil,seqRun] at h
   refine ⟨t,.inl ⟨s,?_⟩⟩
   have e:∀ (k0 k1:By→By→Int→σ→Option R),sseqf_l1 yh LF (n+1) [c] t 0 s k0 k1=k0 [c] t 0 s:=fun k0 k1=>by
    rw [sseqf_l1_s]
    unfold sseqf_l1f
    rw [index_none hc,small_t ht2]
    rfl
   cases hy:yh [.s (.str t)] s with
   | none=>rw [hy] at h;cases h
   | some q=>
    obtain ⟨b,s1⟩:=q
    rw [hy] at h
    have:s1=s':=by cases b<;>simpa using h
    subst this
    exact ⟨b,rfl,e⟩
  ·rw [pcs_app hc] at h
   simp only [List.map_cons,seqRun] at h
   have hlen:(p++c::r).length=p.length+r.length+1:=by rw [List.length_append,List.length_cons];omega
   have e1:wi64 ((p.length:Int)+0)=((p.length:Nat):Int):=by rw [wi64_id (by omega) (by omega)];omega
   have e2:wi64 ((p.length:Int)+(([c]:By).length:Int))=((p.length+1:Nat):Int):=by
    rw [wi64_id (by simp;omega) (by simp;omega)];simp
   have e3:cut (p++c::r) 0 (p.length:Int)=p:=by rw [cut_zero,Int.toNat_natCast,List.take_left]
   have e4:cut (p++c::r) ((p.length+1:Nat):Int) ((p++c::r).length:Int)=r:=by
    rw [cut_all,Int.toNat_natCast,show p++c::r=(p++[c])++r by simp,List.drop_left' (by simp)]
   have top:∀ (k0 k1:By→By→Int→σ→Option R),sseqf_l1 yh LF (n+1) [c] (p++c::r) 0 s k0 k1=ydK (yh [.s (.str p)] s) fun b s1=>cond (not b) (k1 [c] (p++c::r) 0 s1) (sseqf_l1 yh LF n [c] r 0 s1 k0 k1):=fun k0 k1=>by
    rw [sseqf_l1_s]
    unfold sseqf_l1f
    rw [index_app hc,small_t ht2,cond_true,ltI_f (by omega),cond_false]
    simp only [vl,e1,e2,e3,e4]
    rw [sub3_t (by omega) (by omega) (by omega),cond_true,sub3_t (by omega) (by omega) (by omega)]
    rfl
   cases hy:yh [.s (.str p)] s with
   | none=>rw [hy] at h;cases h
   | some q=>
    obtain ⟨b,s1⟩:=q
    rw [hy] at h top
    cases b with
    | false=>
     have:s1=s':=by simpa using h
     subst this
     exact ⟨p++c::r,.inr fun k0 k1=>by rw [top];rfl⟩
    | true=>
     simp only at h
     obtain ⟨t',⟨s0,b,e,f⟩ | f⟩:=ih r n s1 s' (by omega) (by omega) (by omega) h
     ·exact ⟨t',.inl ⟨s0,b,e,fun k0 k1=>by rw [top];exact f k0 k1⟩⟩
     ·exact ⟨t',.inr fun k0 k1=>by rw [top];exact f k0 k1⟩
theorem sseqf_spec {σ R:Type} (yh:Yh σ) (p t:By) (n:Int) (s s':σ) (h:(small t.length&&(p.length==1&&n==0))=true) (hr:seqRun yh ((pcs (p.getD 0 0) t).map fun x=>([.s (.str x)]:List PV)) s=some s') :
  ∃ t',∀ (k0:By→By→Int→σ→Option R),sseqf yh LF p t n s k0=k0 p t' n s':=by
 have hLF:=LF_big
 simp only [Bool.and_eq_true,beq_iff_eq] at h
 obtain ⟨h1,h2,rfl⟩:=h
 obtain ⟨c,rfl⟩:=List.length_eq_one_iff.1 h2
 have ht:=maxL h1
 obtain ⟨t',⟨s0,b,e,f⟩ | f⟩:=sseqf_loop (R:=R) yh c t.length t LF s s' (Nat.le_refl _) ht (by omega) hr
 ·refine ⟨t',fun k0=>?_⟩
  unfold sseqf
  rw [show (((([c]:By).length:Nat):Int)==0)=false from rfl,cond_false]
  refine Eq.trans (f _ _) ?_
  rw [e]
  rfl
 ·refine ⟨t',fun k0=>?_⟩
  unfold sseqf
  rw [show (((([c]:By).length:Nat):Int)==0)=false from rfl,cond_false]
  exact f _ _
end Go.Proofs.YtokehocipgepnaaGreatDoor.E
namespace Go.Proofs.YtokehocipgepnaaGreatDoor.E
open Go Go.Proofs Go.ChangeShapes Go.WideShapes Go.ChangeAt Go.RowKit
set_option linter.unusedVariables false
set_option linter.unusedSimpArgs false
set_option maxRecDepth 100000
theorem own:ownKnob Tryz.prog.godebug=none:=by kernel_rfl
theorem laidOut:laidOutB Tryz.prog=true:=by kernel_rfl
noncomputable def gTy (g:Nat):Nat:=match Tryz.prog.globals[g]? with | some x=>x.type | none=>0
noncomputable def dbT:Nat:=gTy 5
noncomputable def powT:Nat:=gTy 3
noncomputable def accT:Nat:=gTy 1
noncomputable def firT:Nat:=gTy 0
noncomputable def accE:Nat:=match Tryz.prog.underlying accT with | some (.array _ e)=>e | _=>0
noncomputable def accF:Array Field:=match Tryz.prog.underlying accE with | some (.struct fs)=>fs | _=>#[]
noncomputable def accF0:Field:=match accF.toList with | a::_=>a | _=>default
noncomputable def accF1:Field:=match accF.toList with | _::a::_=>a | _=>default
theorem accF_0:accF[0]? = some accF0:=by unfold accF0 accF accE accT gTy;kernel_rfl
theorem accF_1:accF[1]? = some accF1:=by unfold accF1 accF accE accT gTy;kernel_rfl
def laidH:List (String × DataW Unit):=[("math/bits.deBruijn32tab", Rows.laid_math_bits_deBruijn32tab), ("math/bits.deBruijn64tab", Rows.laid_math_bits_deBruijn64tab), ("internal/strconv.uint64pow10", Rows.laid_internal_strconv_uint64pow10), ("unicode/utf8.acceptRanges", Rows.laid_unicode_utf8_acceptRanges), ("unicode/utf8.first", Rows.laid_unicode_utf8_first)]
theorem var_cells {W:World} {n:String} {g:Nat} {cs:Array Value} (hg:Tryz.prog.globalNamed n=some g) (h:W.var? Tryz.prog n=some cs):∃ e x,W.heap[g]? = some (.cells cs e x):=by
 unfold World.var? at h
 rw [hg,Option.bind_some] at h
 split at h
 ·rename_i c e x hh
  simp only [Option.some.injEq] at h
  subst h
  exact ⟨e,x,hh⟩
 ·cases h
theorem tab_cells {W:World} {n:String} {g t e m:Nat} {k:IntKind} {zs:List Int} (hg:Tryz.prog.globalNamed n=some g) (hty:(Tryz.prog.globals[g]?).map (·.type)=some t) (ht:Tryz.prog.underlying t=some (.array m e)) (he:Tryz.prog.underlying e=some (.int k)) (hce:Tryz.prog.cellsOf e=1) (hct:Tryz.prog.cellsOf t=m)
  (h:Lib.VarReads Tryz.prog W n (Lib.tabData k zs)):∃ e x,W.heap[g]? = some (.cells (zs.map fun z=>Value.int k z).toArray e x):=by
 obtain ⟨g',t',cs,fuel,p,h1,h2,h3,h4⟩:=h
 obtain rfl:=Option.some.inj (hg.symm.trans h1)
 obtain rfl:=Option.some.inj (hty.symm.trans h2)
 have hcs:=Lib.cells_of_tab ht he hce hct h4
 have:cs=(zs.map fun z=>Value.int k z).toArray:=by rw [←hcs]
 rw [this] at h3
 exact var_cells hg h3
theorem trod_array_len {H:Type} {enc:TypeId × Value→H} {P:Program} {w:World} {base:Nat} {sp:Nat→Bool} {held:Bool} {fuel:Nat} {t e:TypeId} {n:Nat} {cs:List Value} {d:DataW H} {p:List MemPlace} (ht:P.underlying t=some (.array n e))
  (h:DataW.trod enc P w base sp held fuel t cs=some (d,p)):cs.length=P.cellsOf t:=by
 cases fuel with
 | zero=>simp [DataW.trod] at h
 | succ fuel=>
  simp only [DataW.trod,ht] at h
  split at h
  ·rename_i hl
   simpa using hl
  ·cases h
theorem acc_cells {W:World} (hg : Tryz.prog.globalNamed "unicode/utf8.acceptRanges" = some 1) (h:Lib.VarReads Tryz.prog W "unicode/utf8.acceptRanges" Lib.acceptData) :
  ∃ e x,W.heap[1]? = some (.cells (accTab.map fun z=>Value.int .u8 z).toArray e x):=by
 obtain ⟨g',t,cs,fuel,p,h1,h2,h3,h4⟩:=h
 obtain rfl:=Option.some.inj (hg.symm.trans h1)
 have hty:(Tryz.prog.globals[1]?).map (·.type)=some accT:=by unfold accT;kernel_rfl
 obtain rfl:=Option.some.inj (hty.symm.trans h2)
 have ht:Tryz.prog.underlying accT=some (.array 16 accE):=by unfold accT accE;kernel_rfl
 have hl:=trod_array_len ht h4
 have hct:Tryz.prog.cellsOf accT=32:=by unfold accT;kernel_rfl
 have hce:Tryz.prog.cellsOf accE=2:=by unfold accE;kernel_rfl
 have hu:∃ fs,Tryz.prog.underlying accE=some (.struct fs)∧fs.size=2∧∀ (i:Nat) (f:Field),fs[i]? = some f→Tryz.prog.underlying f.type=some (.int .u8)∧f.offset=i∧Tryz.prog.cellsOf f.type=1:=by
  refine ⟨accF,by unfold accE accF;kernel_rfl,by unfold accF;kernel_rfl,fun i f hf=>?_⟩
  have:i<2:=by
   have:=(Array.getElem?_eq_some_iff.1 hf).1
   rwa [show accF.size=2 by unfold accF;kernel_rfl] at this
  match i,this with
  | 0,_=>
   obtain rfl:=Option.some.inj (hf.symm.trans (show accF[0]? = some accF0 from accF_0))
   exact ⟨by unfold accF0;kernel_rfl,by unfold accF0;kernel_rfl,by unfold accF0;kernel_rfl⟩
  | 1,_=>
   obtain rfl:=Option.some.inj (hf.symm.trans (show accF[1]? = some accF1 from accF_1))
   exact ⟨by unfold accF1;kernel_rfl,by unfold accF1;kernel_rfl,by unfold accF1;kernel_rfl⟩
 obtain ⟨fs,hu1,hu2,hu3⟩:=hu
 have hcs:cs.toList=accTab.map fun z=>Value.int .u8 z:=by
  have hlen:(accTab.map fun z=>Value.int .u8 z).length=32:=by rw [List.length_map];rfl
  apply List.ext_getElem?
  intro q
  by_cases hq:q<32
  ·obtain ⟨fuel',d,q',hdi,he⟩:=Lib.array_elem ht h4 (q / 2) (by omega)
   simp only [List.getElem?_map,List.getElem?_range (show q / 2<16 by omega),Option.map_some,Option.some.injEq] at hdi
   subst hdi
   rw [hce] at he
   have hz:=Lib.ints_of_struct hu1 hu3 (by rw [hce,hu2]) he
   have e0:=congrArg (·[q % 2]?) hz
   simp only [List.getElem?_take,List.getElem?_drop] at e0
   rw [if_pos (by omega),show q / 2*2+q % 2=q by omega] at e0
   rw [e0]
   unfold accTab
   have er:∀ g:Nat→Value,(List.map g (List.range 32))[q]? = some (g q):=fun g=>by
    rw [List.getElem?_map,List.getElem?_range hq]
    rfl
   rw [List.map_map,er]
   rcases Nat.mod_two_eq_zero_or_one q with h2 | h2
   ·simp [h2]
   ·simp [h2]
  ·rw [List.getElem?_eq_none (by omega),List.getElem?_eq_none (by omega)]
 have:cs=(accTab.map fun z=>Value.int .u8 z).toArray:=by rw [←hcs]
 rw [this] at h3
 exact var_cells hg h3
theorem gx_of_laid {C:Cfg} (hC:C.G=GX) {W:World} (hL:laidMet Tryz.prog laidH W) (hsh:W.ShapedOpen Tryz.prog):GOK C (· < W.heap.size) W:=by
 have lt:∀ {g:Nat} {o:Obj},W.heap[g]? = some o→g<W.heap.size:=fun h=>(Array.getElem?_eq_some_iff.1 h).1
 have r1:Lib.VarReads Tryz.prog W "math/bits.deBruijn64tab" (Lib.tabData .u8 (Lib.deBruijn64tab.map fun n:Nat=>(n:Int))):=Lib.laidMet.reads hL (by rw [show (Lib.tabData .u8 (Lib.deBruijn64tab.map fun n:Nat=>(n:Int)):DataW Unit)=Rows.laid_math_bits_deBruijn64tab by kernel_rfl];simp [laidH])
 have r2:Lib.VarReads Tryz.prog W "internal/strconv.uint64pow10" (Lib.tabData .u64 Lib.pow10Tab):=Lib.laidMet.reads hL (by rw [show (Lib.tabData .u64 Lib.pow10Tab:DataW Unit)=Rows.laid_internal_strconv_uint64pow10 by kernel_rfl];simp [laidH])
 have r3:Lib.VarReads Tryz.prog W "unicode/utf8.acceptRanges" Lib.acceptData:=Lib.laidMet.reads hL (by rw [show Lib.acceptData=Rows.laid_unicode_utf8_acceptRanges by kernel_rfl];simp [laidH])
 have r4:Lib.VarReads Tryz.prog W "unicode/utf8.first" (Lib.tabData .u8 Lib.firstTab):=Lib.laidMet.reads hL (by rw [show (Lib.tabData .u8 Lib.firstTab:DataW Unit)=Rows.laid_unicode_utf8_first by kernel_rfl];simp [laidH])
 have c1:=tab_cells (g:=5) (t:=dbT) (e:=5) (m:=64) (by kernel_rfl) (by unfold dbT;kernel_rfl) (by unfold dbT;kernel_rfl) (by kernel_rfl) (by kernel_rfl) (by unfold dbT;kernel_rfl) r1
 have c2:=tab_cells (g:=3) (t:=powT) (e:=174) (m:=20) (by kernel_rfl) (by unfold powT;kernel_rfl) (by unfold powT;kernel_rfl) (by kernel_rfl) (by kernel_rfl) (by unfold powT;kernel_rfl) r2
 have c3:=acc_cells (by kernel_rfl) r3
 have c4:=tab_cells (g:=0) (t:=firT) (e:=5) (m:=256) (by kernel_rfl) (by unfold firT;kernel_rfl) (by unfold firT;kernel_rfl) (by kernel_rfl) (by kernel_rfl) (by unfold firT;kernel_rfl) r4
 have c5:=cell_of_shapedOpen_int (k:=.i64) (g:=2) (t:=3) (zero:=#[.int .i64 0]) hsh (of_decide_eq_true (by kernel_rfl)) (by kernel_rfl) rfl (by kernel_rfl) (by kernel_rfl) (by kernel_rfl)
 refine ⟨fun g k zs h=>?_,fun g h=>?_⟩
 ·rw [hC] at h
  simp only [GX] at h
  have key:∀ {g0:Nat} {k0:IntKind} {zs0:List Int},(∃ e x,W.heap[g0]? = some (.cells (zs0.map fun z=>Value.int k0 z).toArray e x))→g=g0→(k0,zs0)=(k,zs)→g<W.heap.size∧∃ e x,W.heap[g]? = some (.cells (zs.map fun z=>Value.int k z).toArray e x):=fun hx e1 e2=>by
   subst e1
   cases e2
   obtain ⟨e,x,hx⟩:=hx
   exact ⟨lt hx,e,x,hx⟩
  cases b1:Nat.beq g 0 with
  | true=>rw [b1,cond_true] at h;exact key c4 (Nat.eq_of_beq_eq_true b1) (Option.some.inj h)
  | false=>
   rw [b1,cond_false] at h
   cases b2:Nat.beq g 1 with
   | true=>rw [b2,cond_true] at h;exact key c3 (Nat.eq_of_beq_eq_true b2) (Option.some.inj h)
   | false=>
    rw [b2,cond_false] at h
    cases b3:Nat.beq g 3 with
    | true=>rw [b3,cond_true] at h;exact key c2 (Nat.eq_of_beq_eq_true b3) (Option.some.inj h)
    | false=>
     rw [b3,cond_false] at h
     cases b4:Nat.beq g 5 with
     | true=>rw [b4,cond_true] at h;exact key c1 (Nat.eq_of_beq_eq_true b4) (Option.some.inj h)
     | false=>rw [b4,cond_false] at h;cases h
 ·rw [hC] at h
  have e:=Nat.eq_of_beq_eq_true h
  subst e
  obtain ⟨m,hm⟩:=c5
  refine ⟨?_,m,hm⟩
  apply Classical.byContradiction
  intro hge
  simp [World.cell?,Array.getElem?_eq_none (Nat.le_of_not_lt hge)] at hm
theorem laidWorld_shaped (os:Os) (args:Array Value):((World.laidAll Tryz.prog os laidH).forCall (fun _ _=>0) ⟨#[],args,[]⟩).Shaped Tryz.prog:=
 World.shaped_of_ZipB (by kernel_rfl) (by kernel_rfl)
theorem laidWorld_met (os:Os) (args:Array Value):laidMetH Tryz.prog laidH ((World.laidAll Tryz.prog os laidH).forCall (fun _ _=>0) ⟨#[],args,[]⟩).memory:=by
 rw [MakeChecks.laidMetH_plain _ _ _ (by kernel_rfl)]
 exact laidMet_laidAll _ (by kernel_rfl) (by kernel_rfl)
theorem law_handed {H:Type} {enc:TypeId × Value→H} {os:Os} (started:os.Started) {C:Cfg} (hCP:C.P=Tryz.prog) (hCG:C.G=GX) (hX:XOK C) (hO:OkFns C) {f tb:Nat} {fn:Func} {c:Code} {s:ChangeSpec} {conds:List PathCond} {apart fresh handsOn again:Bool} (noInit:Tryz.prog.inits.idxOf? f=none) (hfn:Tryz.prog.funcs[f]? = some fn) (hb:fn.body=some c) (hname:(fn.name == "runtime.NumGoroutine")=false)
  (hp:∀ t∈fn.params.toList,(Tryz.prog.readableRec t=true∧t<Tryz.prog.types.size)∧(tysOf Tryz.prog 20 t).isSome=true) (hres:fn.resultTypes = #[tb]) (hbool:Tryz.prog.underlying tb=some .bool) (hvars:s.vars=[])
  (hspec:∀ ds:List (DataW H),ds.length=fn.params.toList.length→s.fn H ds = { results:=[.lit (.bool true)],args:=ds })
  (wit:Array Value) (fuel:Nat) (hok:Input.okWideB Tryz.prog ((World.laidAll Tryz.prog os laidH).forCall (fun _ _=>0) ⟨#[],wit,[]⟩) f ⟨#[],wit,[]⟩=true)
  (hpre:s.preB enc Tryz.prog fn conds apart ((World.laidAll Tryz.prog os laidH).forCall (fun _ _=>0) ⟨#[],wit,[]⟩).memory wit fuel=true)
  (hsz:s.sizedB enc Tryz.prog fn apart ((World.laidAll Tryz.prog os laidH).forCall (fun _ _=>0) ⟨#[],wit,[]⟩).memory wit fuel=true)
  (hev:∀ args,ArgsOf Tryz.prog fn.params.toList args→∃ d Hc,evC C d Unit noY f args [] ()=some (.s (.bool true),Hc,())) :
  ReturnsInHanded {} Tryz.checked os f .any (fun w args=>(s.pre enc Tryz.prog fn conds apart w args∧laidMetH Tryz.prog laidH w)∧sizedMet enc Tryz.prog fn (OpenSpec.ofChange s) apart w args) (s.post enc Tryz.prog fn apart fresh handsOn again):=by
 obtain ⟨P,G,X,lend,okf,lf,keep,keepR,xp,keepE,keepT,Y,S,nt,rw0⟩:=C
 simp only at hCP hCG
 subst hCP
 refine returnsInHanded_of_calls (C:=Tryz.checked) own started noInit
  (ChangeSpec.witness_shaped (enc:=enc) (C:=Tryz.checked) (os:=os) (X:=fun w _=>laidMetH Tryz.prog laidH w) false (World.laidAll Tryz.prog os laidH) wit fuel (World.laidAll_os _ _ _) (laidWorld_shaped os wit) hok hpre hsz (laidWorld_met os wit)) ?_
 intro w tape i _ hsh _ hok hpre hholds
 obtain ⟨_,_,_,fn',hfn',_,_,_,_,hval⟩:=hok
 have e:fn'=fn:=Option.some.inj (hfn'.symm.trans hfn)
 subst e
 obtain ⟨⟨⟨ds,gs,before,hw,hc⟩,hx⟩,hz⟩:=hpre
 have hw':=DataW.Whole.of_heap (w':=w.forCall tape i) (by rfl) hw
 have hL:laidMet Tryz.prog laidH (w.forCall tape i):=by
  rw [MakeChecks.laidMetH_plain _ _ _ (by kernel_rfl)] at hx
  exact laidMet.of_heap (w':=w.forCall tape i) (by rfl) hx
 refine (contract (apart:=apart) (fresh:=fresh) (handsOn:=handsOn) (again:=again) hX hO follows laidOut hfn hb hname hp hres hbool hvars hspec hev (w.forCall tape i) (gx_of_laid hCG hL hsh) w.heap.size i.args ds gs before hval hw').mono fun e W' ⟨v,he,hp⟩=>?_
 subst he
 exact ChangeSpec.post_blind hp
end Go.Proofs.YtokehocipgepnaaGreatDoor.E
namespace Go.Proofs.YtokehocipgepnaaGreatDoor.E
open Go Go.Proofs 
set_option linter.unusedVariables false
set_option maxRecDepth 100000
section
variable {σ R : Type} (lf : Nat) (cl : CallT) (yh : Yh σ) (s : σ) (k : Out → St σ → Option R)
noncomputable abbrev b_lsp:Code:=bodyOf Tryz.f6
noncomputable def c_lsp (lf:Nat):Cfg:=mkCfg lf [6] (lookK [(5,[0,0,2,0,0])]) [(23,X_rhvn),(20,X_awake),(24,X_kmod),(21,X_hparse)] (lookK [(19,[4]),(18,[9,0,0,0,0]),(17,[0,8,0,0,0]),(16,[0,4,3,0]),(6,[0,0,3,0]),(13,[0,0,3,0]),(15,[0,0,3,0]),(11,[0,0,3,0]),(14,[0,0,3,0,1,58]),(12,[0,0,3,0,0,0,41]),(10,[0,0,3,0,0,0]),(9,[0,0,3,0,0]),(8,[0,0,3,0,0,23]),(7,[0,0,3,0,0]),(5,[0,0,3,0,19]),(4,[0,0,3,0]),(3,[0,0,3]),(2,[4]),(1,[0,0,19]),(0,[0,0])]) [23,20,24] (lookK [(0,[0,4]),(1,[0,0,3,0]),(2,[0,0,3,0])]) (some [4]) [] [] []
noncomputable def lsp_j0 {R:Type} (name0:By) (choice_z1 choice_t2:Bool) (choice3:LL) (s4:By) (i5 kk6 b7:Int) (b8:Bool) (k0:By→Bool→Bool→LL→By→Int→Option R):Option R:=cond b8 (cond (List.all [[(SV.int .u8 (wu8 (b7-(32:Int))))]] isU8) (vl (List.map elU8 [[(SV.int .u8 (wu8 (b7-(32:Int))))]]) fun s'4=>cond (catOk (List.length s4) (List.length s'4)) (k0 name0 choice_z1 choice_t2 choice3 (s4++s'4) i5) (none)) (none)) (cond (kk6==(2:Int)) (vl (wu8 (Int.tdiv b7 (16:Int))) fun n'5=>cond (inR n'5 16) (vl (bAt (([48,49,50,51,52,53,54,55,56,57,65,66,67,68,69,70]:List UInt8)) n'5) fun n'6=>cond (inR (Int.tmod b7 (16:Int)) 16) (vl (bAt (([48,49,50,51,52,53,54,55,56,57,97,98,99,100,101,102]:List UInt8)) (Int.tmod b7 (16:Int))) fun n'7=>cond (List.all [[(SV.int .u8 n'6)],[(SV.int .u8 n'7)]] isU8) (vl (List.map elU8 [[(SV.int .u8 n'6)],[(SV.int .u8 n'7)]]) fun s'8=>cond (catOk 1 (List.length s'8)) (vl ((([37]:List UInt8))++s'8) fun s'9=>cond (catOk (List.length s4) (List.length s'9)) (k0 name0 choice_z1 choice_t2 choice3 (s4++s'9) i5) (none)) (none)) (none)) (none)) (none)) (cond (sub3 i5 (wi64 (i5+(1:Int))) (List.length name0)) (vl (cut name0 i5 (wi64 (i5+(1:Int)))) fun s'10=>cond (catOk (List.length s4) (List.length s'10)) (k0 name0 choice_z1 choice_t2 choice3 (s4++s'10) i5) (none)) (none)))
abbrev lsp_j0_P (b:Code):Prop:=∀ (k:Out→St σ→Option R) (name0:By) (choice_z1 choice_t2:Bool) (choice3:LL) (s4:By) (i5 kk6 b7:Int) (b8:Bool),evCode (c_lsp lf) cl yh b ⟨gp [(0,.s (.str name0)),(0,.s (.sl choice_z1 choice_t2 1 choice3)),(3,.s (.str s4)),(0,.s (.int .i64 i5)),(0,.s (.int .i64 kk6)),(0,.s (.int .u8 b7)),(41,.s (.bool b8))] 62,[],s⟩ k=lsp_j0 name0 choice_z1 choice_t2 choice3 s4 i5 kk6 b7 b8 (fun name0 choice_z1 choice_t2 choice3 s4 i5=>k .normal ⟨gp [(0,.s (.str name0)),(0,.s (.sl choice_z1 choice_t2 1 choice3)),(3,.s (.str s4)),(0,.s (.int .i64 i5))] 106,[],s⟩)
theorem lsp_j0_eq:lsp_j0_P (R:=R) lf cl yh s (cd [1,1,1,0,1,0,0,1,0,0,1,1,1,0,1] b_lsp):=by
 intro k name0 choice_z1 choice_t2 choice3 s4 i5 kk6 b7 b8;unfold lsp_j0;kernel_rfl
noncomputable def lsp_l0f {R:Type} (lf n:Nat) (self:By→Bool→Bool→LL→By→Int→Option R) (name0:By) (choice_z1 choice_t2:Bool) (choice3:LL) (s4:By) (i5:Int) (k0:By→By→Option R):Option R:=cond (ltI i5 (↑(List.length name0):Int)) (cond (ltI (0:Int) (↑(List.length choice3):Int)) (cond ((↑(List.length choice3):Int) != (0:Int)) (vl (Int.tmod i5 (↑(List.length choice3):Int)) fun n'2=>cond (inR n'2 (List.length choice3)) (cond (okE tI64 choice3 (Int.toNat n'2) 0) (vl (gE choice3 (Int.toNat n'2) 0) fun n'3=>cond (ltI (0:Int) (3:Int)) (cond (ltN (3:Int) 1000000000) (cond (inR i5 (List.length name0)) (cond ((Int.emod n'3 (3:Int))==(1:Int)) (cond (not (ltI (bAt name0 i5) (97:Int))) (lsp_j0 name0 choice_z1 choice_t2 choice3 s4 i5 (Int.emod n'3 (3:Int)) (bAt name0 i5) (not (ltI (122:Int) (bAt name0 i5))) (fun name'11 choice_z'12 choice_t'13 choice'14 s'15 i'16=>vl (wi64 (i'16+(1:Int))) fun n'17=>self name'11 choice_z'12 choice_t'13 choice'14 s'15 n'17)) (lsp_j0 name0 choice_z1 choice_t2 choice3 s4 i5 (Int.emod n'3 (3:Int)) (bAt name0 i5) false (fun name'18 choice_z'19 choice_t'20 choice'21 s'22 i'23=>vl (wi64 (i'23+(1:Int))) fun n'24=>self name'18 choice_z'19 choice_t'20 choice'21 s'22 n'24))) (lsp_j0 name0 choice_z1 choice_t2 choice3 s4 i5 (Int.emod n'3 (3:Int)) (bAt name0 i5) false (fun name'25 choice_z'26 choice_t'27 choice'28 s'29 i'30=>vl (wi64 (i'30+(1:Int))) fun n'31=>self name'25 choice_z'26 choice_t'27 choice'28 s'29 n'31))) (none)) (none)) (none)) (none)) (none)) (none)) (cond (inR i5 (List.length name0)) (lsp_j0 name0 choice_z1 choice_t2 choice3 s4 i5 0 (bAt name0 i5) false (fun name'32 choice_z'33 choice_t'34 choice'35 s'36 i'37=>vl (wi64 (i'37+(1:Int))) fun n'38=>self name'32 choice_z'33 choice_t'34 choice'35 s'36 n'38)) (none))) (k0 name0 s4)
noncomputable def lsp_l0 {R:Type} (lf n:Nat) (name0:By) (choice_z1 choice_t2:Bool) (choice3:LL) (s4:By) (i5:Int) (k0:By→By→Option R):Option R:=recN (α:=By→Bool→Bool→LL→By→Int→Option R) (fun _ _ _ _ _ _=>none) (fun n self name0 choice_z1 choice_t2 choice3 s4 i5=>lsp_l0f lf n self name0 choice_z1 choice_t2 choice3 s4 i5 k0) n name0 choice_z1 choice_t2 choice3 s4 i5
theorem lsp_l0_s {R:Type} (lf n:Nat) (name0:By) (choice_z1 choice_t2:Bool) (choice3:LL) (s4:By) (i5:Int) (k0:By→By→Option R):lsp_l0 lf (n+1) name0 choice_z1 choice_t2 choice3 s4 i5 k0=lsp_l0f lf n (fun name0 choice_z1 choice_t2 choice3 s4 i5=>lsp_l0 lf n name0 choice_z1 choice_t2 choice3 s4 i5 k0) name0 choice_z1 choice_t2 choice3 s4 i5 k0:=rfl
theorem lsp_l0_eq (b_111010010011101:Code) (h_lsp_j0:lsp_j0_P (R:=R) lf cl yh s b_111010010011101) (n:Nat) (name0:By) (choice_z1 choice_t2:Bool) (choice3:LL) (s4:By) (i5:Int):loopK 0 ((c_lsp lf).keep 5) (bd (c_lsp lf) cl yh (cd [1,1,1,0,1,0,0] (putC [1,1,1,0,1,0,0,1,0,0,1,1,1,0,1] b_111010010011101 b_lsp))) n ⟨gp [(0,.s (.str name0)),(0,.s (.sl choice_z1 choice_t2 1 choice3)),(3,.s (.str s4)),(0,.s (.int .i64 i5))] 106,[],s⟩ k =
 lsp_l0 lf n name0 choice_z1 choice_t2 choice3 s4 i5 (fun name0 s1=>k (.exit 0) ⟨gp [(0,.s (.str name0)),(4,.s (.str s1))] 107,[],s⟩):=by
 induction n generalizing name0 choice_z1 choice_t2 choice3 s4 i5 with
 | zero=>rfl
 | succ n ih=>rw [lsp_l0_s];unfold lsp_l0f;exact (Eq.trans (by kernel_rfl) (cond_congr (cond_congr (cond_congr (vl_congr fun n'2=>(cond_congr (cond_congr (vl_congr fun n'3=>(cond_congr (cond_congr (cond_congr (cond_congr (cond_congr ((h_lsp_j0 (blkK 2 (blkK 1 (seqK (c_lsp lf) cl yh (cd [1,1,1,0,1,0,0,1,1] b_lsp) (lpK 0 ((c_lsp lf).keep 5) (bd (c_lsp lf) cl yh (cd [1,1,1,0,1,0,0] (putC [1,1,1,0,1,0,0,1,0,0,1,1,1,0,1] b_111010010011101 b_lsp))) n k)))) name0 choice_z1 choice_t2 choice3 s4 i5 (Int.emod n'3 (3:Int)) (bAt name0 i5) (not (ltI (122:Int) (bAt name0 i5)))).trans (congr rfl (funext fun name'11=>(funext fun choice_z'12=>(funext fun choice_t'13=>(funext fun choice'14=>(funext fun s'15=>(funext fun i'16=>(Eq.trans (by kernel_rfl) (vl_congr fun n'17=>(ih name'11 choice_z'12 choice_t'13 choice'14 s'15 n'17))))))))))) ((h_lsp_j0 (blkK 2 (blkK 1 (seqK (c_lsp lf) cl yh (cd [1,1,1,0,1,0,0,1,1] b_lsp) (lpK 0 ((c_lsp lf).keep 5) (bd (c_lsp lf) cl yh (cd [1,1,1,0,1,0,0] (putC [1,1,1,0,1,0,0,1,0,0,1,1,1,0,1] b_111010010011101 b_lsp))) n k)))) name0 choice_z1 choice_t2 choice3 s4 i5 (Int.emod n'3 (3:Int)) (bAt name0 i5) false).trans (congr rfl (funext fun name'18=>(funext fun choice_z'19=>(funext fun choice_t'20=>(funext fun choice'21=>(funext fun s'22=>(funext fun i'23=>(Eq.trans (by kernel_rfl) (vl_congr fun n'24=>(ih name'18 choice_z'19 choice_t'20 choice'21 s'22 n'24)))))))))))) ((h_lsp_j0 (blkK 2 (blkK 1 (seqK (c_lsp lf) cl yh (cd [1,1,1,0,1,0,0,1,1] b_lsp) (lpK 0 ((c_lsp lf).keep 5) (bd (c_lsp lf) cl yh (cd [1,1,1,0,1,0,0] (putC [1,1,1,0,1,0,0,1,0,0,1,1,1,0,1] b_111010010011101 b_lsp))) n k)))) name0 choice_z1 choice_t2 choice3 s4 i5 (Int.emod n'3 (3:Int)) (bAt name0 i5) false).trans (congr rfl (funext fun name'25=>(funext fun choice_z'26=>(funext fun choice_t'27=>(funext fun choice'28=>(funext fun s'29=>(funext fun i'30=>(Eq.trans (by kernel_rfl) (vl_congr fun n'31=>(ih name'25 choice_z'26 choice_t'27 choice'28 s'29 n'31)))))))))))) rfl) rfl) rfl)) rfl) rfl)) rfl) (cond_congr ((h_lsp_j0 (blkK 2 (blkK 1 (seqK (c_lsp lf) cl yh (cd [1,1,1,0,1,0,0,1,1] b_lsp) (lpK 0 ((c_lsp lf).keep 5) (bd (c_lsp lf) cl yh (cd [1,1,1,0,1,0,0] (putC [1,1,1,0,1,0,0,1,0,0,1,1,1,0,1] b_111010010011101 b_lsp))) n k)))) name0 choice_z1 choice_t2 choice3 s4 i5 0 (bAt name0 i5) false).trans (congr rfl (funext fun name'32=>(funext fun choice_z'33=>(funext fun choice_t'34=>(funext fun choice'35=>(funext fun s'36=>(funext fun i'37=>(Eq.trans (by kernel_rfl) (vl_congr fun n'38=>(ih name'32 choice_z'33 choice_t'34 choice'35 s'36 n'38))))))))))) rfl)) rfl))
noncomputable def lsp {R:Type} (lf:Nat) (name0:By) (choice_z1 choice_t2:Bool) (choice3:LL) (k0:Unit→Option R) (k1:Bool→Int→By→Int→Int→Int→Int→Int→Int→Int→Int→Int→Int→By→Int→Int→Int→Int→Int→Int→Int→Int→Int→By→Option R):Option R:=cond (ltI (200:Int) (↑(List.length name0):Int)) (k0 ()) (cond (small (List.length name0)) (cond (not (validN name0)) (k0 ()) (lsp_l0 lf lf name0 choice_z1 choice_t2 choice3 ([]:List UInt8) 0 (fun name'39 s'40=>cond (small (List.length s'40)) (vl (↑(HostV.kind ((parseH s'40)).1):Int) fun n'53=>vl (HostV.name ((parseH s'40)).1) fun s'54=>vl (↑(HostV.v4 ((parseH s'40)).1):Int) fun n'55=>vl (↑(List.getD (HostV.v6 ((parseH s'40)).1) 0 0):Int) fun n'56=>vl (↑(List.getD (HostV.v6 ((parseH s'40)).1) 1 0):Int) fun n'57=>vl (↑(List.getD (HostV.v6 ((parseH s'40)).1) 2 0):Int) fun n'58=>vl (↑(List.getD (HostV.v6 ((parseH s'40)).1) 3 0):Int) fun n'59=>vl (↑(List.getD (HostV.v6 ((parseH s'40)).1) 4 0):Int) fun n'60=>vl (↑(List.getD (HostV.v6 ((parseH s'40)).1) 5 0):Int) fun n'61=>vl (↑(List.getD (HostV.v6 ((parseH s'40)).1) 6 0):Int) fun n'62=>vl (↑(List.getD (HostV.v6 ((parseH s'40)).1) 7 0):Int) fun n'63=>vl (↑((parseH s'40)).2:Int) fun n'64=>cond (catOk (List.length s'40) 1) (vl (s'40++(([46]:List UInt8))) fun s'78=>cond (small (List.length s'78)) (vl (↑(HostV.kind ((parseH s'78)).1):Int) fun n'79=>vl (HostV.name ((parseH s'78)).1) fun s'80=>vl (↑(HostV.v4 ((parseH s'78)).1):Int) fun n'81=>vl (↑(List.getD (HostV.v6 ((parseH s'78)).1) 0 0):Int) fun n'82=>vl (↑(List.getD (HostV.v6 ((parseH s'78)).1) 1 0):Int) fun n'83=>vl (↑(List.getD (HostV.v6 ((parseH s'78)).1) 2 0):Int) fun n'84=>vl (↑(List.getD (HostV.v6 ((parseH s'78)).1) 3 0):Int) fun n'85=>vl (↑(List.getD (HostV.v6 ((parseH s'78)).1) 4 0):Int) fun n'86=>vl (↑(List.getD (HostV.v6 ((parseH s'78)).1) 5 0):Int) fun n'87=>vl (↑(List.getD (HostV.v6 ((parseH s'78)).1) 6 0):Int) fun n'88=>vl (↑(List.getD (HostV.v6 ((parseH s'78)).1) 7 0):Int) fun n'89=>vl (↑((parseH s'78)).2:Int) fun n'90=>cond (n'64==(0:Int)) (cond (n'90==(0:Int)) (cond ((n'53==(1:Int))&&((s'54==name'39)&&((n'55==(0:Int))&&((n'56==(0:Int))&&((n'57==(0:Int))&&((n'58==(0:Int))&&((n'59==(0:Int))&&((n'60==(0:Int))&&((n'61==(0:Int))&&((n'62==(0:Int))&&((n'63==(0:Int))&&true))))))))))) (cond ((n'79==(1:Int))&&((s'80==name'39)&&((n'81==(0:Int))&&((n'82==(0:Int))&&((n'83==(0:Int))&&((n'84==(0:Int))&&((n'85==(0:Int))&&((n'86==(0:Int))&&((n'87==(0:Int))&&((n'88==(0:Int))&&((n'89==(0:Int))&&true))))))))))) (k1 true n'53 s'54 n'55 n'56 n'57 n'58 n'59 n'60 n'61 n'62 n'63 n'79 s'80 n'81 n'82 n'83 n'84 n'85 n'86 n'87 n'88 n'89 name'39) (k1 false n'53 s'54 n'55 n'56 n'57 n'58 n'59 n'60 n'61 n'62 n'63 n'79 s'80 n'81 n'82 n'83 n'84 n'85 n'86 n'87 n'88 n'89 name'39)) (k1 false n'53 s'54 n'55 n'56 n'57 n'58 n'59 n'60 n'61 n'62 n'63 n'79 s'80 n'81 n'82 n'83 n'84 n'85 n'86 n'87 n'88 n'89 name'39)) (k1 false n'53 s'54 n'55 n'56 n'57 n'58 n'59 n'60 n'61 n'62 n'63 n'79 s'80 n'81 n'82 n'83 n'84 n'85 n'86 n'87 n'88 n'89 name'39)) (k1 false n'53 s'54 n'55 n'56 n'57 n'58 n'59 n'60 n'61 n'62 n'63 n'79 s'80 n'81 n'82 n'83 n'84 n'85 n'86 n'87 n'88 n'89 name'39)) (none)) (none)) (none)))) (none))
theorem lsp_eq (b_111010010011101:Code) (h_lsp_j0:lsp_j0_P (R:=PV × List Blk × σ) lf cl yh s b_111010010011101) (name0:By) (choice_z1 choice_t2:Bool) (choice3:LL):evCode (c_lsp lf) cl yh (cd [] (putC [1,1,1,0,1,0,0,1,0,0,1,1,1,0,1] b_111010010011101 b_lsp)) ⟨[.s (.str name0),.s (.sl choice_z1 choice_t2 1 choice3)]++tps 111,[],s⟩ (retK (c_lsp lf) Tryz.f6)=lsp lf name0 choice_z1 choice_t2 choice3 (fun _=>some (.s (.bool true),[],s)) (fun r0 n1 s2 n3 n4 n5 n6 n7 n8 n9 n10 n11 n12 s13 n14 n15 n16 n17 n18 n19 n20 n21 n22 s23=>some (.s (.bool r0),[.box [.s (.int .i64 n1),.s (.str s2),.s (.int .u32 n3),.s (.int .u16 n4),.s (.int .u16 n5),.s (.int .u16 n6),.s (.int .u16 n7),.s (.int .u16 n8),.s (.int .u16 n9),.s (.int .u16 n10),.s (.int .u16 n11)],.box [.s (.int .i64 n12),.s (.str s13),.s (.int .u32 n14),.s (.int .u16 n15),.s (.int .u16 n16),.s (.int .u16 n17),.s (.int .u16 n18),.s (.int .u16 n19),.s (.int .u16 n20),.s (.int .u16 n21),.s (.int .u16 n22)],.box [.s (.int .i64 (1:Int)),.s (.str s23),.s (.int .u32 (0:Int)),.s (.int .u16 (0:Int)),.s (.int .u16 (0:Int)),.s (.int .u16 (0:Int)),.s (.int .u16 (0:Int)),.s (.int .u16 (0:Int)),.s (.int .u16 (0:Int)),.s (.int .u16 (0:Int)),.s (.int .u16 (0:Int))]],s)):=by
 unfold lsp;exact (Eq.trans (by kernel_rfl) (cond_congr rfl (cond_congr (cond_congr rfl ((lsp_l0_eq lf cl yh s (blkK 0 (seqK (c_lsp lf) cl yh (cd [1,1,1,1] b_lsp) (retK (c_lsp lf) Tryz.f6))) b_111010010011101 h_lsp_j0 lf name0 choice_z1 choice_t2 choice3 ([]:List UInt8) 0).trans (congr rfl (funext fun name'39=>(funext fun s'40=>(by kernel_rfl)))))) rfl)))
theorem lsp_ev (d:Nat) (name0:By) (choice_z1 choice_t2:Bool) (choice3:LL):evC (c_lsp lf) (d+1) σ yh 6 [.s (.str name0),.s (.sl choice_z1 choice_t2 1 choice3)] [] s=lsp lf name0 choice_z1 choice_t2 choice3 (fun _=>some (.s (.bool true),[],s)) (fun r0 n1 s2 n3 n4 n5 n6 n7 n8 n9 n10 n11 n12 s13 n14 n15 n16 n17 n18 n19 n20 n21 n22 s23=>some (.s (.bool r0),[.box [.s (.int .i64 n1),.s (.str s2),.s (.int .u32 n3),.s (.int .u16 n4),.s (.int .u16 n5),.s (.int .u16 n6),.s (.int .u16 n7),.s (.int .u16 n8),.s (.int .u16 n9),.s (.int .u16 n10),.s (.int .u16 n11)],.box [.s (.int .i64 n12),.s (.str s13),.s (.int .u32 n14),.s (.int .u16 n15),.s (.int .u16 n16),.s (.int .u16 n17),.s (.int .u16 n18),.s (.int .u16 n19),.s (.int .u16 n20),.s (.int .u16 n21),.s (.int .u16 n22)],.box [.s (.int .i64 (1:Int)),.s (.str s23),.s (.int .u32 (0:Int)),.s (.int .u16 (0:Int)),.s (.int .u16 (0:Int)),.s (.int .u16 (0:Int)),.s (.int .u16 (0:Int)),.s (.int .u16 (0:Int)),.s (.int .u16 (0:Int)),.s (.int .u16 (0:Int)),.s (.int .u16 (0:Int))]],s)):=
 (evC_eq (fn:=Tryz.f6) (by kernel_rfl) (by kernel_rfl) (by kernel_rfl)).trans (Eq.trans (by kernel_rfl) (lsp_eq lf (evC (c_lsp lf) d) yh s (cd [1,1,1,0,1,0,0,1,0,0,1,1,1,0,1] b_lsp) (lsp_j0_eq lf (evC (c_lsp lf) d) yh s) name0 choice_z1 choice_t2 choice3))
end
end Go.Proofs.YtokehocipgepnaaGreatDoor.E
namespace Go.Proofs.YtokehocipgepnaaGreatDoor.E
open Go Go.Proofs
set_option linter.unusedVariables false
set_option linter.unusedSimpArgs false
set_option maxRecDepth 100000
def Tru (x:Option (PV × List Blk × Unit)):Prop:=∃ H,x=some (.s (.bool true),H,())
theorem eqB_self (n:By):(n==n)=true:=beq_self_eq_true n
theorem ints_of_Ty:∀ {l:List (List SV)},(∀ el∈l,Ty.ofL [.int .i64] el)→∃ bs:List Int,l=i64E bs
 | [],_=>⟨[],rfl⟩
 | el::r,h=>by
  obtain ⟨bs,rfl⟩:=ints_of_Ty (l:=r) (fun e he=>h e (by simp [he]))
  have:=h el (by simp)
  simp only [Ty.ofL,Ty.of] at this
  obtain ⟨v,q,rfl,⟨n,rfl,h1,h2⟩,rfl⟩:=this
  exact ⟨n::bs,rfl⟩
theorem arg_ints {P:Program} {t:Nat} {v:PV} (h:ArgOf P t v) (e:tysOf P 20 t=some [.slice [.int .i64]]) (ha:aggOf P t=false):∃ z l,v = .s (.sl z false 1 (i64E l))∧l.length≤maxLen:=by
 obtain ⟨x,rfl,h5⟩:=arg_one h e ha
 simp only [Ty.of,List.length_cons,List.length_nil] at h5
 rcases h5 with rfl | ⟨els,rfl,hl,hall⟩
 ·exact ⟨true,[],rfl,by simp⟩
 ·obtain ⟨b,rfl⟩:=ints_of_Ty hall
  exact ⟨false,b,rfl,by simpa [i64E] using hl⟩
def spK (ch:List Int) (i:Nat):Nat:=if ch.length=0 then 0 else (Int.emod (ch.getD (i % ch.length) 0) 3).toNat
def spf (ch:List Int):Nat→By→By
 | _,[]=>[]
 | i,b::r=>sp1 (spK ch i) b++spf ch (i+1) r
theorem spf_spell (ch:List Int):∀ (r:By) (i:Nat),spf ch i r=spell (((List.range' i r.length).map (spK ch)).zip r)
 | [],i=>rfl
 | b::r,i=>by
  rw [spf,List.length_cons,List.range'_succ,List.map_cons,List.zip_cons_cons,spell,spf_spell ch r (i+1)]
theorem hexU_at (n:Nat) (h:n<16):List.getD ([48,49,50,51,52,53,54,55,56,57,65,66,67,68,69,70]:List UInt8) n 0=hexU n:=by
 have:∀ n:Fin 16,List.getD ([48,49,50,51,52,53,54,55,56,57,65,66,67,68,69,70]:List UInt8) n.val 0=hexU n.val:=by decide
 exact this ⟨n,h⟩
theorem hexD_at (n:Nat) (h:n<16):List.getD ([48,49,50,51,52,53,54,55,56,57,97,98,99,100,101,102]:List UInt8) n 0=hexD n:=by
 have:∀ n:Fin 16,List.getD ([48,49,50,51,52,53,54,55,56,57,97,98,99,100,101,102]:List UInt8) n.val 0=hexD n.val:=by decide
 exact this ⟨n,h⟩
theorem lsp_j0_f {R:Type} {k0:By→Bool→Bool→LL→By→Int→Option R} (name:By) (hs:name.length≤200) (z t:Bool) (ch:LL) (s4:By) (h4:s4.length≤1000) (i kk:Nat) (hi:i<name.length) (hk:kk≠1∨¬ (97≤(name.getD i 0).toNat∧(name.getD i 0).toNat≤122)) :
  lsp_j0 name z t ch s4 i (kk:Int) ((name.getD i 0).toNat:Int) false k0=k0 name z t ch (s4++sp1 kk (name.getD i 0)) i:=by
 have hcut:cut name (i:Int) ((i+1:Nat):Int)=[name.getD i 0]:=by
  rw [cut_nat,List.drop_take,drop_cons name i hi]
  simp
 have e1:wi64 ((i:Int)+1)=((i+1:Nat):Int):=by rw [wi64_id (by omega) (by omega)];rfl
 unfold lsp_j0 sp1
 rw [cond_false,e1]
 rw [if_neg (by omega)]
 generalize name.getD i 0=b at *
 have hb:=b.toNat_lt
 by_cases h2:kk=2
 ·subst h2
  have q1:wu8 (Int.tdiv (b.toNat:Int) 16)=((b.toNat / 16:Nat):Int):=by
   rw [show (16:Int)=((16:Nat):Int) from rfl,tdiv_nat,wu8_id (by omega) (by omega)]
  have q2:Int.tmod (b.toNat:Int) 16=((b.toNat % 16:Nat):Int):=by
   rw [show (16:Int)=((16:Nat):Int) from rfl,tmod_nat]
  rw [q1,q2,if_pos rfl]
  simp only [vl]
  rw [inR_t (by omega) (by omega),inR_t (by omega) (by omega),bAt_nat,bAt_nat,hexU_at _ (by omega),hexD_at _ (by omega)]
  have hrow:∀ x y:UInt8,[[SV.int .u8 (x.toNat:Int)],[SV.int .u8 (y.toNat:Int)]]=[x,y].map u8el:=fun x y=>rfl
  rw [hrow,all_isU8,map_elU8]
  simp only [cond_true]
  rw [show (((2:Nat):Int)==(2:Int))=true from rfl,catOk_t (by simp),catOk_t (by simp;omega)]
  rfl
 ·have:((kk:Int)==(2:Int))=false:=by rw [beq_eq_false_iff_ne];omega
  rw [this,if_neg h2,sub3_t (by omega) (by omega) (by omega)]
  simp only [vl,cond_true,cond_false]
  rw [hcut,catOk_t (by simp;omega)]
  rfl
theorem lsp_j0_t {R:Type} {k0:By→Bool→Bool→LL→By→Int→Option R} (name:By) (z t:Bool) (ch:LL) (s4:By) (h4:s4.length≤1000) (i kk b:Int) (c:UInt8) (hb:b=(c.toNat:Int)) (h1:97≤c.toNat) (h2:c.toNat≤122) :
  lsp_j0 name z t ch s4 i kk b true k0=k0 name z t ch (s4++sp1 1 c) i:=by
 subst hb
 have e:wu8 ((c.toNat:Int)-32)=((UInt8.ofNat (c.toNat-32)).toNat:Int):=by
  rw [wu8_id (by omega) (by omega)]
  simp
  omega
 unfold lsp_j0 sp1
 rw [cond_true,e,if_pos ⟨rfl,h1,h2⟩]
 have hrow:∀ x:UInt8,[[SV.int .u8 (x.toNat:Int)]]=[x].map u8el:=fun x=>rfl
 rw [hrow,all_isU8,map_elU8]
 simp only [vl,cond_true]
 rw [catOk_t (by simp;omega)]
 rfl
theorem lsp_loop {R:Type} {k0:By→By→Option R} (name:By) (hs:name.length≤200) (z t:Bool) (ch:List Int) (hc:ch.length≤18446744073709551616):∀ (r i n:Nat) (s4:By),i+r=name.length→r<n→s4.length≤3*i→
  lsp_l0 LF n name z t (i64E ch) s4 (i:Int) k0=k0 name (s4++spf ch i (name.drop i)):=by
 intro r
 induction r with
 | zero=>
  intro i n s4 hi hn h4
  obtain ⟨n,rfl⟩:∃ m,n=m+1:=⟨n-1,by omega⟩
  rw [lsp_l0_s]
  unfold lsp_l0f
  rw [ltI_f (by omega),List.drop_of_length_le (by omega),spf,List.append_nil]
  rfl
 | succ r ih=>
  intro i n s4 hi hn h4
  obtain ⟨n,rfl⟩:∃ m,n=m+1:=⟨n-1,by omega⟩
  have e1:wi64 ((i:Int)+1)=((i+1:Nat):Int):=by rw [wi64_id (by omega) (by omega)];rfl
  have hsp:∀ x,(s4++sp1 x (name.getD i 0)).length≤3*(i+1):=fun x=>by
   have:=(sp1_len x (name.getD i 0)).1
   rw [List.length_append]
   omega
  have go:=fun x=>(ih (i+1) n (s4++sp1 x (name.getD i 0)) (by omega) (by omega) (hsp x))
  rw [lsp_l0_s]
  unfold lsp_l0f
  rw [ltI_t (by omega),cond_true,drop_cons name i (by omega),spf,i64E_len]
  by_cases hz:ch.length=0
  ·have hk:spK ch i=0:=by unfold spK;rw [if_pos hz]
   rw [hz,ltI_f (by omega),cond_false,inR_t (by omega) (by omega),cond_true,bAt_nat,hk]
   refine Eq.trans (lsp_j0_f name hs z t (i64E ch) s4 (by omega) i 0 (by omega) (.inl (by omega))) ?_
   simp only [vl,e1]
   refine (go 0).trans ?_
   rw [List.append_assoc]
  ·have hm:Int.tmod (i:Int) (ch.length:Int)=((i % ch.length:Nat):Int):=tmod_nat _ _
   have hlt:i % ch.length<ch.length:=Nat.mod_lt _ (by omega)
   have hk:spK ch i=(Int.emod (ch.getD (i % ch.length) 0) 3).toNat:=by unfold spK;rw [if_neg hz]
   rw [ltI_t (by omega),cond_true,show ((ch.length:Int) != (0:Int))=true by rw [bne_iff_ne];omega,cond_true,hm]
   simp only [vl]
   rw [inR_t (by omega) (by omega),cond_true,Int.toNat_natCast,okE_i64 hlt,cond_true,gE_i64 _ _ hlt,hk]
   generalize ch.getD (i % ch.length) 0=v
   have b1:0≤Int.emod v 3:=Int.emod_nonneg v (by decide)
   have b2:Int.emod v 3<3:=Int.emod_lt_of_pos v (by decide)
   generalize Int.emod v 3=w at *
   obtain ⟨w,rfl⟩:=Int.eq_ofNat_of_zero_le b1
   rw [show ltI (0:Int) 3=true from rfl,cond_true,show ltN (3:Int) 1000000000=true from ltN_iff.2 ⟨by decide,by decide⟩,cond_true,inR_t (by omega) (by omega),cond_true,bAt_nat,Int.toNat_natCast]
   have fin:∀ x,lsp_l0 LF n name z t (i64E ch) (s4++sp1 x (name.getD i 0)) ((i+1:Nat):Int) k0=k0 name (s4++(sp1 x (name.getD i 0)++spf ch (i+1) (name.drop (i+1)))):=fun x=>by
    rw [go x,List.append_assoc]
   by_cases h1:w=1
   ·subst h1
    rw [show (((1:Nat):Int)==(1:Int))=true from rfl,cond_true]
    by_cases h97:(name.getD i 0).toNat<97
    ·rw [ltI_t (by omega),Bool.not_true,cond_false]
     refine Eq.trans (lsp_j0_f name hs z t (i64E ch) s4 (by omega) i 1 (by omega) (.inr (by omega))) ?_
     simp only [e1]
     exact fin 1
    ·rw [ltI_f (by omega),Bool.not_false,cond_true]
     by_cases h122:122<(name.getD i 0).toNat
     ·rw [ltI_t (by omega),Bool.not_true]
      refine Eq.trans (lsp_j0_f name hs z t (i64E ch) s4 (by omega) i 1 (by omega) (.inr (by omega))) ?_
      simp only [e1]
      exact fin 1
     ·rw [ltI_f (by omega),Bool.not_false]
      refine Eq.trans (lsp_j0_t name z t (i64E ch) s4 (by omega) i _ _ (name.getD i 0) rfl (by omega) (by omega)) ?_
      simp only [e1]
      exact fin 1
   ·rw [show ((w:Int)==(1:Int))=false by rw [beq_eq_false_iff_ne];omega,cond_false]
    refine Eq.trans (lsp_j0_f name hs z t (i64E ch) s4 (by omega) i w (by omega) (.inl h1)) ?_
    simp only [e1]
    exact fin w
theorem lsp_true (name:By) (z t:Bool) (ch:List Int) (hc:ch.length≤18446744073709551616):Tru (evC (c_lsp LF) 1 Unit noY 6 [.s (.str name),.s (.sl z t 1 (i64E ch))] [] ()):=by
 have hLF:=LF_big
 refine Eq.subst (motive:=Tru) (lsp_ev (σ:=Unit) LF noY () 0 name z t (i64E ch)).symm ?_
 unfold lsp
 by_cases c1:(200:Int)<name.length
 ·rw [ltI_t c1];exact ⟨_,rfl⟩
 rw [ltI_f (by omega),cond_false,small_t (by omega),cond_true]
 cases hv:validN name with
 | false=>exact ⟨_,rfl⟩
 | true=>
  rw [Bool.not_true,cond_false]
  have hl:lsp_l0 LF LF name z t (i64E ch) ([]:List UInt8) 0=lsp_l0 LF LF name z t (i64E ch) ([]:List UInt8) ((0:Nat):Int) (R:=PV × List Blk × Unit):=rfl
  rw [hl,lsp_loop name (by omega) z t ch hc name.length 0 LF [] (by omega) (by omega) (by simp),List.drop_zero,List.nil_append,spf_spell]
  have hks:((List.range' 0 name.length).map (spK ch)).length=name.length:=by rw [List.length_map,List.length_range']
  obtain ⟨p1,p2⟩:=spell_parse (validN_iff.1 hv) (by omega) _ hks
  have hl:=spell_len (((List.range' 0 name.length).map (spK ch)).zip name)
  rw [List.length_zip,hks,Nat.min_self] at hl
  generalize spell (((List.range' 0 name.length).map (spK ch)).zip name)=s at *
  rw [small_t (by omega),catOk_t (by omega),p1]
  simp only [vl,cond_true]
  rw [small_t (by rw [List.length_append,List.length_singleton];omega),p2]
  simp only [cond_true,eqB_self,Bool.true_and,Bool.and_true]
  exact ⟨_,rfl⟩
theorem lsp_law (args:List PV) (h:ArgsOf Tryz.prog [9,50] args):∃ d Hc,evC (c_lsp LF) d Unit noY 6 args [] ()=some (.s (.bool true),Hc,()):=by
 obtain ⟨v1,q1,rfl,h1,v2,q2,rfl,h2,rfl⟩:=h
 obtain ⟨a,rfl,_⟩:=arg_str h1 (by kernel_rfl) (by kernel_rfl)
 obtain ⟨z,ch,rfl,hc⟩:=arg_ints h2 (by kernel_rfl) (by kernel_rfl)
 obtain ⟨H,e⟩:=lsp_true a z false ch (Nat.le_trans hc (by decide))
 exact ⟨1,H,e⟩
end Go.Proofs.YtokehocipgepnaaGreatDoor.E
namespace Go.Proofs.YtokehocipgepnaaGreatDoor.E
open Go Go.Proofs 
set_option linter.unusedVariables false
set_option maxRecDepth 100000
section
variable {σ R : Type} (lf : Nat) (cl : CallT) (yh : Yh σ) (s : σ) (k : Out → St σ → Option R)
noncomputable def c_kmod (lf:Nat):Cfg:=mkCfg lf [24] (lookK []) [] (lookK [(4,[4]),(3,[5]),(2,[1,3,4]),(1,[1,3]),(0,[0,0])]) [] (lookK []) (some [4]) [] [] []
noncomputable def kmod {R:Type} (lf:Nat) (n0 m1:Int) (k0:Int→Option R):Option R:=cond (m1 != (0:Int)) (cond (ltI (Int.tmod n0 m1) (0:Int)) (vl (wi64 ((Int.tmod n0 m1)+m1)) fun n'0=>k0 n'0) (k0 (Int.tmod n0 m1))) (none)
theorem kmod_ev (d:Nat) (n0 m1:Int):evC (c_kmod lf) (d+1) σ yh 24 [.s (.int .i64 n0),.s (.int .i64 m1)] [] s=kmod lf n0 m1 (fun r0=>some (.s (.int .i64 r0),[],s)):=by
 refine (evC_eq (fn:=Tryz.f24) (by kernel_rfl) (by kernel_rfl) (by kernel_rfl)).trans ?_
 generalize evC (c_kmod lf) d=cl
 unfold kmod;kernel_rfl
end
end Go.Proofs.YtokehocipgepnaaGreatDoor.E
namespace Go.Proofs.YtokehocipgepnaaGreatDoor.E
open Go Go.Proofs 
set_option linter.unusedVariables false
set_option maxRecDepth 100000
section
theorem x_explode:XFact Tryz.prog GX 137 X_explode:=fun args ret Hc h=>by
 have:trRes (X_explode args)=none:=by unfold X_explode X_explode0;split<;>rfl
 rw [this] at h;cases h
theorem x_lpre:XFact Tryz.prog GX 86 X_lpre:=by
 refine XFact.fix (pf:=X_lpre0) _ (xfact_of_stab [] (C₀:=c_lpre LF) (XFacts.ok (l:=[]) rfl trivial) (okFns_of rfl (by kernel_rfl)) follows ?_)
 intro args ret Hc h
 unfold X_lpre0 at h
 split at h
 ·rename_i s p
  obtain ⟨h0,h⟩:=tr_need h
  obtain ⟨rfl,rfl⟩:=tr_ret h
  have e:=(lpre_ev LF noY () 0 s p).trans (lpre_spec s p h0)
  exact ⟨rfl,rfl,rfl,1,_,_,e,rfl⟩
 ·cases h
theorem x_hpre:XFact Tryz.prog GX 44 X_hpre:=by
 refine XFact.fix (pf:=X_hpre0) _ (xfact_of_stab [] (C₀:=c_hpre LF) (XFacts.ok (l:=[(86,X_lpre)]) rfl ⟨x_lpre,trivial⟩) (okFns_of rfl (by kernel_rfl)) follows ?_)
 intro args ret Hc h
 unfold X_hpre0 at h
 split at h
 ·rename_i s p
  obtain ⟨h0,h⟩:=tr_need h
  obtain ⟨rfl,rfl⟩:=tr_ret h
  have e:=(hpre_ev LF noY () 0 s p).trans (hpre_spec s p h0)
  exact ⟨rfl,rfl,rfl,1,_,_,e,rfl⟩
 ·cases h
theorem x_lsuf:XFact Tryz.prog GX 117 X_lsuf:=by
 refine XFact.fix (pf:=X_lsuf0) _ (xfact_of_stab [] (C₀:=c_lsuf LF) (XFacts.ok (l:=[]) rfl trivial) (okFns_of rfl (by kernel_rfl)) follows ?_)
 intro args ret Hc h
 unfold X_lsuf0 at h
 split at h
 ·rename_i s p
  obtain ⟨h0,h⟩:=tr_need h
  obtain ⟨rfl,rfl⟩:=tr_ret h
  have e:=(lsuf_ev LF noY () 0 s p).trans (lsuf_spec s p h0)
  exact ⟨rfl,rfl,rfl,1,_,_,e,rfl⟩
 ·cases h
theorem x_hsuf:XFact Tryz.prog GX 63 X_hsuf:=by
 refine XFact.fix (pf:=X_hsuf0) _ (xfact_of_stab [] (C₀:=c_hsuf LF) (XFacts.ok (l:=[(117,X_lsuf)]) rfl ⟨x_lsuf,trivial⟩) (okFns_of rfl (by kernel_rfl)) follows ?_)
 intro args ret Hc h
 unfold X_hsuf0 at h
 split at h
 ·rename_i s p
  obtain ⟨h0,h⟩:=tr_need h
  obtain ⟨rfl,rfl⟩:=tr_ret h
  have e:=(hsuf_ev LF noY () 0 s p).trans (hsuf_spec s p h0)
  exact ⟨rfl,rfl,rfl,1,_,_,e,rfl⟩
 ·cases h
theorem x_ltsuf:XFact Tryz.prog GX 89 X_ltsuf:=by
 refine XFact.fix (pf:=X_ltsuf0) _ (xfact_of_stab [] (C₀:=c_ltsuf LF) (XFacts.ok (l:=[(117,X_lsuf)]) rfl ⟨x_lsuf,trivial⟩) (okFns_of rfl (by kernel_rfl)) follows ?_)
 intro args ret Hc h
 unfold X_ltsuf0 at h
 split at h
 ·rename_i s p
  obtain ⟨h0,h⟩:=tr_need h
  obtain ⟨rfl,rfl⟩:=tr_ret h
  have e:=(ltsuf_ev LF noY () 0 s p).trans (ltsuf_spec s p h0)
  exact ⟨rfl,rfl,rfl,1,_,_,e,rfl⟩
 ·cases h
theorem x_tsufc:XFact Tryz.prog GX 47 X_tsufc:=by
 refine XFact.fix (pf:=X_tsufc0) _ (xfact_of_stab [] (C₀:=c_tsufc LF) (XFacts.ok (l:=[(89,X_ltsuf)]) rfl ⟨x_ltsuf,trivial⟩) (okFns_of rfl (by kernel_rfl)) follows ?_)
 intro args ret Hc h
 unfold X_tsufc0 at h
 split at h
 ·rename_i s p
  obtain ⟨h0,h⟩:=tr_need h
  obtain ⟨rfl,rfl⟩:=tr_ret h
  have e:=(tsufc_ev LF noY () 0 s p).trans (tsufc_spec s p h0)
  exact ⟨rfl,rfl,rfl,1,_,_,e,rfl⟩
 ·cases h
theorem x_lcpre:XFact Tryz.prog GX 154 X_lcpre:=by
 refine XFact.fix (pf:=X_lcpre0) _ (xfact_of_stab [0,0] (C₀:=c_lcpre LF) (XFacts.ok (l:=[(86,X_lpre)]) rfl ⟨x_lpre,trivial⟩) (okFns_of rfl (by kernel_rfl)) follows ?_)
 intro args ret Hc h
 unfold X_lcpre0 at h
 split at h
 ·rename_i s p
  obtain ⟨h0,h⟩:=tr_need h
  obtain ⟨rfl,rfl⟩:=tr_ret h
  have e:=(lcpre_ev LF noY () 0 s p).trans (lcpre_spec s p h0)
  exact ⟨rfl,rfl,rfl,1,_,_,e,rfl⟩
 ·cases h
theorem x_cpre:XFact Tryz.prog GX 113 X_cpre:=by
 refine XFact.fix (pf:=X_cpre0) _ (xfact_of_stab [0,0] (C₀:=c_cpre LF) (XFacts.ok (l:=[(154,X_lcpre)]) rfl ⟨x_lcpre,trivial⟩) (okFns_of rfl (by kernel_rfl)) follows ?_)
 intro args ret Hc h
 unfold X_cpre0 at h
 split at h
 ·rename_i s p
  obtain ⟨h0,h⟩:=tr_need h
  obtain ⟨rfl,rfl⟩:=tr_ret h
  have e:=(cpre_ev LF noY () 0 s p).trans (cpre_spec s p h0)
  exact ⟨rfl,rfl,rfl,1,_,_,e,rfl⟩
 ·cases h
theorem x_gsplit:XFact Tryz.prog GX 94 X_gsplit:=by
 refine XFact.fix (pf:=X_gsplit0) _ (xfact_of_stab [1] (C₀:=c_gsplit LF) (XFacts.ok (l:=[(137,X_explode),(62,X_scnt),(116,X_sidx)]) rfl ⟨x_explode,x_scnt,x_sidx,trivial⟩) (okFns_of rfl (by kernel_rfl)) follows ?_)
 intro args ret Hc h
 unfold X_gsplit0 at h
 split at h
 ·rename_i s p v n
  obtain ⟨h0,h⟩:=tr_need h
  obtain ⟨h1,h⟩:=tr_need h
  obtain ⟨h2,h⟩:=tr_need h
  obtain ⟨h3,h⟩:=tr_need h
  obtain ⟨rfl,rfl⟩:=tr_ret h
  obtain ⟨r,H,e,hs⟩:=gsplit_spec s p v n h0 h1 h2 h3
  exact ⟨rfl,rfl,rfl,1,r,H,(gsplit_ev LF noY () 0 s p v n).trans e,hs⟩
 ·cases h
theorem x_ssplit:XFact Tryz.prog GX 50 X_ssplit:=by
 refine XFact.fix (pf:=X_ssplit0) _ (xfact_of_stab [1] (C₀:=c_ssplit LF) (XFacts.ok (l:=[(94,X_gsplit)]) rfl ⟨x_gsplit,trivial⟩) (okFns_of rfl (by kernel_rfl)) follows ?_)
 intro args ret Hc h
 unfold X_ssplit0 at h
 split at h
 ·rename_i s p
  obtain ⟨h0,h⟩:=tr_need h
  obtain ⟨h1,h⟩:=tr_need h
  obtain ⟨rfl,rfl⟩:=tr_ret h
  have e:=(ssplit_ev LF noY () 0 s p).trans (ssplit_spec s p h0 h1)
  exact ⟨rfl,rfl,rfl,1,_,_,e,rfl⟩
 ·cases h
theorem x_lowc:XFact Tryz.prog GX 97 X_lowc:=by
 refine XFact.fix (pf:=X_lowc0) _ (xfact_of_stab [] (C₀:=c_lowc LF) (XFacts.ok (l:=[]) rfl trivial) (okFns_of rfl (by kernel_rfl)) follows ?_)
 intro args ret Hc h
 unfold X_lowc0 at h
 split at h
 ·rename_i s
  obtain ⟨h0,h⟩:=tr_need h
  obtain ⟨rfl,rfl⟩:=tr_ret h
  have e:=(lowc_ev LF noY () 0 s).trans (lowc_spec s h0)
  exact ⟨rfl,rfl,rfl,1,_,_,e,rfl⟩
 ·cases h
theorem x_hexc:XFact Tryz.prog GX 91 X_hexc:=by
 refine XFact.fix (pf:=X_hexc0) _ (xfact_of_stab [] (C₀:=c_hexc LF) (XFacts.ok (l:=[(44,X_hpre)]) rfl ⟨x_hpre,trivial⟩) (okFns_of rfl (by kernel_rfl)) follows ?_)
 intro args ret Hc h
 unfold X_hexc0 at h
 split at h
 ·rename_i s
  obtain ⟨h0,h⟩:=tr_need h
  obtain ⟨rfl,rfl⟩:=tr_ret h
  have e:=(hexc_ev LF noY () 0 s).trans (hexc_spec s h0)
  exact ⟨rfl,rfl,rfl,1,_,_,e,rfl⟩
 ·cases h
theorem x_digs:XFact Tryz.prog GX 93 X_digs:=by
 refine XFact.fix (pf:=X_digs0) _ (xfact_of_stab [0,0] (C₀:=c_digs LF) (XFacts.ok (l:=[]) rfl trivial) (okFns_of rfl (by kernel_rfl)) follows ?_)
 intro args ret Hc h
 unfold X_digs0 at h
 split at h
 ·rename_i s base
  obtain ⟨h0,h⟩:=tr_need h
  obtain ⟨h1,h⟩:=tr_need h
  obtain ⟨rfl,rfl⟩:=tr_ret h
  have e:=(digs_ev LF noY () 0 s base).trans (digs_spec s base h0 h1)
  exact ⟨rfl,rfl,rfl,1,_,_,e,rfl⟩
 ·cases h
theorem x_num:XFact Tryz.prog GX 92 X_num:=by
 refine XFact.fix (pf:=X_num0) _ (xfact_of_stab [0,0] (C₀:=c_num LF) (XFacts.ok (l:=[(91,X_hexc),(93,X_digs)]) rfl ⟨x_hexc,x_digs,trivial⟩) (okFns_of rfl (by kernel_rfl)) follows ?_)
 intro args ret Hc h
 unfold X_num0 at h
 split at h
 ·rename_i s
  obtain ⟨h0,h⟩:=tr_need h
  obtain ⟨rfl,rfl⟩:=tr_ret h
  have e:=(num_ev LF noY () 0 s).trans (num_spec s h0)
  exact ⟨rfl,rfl,rfl,1,_,_,e,rfl⟩
 ·cases h
theorem x_parts:XFact Tryz.prog GX 90 X_parts:=by
 refine XFact.fix (pf:=X_parts0) _ (xfact_of_stab [1] (C₀:=c_parts LF) (XFacts.ok (l:=[(50,X_ssplit)]) rfl ⟨x_ssplit,trivial⟩) (okFns_of rfl (by kernel_rfl)) follows ?_)
 intro args ret Hc h
 unfold X_parts0 at h
 split at h
 ·rename_i s
  obtain ⟨h0,h⟩:=tr_need h
  obtain ⟨rfl,rfl⟩:=tr_ret h
  have e:=(parts_ev LF noY () 0 s).trans (parts_spec s h0)
  exact ⟨rfl,rfl,rfl,1,_,_,e,rfl⟩
 ·cases h
theorem x_numeric:XFact Tryz.prog GX 48 X_numeric:=by
 refine XFact.fix (pf:=X_numeric0) _ (xfact_of_stab [] (C₀:=c_numeric LF) (XFacts.ok (l:=[(90,X_parts),(91,X_hexc),(92,X_num),(93,X_digs)]) rfl ⟨x_parts,x_hexc,x_num,x_digs,trivial⟩) (okFns_of rfl (by kernel_rfl)) follows ?_)
 intro args ret Hc h
 unfold X_numeric0 at h
 split at h
 ·rename_i s
  obtain ⟨h0,h⟩:=tr_need h
  obtain ⟨rfl,rfl⟩:=tr_ret h
  have e:=(numeric_ev LF noY () 0 s).trans (numeric_spec s h0)
  exact ⟨rfl,rfl,rfl,1,_,_,e,rfl⟩
 ·cases h
theorem x_pnum:XFact Tryz.prog GX 49 X_pnum:=by
 refine XFact.fix (pf:=X_pnum0) _ (xfact_of_stab [0,0] (C₀:=c_pnum LF) (XFacts.ok (l:=[(90,X_parts),(92,X_num)]) rfl ⟨x_parts,x_num,trivial⟩) (okFns_of rfl (by kernel_rfl)) follows ?_)
 intro args ret Hc h
 unfold X_pnum0 at h
 split at h
 ·rename_i s
  obtain ⟨h0,h⟩:=tr_need h
  obtain ⟨rfl,rfl⟩:=tr_ret h
  have e:=(pnum_ev LF noY () 0 s).trans (pnum_spec s h0)
  exact ⟨rfl,rfl,rfl,1,_,_,e,rfl⟩
 ·cases h
theorem x_v4p:XFact Tryz.prog GX 174 X_v4p:=by
 refine XFact.fix (pf:=X_v4p0) _ (xfact_of_stab [0,0] (C₀:=c_v4p LF) (XFacts.ok (l:=[(50,X_ssplit),(93,X_digs),(122,X_itoa)]) rfl ⟨x_ssplit,x_digs,x_itoa,trivial⟩) (okFns_of rfl (by kernel_rfl)) follows ?_)
 intro args ret Hc h
 unfold X_v4p0 at h
 split at h
 ·rename_i s
  obtain ⟨h0,h⟩:=tr_need h
  obtain ⟨rfl,rfl⟩:=tr_ret h
  have e:=(v4p_ev LF noY () 0 s).trans (v4p_spec s h0)
  exact ⟨rfl,rfl,rfl,1,_,_,e,rfl⟩
 ·cases h
theorem x_rdigits:XFact Tryz.prog GX 106 X_rdigits:=by
 refine XFact.fix (pf:=X_rdigits0) _ (xfact_of_stab [] (C₀:=c_rdigits LF) (XFacts.ok (l:=[]) rfl trivial) (okFns_of rfl (by kernel_rfl)) follows ?_)
 intro args ret Hc h
 unfold X_rdigits0 at h
 split at h
 ·rename_i s
  obtain ⟨h0,h⟩:=tr_need h
  obtain ⟨rfl,rfl⟩:=tr_ret h
  have e:=(rdigits_ev LF noY () 0 s).trans (rdigits_spec s h0)
  exact ⟨rfl,rfl,rfl,1,_,_,e,rfl⟩
 ·cases h
theorem x_rsplit:XFact Tryz.prog GX 57 X_rsplit:=by
 refine XFact.fix (pf:=X_rsplit0) _ (xfact_of_stab [1] (C₀:=c_rsplit LF) (XFacts.ok (l:=[]) rfl trivial) (okFns_of rfl (by kernel_rfl)) follows ?_)
 intro args ret Hc h
 unfold X_rsplit0 at h
 split at h
 ·rename_i s c
  obtain ⟨h0,h⟩:=tr_need h
  obtain ⟨h1,h⟩:=tr_need h
  obtain ⟨rfl,rfl⟩:=tr_ret h
  obtain ⟨r,H,e,hs⟩:=rsplit_spec s c h0 h1
  exact ⟨rfl,rfl,rfl,1,r,H,(rsplit_ev LF noY () 0 s c).trans e,hs⟩
 ·cases h
theorem x_rdig:XFact Tryz.prog GX 146 X_rdig:=by
 refine XFact.fix (pf:=X_rdig0) _ (xfact_of_stab [] (C₀:=c_rdig LF) (XFacts.ok (l:=[]) rfl trivial) (okFns_of rfl (by kernel_rfl)) follows ?_)
 intro args ret Hc h
 unfold X_rdig0 at h
 split at h
 ·rename_i b
  obtain ⟨h0,h⟩:=tr_need h
  obtain ⟨rfl,rfl⟩:=tr_ret h
  have e:=(rdig_ev LF noY () 0 b).trans (rdig_spec b h0)
  exact ⟨rfl,rfl,rfl,1,_,_,e,rfl⟩
 ·cases h
theorem x_rnum:XFact Tryz.prog GX 107 X_rnum:=by
 refine XFact.fix (pf:=X_rnum0) _ (xfact_of_stab [0,0] (C₀:=c_rnum LF) (XFacts.ok (l:=[(146,X_rdig)]) rfl ⟨x_rdig,trivial⟩) (okFns_of rfl (by kernel_rfl)) follows ?_)
 intro args ret Hc h
 unfold X_rnum0 at h
 split at h
 ·rename_i s
  obtain ⟨h0,h⟩:=tr_need h
  obtain ⟨rfl,rfl⟩:=tr_ret h
  have e:=(rnum_ev LF noY () 0 s).trans (rnum_spec s h0)
  exact ⟨rfl,rfl,rfl,1,_,_,e,rfl⟩
 ·cases h
theorem x_rparts:XFact Tryz.prog GX 105 X_rparts:=by
 refine XFact.fix (pf:=X_rparts0) _ (xfact_of_stab [1] (C₀:=c_rparts LF) (XFacts.ok (l:=[(57,X_rsplit)]) rfl ⟨x_rsplit,trivial⟩) (okFns_of rfl (by kernel_rfl)) follows ?_)
 intro args ret Hc h
 unfold X_rparts0 at h
 split at h
 ·rename_i s
  obtain ⟨h0,h⟩:=tr_need h
  obtain ⟨rfl,rfl⟩:=tr_ret h
  have e:=(rparts_ev LF noY () 0 s).trans (rparts_spec s h0)
  exact ⟨rfl,rfl,rfl,1,_,_,e,rfl⟩
 ·cases h
theorem x_rnumeric:XFact Tryz.prog GX 55 X_rnumeric:=by
 refine XFact.fix (pf:=X_rnumeric0) _ (xfact_of_stab [] (C₀:=c_rnumeric LF) (XFacts.ok (l:=[(105,X_rparts),(106,X_rdigits),(107,X_rnum)]) rfl ⟨x_rparts,x_rdigits,x_rnum,trivial⟩) (okFns_of rfl (by kernel_rfl)) follows ?_)
 intro args ret Hc h
 unfold X_rnumeric0 at h
 split at h
 ·rename_i s
  obtain ⟨h0,h⟩:=tr_need h
  obtain ⟨rfl,rfl⟩:=tr_ret h
  have e:=(rnumeric_ev LF noY () 0 s).trans (rnumeric_spec s h0)
  exact ⟨rfl,rfl,rfl,1,_,_,e,rfl⟩
 ·cases h
theorem x_gsplitM:XFact Tryz.prog GX 94 X_gsplitM:=by
 refine XFact.fix (pf:=X_gsplitM0) _ (xfact_of_run (C₀:=c_gsplit LF) (XFacts.ok (l:=[(137,X_explode),(62,X_scnt),(116,X_sidx)]) rfl ⟨x_explode,x_scnt,x_sidx,trivial⟩) (okFns_of rfl (by kernel_rfl)) follows ?_)
 intro args ret Hc h
 unfold X_gsplitM0 at h
 split at h
 ·rename_i s p v n
  obtain ⟨h0,h⟩:=tr_need h
  obtain ⟨h1,h⟩:=tr_need h
  obtain ⟨h2,h⟩:=tr_need h
  obtain ⟨h3,h⟩:=tr_need h
  obtain ⟨rfl,rfl⟩:=tr_ret h
  have e:=(gsplit_ev LF noY () 0 s p v n).trans (gsplit_run s p v n h0 h1 h2 h3)
  exact ⟨rfl,1,_,[],e,rfl,rfl⟩
 ·cases h
theorem x_ssplitM:XFact Tryz.prog GX 50 X_ssplitM:=by
 refine XFact.fix (pf:=X_ssplitM0) _ (xfact_of_run (C₀:=c_ssplitM LF) (XFacts.ok (l:=[(94,X_gsplitM)]) rfl ⟨x_gsplitM,trivial⟩) (okFns_of rfl (by kernel_rfl)) follows ?_)
 intro args ret Hc h
 unfold X_ssplitM0 at h
 split at h
 ·rename_i s p
  obtain ⟨h0,h⟩:=tr_need h
  obtain ⟨h1,h⟩:=tr_need h
  obtain ⟨rfl,rfl⟩:=tr_ret h
  have e:=(ssplitM_ev LF noY () 0 s p).trans (ssplitM_spec s p h0 h1)
  exact ⟨rfl,1,_,[],e,rfl,rfl⟩
 ·cases h
end
section
theorem x_grpc:XFact Tryz.prog GX 173 X_grpc:=by
 refine XFact.fix (pf:=X_grpc0) _ (xfact_of_stab [0,0] (C₀:=c_grpc LF) (XFacts.ok (l:=[]) rfl trivial) (okFns_of rfl (by kernel_rfl)) follows ?_)
 intro args ret Hc h
 unfold X_grpc0 at h
 split at h
 ·rename_i s
  obtain ⟨h0,h⟩:=tr_need h
  obtain ⟨rfl,rfl⟩:=tr_ret h
  have e:=(grpc_ev LF noY () 0 s).trans (grpc_spec s h0)
  exact ⟨rfl,rfl,rfl,1,_,_,e,rfl⟩
 ·cases h
theorem x_grpsc:XFact Tryz.prog GX 136 X_grpsc:=by
 refine XFact.fix (pf:=X_grpsc0) _ (xfact_of_stab [1,0] (C₀:=c_grpsc LF) (XFacts.ok (l:=[(50,X_ssplit),(173,X_grpc),(174,X_v4p)]) rfl ⟨x_ssplit,x_grpc,x_v4p,trivial⟩) (okFns_of rfl (by kernel_rfl)) follows ?_)
 intro args ret Hc h
 unfold X_grpsc0 at h
 split at h
 ·rename_i s last
  obtain ⟨h0,h⟩:=tr_need h
  obtain ⟨rfl,rfl⟩:=tr_ret h
  obtain ⟨r,H,e,hs⟩:=grpsc_spec s last h0
  exact ⟨rfl,rfl,rfl,1,r,H,(grpsc_ev LF noY () 0 s last).trans e,hs⟩
 ·cases h
theorem x_v6p:XFact Tryz.prog GX 87 X_v6p:=by
 refine XFact.fix (pf:=X_v6p0) _ (xfact_of_stab [0,0] (C₀:=c_v6p LF) (XFacts.ok (l:=[(84,X_scut),(136,X_grpsc)]) rfl ⟨x_scut,x_grpsc,trivial⟩) (okFns_of rfl (by kernel_rfl)) follows ?_)
 intro args ret Hc h
 unfold X_v6p0 at h
 split at h
 ·rename_i s
  obtain ⟨h0,h⟩:=tr_need h
  obtain ⟨rfl,rfl⟩:=tr_ret h
  obtain ⟨r,H,e,hs⟩:=v6p_sp s h0
  exact ⟨rfl,rfl,rfl,1,r,H,(v6p_ev LF noY () 0 s).trans e,hs⟩
 ·cases h
theorem x_ppoint:XFact Tryz.prog GX 139 X_ppoint:=by
 refine XFact.fix (pf:=X_ppoint0) _ (xfact_of_stab [] (C₀:=c_ppoint LF) (XFacts.ok (l:=[]) rfl trivial) (okFns_of rfl (by kernel_rfl)) follows ?_)
 intro args ret Hc h
 unfold X_ppoint0 at h
 split at h
 ·rename_i n
  obtain ⟨rfl,rfl⟩:=tr_ret h
  have e:=(ppoint_ev LF noY () 0 n).trans (ppoint_spec n )
  exact ⟨rfl,rfl,rfl,1,_,_,e,rfl⟩
 ·cases h
theorem x_padapt:XFact Tryz.prog GX 141 X_padapt:=by
 refine XFact.fix (pf:=X_padapt0) _ (xfact_of_stab [] (C₀:=c_padapt LF) (XFacts.ok (l:=[]) rfl trivial) (okFns_of rfl (by kernel_rfl)) follows ?_)
 intro args ret Hc h
 unfold X_padapt0 at h
 split at h
 ·rename_i d c f
  obtain ⟨h0,h⟩:=tr_need h
  obtain ⟨h1,h⟩:=tr_need h
  obtain ⟨h2,h⟩:=tr_need h
  obtain ⟨rfl,rfl⟩:=tr_ret h
  have e:=(padapt_ev LF noY () 0 d c f).trans (padapt_spec d c f h0 h1 h2)
  exact ⟨rfl,rfl,rfl,1,_,_,e,rfl⟩
 ·cases h
theorem x_pdig:XFact Tryz.prog GX 176 X_pdig:=by
 refine XFact.fix (pf:=X_pdig0) _ (xfact_of_stab [] (C₀:=c_pdig LF) (XFacts.ok (l:=[]) rfl trivial) (okFns_of rfl (by kernel_rfl)) follows ?_)
 intro args ret Hc h
 unfold X_pdig0 at h
 split at h
 ·rename_i d
  obtain ⟨h0,h⟩:=tr_need h
  obtain ⟨rfl,rfl⟩:=tr_ret h
  have e:=(pdig_ev LF noY () 0 d).trans (pdig_spec d h0)
  exact ⟨rfl,rfl,rfl,1,_,_,e,rfl⟩
 ·cases h
theorem x_pval:XFact Tryz.prog GX 205 X_pval:=by
 refine XFact.fix (pf:=X_pval0) _ (xfact_of_stab [] (C₀:=c_pval LF) (XFacts.ok (l:=[]) rfl trivial) (okFns_of rfl (by kernel_rfl)) follows ?_)
 intro args ret Hc h
 unfold X_pval0 at h
 split at h
 ·rename_i b
  obtain ⟨h0,h⟩:=tr_need h
  obtain ⟨rfl,rfl⟩:=tr_ret h
  have e:=(pval_ev LF noY () 0 b).trans (pval_spec b h0)
  exact ⟨rfl,rfl,rfl,1,_,_,e,rfl⟩
 ·cases h
end
section
theorem x_pthr:XFact Tryz.prog GX 175 X_pthr:=by
 refine XFact.fix (pf:=X_pthr0) _ (xfact_of_run (C₀:=c_pthr LF) (XFacts.ok (l:=[]) rfl trivial) (okFns_of rfl (by kernel_rfl)) follows ?_)
 intro args ret Hc h
 unfold X_pthr0 at h
 split at h
 ·rename_i b
  obtain ⟨rfl,rfl⟩:=tr_ret h
  have e:=(pthr_ev LF noY () 0 b).trans (pthr_spec b )
  exact ⟨rfl,1,_,[],e,rfl,rfl⟩
 ·cases h
theorem y_pnext:YFact Tryz.prog GX 195 X_pnext:=by
 refine yfact_of_run (C₀:=c_pnext LF) (XFacts.ok (l:=[]) rfl trivial) (okFns_of rfl (by kernel_rfl)) follows ?_
 intro args H ret Hc h
 unfold X_pnext at h
 split at h
 ·rename_i k b
  obtain ⟨h0,h⟩:=tr_need h
  obtain ⟨h1,h⟩:=tr_need h
  obtain ⟨rfl,rfl⟩:=tr_ret h
  refine ⟨rfl,rfl,fun σ yh s=>?_⟩
  have e:=(pnext_ev LF yh s 0 k b).trans (pnext_spec k b h0 h1)
  exact ⟨1,_,e,rfl⟩
 ·cases h
theorem y_papp:YFact Tryz.prog GX 140 X_papp:=by
 refine yfact_of_run (C₀:=c_papp LF) (xok_of (lx:=[(175,X_pthr),(176,X_pdig)]) (ly:=[(195,X_pnext)]) (ls:=[]) rfl rfl rfl ⟨x_pthr,x_pdig,trivial⟩ ⟨y_pnext,trivial⟩ trivial) (okFns_of rfl (by kernel_rfl)) follows ?_
 intro args H ret Hc h
 unfold X_papp at h
 split at h
 ·rename_i q b z l
  obtain ⟨h0,h⟩:=tr_need h
  obtain ⟨h1,h⟩:=tr_need h
  obtain ⟨h2,h⟩:=tr_need h
  obtain ⟨rfl,rfl⟩:=tr_ret h
  obtain ⟨x0,x1,e0⟩:=papp_spec q b z l h0 h1 h2
  exact ⟨rfl,rfl,fun σ yh s=>⟨1,_,(papp_ev LF yh s 0 q b z l).trans (e0 _ _),rfl⟩⟩
 ·cases h
theorem x_penc:XFact Tryz.prog GX 98 X_penc:=by
 refine XFact.fix (pf:=X_penc0) _ (xfact_of_stab [0,0] (C₀:=c_penc LF) (xok_of (lx:=[(139,X_ppoint),(141,X_padapt)]) (ly:=[(140,X_papp)]) (ls:=[]) rfl rfl rfl ⟨x_ppoint,x_padapt,trivial⟩ ⟨y_papp,trivial⟩ trivial) (okFns_of rfl (by kernel_rfl)) follows ?_)
 intro args ret Hc h
 unfold X_penc0 at h
 split at h
 ·rename_i p_z p_t p
  obtain ⟨h0,h⟩:=tr_need h
  obtain ⟨rfl,rfl⟩:=tr_ret h
  obtain ⟨r,H,e,hs⟩:=penc_sp p_z p_t p h0
  exact ⟨rfl,rfl,rfl,1,r,H,(penc_ev LF noY () 0 p_z p_t p).trans e,hs⟩
 ·cases h
end
section
theorem y_dnum:YFact Tryz.prog GX 196 X_dnum:=by
 refine yfact_of_run (C₀:=c_dnum LF) (xok_of (lx:=[(175,X_pthr),(205,X_pval)]) (ly:=[(195,X_pnext)]) (ls:=[]) rfl rfl rfl ⟨x_pthr,x_pval,trivial⟩ ⟨y_pnext,trivial⟩ trivial) (okFns_of rfl (by kernel_rfl)) follows ?_
 intro args H ret Hc h
 unfold X_dnum at h
 split at h
 ·rename_i rest n i b st z l
  obtain ⟨h0,h⟩:=tr_need h
  obtain ⟨h1,h⟩:=tr_need h
  obtain ⟨h2,h⟩:=tr_need h
  obtain ⟨rfl,rfl⟩:=tr_ret h
  obtain ⟨x0,e0⟩:=dnum_spec rest n i b st z l h0 h1 h2
  exact ⟨rfl,rfl,fun σ yh s=>⟨1,_,(dnum_ev LF yh s 0 rest n i b st z l).trans (e0 _ _),rfl⟩⟩
 ·cases h
theorem x_ilastb:XFact Tryz.prog GX 160 X_ilastb:=by
 refine XFact.fix (pf:=X_ilastb0) _ (xfact_of_stab [] (C₀:=c_ilastb LF) (XFacts.ok (l:=[]) rfl trivial) (okFns_of rfl (by kernel_rfl)) follows ?_)
 intro args ret Hc h
 unfold X_ilastb0 at h
 split at h
 ·rename_i s c
  obtain ⟨h0,h⟩:=tr_need h
  obtain ⟨h1,h⟩:=tr_need h
  obtain ⟨rfl,rfl⟩:=tr_ret h
  have e:=(ilastb_ev LF noY () 0 s c).trans (ilastb_spec s c h0 h1)
  exact ⟨rfl,rfl,rfl,1,_,_,e,rfl⟩
 ·cases h
theorem x_lastb:XFact Tryz.prog GX 127 X_lastb:=by
 refine XFact.fix (pf:=X_lastb0) _ (xfact_of_stab [] (C₀:=c_lastb LF) (XFacts.ok (l:=[(160,X_ilastb)]) rfl ⟨x_ilastb,trivial⟩) (okFns_of rfl (by kernel_rfl)) follows ?_)
 intro args ret Hc h
 unfold X_lastb0 at h
 split at h
 ·rename_i s c
  obtain ⟨h0,h⟩:=tr_need h
  obtain ⟨h1,h⟩:=tr_need h
  obtain ⟨rfl,rfl⟩:=tr_ret h
  have e:=(lastb_ev LF noY () 0 s c).trans (lastb_spec s c h0 h1)
  exact ⟨rfl,rfl,rfl,1,_,_,e,rfl⟩
 ·cases h
end
end Go.Proofs.YtokehocipgepnaaGreatDoor.E
