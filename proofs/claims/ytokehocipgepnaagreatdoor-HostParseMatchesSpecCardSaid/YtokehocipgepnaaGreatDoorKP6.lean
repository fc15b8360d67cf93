/-
  Parse is as specified, as its tied card says. Conditions: what the card itself names (the package-level variables that are listed, tied to the program's text).
-/
import Derived.Test.YtokehocipgepnaaGreatDoorKP5
import Derived.Test.YtokehocipgepnaaGreatDoorCards
import Derived.Test.YtokehocipgepnaaGreatDoorTie
namespace Go.Proofs.YtokehocipgepnaaGreatDoor.E
open Go Go.Proofs 
set_option linter.unusedVariables false
set_option maxRecDepth 100000
section
variable {σ R : Type} (lf : Nat) (cl : CallT) (yh : Yh σ) (s : σ) (k : Out → St σ → Option R)
noncomputable abbrev b_rhx:Code:=bodyOf Tryz.f104
noncomputable def c_rhx (lf:Nat):Cfg:=mkCfg lf [104] (lookK []) [] (lookK [(7,[2]),(2,[2]),(4,[2]),(6,[2]),(5,[0,23]),(3,[0,12]),(1,[0,2]),(0,[0])]) [] (lookK [(0,[])]) (some [2]) [] [] []
noncomputable def rhx_j0 {R:Type} (b0:Int) (b1:Bool) (k0:Int→Option R) (k1:Int→Bool→Option R):Option R:=cond b1 (vl (wi64 (wu8 (b0-(97:Int)))) fun n'1=>vl (wi64 (n'1+(10:Int))) fun n'2=>k0 n'2) (cond (not (ltI b0 (65:Int))) (cond (not (ltI (70:Int) b0)) (vl (wi64 (wu8 (b0-(65:Int)))) fun n'3=>vl (wi64 (n'3+(10:Int))) fun n'4=>k0 n'4) (k1 b0 (not (ltI (70:Int) b0)))) (k1 b0 false))
abbrev rhx_j0_P (b:Code):Prop:=∀ (k:Out→St σ→Option R) (b0:Int) (b1:Bool),evCode (c_rhx lf) cl yh b ⟨gp [(0,.s (.int .u8 b0)),(12,.s (.bool b1))] 21,[],s⟩ k=rhx_j0 b0 b1 (fun n0=>k .ret ⟨gp [(2,.s (.int .i64 n0))] 32,[],s⟩) (fun b0 b1=>k .normal ⟨gp [(0,.s (.int .u8 b0)),(23,.s (.bool b1))] 10,[],s⟩)
theorem rhx_j0_eq:rhx_j0_P (R:=R) lf cl yh s (cd [1,0,0,1,1,1] b_rhx):=by
 intro k b0 b1;unfold rhx_j0;kernel_rfl
noncomputable def rhx_j1 {R:Type} (b0:Int) (b1:Bool) (k0:Int→Option R) (k1:Int→Bool→Option R):Option R:=cond b1 (vl (wi64 (wu8 (b0-(48:Int)))) fun n'0=>k0 n'0) (cond (not (ltI b0 (97:Int))) (rhx_j0 b0 (not (ltI (102:Int) b0)) (fun n'5=>k0 n'5) (fun b'6 b'7=>k1 b'6 b'7)) (rhx_j0 b0 false (fun n'8=>k0 n'8) (fun b'9 b'10=>k1 b'9 b'10)))
abbrev rhx_j1_P (b:Code):Prop:=∀ (k:Out→St σ→Option R) (b0:Int) (b1:Bool),evCode (c_rhx lf) cl yh b ⟨gp [(0,.s (.int .u8 b0)),(2,.s (.bool b1))] 31,[],s⟩ k=rhx_j1 b0 b1 (fun n0=>k .ret ⟨gp [(2,.s (.int .i64 n0))] 32,[],s⟩) (fun b0 b1=>k .normal ⟨gp [(0,.s (.int .u8 b0)),(23,.s (.bool b1))] 10,[],s⟩)
theorem rhx_j1_eq (b_100111:Code) (h_rhx_j0:rhx_j0_P (R:=R) lf cl yh s b_100111):rhx_j1_P (R:=R) lf cl yh s (cd [1,0,0,1] (putC [1,0,0,1,1,1] b_100111 b_rhx)):=by
 intro k b0 b1;unfold rhx_j1;exact (Eq.trans (by kernel_rfl) (cond_congr (vl_congr fun n'0=>rfl) (cond_congr ((h_rhx_j0 k b0 (not (ltI (102:Int) b0))).trans (congr (congr rfl (funext fun n'5=>(by kernel_rfl))) (funext fun b'6=>(funext fun b'7=>(by kernel_rfl))))) ((h_rhx_j0 k b0 false).trans (congr (congr rfl (funext fun n'8=>(by kernel_rfl))) (funext fun b'9=>(funext fun b'10=>(by kernel_rfl))))))))
theorem rhx_j1_fu:rhx_j1_P (R:=R) lf cl yh s (cd [1,0,0,1] b_rhx):=by
 intro k b0 b1;exact Eq.trans (by kernel_rfl) (rhx_j1_eq lf cl yh s (cd [1,0,0,1,1,1] b_rhx) (rhx_j0_eq lf cl yh s) k b0 b1)
noncomputable def rhx {R:Type} (lf:Nat) (b0:Int) (k0:Int→Option R):Option R:=cond (not (ltI b0 (48:Int))) (rhx_j1 b0 (not (ltI (57:Int) b0)) (fun n'11=>k0 n'11) (fun b'12 b'13=>k0 (-1))) (rhx_j1 b0 false (fun n'14=>k0 n'14) (fun b'15 b'16=>k0 (-1)))
theorem rhx_eq (b_1001:Code) (h_rhx_j1:rhx_j1_P (R:=PV × List Blk × σ) lf cl yh s b_1001) (b0:Int):evCode (c_rhx lf) cl yh (cd [] (putC [1,0,0,1] b_1001 b_rhx)) ⟨[.s (.int .u8 b0)]++tps 34,[],s⟩ (retK (c_rhx lf) Tryz.f104)=rhx lf b0 (fun r0=>some (.s (.int .i64 r0),[],s)):=by
 unfold rhx;exact (Eq.trans (by kernel_rfl) (cond_congr ((h_rhx_j1 (blkK 0 (seqK (c_rhx lf) cl yh (cd [1,1] b_rhx) (retK (c_rhx lf) Tryz.f104))) b0 (not (ltI (57:Int) b0))).trans (congr (congr rfl (funext fun n'11=>(by kernel_rfl))) (funext fun b'12=>(funext fun b'13=>(by kernel_rfl))))) ((h_rhx_j1 (blkK 0 (seqK (c_rhx lf) cl yh (cd [1,1] b_rhx) (retK (c_rhx lf) Tryz.f104))) b0 false).trans (congr (congr rfl (funext fun n'14=>(by kernel_rfl))) (funext fun b'15=>(funext fun b'16=>(by kernel_rfl)))))))
theorem rhx_ev (d:Nat) (b0:Int):evC (c_rhx lf) (d+1) σ yh 104 [.s (.int .u8 b0)] [] s=rhx lf b0 (fun r0=>some (.s (.int .i64 r0),[],s)):=
 (evC_eq (fn:=Tryz.f104) (by kernel_rfl) (by kernel_rfl) (by kernel_rfl)).trans (Eq.trans (by kernel_rfl) (rhx_eq lf (evC (c_rhx lf) d) yh s (cd [1,0,0,1] b_rhx) (rhx_j1_fu lf (evC (c_rhx lf) d) yh s) b0))
noncomputable abbrev b_rhdec:Code:=bodyOf Tryz.f54
noncomputable def c_rhdec (lf:Nat):Cfg:=mkCfg lf [54] (lookK [(3,[0,1,0,0,0])]) [(104,X_rhx)] (lookK [(11,[2,0]),(4,[0,3,0]),(10,[0,3,0]),(9,[0,3,0]),(8,[2,0]),(7,[0,3,0,36]),(6,[0,3,0]),(5,[0,3,0,9]),(3,[0,3,0,3]),(2,[0,3,0]),(1,[0,3]),(0,[0])]) [104] (lookK [(0,[4]),(1,[0,3,0])]) (some [2,0]) [] [] []
noncomputable def rhdec_l0f {R:Type} (lf n:Nat) (self:By→Int→LL→Option R) (s0:By) (i1:Int) (l2:LL) (k0:LL→Option R) (k1:LL→Option R):Option R:=cond (ltI i1 (↑(List.length s0):Int)) (cond (inR i1 (List.length s0)) (cond ((bAt s0 i1) != (37:Int)) (cond (inR i1 (List.length s0)) (cond (roomy ((List.length l2)+1)) (self s0 (wi64 (i1+(1:Int))) (l2++[[(SV.int .u8 (bAt s0 i1))]])) (none)) (none)) (vl (wi64 ((↑(List.length s0):Int)-i1)) fun n'3=>cond (ltI n'3 (3:Int)) (k0 l2) (cond (inR (wi64 (i1+(1:Int))) (List.length s0)) (vl (bAt s0 (wi64 (i1+(1:Int)))) fun n'4=>cond (inR n'4 256) (cond (ltI (digI (u8n n'4)) (0:Int)) (k0 l2) (cond (inR (wi64 (i1+(2:Int))) (List.length s0)) (vl (bAt s0 (wi64 (i1+(2:Int)))) fun n'5=>cond (inR n'5 256) (cond (ltI (digI (u8n n'5)) (0:Int)) (k0 l2) (cond (inR (wi64 (i1+(1:Int))) (List.length s0)) (vl (bAt s0 (wi64 (i1+(1:Int)))) fun n'6=>cond (inR n'6 256) (vl (wi64 ((16:Int)*(digI (u8n n'6)))) fun n'7=>cond (inR (wi64 (i1+(2:Int))) (List.length s0)) (vl (bAt s0 (wi64 (i1+(2:Int)))) fun n'8=>cond (inR n'8 256) (vl (wi64 (n'7+(digI (u8n n'8)))) fun n'9=>cond (roomy ((List.length l2)+1)) (vl (wi64 ((wi64 (i1+(2:Int)))+(1:Int))) fun n'10=>self s0 n'10 (l2++[[(SV.int .u8 (wu8 n'9))]])) (none)) (none)) (none)) (none)) (none))) (none)) (none))) (none)) (none)))) (none)) (k1 l2)
noncomputable def rhdec_l0 {R:Type} (lf n:Nat) (s0:By) (i1:Int) (l2:LL) (k0:LL→Option R) (k1:LL→Option R):Option R:=recN (α:=By→Int→LL→Option R) (fun _ _ _=>none) (fun n self s0 i1 l2=>rhdec_l0f lf n self s0 i1 l2 k0 k1) n s0 i1 l2
theorem rhdec_l0_s {R:Type} (lf n:Nat) (s0:By) (i1:Int) (l2:LL) (k0:LL→Option R) (k1:LL→Option R):rhdec_l0 lf (n+1) s0 i1 l2 k0 k1=rhdec_l0f lf n (fun s0 i1 l2=>rhdec_l0 lf n s0 i1 l2 k0 k1) s0 i1 l2 k0 k1:=rfl
theorem rhdec_l0_eq (n:Nat) (s0:By) (i1:Int) (l2:LL):loopK 1 ((c_rhdec lf).keep 3) (bd (c_rhdec lf) cl yh (cd [1,1,0,1,0,0] b_rhdec)) n ⟨gp [(0,.s (.str s0)),(3,.fl 0),(0,.s (.int .i64 i1))] 57,[.arr true 5 1 l2],s⟩ k =
 rhdec_l0 lf n s0 i1 l2 (fun l0=>k .ret ⟨gp [(2,.s (.str ([]:List UInt8))),(0,.s (.bool false))] 59,[.arr true 5 1 l0],s⟩) (fun l0=>k (.exit 0) ⟨gp [(4,.fl 0)] 58,[.arr true 5 1 l0],s⟩):=by
 induction n generalizing s0 i1 l2 with
 | zero=>rfl
 | succ n ih=>rw [rhdec_l0_s];unfold rhdec_l0f;exact (Eq.trans (by kernel_rfl) (cond_congr (cond_congr (cond_congr (cond_congr (cond_congr (ih s0 (wi64 (i1+(1:Int))) (l2++[[(SV.int .u8 (bAt s0 i1))]])) rfl) rfl) (vl_congr fun n'3=>(cond_congr rfl (cond_congr (vl_congr fun n'4=>(cond_congr (cond_congr rfl (cond_congr (vl_congr fun n'5=>(cond_congr (cond_congr rfl (cond_congr (vl_congr fun n'6=>(cond_congr (vl_congr fun n'7=>(cond_congr (vl_congr fun n'8=>(cond_congr (vl_congr fun n'9=>(cond_congr (vl_congr fun n'10=>(ih s0 n'10 (l2++[[(SV.int .u8 (wu8 n'9))]]))) rfl)) rfl)) rfl)) rfl)) rfl)) rfl)) rfl)) rfl)) rfl)))) rfl) rfl))
noncomputable def rhdec {R:Type} (lf:Nat) (s0:By) (k0:By→Bool→LL→Option R):Option R:=rhdec_l0 lf lf s0 0 [] (fun l'11=>k0 ([]:List UInt8) false l'11) (fun l'12=>cond (List.all l'12 isU8) (k0 (List.map elU8 l'12) true l'12) (none))
theorem rhdec_ev (d:Nat) (s0:By):evC (c_rhdec lf) (d+1) σ yh 54 [.s (.str s0)] [] s=rhdec lf s0 (fun r0 r1 l2=>some (.tup [.s (.str r0),.s (.bool r1)],[.arr true 5 1 l2],s)):=by
 refine (evC_eq (fn:=Tryz.f54) (by kernel_rfl) (by kernel_rfl) (by kernel_rfl)).trans ?_
 generalize evC (c_rhdec lf) d=cl
 unfold rhdec;exact (Eq.trans (by kernel_rfl) ((rhdec_l0_eq lf cl yh s (blkK 0 (seqK (c_rhdec lf) cl yh (cd [1,1,1] b_rhdec) (retK (c_rhdec lf) Tryz.f54))) lf s0 0 []).trans (congr (congr rfl (funext fun l'11=>(by kernel_rfl))) (funext fun l'12=>(by kernel_rfl)))))
noncomputable def rhvn_l0f {R:Type} (lf n:Nat) (self:LL→Int→Option R) (p0:LL) (i1:Int) (k0:Unit→Option R) (k1:Unit→Option R):Option R:=cond (ltI i1 (↑(List.length p0):Int)) (cond (inR i1 (List.length p0)) (cond (okE tStr p0 (Int.toNat i1) 0) (cond (small (List.length (gX p0 (Int.toNat i1) 0))) (cond (not (validL (gX p0 (Int.toNat i1) 0))) (k0 ()) (self p0 (wi64 (i1+(1:Int))))) (none)) (none)) (none)) (k1 ())
noncomputable def rhvn_l0 {R:Type} (lf n:Nat) (p0:LL) (i1:Int) (k0:Unit→Option R) (k1:Unit→Option R):Option R:=recN (α:=LL→Int→Option R) (fun _ _=>none) (fun n self p0 i1=>rhvn_l0f lf n self p0 i1 k0 k1) n p0 i1
theorem rhvn_l0_s {R:Type} (lf n:Nat) (p0:LL) (i1:Int) (k0:Unit→Option R) (k1:Unit→Option R):rhvn_l0 lf (n+1) p0 i1 k0 k1=rhvn_l0f lf n (fun p0 i1=>rhvn_l0 lf n p0 i1 k0 k1) p0 i1 k0 k1:=rfl
noncomputable def rhvn {R:Type} (lf:Nat) (name0:By) (k0:Bool→Option R):Option R:=cond (name0==([]:List UInt8)) (k0 false) (cond (ltI (253:Int) (↑(List.length name0):Int)) (k0 false) (cond (small (List.length name0)) (cond (numericB name0) (k0 false) (cond (small (List.length name0)) (vl (strE (pcs (u8n (46:Int)) name0)) fun l'1=>rhvn_l0 lf lf l'1 0 (fun _=>k0 false) (fun _=>k0 true)) (none))) (none)))
end
end Go.Proofs.YtokehocipgepnaaGreatDoor.E
namespace Go.Proofs.YtokehocipgepnaaGreatDoor.E
open Go Go.Proofs 
set_option linter.unusedVariables false
set_option maxRecDepth 100000
section
variable {σ R : Type} (lf : Nat) (cl : CallT) (yh : Yh σ) (s : σ) (k : Out → St σ → Option R)
noncomputable abbrev b_rhparse:Code:=bodyOf Tryz.f22
noncomputable def c_rhparse (lf:Nat):Cfg:=mkCfg lf [22] (lookK [(23,[2,0,6,0,0])]) [(53,X_rv6p),(54,X_rhdec),(55,X_rnumeric),(56,X_rpnum),(57,X_rsplit),(58,X_rlasc)] (lookK [(35,[2,0]),(34,[2,0]),(33,[2,7,108]),(32,[2,0]),(31,[2,7,105]),(24,[2,7,0,0]),(30,[2,7,0,0]),(29,[2,7,0,0,0]),(28,[2,7,0,0,0,94]),(27,[2,0]),(26,[2,7,0,0,0,0,89]),(25,[2,7,0,0,0,0]),(23,[2,7,0,0,79]),(22,[2,7,0,0]),(21,[2,7,0]),(20,[2,3,3]),(19,[2,0]),(18,[2,0]),(17,[2,5,74]),(16,[2,5,0]),(15,[2,3,69]),(14,[2,3]),(13,[2,3,62]),(12,[2,0]),(11,[2,3,51]),(10,[2,3,0]),(9,[2,0]),(8,[2,0]),(7,[2,1,43]),(6,[2,1,0]),(5,[2,0]),(4,[0,1,33]),(3,[0,1,22]),(2,[2,0]),(1,[0,1,14]),(0,[0,1])]) [54,55,56,58] (lookK [(0,[2,7]),(1,[2,7,0,0])]) (some [2,0]) [] [] []
noncomputable def rhparse_j0 {R:Type} (raw0:By) (b1:Bool) (k0:Unit→Option R) (k1:Int→Int→Int→Int→Int→Int→Int→Int→Int→Int→LL→Option R) (k2:By→Bool→Option R):Option R:=cond b1 (vl (wi64 ((↑(List.length raw0):Int)-(1:Int))) fun n'1=>cond (inR n'1 (List.length raw0)) (cond ((bAt raw0 n'1) != (93:Int)) (k0 ()) (cond (ltI (↑(List.length raw0):Int) (2:Int)) (k0 ()) (vl (wi64 ((↑(List.length raw0):Int)-(1:Int))) fun n'11=>cond (sub3 (1:Int) n'11 (List.length raw0)) (vl (cut raw0 (1:Int) n'11) fun s'12=>cond (small (List.length s'12)) (cond (not (Option.isSome (v6B s'12))) (k1 14 0 0 0 0 0 0 0 0 0 [[(SV.int .u16 (↑(v6c 0 s'12):Int))],[(SV.int .u16 (↑(v6c 1 s'12):Int))],[(SV.int .u16 (↑(v6c 2 s'12):Int))],[(SV.int .u16 (↑(v6c 3 s'12):Int))],[(SV.int .u16 (↑(v6c 4 s'12):Int))],[(SV.int .u16 (↑(v6c 5 s'12):Int))],[(SV.int .u16 (↑(v6c 6 s'12):Int))],[(SV.int .u16 (↑(v6c 7 s'12):Int))]]) (k1 0 3 (↑(v6c 0 s'12):Int) (↑(v6c 1 s'12):Int) (↑(v6c 2 s'12):Int) (↑(v6c 3 s'12):Int) (↑(v6c 4 s'12):Int) (↑(v6c 5 s'12):Int) (↑(v6c 6 s'12):Int) (↑(v6c 7 s'12):Int) [[(SV.int .u16 (↑(v6c 0 s'12):Int))],[(SV.int .u16 (↑(v6c 1 s'12):Int))],[(SV.int .u16 (↑(v6c 2 s'12):Int))],[(SV.int .u16 (↑(v6c 3 s'12):Int))],[(SV.int .u16 (↑(v6c 4 s'12):Int))],[(SV.int .u16 (↑(v6c 5 s'12):Int))],[(SV.int .u16 (↑(v6c 6 s'12):Int))],[(SV.int .u16 (↑(v6c 7 s'12):Int))]])) (none)) (none)))) (none)) (k2 raw0 b1)
abbrev rhparse_j0_P (b:Code):Prop:=∀ (k:Out→St σ→Option R) (raw0:By) (b1:Bool),evCode (c_rhparse lf) cl yh b ⟨gp [(0,.s (.str raw0)),(1,.ptr 0 0 0),(22,.s (.bool b1))] 97,[.box [.s (.int .i64 (0:Int)),.s (.str ([]:List UInt8)),.s (.int .u32 (0:Int)),.s (.int .u16 (0:Int)),.s (.int .u16 (0:Int)),.s (.int .u16 (0:Int)),.s (.int .u16 (0:Int)),.s (.int .u16 (0:Int)),.s (.int .u16 (0:Int)),.s (.int .u16 (0:Int)),.s (.int .u16 (0:Int))]],s⟩ k=rhparse_j0 raw0 b1 (fun _=>k .ret ⟨gp [(2,.ptr 0 0 0),(0,.s (.int .i64 (14:Int)))] 119,[.box [.s (.int .i64 (0:Int)),.s (.str ([]:List UInt8)),.s (.int .u32 (0:Int)),.s (.int .u16 (0:Int)),.s (.int .u16 (0:Int)),.s (.int .u16 (0:Int)),.s (.int .u16 (0:Int)),.s (.int .u16 (0:Int)),.s (.int .u16 (0:Int)),.s (.int .u16 (0:Int)),.s (.int .u16 (0:Int))]],s⟩) (fun n0 n1 n2 n3 n4 n5 n6 n7 n8 n9 l10=>k .ret ⟨gp [(2,.ptr 0 0 0),(0,.s (.int .i64 n0))] 119,[.box [.s (.int .i64 n1),.s (.str ([]:List UInt8)),.s (.int .u32 (0:Int)),.s (.int .u16 n2),.s (.int .u16 n3),.s (.int .u16 n4),.s (.int .u16 n5),.s (.int .u16 n6),.s (.int .u16 n7),.s (.int .u16 n8),.s (.int .u16 n9)],.arr false 26 1 l10],s⟩) (fun raw0 b1=>k .normal ⟨gp [(0,.s (.str raw0)),(1,.ptr 0 0 0),(22,.s (.bool b1))] 97,[.box [.s (.int .i64 (0:Int)),.s (.str ([]:List UInt8)),.s (.int .u32 (0:Int)),.s (.int .u16 (0:Int)),.s (.int .u16 (0:Int)),.s (.int .u16 (0:Int)),.s (.int .u16 (0:Int)),.s (.int .u16 (0:Int)),.s (.int .u16 (0:Int)),.s (.int .u16 (0:Int)),.s (.int .u16 (0:Int))]],s⟩)
theorem rhparse_j0_eq:rhparse_j0_P (R:=R) lf cl yh s (cd [1,1,0,1] b_rhparse):=by
 intro k raw0 b1;unfold rhparse_j0;kernel_rfl
noncomputable def rhparse_l0f {R:Type} (lf n:Nat) (self:By→LL→Int→Option R) (name0:By) (p1:LL) (i2:Int) (k0:Int→Option R) (k1:By→Option R):Option R:=cond (ltI i2 (↑(List.length p1):Int)) (cond (inR i2 (List.length p1)) (cond (okE tStr p1 (Int.toNat i2) 0) (cond (small (List.length (gX p1 (Int.toNat i2) 0))) (vl ((toAsc (gX p1 (Int.toNat i2) 0))).1 fun s'36=>vl (↑((toAsc (gX p1 (Int.toNat i2) 0))).2:Int) fun n'37=>cond (n'37 != (0:Int)) (k0 n'37) (cond (ltI (0:Int) i2) (cond (catOk (List.length name0) 1) (vl (name0++(([46]:List UInt8))) fun s'38=>cond (catOk (List.length s'38) (List.length s'36)) (self (s'38++s'36) p1 (wi64 (i2+(1:Int)))) (none)) (none)) (cond (catOk (List.length name0) (List.length s'36)) (self (name0++s'36) p1 (wi64 (i2+(1:Int)))) (none)))) (none)) (none)) (none)) (k1 name0)
noncomputable def rhparse_l0 {R:Type} (lf n:Nat) (name0:By) (p1:LL) (i2:Int) (k0:Int→Option R) (k1:By→Option R):Option R:=recN (α:=By→LL→Int→Option R) (fun _ _ _=>none) (fun n self name0 p1 i2=>rhparse_l0f lf n self name0 p1 i2 k0 k1) n name0 p1 i2
theorem rhparse_l0_s {R:Type} (lf n:Nat) (name0:By) (p1:LL) (i2:Int) (k0:Int→Option R) (k1:By→Option R):rhparse_l0 lf (n+1) name0 p1 i2 k0 k1=rhparse_l0f lf n (fun name0 p1 i2=>rhparse_l0 lf n name0 p1 i2 k0 k1) name0 p1 i2 k0 k1:=rfl
theorem rhparse_l0_eq (n:Nat) (name0:By) (p1:LL) (i2:Int):loopK 1 ((c_rhparse lf).keep 23) (bd (c_rhparse lf) cl yh (cd [1,1,1,1,1,1,1,1,1,0,1,0,0] b_rhparse)) n ⟨gp [(2,.ptr 0 0 0),(7,.s (.str name0)),(0,.s (.sl false false 1 p1)),(0,.s (.int .i64 i2))] 110,[.box [.s (.int .i64 (0:Int)),.s (.str ([]:List UInt8)),.s (.int .u32 (0:Int)),.s (.int .u16 (0:Int)),.s (.int .u16 (0:Int)),.s (.int .u16 (0:Int)),.s (.int .u16 (0:Int)),.s (.int .u16 (0:Int)),.s (.int .u16 (0:Int)),.s (.int .u16 (0:Int)),.s (.int .u16 (0:Int))]],s⟩ k =
 rhparse_l0 lf n name0 p1 i2 (fun n0=>k .ret ⟨gp [(2,.ptr 0 0 0),(0,.s (.int .i64 n0))] 119,[.box [.s (.int .i64 (0:Int)),.s (.str ([]:List UInt8)),.s (.int .u32 (0:Int)),.s (.int .u16 (0:Int)),.s (.int .u16 (0:Int)),.s (.int .u16 (0:Int)),.s (.int .u16 (0:Int)),.s (.int .u16 (0:Int)),.s (.int .u16 (0:Int)),.s (.int .u16 (0:Int)),.s (.int .u16 (0:Int))]],s⟩) (fun name0=>k (.exit 0) ⟨gp [(2,.ptr 0 0 0),(7,.s (.str name0))] 112,[.box [.s (.int .i64 (0:Int)),.s (.str ([]:List UInt8)),.s (.int .u32 (0:Int)),.s (.int .u16 (0:Int)),.s (.int .u16 (0:Int)),.s (.int .u16 (0:Int)),.s (.int .u16 (0:Int)),.s (.int .u16 (0:Int)),.s (.int .u16 (0:Int)),.s (.int .u16 (0:Int)),.s (.int .u16 (0:Int))]],s⟩):=by
 induction n generalizing name0 p1 i2 with
 | zero=>rfl
 | succ n ih=>rw [rhparse_l0_s];unfold rhparse_l0f;exact (Eq.trans (by kernel_rfl) (cond_congr (cond_congr (cond_congr (cond_congr (vl_congr fun s'36=>(vl_congr fun n'37=>(cond_congr rfl (cond_congr (cond_congr (vl_congr fun s'38=>(cond_congr (ih (s'38++s'36) p1 (wi64 (i2+(1:Int)))) rfl)) rfl) (cond_congr (ih (name0++s'36) p1 (wi64 (i2+(1:Int)))) rfl))))) rfl) rfl) rfl) rfl))
noncomputable def rhparse_j1 {R:Type} (lf:Nat) (s0:By) (k0:Int→Int→By→Int→Option R):Option R:=cond (small (List.length s0)) (cond (numericB s0) (cond (small (List.length s0)) (cond (not (Option.isSome (pnB s0))) (k0 14 0 ([]:List UInt8) 0) (k0 0 2 ([]:List UInt8) (↑(optN (pnB s0)):Int))) (none)) (cond (small (List.length s0)) (vl (strE (pcs (u8n (46:Int)) s0)) fun l'33=>rhparse_l0 lf lf ([]:List UInt8) l'33 0 (fun n'39=>k0 n'39 0 ([]:List UInt8) 0) (fun name'40=>cond (ltI (253:Int) (↑(List.length name'40):Int)) (k0 3 0 ([]:List UInt8) 0) (cond (small (List.length name'40)) (cond (numericB name'40) (k0 14 0 ([]:List UInt8) 0) (k0 0 1 name'40 0)) (none)))) (none))) (none)
abbrev rhparse_j1_P (b:Code):Prop:=∀ (k:Out→St σ→Option R) (s0:By),evCode (c_rhparse lf) cl yh b ⟨gp [(2,.ptr 0 0 0),(3,.s (.str s0))] 116,[.box [.s (.int .i64 (0:Int)),.s (.str ([]:List UInt8)),.s (.int .u32 (0:Int)),.s (.int .u16 (0:Int)),.s (.int .u16 (0:Int)),.s (.int .u16 (0:Int)),.s (.int .u16 (0:Int)),.s (.int .u16 (0:Int)),.s (.int .u16 (0:Int)),.s (.int .u16 (0:Int)),.s (.int .u16 (0:Int))]],s⟩ k=rhparse_j1 lf s0 (fun n0 n1 s2 n3=>k .ret ⟨gp [(2,.ptr 0 0 0),(0,.s (.int .i64 n0))] 119,[.box [.s (.int .i64 n1),.s (.str s2),.s (.int .u32 n3),.s (.int .u16 (0:Int)),.s (.int .u16 (0:Int)),.s (.int .u16 (0:Int)),.s (.int .u16 (0:Int)),.s (.int .u16 (0:Int)),.s (.int .u16 (0:Int)),.s (.int .u16 (0:Int)),.s (.int .u16 (0:Int))]],s⟩)
theorem rhparse_j1_eq:rhparse_j1_P (R:=R) lf cl yh s (cd [1,1,1,1,1,1] b_rhparse):=by
 intro k s0;unfold rhparse_j1;exact (Eq.trans (by kernel_rfl) (cond_congr (cond_congr (cond_congr (cond_congr rfl rfl) rfl) (cond_congr (vl_congr fun l'33=>((rhparse_l0_eq lf cl yh s (blkK 0 (seqK (c_rhparse lf) cl yh (cd [1,1,1,1,1,1,1,1,1,1] b_rhparse) k)) lf ([]:List UInt8) l'33 0).trans (congr (congr rfl (funext fun n'39=>(by kernel_rfl))) (funext fun name'40=>(by kernel_rfl))))) rfl)) rfl))
noncomputable def rhparse_j2 {R:Type} (lf:Nat) (s0:By) (k0:Int→Int→By→Int→Option R):Option R:=cond (small (List.length s0)) (cond (numericB s0) (cond (small (List.length s0)) (cond (not (Option.isSome (pnB s0))) (k0 14 0 ([]:List UInt8) 0) (k0 0 2 ([]:List UInt8) (↑(optN (pnB s0)):Int))) (none)) (cond (small (List.length s0)) (vl (strE (pcs (u8n (46:Int)) s0)) fun l'46=>rhparse_l0 lf lf ([]:List UInt8) l'46 0 (fun n'47=>k0 n'47 0 ([]:List UInt8) 0) (fun name'48=>cond (ltI (253:Int) (↑(List.length name'48):Int)) (k0 3 0 ([]:List UInt8) 0) (cond (small (List.length name'48)) (cond (numericB name'48) (k0 14 0 ([]:List UInt8) 0) (k0 0 1 name'48 0)) (none)))) (none))) (none)
abbrev rhparse_j2_P (b:Code):Prop:=∀ (k:Out→St σ→Option R) (s0:By) (b1:Bool),evCode (c_rhparse lf) cl yh b ⟨gp [(2,.ptr 0 0 0),(3,.s (.str s0)),(62,.s (.bool b1))] 53,[.box [.s (.int .i64 (0:Int)),.s (.str ([]:List UInt8)),.s (.int .u32 (0:Int)),.s (.int .u16 (0:Int)),.s (.int .u16 (0:Int)),.s (.int .u16 (0:Int)),.s (.int .u16 (0:Int)),.s (.int .u16 (0:Int)),.s (.int .u16 (0:Int)),.s (.int .u16 (0:Int)),.s (.int .u16 (0:Int))]],s⟩ k=rhparse_j2 lf s0 (fun n0 n1 s2 n3=>k .ret ⟨gp [(2,.ptr 0 0 0),(0,.s (.int .i64 n0))] 119,[.box [.s (.int .i64 n1),.s (.str s2),.s (.int .u32 n3),.s (.int .u16 (0:Int)),.s (.int .u16 (0:Int)),.s (.int .u16 (0:Int)),.s (.int .u16 (0:Int)),.s (.int .u16 (0:Int)),.s (.int .u16 (0:Int)),.s (.int .u16 (0:Int)),.s (.int .u16 (0:Int))]],s⟩)
theorem rhparse_j2_eq:rhparse_j2_P (R:=R) lf cl yh s (cd [1,1,1,1,1,1] b_rhparse):=by
 intro k s0 b1;unfold rhparse_j2;exact (Eq.trans (by kernel_rfl) (cond_congr (cond_congr (cond_congr (cond_congr rfl rfl) rfl) (cond_congr (vl_congr fun l'46=>((rhparse_l0_eq lf cl yh s (blkK 0 (seqK (c_rhparse lf) cl yh (cd [1,1,1,1,1,1,1,1,1,1] b_rhparse) k)) lf ([]:List UInt8) l'46 0).trans (congr (congr rfl (funext fun n'47=>(by kernel_rfl))) (funext fun name'48=>(by kernel_rfl))))) rfl)) rfl))
noncomputable def rhparse_j3 {R:Type} (lf:Nat) (raw0:By) (k0:Int→Int→By→Int→Option R):Option R:=cond (small (List.length raw0)) (cond (not (Option.isSome (pctB raw0))) (k0 14 0 ([]:List UInt8) 0) (cond (not ((pctV raw0)==([]:List UInt8))) (vl (wi64 ((↑(List.length (pctV raw0)):Int)-(1:Int))) fun n'29=>cond (inR n'29 (List.length (pctV raw0))) (cond ((bAt (pctV raw0) n'29)==(46:Int)) (vl (wi64 ((↑(List.length (pctV raw0)):Int)-(1:Int))) fun n'30=>cond (sub3 (0:Int) n'30 (List.length (pctV raw0))) (vl (cut (pctV raw0) (0:Int) n'30) fun s'31=>rhparse_j1 lf s'31 (fun n'41 n'42 s'43 n'44=>k0 n'41 n'42 s'43 n'44)) (none)) (rhparse_j2 lf (pctV raw0) (fun n'49 n'50 s'51 n'52=>k0 n'49 n'50 s'51 n'52))) (none)) (rhparse_j2 lf (pctV raw0) (fun n'53 n'54 s'55 n'56=>k0 n'53 n'54 s'55 n'56)))) (none)
abbrev rhparse_j3_P (b:Code):Prop:=∀ (k:Out→St σ→Option R) (raw0:By) (b1:Bool),evCode (c_rhparse lf) cl yh b ⟨gp [(0,.s (.str raw0)),(1,.ptr 0 0 0),(22,.s (.bool b1))] 97,[.box [.s (.int .i64 (0:Int)),.s (.str ([]:List UInt8)),.s (.int .u32 (0:Int)),.s (.int .u16 (0:Int)),.s (.int .u16 (0:Int)),.s (.int .u16 (0:Int)),.s (.int .u16 (0:Int)),.s (.int .u16 (0:Int)),.s (.int .u16 (0:Int)),.s (.int .u16 (0:Int)),.s (.int .u16 (0:Int))]],s⟩ k=rhparse_j3 lf raw0 (fun n0 n1 s2 n3=>k .ret ⟨gp [(2,.ptr 0 0 0),(0,.s (.int .i64 n0))] 119,[.box [.s (.int .i64 n1),.s (.str s2),.s (.int .u32 n3),.s (.int .u16 (0:Int)),.s (.int .u16 (0:Int)),.s (.int .u16 (0:Int)),.s (.int .u16 (0:Int)),.s (.int .u16 (0:Int)),.s (.int .u16 (0:Int)),.s (.int .u16 (0:Int)),.s (.int .u16 (0:Int))]],s⟩)
theorem rhparse_j3_eq (b_111111:Code) (h_rhparse_j1:rhparse_j1_P (R:=R) lf cl yh s b_111111) (h_rhparse_j2:rhparse_j2_P (R:=R) lf cl yh s b_111111):rhparse_j3_P (R:=R) lf cl yh s (cd [1,1,1] (putC [1,1,1,1,1,1] b_111111 b_rhparse)):=by
 intro k raw0 b1;unfold rhparse_j3;exact (Eq.trans (by kernel_rfl) (cond_congr (cond_congr rfl (cond_congr (vl_congr fun n'29=>(cond_congr (cond_congr (vl_congr fun n'30=>(cond_congr (vl_congr fun s'31=>((h_rhparse_j1 k s'31).trans (congr rfl (funext fun n'41=>(funext fun n'42=>(funext fun s'43=>(funext fun n'44=>(by kernel_rfl)))))))) rfl)) ((h_rhparse_j2 k (pctV raw0) ((bAt (pctV raw0) n'29)==(46:Int))).trans (congr rfl (funext fun n'49=>(funext fun n'50=>(funext fun s'51=>(funext fun n'52=>(by kernel_rfl)))))))) rfl)) ((h_rhparse_j2 k (pctV raw0) false).trans (congr rfl (funext fun n'53=>(funext fun n'54=>(funext fun s'55=>(funext fun n'56=>(by kernel_rfl))))))))) rfl))
theorem rhparse_j3_fu:rhparse_j3_P (R:=R) lf cl yh s (cd [1,1,1] b_rhparse):=by
 intro k raw0 b1;exact Eq.trans (by kernel_rfl) (rhparse_j3_eq lf cl yh s (cd [1,1,1,1,1,1] b_rhparse) (rhparse_j1_eq lf cl yh s) (rhparse_j2_eq lf cl yh s) k raw0 b1)
noncomputable def rhparse {R:Type} (lf:Nat) (raw0:By) (k0:Int→By→Int→Int→Int→By→Int→Option R) (k1:Int→Int→Int→Int→Int→Int→Int→Int→Int→Int→LL→Option R):Option R:=cond (ltI (1024:Int) (↑(List.length raw0):Int)) (k0 0 ([]:List UInt8) 0 3 0 ([]:List UInt8) 0) (cond (not (raw0==([]:List UInt8))) (cond (inR (0:Int) (List.length raw0)) (rhparse_j0 raw0 ((bAt raw0 (0:Int))==(91:Int)) (fun _=>k0 0 ([]:List UInt8) 0 14 0 ([]:List UInt8) 0) (fun n'13 n'14 n'15 n'16 n'17 n'18 n'19 n'20 n'21 n'22 l'23=>k1 n'14 n'15 n'16 n'17 n'18 n'19 n'20 n'21 n'22 n'13 l'23) (fun raw'24 b'25=>rhparse_j3 lf raw'24 (fun n'57 n'58 s'59 n'60=>k0 n'58 s'59 n'60 n'57 n'58 s'59 n'60))) (none)) (rhparse_j0 raw0 false (fun _=>k0 0 ([]:List UInt8) 0 14 0 ([]:List UInt8) 0) (fun n'61 n'62 n'63 n'64 n'65 n'66 n'67 n'68 n'69 n'70 l'71=>k1 n'62 n'63 n'64 n'65 n'66 n'67 n'68 n'69 n'70 n'61 l'71) (fun raw'72 b'73=>rhparse_j3 lf raw'72 (fun n'74 n'75 s'76 n'77=>k0 n'75 s'76 n'77 n'74 n'75 s'76 n'77))))
theorem rhparse_eq (b_1101:Code) (h_rhparse_j0:rhparse_j0_P (R:=PV × List Blk × σ) lf cl yh s b_1101) (b_111:Code) (h_rhparse_j3:rhparse_j3_P (R:=PV × List Blk × σ) lf cl yh s b_111) (raw0:By):evCode (c_rhparse lf) cl yh (cd [] (putC [1,1,1] b_111 (putC [1,1,0,1] b_1101 b_rhparse))) ⟨[.s (.str raw0)]++tps 122,[],s⟩ (retK (c_rhparse lf) Tryz.f22)=rhparse lf raw0 (fun r0 r1 r2 r3 n4 s5 n6=>some (.tup [.agg [.s (.int .i64 r0),.s (.str r1),.s (.int .u32 r2),.s (.int .u16 (0:Int)),.s (.int .u16 (0:Int)),.s (.int .u16 (0:Int)),.s (.int .u16 (0:Int)),.s (.int .u16 (0:Int)),.s (.int .u16 (0:Int)),.s (.int .u16 (0:Int)),.s (.int .u16 (0:Int))],.s (.int .i64 r3)],[.box [.s (.int .i64 n4),.s (.str s5),.s (.int .u32 n6),.s (.int .u16 (0:Int)),.s (.int .u16 (0:Int)),.s (.int .u16 (0:Int)),.s (.int .u16 (0:Int)),.s (.int .u16 (0:Int)),.s (.int .u16 (0:Int)),.s (.int .u16 (0:Int)),.s (.int .u16 (0:Int))]],s)) (fun r0 r1 r2 r3 r4 r5 r6 r7 r8 r9 l10=>some (.tup [.agg [.s (.int .i64 r0),.s (.str ([]:List UInt8)),.s (.int .u32 (0:Int)),.s (.int .u16 r1),.s (.int .u16 r2),.s (.int .u16 r3),.s (.int .u16 r4),.s (.int .u16 r5),.s (.int .u16 r6),.s (.int .u16 r7),.s (.int .u16 r8)],.s (.int .i64 r9)],[.box [.s (.int .i64 r0),.s (.str ([]:List UInt8)),.s (.int .u32 (0:Int)),.s (.int .u16 r1),.s (.int .u16 r2),.s (.int .u16 r3),.s (.int .u16 r4),.s (.int .u16 r5),.s (.int .u16 r6),.s (.int .u16 r7),.s (.int .u16 r8)],.arr false 26 1 l10],s)):=by
 unfold rhparse;exact (Eq.trans (by kernel_rfl) (cond_congr rfl (cond_congr (cond_congr ((h_rhparse_j0 (seqK (c_rhparse lf) cl yh b_111 (retK (c_rhparse lf) Tryz.f22)) raw0 ((bAt raw0 (0:Int))==(91:Int))).trans (congr (congr (congr rfl (funext fun _=>(by kernel_rfl))) (funext fun n'13=>(funext fun n'14=>(funext fun n'15=>(funext fun n'16=>(funext fun n'17=>(funext fun n'18=>(funext fun n'19=>(funext fun n'20=>(funext fun n'21=>(funext fun n'22=>(funext fun l'23=>(by kernel_rfl))))))))))))) (funext fun raw'24=>(funext fun b'25=>(Eq.trans (by kernel_rfl) ((h_rhparse_j3 (retK (c_rhparse lf) Tryz.f22) raw'24 b'25).trans (congr rfl (funext fun n'57=>(funext fun n'58=>(funext fun s'59=>(funext fun n'60=>(by kernel_rfl)))))))))))) rfl) ((h_rhparse_j0 (seqK (c_rhparse lf) cl yh b_111 (retK (c_rhparse lf) Tryz.f22)) raw0 false).trans (congr (congr (congr rfl (funext fun _=>(by kernel_rfl))) (funext fun n'61=>(funext fun n'62=>(funext fun n'63=>(funext fun n'64=>(funext fun n'65=>(funext fun n'66=>(funext fun n'67=>(funext fun n'68=>(funext fun n'69=>(funext fun n'70=>(funext fun l'71=>(by kernel_rfl))))))))))))) (funext fun raw'72=>(funext fun b'73=>(Eq.trans (by kernel_rfl) ((h_rhparse_j3 (retK (c_rhparse lf) Tryz.f22) raw'72 b'73).trans (congr rfl (funext fun n'74=>(funext fun n'75=>(funext fun s'76=>(funext fun n'77=>(by kernel_rfl)))))))))))))))
theorem rhparse_ev (d:Nat) (raw0:By):evC (c_rhparse lf) (d+1) σ yh 22 [.s (.str raw0)] [] s=rhparse lf raw0 (fun r0 r1 r2 r3 n4 s5 n6=>some (.tup [.agg [.s (.int .i64 r0),.s (.str r1),.s (.int .u32 r2),.s (.int .u16 (0:Int)),.s (.int .u16 (0:Int)),.s (.int .u16 (0:Int)),.s (.int .u16 (0:Int)),.s (.int .u16 (0:Int)),.s (.int .u16 (0:Int)),.s (.int .u16 (0:Int)),.s (.int .u16 (0:Int))],.s (.int .i64 r3)],[.box [.s (.int .i64 n4),.s (.str s5),.s (.int .u32 n6),.s (.int .u16 (0:Int)),.s (.int .u16 (0:Int)),.s (.int .u16 (0:Int)),.s (.int .u16 (0:Int)),.s (.int .u16 (0:Int)),.s (.int .u16 (0:Int)),.s (.int .u16 (0:Int)),.s (.int .u16 (0:Int))]],s)) (fun r0 r1 r2 r3 r4 r5 r6 r7 r8 r9 l10=>some (.tup [.agg [.s (.int .i64 r0),.s (.str ([]:List UInt8)),.s (.int .u32 (0:Int)),.s (.int .u16 r1),.s (.int .u16 r2),.s (.int .u16 r3),.s (.int .u16 r4),.s (.int .u16 r5),.s (.int .u16 r6),.s (.int .u16 r7),.s (.int .u16 r8)],.s (.int .i64 r9)],[.box [.s (.int .i64 r0),.s (.str ([]:List UInt8)),.s (.int .u32 (0:Int)),.s (.int .u16 r1),.s (.int .u16 r2),.s (.int .u16 r3),.s (.int .u16 r4),.s (.int .u16 r5),.s (.int .u16 r6),.s (.int .u16 r7),.s (.int .u16 r8)],.arr false 26 1 l10],s)):=
 (evC_eq (fn:=Tryz.f22) (by kernel_rfl) (by kernel_rfl) (by kernel_rfl)).trans (Eq.trans (by kernel_rfl) (rhparse_eq lf (evC (c_rhparse lf) d) yh s (cd [1,1,0,1] b_rhparse) (rhparse_j0_eq lf (evC (c_rhparse lf) d) yh s) (cd [1,1,1] b_rhparse) (rhparse_j3_fu lf (evC (c_rhparse lf) d) yh s) raw0))
end
end Go.Proofs.YtokehocipgepnaaGreatDoor.E
namespace Go.Proofs.YtokehocipgepnaaGreatDoor.E
open Go Go.Proofs
set_option linter.unusedVariables false
set_option linter.unusedSimpArgs false
theorem rhx_spec {R:Type} {k0:Int→Option R} (b:Int) (h0:inR b 256=true):rhx LF b k0=k0 (digI (u8n b)):=by
 simp only [inR,Bool.and_eq_true,decide_eq_true_eq] at h0
 have hc:b=((u8n b).toNat:Int):=by
  unfold u8n
  simp
  omega
 generalize u8n b=c at *
 subst hc
 have hbt:=c.toNat_lt
 unfold rhx
 simp only [rhx_j1,rhx_j0,vl,digI]
 rcases dig_cases c with ⟨h1,h2,e⟩ | ⟨h1,h2,e⟩ | ⟨h1,h2,e⟩ | ⟨h1,h2,h3,e⟩
 ·have e2:wi64 (wu8 ((c.toNat:Int)-48))=((dig c:Nat):Int):=by
   rw [wu8_id (by omega) (by omega),wi64_id (by omega) (by omega)];omega
  rw [if_pos (by omega)]
  simp (disch:=omega) only [ltI_t,ltI_f,Bool.not_true,Bool.not_false,cond_false,cond_true,e2]
 ·have e2:wi64 (wi64 (wu8 ((c.toNat:Int)-97))+10)=((dig c:Nat):Int):=by
   rw [wu8_id (by omega) (by omega),wi64_id (n:=(c.toNat:Int)-97) (by omega) (by omega),wi64_id (by omega) (by omega)];omega
  rw [if_pos (by omega)]
  simp (disch:=omega) only [ltI_t,ltI_f,Bool.not_true,Bool.not_false,cond_false,cond_true,e2]
 ·have e2:wi64 (wi64 (wu8 ((c.toNat:Int)-65))+10)=((dig c:Nat):Int):=by
   rw [wu8_id (by omega) (by omega),wi64_id (n:=(c.toNat:Int)-65) (by omega) (by omega),wi64_id (by omega) (by omega)];omega
  rw [if_pos (by omega)]
  simp (disch:=omega) only [ltI_t,ltI_f,Bool.not_true,Bool.not_false,cond_false,cond_true,e2]
 ·rw [e,if_neg (by decide)]
  by_cases c1:c.toNat<48
  ·simp (disch:=omega) only [ltI_t,ltI_f,Bool.not_true,Bool.not_false,cond_false,cond_true]
  ·by_cases c2:c.toNat<65
   ·simp (disch:=omega) only [ltI_t,ltI_f,Bool.not_true,Bool.not_false,cond_false,cond_true]
   ·by_cases c3:c.toNat<97
    ·simp (disch:=omega) only [ltI_t,ltI_f,Bool.not_true,Bool.not_false,cond_false,cond_true]
    ·simp (disch:=omega) only [ltI_t,ltI_f,Bool.not_true,Bool.not_false,cond_false,cond_true]
theorem rhdec_loop (s:By) (hs:s.length≤1000000000):∀ (m i n:Nat) (acc:By),i≤s.length→s.length-i≤m→m<n→acc.length≤i→
  (∀ t,pctB (s.drop i)=some t→∀ (R:Type) (k0:LL→Option R) (k1:LL→Option R),rhdec_l0 LF n s (i:Int) (acc.map u8el) k0 k1=k1 ((acc++t).map u8el))∧
  (pctB (s.drop i)=none→∃ l,∀ (R:Type) (k0:LL→Option R) (k1:LL→Option R),rhdec_l0 LF n s (i:Int) (acc.map u8el) k0 k1=k0 l):=by
 intro m
 induction m with
 | zero=>
  intro i n acc hi hm hn ha
  obtain ⟨n,rfl⟩:∃ m,n=m+1:=⟨n-1,by omega⟩
  rw [List.drop_of_length_le (by omega)]
  refine ⟨fun t ht R k0 k1=>?_,fun h=>(by cases h)⟩
  simp only [pctB,Option.some.injEq] at ht
  subst ht
  rw [rhdec_l0_s]
  unfold rhdec_l0f
  rw [ltI_f (by omega),List.append_nil]
  rfl
 | succ m ih=>
  intro i n acc hi hm hn ha
  obtain ⟨n,rfl⟩:∃ m,n=m+1:=⟨n-1,by omega⟩
  by_cases hlt:i<s.length
  ·have e1:wi64 ((i:Int)+1)=((i+1:Nat):Int):=by rw [wi64_id (by omega) (by omega)];rfl
   have e2:wi64 ((i:Int)+2)=((i+2:Nat):Int):=by rw [wi64_id (by omega) (by omega)];rfl
   have e3:wi64 (((i+2:Nat):Int)+1)=((i+3:Nat):Int):=by rw [wi64_id (by omega) (by omega)];omega
   have e4:wi64 ((s.length:Int)-i)=((s.length-i:Nat):Int):=by rw [wi64_id (by omega) (by omega)];omega
   have hal:(acc.map u8el).length=acc.length:=List.length_map _
   have hrow:∀ b:UInt8,acc.map u8el++[[SV.int .u8 (b.toNat:Int)]]=(acc++[b]).map u8el:=fun b=>by rw [List.map_append];rfl
   have q1:(((s.getD i 0).toNat:Int) != 37) = !(s.getD i 0==37):=congrArg _ (u8_eqn _ 37 (by omega))
   rw [drop_cons s i hlt]
   by_cases h37:s.getD i 0=37
   ·by_cases h3:i+2<s.length
    ·rw [drop_cons s (i+1) (by omega),drop_cons s (i+1+1) (by omega),h37,pctB_two]
     obtain ⟨i1,i2⟩:=ih (i+3) n (acc++[UInt8.ofNat (16*dig (s.getD (i+1) 0)+dig (s.getD (i+2) 0))]) (by omega) (by omega) (by omega) (by simp;omega)
     have top:∀ (R:Type) (k0:LL→Option R) (k1:LL→Option R),rhdec_l0 LF (n+1) s (i:Int) (acc.map u8el) k0 k1=cond (decide (dig (s.getD (i+1) 0)<16)&&decide (dig (s.getD (i+2) 0)<16)) (rhdec_l0 LF n s ((i+3:Nat):Int) ((acc++[UInt8.ofNat (16*dig (s.getD (i+1) 0)+dig (s.getD (i+2) 0))]).map u8el) k0 k1) (k0 (acc.map u8el)):=by
      intro R k0 k1
      rw [rhdec_l0_s]
      unfold rhdec_l0f
      rw [ltI_t (by omega),inR_t (by omega) (by omega),bAt_nat,q1,h37,hal,e2,e4,e1,inR_t (by omega) (by omega),inR_t (by omega) (by omega),bAt_nat,bAt_nat]
      simp only [vl]
      rw [ltI_f (show (3:Int)≤((s.length-i:Nat):Int) by omega)]
      simp only [cond_true,Bool.not_true,cond_false,beq_self_eq_true,u8_inR,u8n_nat,digI_neg,roomy_of (show acc.length+1≤68719476736 by omega),e3]
      generalize s.getD (i+1) 0=x at *
      generalize s.getD (i+2) 0=y at *
      by_cases hx:dig x<16
      ·by_cases hy:dig y<16
       ·have w1:digI x=(dig x:Int):=by unfold digI;rw [if_pos hx]
        have w2:digI y=(dig y:Int):=by unfold digI;rw [if_pos hy]
        have w3:wi64 ((16:Int)*(dig x:Int))=((16*dig x:Nat):Int):=by rw [wi64_id (by omega) (by omega)];omega
        have w4:wi64 (((16*dig x:Nat):Int)+(dig y:Int))=((16*dig x+dig y:Nat):Int):=by rw [wi64_id (by omega) (by omega)];omega
        have w5:wu8 ((16*dig x+dig y:Nat):Int)=((UInt8.ofNat (16*dig x+dig y)).toNat:Int):=by
         rw [wu8_id (by omega) (by omega)]
         simp
         omega
        rw [decide_eq_true hx,decide_eq_true hy,w1,w2,w3,w4,w5,hrow]
        rfl
       ·rw [decide_eq_true hx,decide_eq_false hy]
        rfl
      ·rw [decide_eq_false hx]
       rfl
     by_cases hd:dig (s.getD (i+1) 0)<16∧dig (s.getD (i+2) 0)<16
     ·rw [if_pos hd]
      have hc:(decide (dig (s.getD (i+1) 0)<16)&&decide (dig (s.getD (i+2) 0)<16))=true:=by rw [decide_eq_true hd.1,decide_eq_true hd.2];rfl
      refine ⟨fun t ht R k0 k1=>?_,fun h=>?_⟩
      ·cases hq:pctB (s.drop (i+3)) with
       | none=>rw [hq] at ht;cases ht
       | some q=>
        rw [hq] at ht
        simp only [Option.map_some,Option.some.injEq] at ht
        subst ht
        rw [top,hc,cond_true,i1 q hq,List.append_assoc]
        rfl
      ·cases hq:pctB (s.drop (i+3)) with
       | some q=>rw [hq] at h;cases h
       | none=>
        obtain ⟨l,e⟩:=i2 hq
        exact ⟨l,fun R k0 k1=>by rw [top,hc,cond_true,e]⟩
     ·rw [if_neg hd]
      have hc:(decide (dig (s.getD (i+1) 0)<16)&&decide (dig (s.getD (i+2) 0)<16))=false:=by
       rw [Bool.eq_false_iff,ne_eq,Bool.and_eq_true,decide_eq_true_eq,decide_eq_true_eq];exact hd
      exact ⟨fun t h=>(by cases h),fun _=>⟨_,fun R k0 k1=>by rw [top,hc,cond_false]⟩⟩
    ·have hnone:pctB (s.getD i 0::s.drop (i+1))=none:=by
      rw [h37]
      cases hd:s.drop (i+1) with
      | nil=>rfl
      | cons x r=>
       cases r with
       | nil=>rfl
       | cons y r'=>
        exfalso
        have:=congrArg List.length hd
        rw [List.length_drop,List.length_cons,List.length_cons] at this
        omega
     rw [hnone]
     refine ⟨fun t h=>(by cases h),fun _=>⟨acc.map u8el,fun R k0 k1=>?_⟩⟩
     rw [rhdec_l0_s]
     unfold rhdec_l0f
     rw [ltI_t (by omega),inR_t (by omega) (by omega),bAt_nat,q1,h37,e4]
     simp only [vl]
     rw [ltI_t (show ((s.length-i:Nat):Int)<3 by omega)]
     rfl
   ·rw [pctB_ne _ h37]
    obtain ⟨i1,i2⟩:=ih (i+1) n (acc++[s.getD i 0]) (by omega) (by omega) (by omega) (by simp;omega)
    have hb37:(s.getD i 0==37)=false:=by simpa using h37
    have top:∀ (R:Type) (k0:LL→Option R) (k1:LL→Option R),rhdec_l0 LF (n+1) s (i:Int) (acc.map u8el) k0 k1=rhdec_l0 LF n s ((i+1:Nat):Int) ((acc++[s.getD i 0]).map u8el) k0 k1:=by
     intro R k0 k1
     rw [rhdec_l0_s]
     unfold rhdec_l0f
     rw [ltI_t (by omega),inR_t (by omega) (by omega),bAt_nat,q1,hb37,hal,roomy_of (by omega),e1,hrow]
     rfl
    refine ⟨fun t ht R k0 k1=>?_,fun h=>?_⟩
    ·cases hq:pctB (s.drop (i+1)) with
     | none=>rw [hq] at ht;cases ht
     | some q=>
      rw [hq] at ht
      simp only [Option.map_some,Option.some.injEq] at ht
      subst ht
      rw [top,i1 q hq,List.append_assoc]
      rfl
    ·cases hq:pctB (s.drop (i+1)) with
     | some q=>rw [hq] at h;cases h
     | none=>
      obtain ⟨l,e⟩:=i2 hq
      exact ⟨l,fun R k0 k1=>by rw [top,e]⟩
  ·rw [List.drop_of_length_le (by omega)]
   refine ⟨fun t ht R k0 k1=>?_,fun h=>(by cases h)⟩
   simp only [pctB,Option.some.injEq] at ht
   subst ht
   rw [rhdec_l0_s]
   unfold rhdec_l0f
   rw [ltI_f (by omega),List.append_nil]
   rfl
theorem rhdec_sp (s:By) (h0:small s.length=true):∃ r H,rhdec LF s (fun r0 r1 l2=>rv (.tup [.s (.str r0),.s (.bool r1)]) [.arr true 5 1 l2])=rv r H∧
  r.stab [0,0] H = .tup [.s (.str (pctV s)),.s (.bool (pctB s).isSome)]:=by
 have hs:=maxL h0
 have hLF:=LF_big
 obtain ⟨p1,p2⟩:=rhdec_loop s hs s.length 0 LF [] (by omega) (by omega) (by omega) (by simp)
 rw [List.drop_zero] at p1 p2
 unfold pctV
 cases hp:pctB s with
 | none=>
  obtain ⟨l,e⟩:=p2 hp
  exact ⟨.tup [.s (.str []),.s (.bool false)],[.arr true 5 1 l],e _ _ _,rfl⟩
 | some t=>
  refine ⟨.tup [.s (.str t),.s (.bool true)],[.arr true 5 1 (t.map u8el)],?_,rfl⟩
  unfold rhdec
  refine Eq.trans (p1 t hp _ _ _) ?_
  rw [List.nil_append,all_isU8,map_elU8]
  rfl
theorem rhvn_loop {R:Type} {k0 k1:Unit→Option R} (l:List By) (hl:l.length≤1000000001) (h:∀ x∈l,x.length≤1000000000):∀ (r i n:Nat),i+r=l.length→r<n→
  rhvn_l0 LF n (strE l) (i:Int) k0 k1=if (l.drop i).all validL then k1 () else k0 ():=by
 intro r
 induction r with
 | zero=>
  intro i n hi hn
  obtain ⟨n,rfl⟩:∃ m,n=m+1:=⟨n-1,by omega⟩
  rw [rhvn_l0_s]
  unfold rhvn_l0f
  rw [strE_len,ltI_f (by omega),List.drop_of_length_le (by omega)]
  rfl
 | succ r ih=>
  intro i n hi hn
  obtain ⟨n,rfl⟩:∃ m,n=m+1:=⟨n-1,by omega⟩
  rw [rhvn_l0_s]
  unfold rhvn_l0f
  have e1:wi64 ((i:Int)+1)=((i+1:Nat):Int):=by rw [wi64_id (by omega) (by omega)];rfl
  have hd:l.drop i=l.getD i []::l.drop (i+1):=by
   rw [List.getD_eq_getElem?_getD,List.getElem?_eq_getElem (by omega),Option.getD_some,List.getElem_cons_drop]
  have hx:(l.getD i []).length≤1000000000:=h _ (by
   rw [List.getD_eq_getElem?_getD,List.getElem?_eq_getElem (by omega),Option.getD_some];exact List.getElem_mem _)
  rw [strE_len,ltI_t (by omega),inR_t (by omega) (by omega),Int.toNat_natCast,okE_strE (by omega),gX_strE,small_t hx,hd,List.all_cons,e1]
  simp only [cond_true]
  rw [ih (i+1) n (by omega) (by omega)]
  cases validL (l.getD i []) with
  | true=>rw [Bool.true_and];rfl
  | false=>rfl
theorem rhvn_spec {R:Type} {k0:Bool→Option R} (s:By) (h0:small s.length=true):rhvn LF s k0=k0 (validN s):=by
 have hs:=maxL h0
 have hLF:=LF_big
 unfold rhvn
 by_cases hnil:s=[]
 ·subst hnil
  rfl
 ·have he:(s==([]:By))=false:=by simpa using hnil
  rw [he,cond_false]
  unfold validN
  by_cases h1:253<s.length
  ·rw [ltI_t (by omega),show Nat.ble s.length 253=false by rw [Bool.eq_false_iff,ne_eq,Nat.ble_eq];omega]
   rfl
  ·rw [ltI_f (by omega),cond_false,h0,cond_true,show Nat.ble s.length 253=true by rw [Nat.ble_eq];omega]
   cases h2:numericB s with
   | true=>rfl
   | false=>
    rw [cond_false,cond_true]
    have hpl:=pcs_len 46 s
    have hcl:=count_le 46 s
    refine Eq.trans (rhvn_loop (pcs 46 s) (by omega) (fun x hx=>by have:=(pcs_mem hx).2;omega) (pcs 46 s).length 0 LF (by omega) (by omega)) ?_
    rw [List.drop_zero]
    cases (pcs 46 s).all validL<;>rfl
def jn:Nat→By→List By→By
 | _,name,[]=>name
 | 0,name,x::r=>jn 1 (name++x) r
 | i+1,name,x::r=>jn (i+2) (name++[46]++x) r
theorem jn_succ:∀ (l:List By) (i:Nat) (name:By),jn (i+1) name l=name++Lib.joinTail [46] l
 | [],i,name=>by simp [jn,Lib.joinTail]
 | x::r,i,name=>by
  rw [jn,jn_succ r]
  simp [Lib.joinTail]
theorem jn_join (l:List By):jn 0 [] l=Lib.join l [46]:=by
 cases l with
 | nil=>rfl
 | cons x r=>rw [jn,jn_succ,Lib.join_cons,List.nil_append]
theorem toAsc_le {x:By} (h:(toAsc x).2=0):(toAsc x).1.length≤63:=by
 have ha:asciis [x]=([(toAsc x).1],0):=by simp [asciis,h]
 have:=(asciis_ok [x] (by rw [ha])).1 (toAsc x).1 (by rw [ha];simp)
 exact (validL_VL this).le
theorem rhparse_loop (ps:List By) (hps:ps.length≤1000000) (hx:∀ x∈ps,x.length≤1000000000):∀ (rest:List By) (i n:Nat) (name:By),ps.drop i=rest→i+rest.length=ps.length→rest.length<n→name.length≤64*i→
  ((asciis rest).2=0→∀ (R:Type) (k0:Int→Option R) (k1:By→Option R),rhparse_l0 LF n name (strE ps) (i:Int) k0 k1=k1 (jn i name (asciis rest).1))∧
  ((asciis rest).2≠0→∀ (R:Type) (k0:Int→Option R) (k1:By→Option R),rhparse_l0 LF n name (strE ps) (i:Int) k0 k1=k0 ((asciis rest).2:Nat)):=by
 intro rest
 induction rest with
 | nil=>
  intro i n name hd hi hn hnm
  obtain ⟨n,rfl⟩:∃ m,n=m+1:=⟨n-1,by omega⟩
  simp only [List.length_nil] at hi
  refine ⟨fun _ R k0 k1=>?_,fun h=>absurd rfl h⟩
  rw [rhparse_l0_s]
  unfold rhparse_l0f
  rw [strE_len,ltI_f (by omega)]
  simp only [asciis,jn]
  rfl
 | cons x r ih=>
  intro i n name hd hi hn hnm
  simp only [List.length_cons] at hi hn
  obtain ⟨n,rfl⟩:∃ m,n=m+1:=⟨n-1,by omega⟩
  have e1:wi64 ((i:Int)+1)=((i+1:Nat):Int):=by rw [wi64_id (by omega) (by omega)];rfl
  have hgx:ps.getD i []=x:=by
   have:=congrArg (fun l=>l.getD 0 []) hd
   simpa [List.getD_eq_getElem?_getD,List.getElem?_drop] using this
  have hdr:ps.drop (i+1)=r:=by
   rw [←List.drop_drop,hd]
   rfl
  have hxl:x.length≤1000000000:=hx x (by
   rw [←hgx,List.getD_eq_getElem?_getD,List.getElem?_eq_getElem (by omega),Option.getD_some];exact List.getElem_mem _)
  have top:∀ (R:Type) (k0:Int→Option R) (k1:By→Option R),rhparse_l0 LF (n+1) name (strE ps) (i:Int) k0 k1=cond (((toAsc x).2:Int) != 0) (k0 ((toAsc x).2:Nat)) (cond (ltI 0 (i:Int)) (cond (catOk name.length 1) (cond (catOk (name++[46]).length (toAsc x).1.length) (rhparse_l0 LF n (name++[46]++(toAsc x).1) (strE ps) ((i+1:Nat):Int) k0 k1) none) none) (cond (catOk name.length (toAsc x).1.length) (rhparse_l0 LF n (name++(toAsc x).1) (strE ps) ((i+1:Nat):Int) k0 k1) none)):=by
   intro R k0 k1
   rw [rhparse_l0_s]
   unfold rhparse_l0f
   rw [strE_len,ltI_t (by omega),inR_t (by omega) (by omega),Int.toNat_natCast,okE_strE (by omega),gX_strE,hgx,small_t hxl,e1]
   rfl
  unfold asciis
  by_cases h:(toAsc x).2=0
  ·rw [if_pos h]
   have hle:=toAsc_le h
   have hb:(((toAsc x).2:Int) != 0)=false:=by rw [h];rfl
   cases i with
   | zero=>
    obtain ⟨i1,i2⟩:=ih 1 n (name++(toAsc x).1) hdr (by omega) (by omega) (by rw [List.length_append];omega)
    have top2:∀ (R:Type) (k0:Int→Option R) (k1:By→Option R),rhparse_l0 LF (n+1) name (strE ps) ((0:Nat):Int) k0 k1=rhparse_l0 LF n (name++(toAsc x).1) (strE ps) ((1:Nat):Int) k0 k1:=by
     intro R k0 k1
     rw [top,hb,ltI_f (by omega),catOk_t (m:=name.length) (n:=(toAsc x).1.length) (by omega)]
     rfl
    exact ⟨fun h2 R k0 k1=>(top2 R k0 k1).trans (i1 h2 R k0 k1),fun h2 R k0 k1=>(top2 R k0 k1).trans (i2 h2 R k0 k1)⟩
   | succ j=>
    obtain ⟨i1,i2⟩:=ih (j+2) n (name++[46]++(toAsc x).1) hdr (by omega) (by omega) (by rw [List.length_append,List.length_append,List.length_singleton];omega)
    have top2:∀ (R:Type) (k0:Int→Option R) (k1:By→Option R),rhparse_l0 LF (n+1) name (strE ps) ((j+1:Nat):Int) k0 k1=rhparse_l0 LF n (name++[46]++(toAsc x).1) (strE ps) ((j+2:Nat):Int) k0 k1:=by
     intro R k0 k1
     rw [top,hb,ltI_t (by omega),catOk_t (by omega),catOk_t (by rw [List.length_append,List.length_singleton];omega)]
     rfl
    exact ⟨fun h2 R k0 k1=>(top2 R k0 k1).trans (i1 h2 R k0 k1),fun h2 R k0 k1=>(top2 R k0 k1).trans (i2 h2 R k0 k1)⟩
  ·rw [if_neg h]
   have hb:(((toAsc x).2:Int) != 0)=true:=by simpa using h
   exact ⟨fun h2=>absurd h2 h,fun _ R k0 k1=>by rw [top,hb,cond_true]⟩
theorem rhparse_j1_sp {R:Type} {k0:Int→Int→By→Int→Option R} (u:By) (hu:u.length≤1024):rhparse_j1 LF u k0 =
  if numericB u then (match pnB u with
   | some v=>k0 0 2 [] (v:Nat)
   | none=>k0 14 0 [] 0)
  else if (asciis (pcs 46 u)).2=0 then (
   if 253<(Lib.join (asciis (pcs 46 u)).1 [46]).length then k0 3 0 [] 0 else if numericB (Lib.join (asciis (pcs 46 u)).1 [46]) then k0 14 0 [] 0 else k0 0 1 (Lib.join (asciis (pcs 46 u)).1 [46]) 0)
  else k0 ((asciis (pcs 46 u)).2:Nat) 0 [] 0:=by
 have hLF:=LF_big
 unfold rhparse_j1
 rw [small_t (by omega),cond_true]
 cases hn:numericB u with
 | true=>
  rw [if_pos rfl,cond_true,cond_true]
  cases hq:pnB u with
  | none=>rfl
  | some v=>rfl
 | false=>
  rw [if_neg (by simp),cond_false,cond_true]
  have hpl:=pcs_len 46 u
  have hcl:=count_le 46 u
  obtain ⟨i1,i2⟩:=rhparse_loop (pcs 46 u) (by omega) (fun x hx=>by have:=(pcs_mem hx).2;omega) (pcs 46 u) 0 LF [] (List.drop_zero) (by omega) (by omega) (by simp)
  rw [jn_join] at i1
  by_cases hz:(asciis (pcs 46 u)).2=0
  ·rw [if_pos hz]
   refine Eq.trans (i1 hz _ _ _) ?_
   obtain ⟨a1,a2⟩:=asciis_ok _ hz
   have hjl:=join_le [46] 63 (asciis (pcs 46 u)).1 (fun x hx=>(validL_VL (a1 x hx)).le)
   have hmul:(63+([46]:By).length)*(asciis (pcs 46 u)).1.length≤64*1025:=Nat.mul_le_mul (by simp) (by omega)
   generalize Lib.join (asciis (pcs 46 u)).1 [46]=name at *
   by_cases h253:253<name.length
   ·rw [if_pos h253,ltI_t (by omega),cond_true]
   ·rw [if_neg h253,ltI_f (by omega),cond_false,small_t (by omega),cond_true]
    cases hnn:numericB name with
    | true=>rfl
    | false=>rfl
  ·rw [if_neg hz]
   exact i2 hz _ _ _
abbrev rpK0:Int→By→Int→Int→Int→By→Int→Option (PV × List Blk × Unit):=fun r0 r1 r2 r3 n4 s5 n6=>rv (.tup [.agg (aggH r0 r1 r2 0 0 0 0 0 0 0 0),.s (.int .i64 r3)]) [.box (aggH n4 s5 n6 0 0 0 0 0 0 0 0)]
abbrev rpK1:Int→Int→Int→Int→Int→Int→Int→Int→Int→Int→LL→Option (PV × List Blk × Unit):=fun r0 r1 r2 r3 r4 r5 r6 r7 r8 r9 l10=>rv (.tup [.agg (aggH r0 [] 0 r1 r2 r3 r4 r5 r6 r7 r8),.s (.int .i64 r9)]) [.box (aggH r0 [] 0 r1 r2 r3 r4 r5 r6 r7 r8),.arr false 26 1 l10]
theorem trimDot_last {t:By} (h:t≠[]) (h2:t.getD (t.length-1) 0=46):trimDot t=t.take (t.length-1):=by
 unfold trimDot
 rw [if_pos ((last_eq t 46 h).2 h2),List.dropLast_eq_take]
theorem trimDot_not {t:By} (h:t≠[]) (h2:¬ t.getD (t.length-1) 0=46):trimDot t=t:=by
 unfold trimDot
 rw [if_neg (fun q=>h2 ((last_eq t 46 h).1 q))]
theorem rhparse_j3_sp (s:By) (hs:s.length≤1024) (hh:s.head?≠some 91):∃ r H,rhparse_j3 LF s (fun n57 n58 s59 n60=>rpK0 n58 s59 n60 n57 n58 s59 n60)=rv r H∧r.stab [0,0] H = .tup [hostA (parseH s).1,.s (.int .i64 ((parseH s).2:Nat))]:=by
 have hLF:=LF_big
 unfold rhparse_j3
 rw [small_t (by omega),cond_true]
 cases hp:pctB s with
 | none=>
  have e:parseH s=(noHost,14):=by unfold parseH;rw [if_neg (by omega),if_neg hh,hp]
  rw [e]
  exact ⟨_,_,rfl,rfl⟩
 | some t=>
  have htl:t.length≤s.length:=pctB_le s t hp
  have hv:pctV s=t:=by unfold pctV;rw [hp];rfl
  have htd:(trimDot t).length≤t.length:=by unfold trimDot;split<;>simp
  have hP:parseH s=if numericB (trimDot t) then (match pnB (trimDot t) with
      | some v=>(⟨2,[],v,z8⟩,0)
      | none=>(noHost,14))
     else if (asciis (pcs 46 (trimDot t))).2=0 then (
      let name:=Lib.join (asciis (pcs 46 (trimDot t))).1 [46]
      if 253<name.length then (noHost,3) else if numericB name then (noHost,14) else (⟨1,name,0,z8⟩,0))
     else (noHost,(asciis (pcs 46 (trimDot t))).2):=by
   unfold parseH
   rw [if_neg (by omega),if_neg hh,hp]
   rfl
  have fin:∃ r H,rhparse_j1 LF (trimDot t) (fun n57 n58 s59 n60=>rpK0 n58 s59 n60 n57 n58 s59 n60)=rv r H∧r.stab [0,0] H = .tup [hostA (parseH s).1,.s (.int .i64 ((parseH s).2:Nat))]:=by
   rw [rhparse_j1_sp _ (by omega),hP]
   split
   ·split<;>exact ⟨_,_,rfl,rfl⟩
   ·split
    ·simp only
     split
     ·exact ⟨_,_,rfl,rfl⟩
     ·split<;>exact ⟨_,_,rfl,rfl⟩
    ·exact ⟨_,_,rfl,rfl⟩
  rw [hv]
  simp only [Option.isSome_some,Bool.not_true,cond_false]
  by_cases hnil:t=[]
  ·subst hnil
   exact fin
  ·have hl:0<t.length:=List.length_pos_iff.2 hnil
   have he:(t==([]:By))=false:=by simpa using hnil
   have e1:wi64 ((t.length:Int)-1)=((t.length-1:Nat):Int):=by rw [wi64_id (by omega) (by omega)];omega
   have q1:(((t.getD (t.length-1) 0).toNat:Int)==46)=(t.getD (t.length-1) 0==46):=u8_eqn _ 46 (by omega)
   rw [he,e1]
   simp only [Bool.not_false,cond_true,vl]
   rw [inR_t (by omega) (by omega),bAt_nat,q1,cond_true]
   by_cases h46:t.getD (t.length-1) 0=46
   ·rw [h46,beq_self_eq_true,cond_true,sub3_t (by omega) (by omega) (by omega),cond_true,cut_zero,Int.toNat_natCast,←trimDot_last hnil h46]
    exact fin
   ·rw [show (t.getD (t.length-1) 0==46)=false by simpa using h46,cond_false]
    rw [trimDot_not hnil h46] at fin
    exact fin
theorem rhparse_sp (s:By) (h0:small s.length=true):∃ r H,rhparse LF s rpK0 rpK1=rv r H∧r.stab [0,0] H = .tup [hostA (parseH s).1,.s (.int .i64 ((parseH s).2:Nat))]:=by
 have hs:=maxL h0
 have hLF:=LF_big
 unfold rhparse
 by_cases h1:1024<s.length
 ·have e:parseH s=(noHost,3):=by unfold parseH;rw [if_pos h1]
  rw [e,ltI_t (by omega),cond_true]
  exact ⟨_,_,rfl,rfl⟩
 ·rw [ltI_f (by omega),cond_false]
  by_cases hne:s=[]
  ·subst hne
   exact rhparse_j3_sp [] (by simp) (by simp)
  ·have hl:0<s.length:=List.length_pos_iff.2 hne
   have he:(s==([]:By))=false:=by simpa using hne
   have q0:(bAt s 0==(91:Int))=(s.getD 0 0==91):=by rw [bAt_zero];exact u8_eqn _ 91 (by omega)
   have hhd:s.head? = some (s.getD 0 0):=by
    cases s with
    | nil=>exact absurd rfl hne
    | cons b t=>rfl
   rw [he,Bool.not_false,cond_true,inR_t (by omega) (by omega),cond_true,q0]
   by_cases h2:s.getD 0 0=91
   ·have e:parseH s=addrH s:=by unfold parseH addrH;rw [if_neg h1,if_pos (by rw [hhd,h2])]<;>rfl
    have e1:wi64 ((s.length:Int)-1)=((s.length-1:Nat):Int):=by rw [wi64_id (by omega) (by omega)];omega
    have q1:(((s.getD (s.length-1) 0).toNat:Int) != 93) = !(s.getD (s.length-1) 0==93):=congrArg _ (u8_eqn _ 93 (by omega))
    rw [e,h2,beq_self_eq_true]
    unfold rhparse_j0 addrH
    simp only [vl,e1,cond_true]
    rw [inR_t (by omega) (by omega),bAt_nat,q1,cond_true]
    by_cases h93:s.getD (s.length-1) 0=93
    ·have h2:2≤s.length:=by
      apply Classical.byContradiction
      intro h
      rw [show s.length-1=0 by omega,h2] at h93
      exact absurd h93 (by decide)
     rw [if_pos ⟨(last_eq s 93 hne).2 h93,h2⟩,h93,beq_self_eq_true,Bool.not_true,cond_false,ltI_f (by omega),cond_false,show (1:Int)=((1:Nat):Int) from rfl,sub3_t (by omega) (by omega) (by omega),cond_true,cut_nat]
     have hlt:((s.take (s.length-1)).drop 1).length≤s.length:=by rw [List.length_drop,List.length_take];omega
     rw [small_t (by omega),cond_true]
     unfold v6c
     cases hv:v6B ((s.take (s.length-1)).drop 1) with
     | none=>exact ⟨_,_,rfl,rfl⟩
     | some a=>exact ⟨_,_,rfl,rfl⟩
    ·rw [if_neg (fun h=>h93 ((last_eq s 93 hne).1 h.1)),show (s.getD (s.length-1) 0==93)=false by simpa using h93]
     exact ⟨_,_,rfl,rfl⟩
   ·rw [show (s.getD 0 0==91)=false by simpa using h2]
    exact rhparse_j3_sp s (by omega) (by rw [hhd];simpa using h2)
end Go.Proofs.YtokehocipgepnaaGreatDoor.E
namespace Go.Proofs.YtokehocipgepnaaGreatDoor.E
open Go Go.Proofs 
set_option linter.unusedVariables false
set_option maxRecDepth 100000
section
theorem x_rpoint:XFact Tryz.prog GX 147 X_rpoint:=by
 refine XFact.fix (pf:=X_rpoint0) _ (xfact_of_stab [] (C₀:=c_rpoint LF) (XFacts.ok (l:=[]) rfl trivial) (okFns_of rfl (by kernel_rfl)) follows ?_)
 intro args ret Hc h
 unfold X_rpoint0 at h
 split at h
 ·rename_i n
  obtain ⟨rfl,rfl⟩:=tr_ret h
  have e:=(rpoint_ev LF noY () 0 n).trans (rpoint_spec n )
  exact ⟨rfl,rfl,rfl,1,_,_,e,rfl⟩
 ·cases h
theorem x_radapt:XFact Tryz.prog GX 150 X_radapt:=by
 refine XFact.fix (pf:=X_radapt0) _ (xfact_of_stab [] (C₀:=c_radapt LF) (XFacts.ok (l:=[]) rfl trivial) (okFns_of rfl (by kernel_rfl)) follows ?_)
 intro args ret Hc h
 unfold X_radapt0 at h
 split at h
 ·rename_i d c f
  obtain ⟨h0,h⟩:=tr_need h
  obtain ⟨h1,h⟩:=tr_need h
  obtain ⟨h2,h⟩:=tr_need h
  obtain ⟨rfl,rfl⟩:=tr_ret h
  have e:=(radapt_ev LF noY () 0 d c f).trans (radapt_spec d c f h0 h1 h2)
  exact ⟨rfl,rfl,rfl,1,_,_,e,rfl⟩
 ·cases h
theorem x_rthr:XFact Tryz.prog GX 148 X_rthr:=by
 refine XFact.fix (pf:=X_rthr0) _ (xfact_of_stab [] (C₀:=c_rthr LF) (XFacts.ok (l:=[]) rfl trivial) (okFns_of rfl (by kernel_rfl)) follows ?_)
 intro args ret Hc h
 unfold X_rthr0 at h
 split at h
 ·rename_i k b
  obtain ⟨h0,h⟩:=tr_need h
  obtain ⟨h1,h⟩:=tr_need h
  obtain ⟨rfl,rfl⟩:=tr_ret h
  have e:=(rthr_ev LF noY () 0 k b).trans (rthr_spec k b h0 h1)
  exact ⟨rfl,rfl,rfl,1,_,_,e,rfl⟩
 ·cases h
theorem x_rdg36:XFact Tryz.prog GX 149 X_rdg36:=by
 refine XFact.fix (pf:=X_rdg360) _ (xfact_of_stab [] (C₀:=c_rdg36 LF) (XFacts.ok (l:=[]) rfl trivial) (okFns_of rfl (by kernel_rfl)) follows ?_)
 intro args ret Hc h
 unfold X_rdg360 at h
 split at h
 ·rename_i d
  obtain ⟨h0,h⟩:=tr_need h
  obtain ⟨rfl,rfl⟩:=tr_ret h
  have e:=(rdg36_ev LF noY () 0 d).trans (rdg36_spec d h0)
  exact ⟨rfl,rfl,rfl,1,_,_,e,rfl⟩
 ·cases h
theorem x_rval:XFact Tryz.prog GX 180 X_rval:=by
 refine XFact.fix (pf:=X_rval0) _ (xfact_of_stab [] (C₀:=c_rval LF) (XFacts.ok (l:=[]) rfl trivial) (okFns_of rfl (by kernel_rfl)) follows ?_)
 intro args ret Hc h
 unfold X_rval0 at h
 split at h
 ·rename_i b
  obtain ⟨h0,h⟩:=tr_need h
  obtain ⟨rfl,rfl⟩:=tr_ret h
  have e:=(rval_ev LF noY () 0 b).trans (rval_spec b h0)
  exact ⟨rfl,rfl,rfl,1,_,_,e,rfl⟩
 ·cases h
theorem x_renc:XFact Tryz.prog GX 110 X_renc:=by
 refine XFact.fix (pf:=X_renc0) _ (xfact_of_stab [0,0] (C₀:=c_renc LF) (XFacts.ok (l:=[(147,X_rpoint),(148,X_rthr),(149,X_rdg36),(150,X_radapt)]) rfl ⟨x_rpoint,x_rthr,x_rdg36,x_radapt,trivial⟩) (okFns_of rfl (by kernel_rfl)) follows ?_)
 intro args ret Hc h
 unfold X_renc0 at h
 split at h
 ·rename_i p_z p_t p
  obtain ⟨h0,h⟩:=tr_need h
  obtain ⟨rfl,rfl⟩:=tr_ret h
  obtain ⟨r,H,e,hs⟩:=renc_sp p_z p_t p h0
  exact ⟨rfl,rfl,rfl,1,r,H,(renc_ev LF noY () 0 p_z p_t p).trans e,hs⟩
 ·cases h
theorem x_rpdec:XFact Tryz.prog GX 151 X_rpdec:=by
 refine XFact.fix (pf:=X_rpdec0) _ (xfact_of_stab [1,0] (C₀:=c_rpdec LF) (XFacts.ok (l:=[(180,X_rval),(148,X_rthr),(150,X_radapt),(147,X_rpoint)]) rfl ⟨x_rval,x_rthr,x_radapt,x_rpoint,trivial⟩) (okFns_of rfl (by kernel_rfl)) follows ?_)
 intro args ret Hc h
 unfold X_rpdec0 at h
 split at h
 ·rename_i s
  obtain ⟨h0,h⟩:=tr_need h
  obtain ⟨rfl,rfl⟩:=tr_ret h
  obtain ⟨r,H,e,hs⟩:=rpdec_sp s h0
  exact ⟨rfl,rfl,rfl,1,r,H,(rpdec_ev LF noY () 0 s).trans e,hs⟩
 ·cases h
theorem x_rpts:XFact Tryz.prog GX 108 X_rpts:=by
 refine XFact.fix (pf:=X_rpts0) _ (xfact_of_stab [1,0] (C₀:=c_rpts LF) (XFacts.ok (l:=[(147,X_rpoint)]) rfl ⟨x_rpoint,trivial⟩) (okFns_of rfl (by kernel_rfl)) follows ?_)
 intro args ret Hc h
 unfold X_rpts0 at h
 split at h
 ·rename_i s
  obtain ⟨h0,h⟩:=tr_need h
  obtain ⟨rfl,rfl⟩:=tr_ret h
  obtain ⟨r,H,e,hs⟩:=rpts_sp s h0
  exact ⟨rfl,rfl,rfl,1,r,H,(rpts_ev LF noY () 0 s).trans e,hs⟩
 ·cases h
theorem x_rprop:XFact Tryz.prog GX 111 X_rprop:=by
 refine XFact.fix (pf:=X_rprop0) _ (xfact_of_stab [] (C₀:=c_rprop LF) (XFacts.ok (l:=[(151,X_rpdec),(110,X_renc)]) rfl ⟨x_rpdec,x_renc,trivial⟩) (okFns_of rfl (by kernel_rfl)) follows ?_)
 intro args ret Hc h
 unfold X_rprop0 at h
 split at h
 ·rename_i s
  obtain ⟨h0,h⟩:=tr_need h
  obtain ⟨rfl,rfl⟩:=tr_ret h
  have e:=(rprop_ev LF noY () 0 s).trans (rprop_spec s h0)
  exact ⟨rfl,rfl,rfl,1,_,_,e,rfl⟩
 ·cases h
theorem x_rlval:XFact Tryz.prog GX 59 X_rlval:=by
 refine XFact.fix (pf:=X_rlval0) _ (xfact_of_stab [] (C₀:=c_rlval LF) (XFacts.ok (l:=[(111,X_rprop)]) rfl ⟨x_rprop,trivial⟩) (okFns_of rfl (by kernel_rfl)) follows ?_)
 intro args ret Hc h
 unfold X_rlval0 at h
 split at h
 ·rename_i s
  obtain ⟨h0,h⟩:=tr_need h
  obtain ⟨rfl,rfl⟩:=tr_ret h
  have e:=(rlval_ev LF noY () 0 s).trans (rlval_spec s h0)
  exact ⟨rfl,rfl,rfl,1,_,_,e,rfl⟩
 ·cases h
theorem x_rlasc:XFact Tryz.prog GX 58 X_rlasc:=by
 refine XFact.fix (pf:=X_rlasc0) _ (xfact_of_stab [0,0] (C₀:=c_rlasc LF) (XFacts.ok (l:=[(108,X_rpts),(109,X_rlow),(110,X_renc),(59,X_rlval)]) rfl ⟨x_rpts,x_rlow,x_renc,x_rlval,trivial⟩) (okFns_of rfl (by kernel_rfl)) follows ?_)
 intro args ret Hc h
 unfold X_rlasc0 at h
 split at h
 ·rename_i s
  obtain ⟨h0,h⟩:=tr_need h
  obtain ⟨rfl,rfl⟩:=tr_ret h
  have e:=(rlasc_ev LF noY () 0 s).trans (rlasc_spec s h0)
  exact ⟨rfl,rfl,rfl,1,_,_,e,rfl⟩
 ·cases h
theorem x_rhx:XFact Tryz.prog GX 104 X_rhx:=by
 refine XFact.fix (pf:=X_rhx0) _ (xfact_of_stab [] (C₀:=c_rhx LF) (XFacts.ok (l:=[]) rfl trivial) (okFns_of rfl (by kernel_rfl)) follows ?_)
 intro args ret Hc h
 unfold X_rhx0 at h
 split at h
 ·rename_i b
  obtain ⟨h0,h⟩:=tr_need h
  obtain ⟨rfl,rfl⟩:=tr_ret h
  have e:=(rhx_ev LF noY () 0 b).trans (rhx_spec b h0)
  exact ⟨rfl,rfl,rfl,1,_,_,e,rfl⟩
 ·cases h
theorem x_rhdec:XFact Tryz.prog GX 54 X_rhdec:=by
 refine XFact.fix (pf:=X_rhdec0) _ (xfact_of_stab [0,0] (C₀:=c_rhdec LF) (XFacts.ok (l:=[(104,X_rhx)]) rfl ⟨x_rhx,trivial⟩) (okFns_of rfl (by kernel_rfl)) follows ?_)
 intro args ret Hc h
 unfold X_rhdec0 at h
 split at h
 ·rename_i s
  obtain ⟨h0,h⟩:=tr_need h
  obtain ⟨rfl,rfl⟩:=tr_ret h
  obtain ⟨r,H,e,hs⟩:=rhdec_sp s h0
  exact ⟨rfl,rfl,rfl,1,r,H,(rhdec_ev LF noY () 0 s).trans e,hs⟩
 ·cases h
theorem x_rhparse:XFact Tryz.prog GX 22 X_rhparse:=by
 refine XFact.fix (pf:=X_rhparse0) _ (xfact_of_stab [0,0] (C₀:=c_rhparse LF) (XFacts.ok (l:=[(53,X_rv6p),(54,X_rhdec),(55,X_rnumeric),(56,X_rpnum),(57,X_rsplit),(58,X_rlasc)]) rfl ⟨x_rv6p,x_rhdec,x_rnumeric,x_rpnum,x_rsplit,x_rlasc,trivial⟩) (okFns_of rfl (by kernel_rfl)) follows ?_)
 intro args ret Hc h
 unfold X_rhparse0 at h
 split at h
 ·rename_i s
  obtain ⟨h0,h⟩:=tr_need h
  obtain ⟨rfl,rfl⟩:=tr_ret h
  obtain ⟨r,H,e,hs⟩:=rhparse_sp s h0
  exact ⟨rfl,rfl,rfl,1,r,H,(rhparse_ev LF noY () 0 s).trans e,hs⟩
 ·cases h
end
end Go.Proofs.YtokehocipgepnaaGreatDoor.E
namespace Go.Proofs.YtokehocipgepnaaGreatDoor.E
open Go Go.Proofs Go.ChangeShapes Go.WideShapes Go.ChangeAt Go.RowKit
set_option linter.unusedVariables false
set_option maxRecDepth 100000
section
theorem lpm_lifted (os:Os) (started:os.Started) (H:Type) (enc:TypeId × Value→H) :
  ReturnsInHanded {} Tryz.checked os 5 .any (fun w args=>(Rows.hostParseMatchesSpecSpec.pre enc Tryz.prog Tryz.f5 Rows.hostParseMatchesSpecRow.domain false w args∧laidMetH Tryz.prog laidH w)∧sizedMet enc Tryz.prog Tryz.f5 (OpenSpec.ofChange Rows.hostParseMatchesSpecSpec) false w args) (Rows.hostParseMatchesSpecSpec.post enc Tryz.prog Tryz.f5 false true false false):=
 law_handed started (C:=c_lpm LF) (tb:=4) rfl rfl (XFacts.ok (l:=[(20,X_awake),(21,X_hparse),(22,X_rhparse)]) rfl ⟨x_awake,x_hparse,x_rhparse,trivial⟩) (okFns_of rfl (by kernel_rfl)) (by kernel_rfl) Tryz.func5 (c:=bodyOf Tryz.f5) rfl (by kernel_rfl)
  (by
   intro t ht
   obtain rfl:t=9:=by simpa using (show t∈[9] from ht)
   exact ⟨⟨by kernel_rfl,of_decide_eq_true (by kernel_rfl)⟩,by kernel_rfl⟩) rfl (by kernel_rfl) rfl
  (fun ds hds=>by
   match ds,hds with
   | [d0],_=>rfl)
  #[(.string ⟨#[]⟩)] 8 (by kernel_rfl) (by kernel_rfl) (by kernel_rfl)
  (fun args h=>lpm_law args h)
theorem lpm_holds:Rows.HostParseMatchesSpecSaid:=
 OpenClaim.holds_of_wide 5 Tryz.f5 rfl rfl rfl rfl rfl rfl rfl ⟨rfl,rfl,rfl,rfl,rfl⟩ rfl rfl rfl rfl rfl (by kernel_rfl) Tryz.func5 (by kernel_rfl)
  (of_decide_eq_true (by kernel_rfl)) (by unfold Func.isWrapper;first | (rw [if_pos (by decide +kernel)];kernel_rfl) | (rw [if_neg (by decide +kernel)];exact ⟨rfl,rfl⟩))
  (fun os started H enc _=>lpm_lifted os started H enc)
theorem lpm_card:Rows.HostParseMatchesSpecCardSaid:=
 Claim7.holds_tied_plain_at .later [] [.data,.data,.data,.data,.pinned] true (true, "2d4461915ea06489d68a60bf686921bd6071300f588936464676204155834289") false lpm_holds (fun _ h=>by cases h) (by kernel_rfl) (fun _ h=>by cases h) hostParseMatchesSpec_row_tie rfl ⟨rfl,rfl⟩ (by kernel_rfl) rfl
  (fun f fn hf hfn=>by
   obtain rfl:f=5:=Option.some.inj ((show Tryz.prog.funcNamed "hstsstore/hstsstorelaw14.HostParseMatchesSpec" = some 5 by kernel_rfl).symm.trans hf) |>.symm
   obtain rfl:fn=Tryz.f5:=(Option.some.inj (Tryz.func5.symm.trans hfn)).symm
   exact ⟨by kernel_rfl,fun j t ht=>by
    have hm:t∈[9]:=Array.mem_toList_iff.2 (Array.mem_of_getElem? ht)
    have hall:([9].all fun u=>!Tryz.prog.wantsStandIn u)=true:=by kernel_rfl
    exact (show Tryz.prog.wantsStandIn t=false by simpa using List.all_eq_true.1 hall t hm)⟩)
  (by kernel_rfl)
end
#print axioms lpm_card
end Go.Proofs.YtokehocipgepnaaGreatDoor.E
