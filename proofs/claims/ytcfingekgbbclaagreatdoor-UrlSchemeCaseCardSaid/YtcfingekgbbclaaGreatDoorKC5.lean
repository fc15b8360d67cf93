/-
  UrlSchemeCase, as its tied card says. Conditions: what the card itself names (the package-level variables that are listed, tied to the program's text).
-/
import Derived.Test.YtcfingekgbbclaaGreatDoorKC4
import Derived.BigQuiet
import Derived.Deep.QuietTactic
import Derived.Laws.Runes
import Derived.Lib.MapLaws
import Derived.Shelf.Abstract
import Derived.Test.YtcfingekgbbclaaGreatDoorCards
import Derived.Test.YtcfingekgbbclaaGreatDoorProg
import Derived.Test.YtcfingekgbbclaaGreatDoorTie
import Derived.WalkKit
import Derived.WideMake
namespace Go.Proofs.YtcfingekgbbclaaGreatDoor.E
open Go Go.Proofs 
set_option linter.unusedVariables false
set_option maxRecDepth 100000
section
variable {σ R : Type} (lf : Nat) (cl : CallT) (yh : Yh σ) (s : σ) (k : Out → St σ → Option R)
noncomputable def c_ltpre (lf:Nat):Cfg:=mkCfg lf [112] (lookK []) [(79,X_lpre)] (lookK [(3,[4]),(2,[4]),(1,[0,0,5]),(0,[0,0])]) [79] (lookK []) (some [4]) [] [] []
noncomputable def ltpre {R:Type} (lf:Nat) (s0 prefix1:By) (k0:By→Option R):Option R:=cond (small (List.length s0)) (cond (List.isPrefixOf prefix1 s0) (cond (sub3 (↑(List.length prefix1):Int) (↑(List.length s0):Int) (List.length s0)) (vl (cut s0 (↑(List.length prefix1):Int) (↑(List.length s0):Int)) fun s'0=>k0 s'0) (none)) (k0 s0)) (none)
theorem ltpre_ev (d:Nat) (s0 prefix1:By):evC (c_ltpre lf) (d+1) σ yh 112 [.s (.str s0),.s (.str prefix1)] [] s=ltpre lf s0 prefix1 (fun r0=>some (.s (.str r0),[],s)):=by
 refine (evC_eq (fn:=Tryz.f112) (by kernel_rfl) (by kernel_rfl) (by kernel_rfl)).trans ?_
 generalize evC (c_ltpre lf) d=cl
 unfold ltpre;kernel_rfl
noncomputable def c_tpre (lf:Nat):Cfg:=mkCfg lf [83] (lookK []) [(112,X_ltpre)] (lookK [(1,[4]),(0,[0,0])]) [112] (lookK []) (some [4]) [] [] []
noncomputable def tpre {R:Type} (lf:Nat) (s0 prefix1:By) (k0:By→Option R):Option R:=cond (small (List.length s0)) (k0 (cutp s0 prefix1)) (none)
theorem tpre_ev (d:Nat) (s0 prefix1:By):evC (c_tpre lf) (d+1) σ yh 83 [.s (.str s0),.s (.str prefix1)] [] s=tpre lf s0 prefix1 (fun r0=>some (.s (.str r0),[],s)):=by
 refine (evC_eq (fn:=Tryz.f83) (by kernel_rfl) (by kernel_rfl) (by kernel_rfl)).trans ?_
 generalize evC (c_tpre lf) d=cl
 unfold tpre;kernel_rfl
noncomputable def c_uport (lf:Nat):Cfg:=mkCfg lf [44] (lookK []) [] (lookK [(8,[2]),(4,[2]),(7,[2]),(6,[7]),(5,[3,3]),(3,[3,0]),(2,[3,0]),(1,[3]),(0,[0])]) [] (lookK [(0,[])]) (some [2]) [] [] []
noncomputable def uport {R:Type} (lf:Nat) (scheme0:By) (k0:Int→Option R):Option R:=cond (scheme0==(([104,116,116,112]:List UInt8))) (cond (scheme0==(([104,116,116,112]:List UInt8))) (k0 80) (cond (scheme0==(([104,116,116,112,115]:List UInt8))) (cond (scheme0==(([104,116,116,112,115]:List UInt8))) (k0 443) (k0 (-1))) (cond (scheme0==(([119,115,115]:List UInt8))) (k0 443) (k0 (-1))))) (cond (scheme0==(([119,115]:List UInt8))) (k0 80) (cond (scheme0==(([104,116,116,112,115]:List UInt8))) (cond (scheme0==(([104,116,116,112,115]:List UInt8))) (k0 443) (k0 (-1))) (cond (scheme0==(([119,115,115]:List UInt8))) (k0 443) (k0 (-1)))))
theorem uport_ev (d:Nat) (scheme0:By):evC (c_uport lf) (d+1) σ yh 44 [.s (.str scheme0)] [] s=uport lf scheme0 (fun r0=>some (.s (.int .i64 r0),[],s)):=by
 refine (evC_eq (fn:=Tryz.f44) (by kernel_rfl) (by kernel_rfl) (by kernel_rfl)).trans ?_
 generalize evC (c_uport lf) d=cl
 unfold uport;kernel_rfl
noncomputable def c_uspec (lf:Nat):Cfg:=mkCfg lf [22] (lookK []) [(44,X_uport)] (lookK [(1,[2]),(0,[0])]) [44] (lookK []) (some [2]) [] [] []
noncomputable def uspec {R:Type} (lf:Nat) (scheme0:By) (k0:Bool→Option R):Option R:=k0 (ltI (0:Int) (dport scheme0))
theorem uspec_ev (d:Nat) (scheme0:By):evC (c_uspec lf) (d+1) σ yh 22 [.s (.str scheme0)] [] s=uspec lf scheme0 (fun r0=>some (.s (.bool r0),[],s)):=by
 refine (evC_eq (fn:=Tryz.f22) (by kernel_rfl) (by kernel_rfl) (by kernel_rfl)).trans ?_
 generalize evC (c_uspec lf) d=cl
 unfold uspec;kernel_rfl
noncomputable def c_uins (lf:Nat):Cfg:=mkCfg lf [24] (lookK []) [(44,X_uport)] (lookK [(1,[2]),(0,[1])]) [44] (lookK []) (some [2]) [] [] []
noncomputable def uins {R:Type} (lf:Nat) (u0 u1:By) (u2:Int) (u3:By) (u4 u5 u6 u7 u8 u9 u10 u11 u12 u13:Int) (u14:By) (k0:Bool→(List Blk)→Option R):Option R:=k0 ((dport u0)==(80:Int)) [(bU u0 u1 u2 u3 u4 u5 u6 u7 u8 u9 u10 u11 u12 u13 u14)]
theorem uins_ev (d:Nat) (u0 u1:By) (u2:Int) (u3:By) (u4 u5 u6 u7 u8 u9 u10 u11 u12 u13:Int) (u14:By):evC (c_uins lf) (d+1) σ yh 24 [(gU u0 u1 u2 u3 u4 u5 u6 u7 u8 u9 u10 u11 u12 u13 u14)] [] s=uins lf u0 u1 u2 u3 u4 u5 u6 u7 u8 u9 u10 u11 u12 u13 u14 (fun r0 H1=>some (.s (.bool r0),H1,s)):=by
 refine (evC_eq (fn:=Tryz.f24) (by kernel_rfl) (by kernel_rfl) (by kernel_rfl)).trans ?_
 generalize evC (c_uins lf) d=cl
 unfold uins;kernel_rfl
noncomputable abbrev b_usch:Code:=bodyOf Tryz.f55
noncomputable def c_usch (lf:Nat):Cfg:=mkCfg lf [55] (lookK [(2,[0,1,4,0])]) [(73,X_sidxb)] (lookK [(9,[2]),(8,[0,6,0]),(7,[2]),(6,[0,6,0,29]),(5,[0,2,0,0,1,0]),(4,[0,2,0,2,0]),(3,[0,2,3,0]),(2,[0,6,0,0]),(1,[0,6,0]),(0,[0])]) [73] (lookK [(0,[0]),(1,[0,6,0])]) (some [2]) [] [] []
noncomputable def usch_j0 {R:Type} (s0:By) (i1 n3:Int) (k0:By→Int→Int→Option R):Option R:=k0 s0 n3 i1
abbrev usch_j0_P (b:Code):Prop:=∀ (k:Out→St σ→Option R) (s0:By) (i1 b2 n3:Int),evCode (c_usch lf) cl yh b ⟨gp [(0,.s (.str s0)),(2,.s (.int .i64 i1)),(0,.s (.int .u8 b2)),(0,.s (.bool true)),(1,.s (.int .i64 n3)),(0,.s (.int .i64 i1))] 33,[],s⟩ k=usch_j0 s0 i1 n3 (fun s0 n1 n2=>k .normal ⟨gp [(0,.s (.str s0)),(6,.s (.int .i64 n1)),(0,.s (.int .i64 n2)),(29,.s (.bool false))] 3,[],s⟩)
theorem usch_j0_eq:usch_j0_P (R:=R) lf cl yh s (cd [1,0,1,0,0,1,1,0,0,1,1,1] b_usch):=by
 intro k s0 i1 b2 n3;unfold usch_j0;kernel_rfl
noncomputable def usch_j1 {R:Type} (s0:By) (i1 b2:Int) (letter3:Bool) (n4:Int) (k0:Unit→Option R) (k1:By→Int→Int→Bool→Option R):Option R:=cond (not letter3) (cond (i1==(0:Int)) (k0 ()) (cond (inR b2 256) (vl (Lib.indexByte (([48,49,50,51,52,53,54,55,56,57,43,45,46]:List UInt8)) (u8n b2)) fun n'3=>cond (ltI n'3 (0:Int)) (k0 ()) (k1 s0 n4 i1 (ltI n'3 (0:Int)))) (none))) (k1 s0 n4 i1 false)
abbrev usch_j1_P (b:Code):Prop:=∀ (k:Out→St σ→Option R) (s0:By) (i1 b2:Int) (letter3:Bool) (n4:Int),evCode (c_usch lf) cl yh b ⟨gp [(0,.s (.str s0)),(2,.s (.int .i64 i1)),(0,.s (.int .u8 b2)),(0,.s (.bool letter3)),(1,.s (.int .i64 n4)),(0,.s (.int .i64 i1))] 33,[],s⟩ k=usch_j1 s0 i1 b2 letter3 n4 (fun _=>k .ret ⟨gp [(2,.s (.bool false))] 39,[],s⟩) (fun s0 n1 n2 b3=>k .normal ⟨gp [(0,.s (.str s0)),(6,.s (.int .i64 n1)),(0,.s (.int .i64 n2)),(29,.s (.bool b3))] 3,[],s⟩)
theorem usch_j1_eq:usch_j1_P (R:=R) lf cl yh s (cd [1,0,1,0,0,1,1,0,0,1,1,1] b_usch):=by
 intro k s0 i1 b2 letter3 n4;unfold usch_j1;kernel_rfl
noncomputable def usch_l0f {R:Type} (lf n:Nat) (self:By→Int→Int→Option R) (s0:By) (n1 n2:Int) (k0:Unit→Option R) (k1:By→Option R):Option R:=cond (ltI n2 n1) (cond (inR n2 (List.length s0)) (cond (not (ltI (bAt s0 n2) (97:Int))) (cond (not (ltI (122:Int) (bAt s0 n2))) (usch_j0 s0 n2 n1 (fun s'0 n'1 n'2=>self s'0 n'1 (wi64 (n'2+(1:Int))))) (cond (not (ltI (bAt s0 n2) (65:Int))) (usch_j1 s0 n2 (bAt s0 n2) (not (ltI (90:Int) (bAt s0 n2))) n1 (fun _=>k0 ()) (fun s'4 n'5 n'6 b'7=>self s'4 n'5 (wi64 (n'6+(1:Int))))) (usch_j1 s0 n2 (bAt s0 n2) false n1 (fun _=>k0 ()) (fun s'8 n'9 n'10 b'11=>vl (wi64 (n'10+(1:Int))) fun n'12=>self s'8 n'9 n'12)))) (cond (not (ltI (bAt s0 n2) (65:Int))) (usch_j1 s0 n2 (bAt s0 n2) (not (ltI (90:Int) (bAt s0 n2))) n1 (fun _=>k0 ()) (fun s'13 n'14 n'15 b'16=>vl (wi64 (n'15+(1:Int))) fun n'17=>self s'13 n'14 n'17)) (usch_j1 s0 n2 (bAt s0 n2) false n1 (fun _=>k0 ()) (fun s'18 n'19 n'20 b'21=>vl (wi64 (n'20+(1:Int))) fun n'22=>self s'18 n'19 n'22)))) (none)) (k1 s0)
noncomputable def usch_l0 {R:Type} (lf n:Nat) (s0:By) (n1 n2:Int) (k0:Unit→Option R) (k1:By→Option R):Option R:=recN (α:=By→Int→Int→Option R) (fun _ _ _=>none) (fun n self s0 n1 n2=>usch_l0f lf n self s0 n1 n2 k0 k1) n s0 n1 n2
theorem usch_l0_s {R:Type} (lf n:Nat) (s0:By) (n1 n2:Int) (k0:Unit→Option R) (k1:By→Option R):usch_l0 lf (n+1) s0 n1 n2 k0 k1=usch_l0f lf n (fun s0 n1 n2=>usch_l0 lf n s0 n1 n2 k0 k1) s0 n1 n2 k0 k1:=rfl
theorem usch_l0_eq (b_101001100111:Code) (h_usch_j0:usch_j0_P (R:=R) lf cl yh s b_101001100111) (h_usch_j1:usch_j1_P (R:=R) lf cl yh s b_101001100111) (n:Nat) (s0:By) (n1 n2:Int):loopK 0 ((c_usch lf).keep 2) (bd (c_usch lf) cl yh (cd [1,0,1,0,0] (putC [1,0,1,0,0,1,1,0,0,1,1,1] b_101001100111 b_usch))) n ⟨gp [(0,.s (.str s0)),(6,.s (.int .i64 n1)),(0,.s (.int .i64 n2))] 33,[],s⟩ k =
 usch_l0 lf n s0 n1 n2 (fun _=>k .ret ⟨gp [(2,.s (.bool false))] 39,[],s⟩) (fun s0=>k (.exit 0) ⟨gp [(0,.s (.str s0))] 41,[],s⟩):=by
 induction n generalizing s0 n1 n2 with
 | zero=>rfl
 | succ n ih=>rw [usch_l0_s];unfold usch_l0f;exact let K0:=(blkK 1 (seqK (c_usch lf) cl yh (cd [1,0,1,0,0,1,1,1] b_usch) (lpK 0 ((c_usch lf).keep 2) (bd (c_usch lf) cl yh (cd [1,0,1,0,0] (putC [1,0,1,0,0,1,1,0,0,1,1,1] b_101001100111 b_usch))) n k)));(Eq.trans (by kernel_rfl) (cond_congr (cond_congr (cond_congr (cond_congr ((h_usch_j0 K0 s0 n2 (bAt s0 n2) n1).trans (congr rfl (fx3 fun s'0 n'1 n'2=>(Eq.trans (by kernel_rfl) (ih s'0 n'1 (wi64 (n'2+(1:Int)))))))) (cond_congr ((h_usch_j1 K0 s0 n2 (bAt s0 n2) (not (ltI (90:Int) (bAt s0 n2))) n1).trans (congr (congr rfl (by kernel_rfl)) (fx4 fun s'4 n'5 n'6 b'7=>(Eq.trans (by kernel_rfl) (ih s'4 n'5 (wi64 (n'6+(1:Int)))))))) ((h_usch_j1 K0 s0 n2 (bAt s0 n2) false n1).trans (congr (congr rfl (by kernel_rfl)) (fx4 fun s'8 n'9 n'10 b'11=>(Eq.trans (by kernel_rfl) (vl_congr fun n'12=>(ih s'8 n'9 n'12)))))))) (cond_congr ((h_usch_j1 K0 s0 n2 (bAt s0 n2) (not (ltI (90:Int) (bAt s0 n2))) n1).trans (congr (congr rfl (by kernel_rfl)) (fx4 fun s'13 n'14 n'15 b'16=>(Eq.trans (by kernel_rfl) (vl_congr fun n'17=>(ih s'13 n'14 n'17)))))) ((h_usch_j1 K0 s0 n2 (bAt s0 n2) false n1).trans (congr (congr rfl (by kernel_rfl)) (fx4 fun s'18 n'19 n'20 b'21=>(Eq.trans (by kernel_rfl) (vl_congr fun n'22=>(ih s'18 n'19 n'22)))))))) rfl) rfl))
noncomputable def usch {R:Type} (lf:Nat) (s0:By) (k0:Bool→Option R):Option R:=usch_l0 lf lf s0 (↑(List.length s0):Int) 0 (fun _=>k0 false) (fun s'23=>k0 (not (s'23==([]:List UInt8))))
theorem usch_eq (b_101001100111:Code) (h_usch_j0:usch_j0_P (R:=PV × List Blk × σ) lf cl yh s b_101001100111) (h_usch_j1:usch_j1_P (R:=PV × List Blk × σ) lf cl yh s b_101001100111) (s0:By):evCode (c_usch lf) cl yh (cd [] (putC [1,0,1,0,0,1,1,0,0,1,1,1] b_101001100111 b_usch)) ⟨[.s (.str s0)]++tps 41,[],s⟩ (retK (c_usch lf) Tryz.f55)=usch lf s0 (fun r0=>some (.s (.bool r0),[],s)):=by
 unfold usch;exact (Eq.trans (by kernel_rfl) ((usch_l0_eq lf cl yh s (blkK 0 (seqK (c_usch lf) cl yh (cd [1,1] b_usch) (retK (c_usch lf) Tryz.f55))) b_101001100111 h_usch_j0 h_usch_j1 lf s0 (↑(List.length s0):Int) 0).trans (by kernel_rfl)))
theorem usch_ev (d:Nat) (s0:By):evC (c_usch lf) (d+1) σ yh 55 [.s (.str s0)] [] s=usch lf s0 (fun r0=>some (.s (.bool r0),[],s)):=
 (evC_eq (fn:=Tryz.f55) (by kernel_rfl) (by kernel_rfl) (by kernel_rfl)).trans (Eq.trans (by kernel_rfl) (usch_eq lf (evC (c_usch lf) d) yh s (cd [1,0,1,0,0,1,1,0,0,1,1,1] b_usch) (usch_j0_eq lf (evC (c_usch lf) d) yh s) (usch_j1_eq lf (evC (c_usch lf) d) yh s) s0))
noncomputable abbrev b_unum:Code:=bodyOf Tryz.f82
noncomputable def c_unum (lf:Nat):Cfg:=mkCfg lf [82] (lookK [(3,[0,1,0,0,2,0])]) [] (lookK [(9,[2,0]),(8,[0,3,2,0]),(7,[0,3,2,0]),(6,[2,0]),(5,[0,3,0,1,0,11]),(4,[0,3,0,1,0]),(3,[0,3,2,0,0]),(2,[0,3,2,0]),(1,[0,3]),(0,[0])]) [] (lookK [(0,[4]),(1,[0,3,2,0])]) (some [2,0]) [] [] []
noncomputable def unum_l0f {R:Type} (lf n:Nat) (self:By→Int→Int→Int→Option R) (s0:By) (n1 n2 n3:Int) (k0:Unit→Option R) (k1:Int→Option R):Option R:=cond (ltI n3 n2) (cond (inR n3 (List.length s0)) (cond (ltI (bAt s0 n3) (48:Int)) (k0 ()) (cond (inR n3 (List.length s0)) (cond (ltI (57:Int) (bAt s0 n3)) (k0 ()) (vl (wi64 ((10:Int)*(if ((0:Int) > n1) then (0:Int) else n1))) fun n'0=>cond (inR n3 (List.length s0)) (vl (wu8 ((bAt s0 n3)-(48:Int))) fun n'1=>vl (wi64 (n'0+(wi64 n'1))) fun n'2=>vl (if ((65536:Int)<n'2) then (65536:Int) else n'2) fun n'3=>self s0 n'3 n2 (wi64 (n3+(1:Int)))) (none))) (none))) (none)) (k1 n1)
noncomputable def unum_l0 {R:Type} (lf n:Nat) (s0:By) (n1 n2 n3:Int) (k0:Unit→Option R) (k1:Int→Option R):Option R:=recN (α:=By→Int→Int→Int→Option R) (fun _ _ _ _=>none) (fun n self s0 n1 n2 n3=>unum_l0f lf n self s0 n1 n2 n3 k0 k1) n s0 n1 n2 n3
theorem unum_l0_s {R:Type} (lf n:Nat) (s0:By) (n1 n2 n3:Int) (k0:Unit→Option R) (k1:Int→Option R):unum_l0 lf (n+1) s0 n1 n2 n3 k0 k1=unum_l0f lf n (fun s0 n1 n2 n3=>unum_l0 lf n s0 n1 n2 n3 k0 k1) s0 n1 n2 n3 k0 k1:=rfl
theorem unum_l0_eq (n:Nat) (s0:By) (n1 n2 n3:Int):loopK 0 ((c_unum lf).keep 3) (bd (c_unum lf) cl yh (cd [1,1,0,1,0,0] b_unum)) n ⟨gp [(0,.s (.str s0)),(3,.s (.int .i64 n1)),(2,.s (.int .i64 n2)),(0,.s (.int .i64 n3))] 26,[],s⟩ k =
 unum_l0 lf n s0 n1 n2 n3 (fun _=>k .ret ⟨gp [(2,.s (.int .i64 (0:Int))),(0,.s (.bool false))] 31,[],s⟩) (fun n0=>k (.exit 0) ⟨gp [(4,.s (.int .i64 n0))] 30,[],s⟩):=by
 induction n generalizing s0 n1 n2 n3 with
 | zero=>rfl
 | succ n ih=>rw [unum_l0_s];unfold unum_l0f;exact (Eq.trans (by kernel_rfl) (cond_congr (cond_congr (cond_congr rfl (cond_congr (cond_congr rfl (vl_congr fun n'0=>(cond_congr (vl_congr fun n'1=>(vl_congr fun n'2=>(vl_congr fun n'3=>(ih s0 n'3 n2 (wi64 (n3+(1:Int))))))) rfl))) rfl)) rfl) rfl))
noncomputable def unum {R:Type} (lf:Nat) (s0:By) (k0:Int→Bool→Option R):Option R:=unum_l0 lf lf s0 (-1) (↑(List.length s0):Int) 0 (fun _=>k0 0 false) (fun n'4=>k0 n'4 (ltI n'4 (65536:Int)))
theorem unum_ev (d:Nat) (s0:By):evC (c_unum lf) (d+1) σ yh 82 [.s (.str s0)] [] s=unum lf s0 (fun r0 r1=>some (.tup [.s (.int .i64 r0),.s (.bool r1)],[],s)):=by
 refine (evC_eq (fn:=Tryz.f82) (by kernel_rfl) (by kernel_rfl) (by kernel_rfl)).trans ?_
 generalize evC (c_unum lf) d=cl
 unfold unum;exact (Eq.trans (by kernel_rfl) ((unum_l0_eq lf cl yh s (blkK 0 (seqK (c_unum lf) cl yh (cd [1,1,1] b_unum) (retK (c_unum lf) Tryz.f82))) lf s0 (-1) (↑(List.length s0):Int) 0).trans (by kernel_rfl)))
noncomputable abbrev b_uplace:Code:=bodyOf Tryz.f60
noncomputable def c_uplace (lf:Nat):Cfg:=mkCfg lf [60] (lookK []) [(80,X_lastb),(59,X_hpre),(73,X_sidxb),(81,X_hparse),(83,X_tpre),(82,X_unum),(44,X_uport)] (lookK [(24,[4,0]),(23,[2,1]),(22,[2,1,8,71]),(21,[2,1,8]),(20,[4,0]),(19,[2,1,6,1,63]),(18,[2,1,6,1,0]),(17,[4,0]),(16,[2,1,3,2,0,54]),(15,[2,1,3,2,0]),(14,[4,0]),(13,[2,1,2,0,50]),(9,[2,1,2,0]),(8,[4,0]),(7,[1,0,1,4,23]),(6,[1,0,1,4]),(12,[2,1,2,0]),(11,[1,0,1,2,0,1,35]),(10,[1,0,1,2,0,1]),(5,[1,0,1,2,0,20]),(4,[1,0,1,2,0]),(3,[1,0,1]),(2,[1,0,1,1,11]),(1,[1,0,1,1]),(0,[1,0,1])]) [80,59,73,83,82,44] (lookK []) (some [4,0]) [] [] []
noncomputable def uplace_j0 {R:Type} (name0 tail1 s3 s4:By) (n5:Int) (s6:By) (n7 n8 n9 n10 n11 n12 n13 n14 n15 n16:Int) (s17:By) (k0:Int→Blk→By→By→Int→By→Int→Int→Int→Int→Int→Int→Int→Int→Int→Int→By→(List Blk)→Option R):Option R:=cond (small (List.length name0)) (vl (parseH name0) fun p'44=>cond ((↑(p'44).2:Int) != (0:Int)) (k0 (↑(p'44).2:Int) (bU s3 s4 n5 s6 n7 n8 n9 n10 n11 n12 n13 n14 n15 n16 s17) ([]:List UInt8) ([]:List UInt8) 0 ([]:List UInt8) 0 0 0 0 0 0 0 0 0 0 ([]:List UInt8) [(bH (↑(HostV.kind (p'44).1):Int) (HostV.name (p'44).1) (↑(HostV.v4 (p'44).1):Int) (↑(List.getD (HostV.v6 (p'44).1) 0 0):Int) (↑(List.getD (HostV.v6 (p'44).1) 1 0):Int) (↑(List.getD (HostV.v6 (p'44).1) 2 0):Int) (↑(List.getD (HostV.v6 (p'44).1) 3 0):Int) (↑(List.getD (HostV.v6 (p'44).1) 4 0):Int) (↑(List.getD (HostV.v6 (p'44).1) 5 0):Int) (↑(List.getD (HostV.v6 (p'44).1) 6 0):Int) (↑(List.getD (HostV.v6 (p'44).1) 7 0):Int))]) (cond (small (List.length tail1)) (vl (cutp tail1 (([58]:List UInt8))) fun s'46=>cond (small (List.length s'46)) (cond (not (Option.isSome (numP ((-1):Int) s'46))) (k0 16 (bU s3 s4 n5 s6 n7 n8 n9 n10 n11 n12 n13 n14 n15 n16 s17) ([]:List UInt8) ([]:List UInt8) 0 ([]:List UInt8) 0 0 0 0 0 0 0 0 0 0 ([]:List UInt8) [(bH (↑(HostV.kind (p'44).1):Int) (HostV.name (p'44).1) (↑(HostV.v4 (p'44).1):Int) (↑(List.getD (HostV.v6 (p'44).1) 0 0):Int) (↑(List.getD (HostV.v6 (p'44).1) 1 0):Int) (↑(List.getD (HostV.v6 (p'44).1) 2 0):Int) (↑(List.getD (HostV.v6 (p'44).1) 3 0):Int) (↑(List.getD (HostV.v6 (p'44).1) 4 0):Int) (↑(List.getD (HostV.v6 (p'44).1) 5 0):Int) (↑(List.getD (HostV.v6 (p'44).1) 6 0):Int) (↑(List.getD (HostV.v6 (p'44).1) 7 0):Int))]) (cond ((numV s'46) != (dport s3)) (k0 0 (bU s3 s4 (↑(HostV.kind (p'44).1):Int) (HostV.name (p'44).1) (↑(HostV.v4 (p'44).1):Int) (↑(List.getD (HostV.v6 (p'44).1) 0 0):Int) (↑(List.getD (HostV.v6 (p'44).1) 1 0):Int) (↑(List.getD (HostV.v6 (p'44).1) 2 0):Int) (↑(List.getD (HostV.v6 (p'44).1) 3 0):Int) (↑(List.getD (HostV.v6 (p'44).1) 4 0):Int) (↑(List.getD (HostV.v6 (p'44).1) 5 0):Int) (↑(List.getD (HostV.v6 (p'44).1) 6 0):Int) (↑(List.getD (HostV.v6 (p'44).1) 7 0):Int) (numV s'46) s17) s3 s4 (↑(HostV.kind (p'44).1):Int) (HostV.name (p'44).1) (↑(HostV.v4 (p'44).1):Int) (↑(List.getD (HostV.v6 (p'44).1) 0 0):Int) (↑(List.getD (HostV.v6 (p'44).1) 1 0):Int) (↑(List.getD (HostV.v6 (p'44).1) 2 0):Int) (↑(List.getD (HostV.v6 (p'44).1) 3 0):Int) (↑(List.getD (HostV.v6 (p'44).1) 4 0):Int) (↑(List.getD (HostV.v6 (p'44).1) 5 0):Int) (↑(List.getD (HostV.v6 (p'44).1) 6 0):Int) (↑(List.getD (HostV.v6 (p'44).1) 7 0):Int) (numV s'46) s17 [(bH (↑(HostV.kind (p'44).1):Int) (HostV.name (p'44).1) (↑(HostV.v4 (p'44).1):Int) (↑(List.getD (HostV.v6 (p'44).1) 0 0):Int) (↑(List.getD (HostV.v6 (p'44).1) 1 0):Int) (↑(List.getD (HostV.v6 (p'44).1) 2 0):Int) (↑(List.getD (HostV.v6 (p'44).1) 3 0):Int) (↑(List.getD (HostV.v6 (p'44).1) 4 0):Int) (↑(List.getD (HostV.v6 (p'44).1) 5 0):Int) (↑(List.getD (HostV.v6 (p'44).1) 6 0):Int) (↑(List.getD (HostV.v6 (p'44).1) 7 0):Int))]) (k0 0 (bU s3 s4 (↑(HostV.kind (p'44).1):Int) (HostV.name (p'44).1) (↑(HostV.v4 (p'44).1):Int) (↑(List.getD (HostV.v6 (p'44).1) 0 0):Int) (↑(List.getD (HostV.v6 (p'44).1) 1 0):Int) (↑(List.getD (HostV.v6 (p'44).1) 2 0):Int) (↑(List.getD (HostV.v6 (p'44).1) 3 0):Int) (↑(List.getD (HostV.v6 (p'44).1) 4 0):Int) (↑(List.getD (HostV.v6 (p'44).1) 5 0):Int) (↑(List.getD (HostV.v6 (p'44).1) 6 0):Int) (↑(List.getD (HostV.v6 (p'44).1) 7 0):Int) n16 s17) s3 s4 (↑(HostV.kind (p'44).1):Int) (HostV.name (p'44).1) (↑(HostV.v4 (p'44).1):Int) (↑(List.getD (HostV.v6 (p'44).1) 0 0):Int) (↑(List.getD (HostV.v6 (p'44).1) 1 0):Int) (↑(List.getD (HostV.v6 (p'44).1) 2 0):Int) (↑(List.getD (HostV.v6 (p'44).1) 3 0):Int) (↑(List.getD (HostV.v6 (p'44).1) 4 0):Int) (↑(List.getD (HostV.v6 (p'44).1) 5 0):Int) (↑(List.getD (HostV.v6 (p'44).1) 6 0):Int) (↑(List.getD (HostV.v6 (p'44).1) 7 0):Int) n16 s17 [(bH (↑(HostV.kind (p'44).1):Int) (HostV.name (p'44).1) (↑(HostV.v4 (p'44).1):Int) (↑(List.getD (HostV.v6 (p'44).1) 0 0):Int) (↑(List.getD (HostV.v6 (p'44).1) 1 0):Int) (↑(List.getD (HostV.v6 (p'44).1) 2 0):Int) (↑(List.getD (HostV.v6 (p'44).1) 3 0):Int) (↑(List.getD (HostV.v6 (p'44).1) 4 0):Int) (↑(List.getD (HostV.v6 (p'44).1) 5 0):Int) (↑(List.getD (HostV.v6 (p'44).1) 6 0):Int) (↑(List.getD (HostV.v6 (p'44).1) 7 0):Int))]))) (none)) (none))) (none)
abbrev uplace_j0_P (b:Code):Prop:=∀ (k:Out→St σ→Option R) (name0 tail1:By) (b2:Bool) (s3 s4:By) (n5:Int) (s6:By) (n7 n8 n9 n10 n11 n12 n13 n14 n15 n16:Int) (s17:By),evCode (c_uplace lf) cl yh b ⟨gp [(2,.ptr 0 0 0),(1,.ptr 1 0 0),(2,.s (.str name0)),(0,.s (.str tail1)),(50,.s (.bool b2))] 29,[(bU s3 s4 n5 s6 n7 n8 n9 n10 n11 n12 n13 n14 n15 n16 s17),bU0],s⟩ k=uplace_j0 name0 tail1 s3 s4 n5 s6 n7 n8 n9 n10 n11 n12 n13 n14 n15 n16 s17 (fun n0 B1 s2 s3 n4 s5 n6 n7 n8 n9 n10 n11 n12 n13 n14 n15 s16 H17=>k .ret ⟨gp [(4,.ptr 1 0 0),(0,.s (.int .i64 n0))] 83,(B1::(bU s2 s3 n4 s5 n6 n7 n8 n9 n10 n11 n12 n13 n14 n15 s16)::H17),s⟩)
theorem uplace_j0_eq:uplace_j0_P (R:=R) lf cl yh s (cd [1,1,1,1,1] b_uplace):=by
 intro k name0 tail1 b2 s3 s4 n5 s6 n7 n8 n9 n10 n11 n12 n13 n14 n15 n16 s17;unfold uplace_j0;kernel_rfl
noncomputable def uplace_j1 {R:Type} (name0 tail1 s2 s3:By) (n4:Int) (s5:By) (n6 n7 n8 n9 n10 n11 n12 n13 n14 n15:Int) (s16:By) (k0:Int→Blk→By→By→Int→By→Int→Int→Int→Int→Int→Int→Int→Int→Int→Int→By→(List Blk)→Option R):Option R:=cond (not (tail1==([]:List UInt8))) (cond (inR (0:Int) (List.length tail1)) (cond ((bAt tail1 (0:Int)) != (58:Int)) (k0 4 (bU s2 s3 n4 s5 n6 n7 n8 n9 n10 n11 n12 n13 n14 n15 s16) ([]:List UInt8) ([]:List UInt8) 0 ([]:List UInt8) 0 0 0 0 0 0 0 0 0 0 ([]:List UInt8) []) (uplace_j0 name0 tail1 s2 s3 n4 s5 n6 n7 n8 n9 n10 n11 n12 n13 n14 n15 s16 (fun n'47 B'48 s'49 s'50 n'51 s'52 n'53 n'54 n'55 n'56 n'57 n'58 n'59 n'60 n'61 n'62 s'63 H'64=>k0 n'47 B'48 s'49 s'50 n'51 s'52 n'53 n'54 n'55 n'56 n'57 n'58 n'59 n'60 n'61 n'62 s'63 H'64))) (none)) (uplace_j0 name0 tail1 s2 s3 n4 s5 n6 n7 n8 n9 n10 n11 n12 n13 n14 n15 s16 (fun n'65 B'66 s'67 s'68 n'69 s'70 n'71 n'72 n'73 n'74 n'75 n'76 n'77 n'78 n'79 n'80 s'81 H'82=>k0 n'65 B'66 s'67 s'68 n'69 s'70 n'71 n'72 n'73 n'74 n'75 n'76 n'77 n'78 n'79 n'80 s'81 H'82))
abbrev uplace_j1_P (b:Code):Prop:=∀ (k:Out→St σ→Option R) (name0 tail1 s2 s3:By) (n4:Int) (s5:By) (n6 n7 n8 n9 n10 n11 n12 n13 n14 n15:Int) (s16:By),evCode (c_uplace lf) cl yh b ⟨gp [(2,.ptr 0 0 0),(1,.ptr 1 0 0),(2,.s (.str name0)),(0,.s (.str tail1))] 80,[(bU s2 s3 n4 s5 n6 n7 n8 n9 n10 n11 n12 n13 n14 n15 s16),bU0],s⟩ k=uplace_j1 name0 tail1 s2 s3 n4 s5 n6 n7 n8 n9 n10 n11 n12 n13 n14 n15 s16 (fun n0 B1 s2 s3 n4 s5 n6 n7 n8 n9 n10 n11 n12 n13 n14 n15 s16 H17=>k .ret ⟨gp [(4,.ptr 1 0 0),(0,.s (.int .i64 n0))] 83,(B1::(bU s2 s3 n4 s5 n6 n7 n8 n9 n10 n11 n12 n13 n14 n15 s16)::H17),s⟩)
theorem uplace_j1_eq (b_11111:Code) (h_uplace_j0:uplace_j0_P (R:=R) lf cl yh s b_11111):uplace_j1_P (R:=R) lf cl yh s (cd [1,1,1,1] (putC [1,1,1,1,1] b_11111 b_uplace)):=by
 intro k name0 tail1 s2 s3 n4 s5 n6 n7 n8 n9 n10 n11 n12 n13 n14 n15 s16;unfold uplace_j1;exact (Eq.trans (by kernel_rfl) (cond_congr (cond_congr (cond_congr rfl ((h_uplace_j0 k name0 tail1 ((bAt tail1 (0:Int)) != (58:Int)) s2 s3 n4 s5 n6 n7 n8 n9 n10 n11 n12 n13 n14 n15 s16).trans (by kernel_rfl))) rfl) ((h_uplace_j0 k name0 tail1 false s2 s3 n4 s5 n6 n7 n8 n9 n10 n11 n12 n13 n14 n15 s16).trans (by kernel_rfl))))
theorem uplace_j1_fu:uplace_j1_P (R:=R) lf cl yh s (cd [1,1,1,1] b_uplace):=by
 intro k name0 tail1 s2 s3 n4 s5 n6 n7 n8 n9 n10 n11 n12 n13 n14 n15 s16;exact Eq.trans (by kernel_rfl) (uplace_j1_eq lf cl yh s (cd [1,1,1,1,1] b_uplace) (uplace_j0_eq lf cl yh s) k name0 tail1 s2 s3 n4 s5 n6 n7 n8 n9 n10 n11 n12 n13 n14 n15 s16)
noncomputable def uplace_j2 {R:Type} (authority0 s3 s4:By) (n5:Int) (s6:By) (n7 n8 n9 n10 n11 n12 n13 n14 n15 n16:Int) (s17:By) (k0:Int→Blk→By→By→Int→By→Int→Int→Int→Int→Int→Int→Int→Int→Int→Int→By→(List Blk)→Option R):Option R:=uplace_j0 authority0 ([]:List UInt8) s3 s4 n5 s6 n7 n8 n9 n10 n11 n12 n13 n14 n15 n16 s17 (fun n'119 B'120 s'121 s'122 n'123 s'124 n'125 n'126 n'127 n'128 n'129 n'130 n'131 n'132 n'133 n'134 s'135 H'136=>k0 n'119 B'120 s'121 s'122 n'123 s'124 n'125 n'126 n'127 n'128 n'129 n'130 n'131 n'132 n'133 n'134 s'135 H'136)
abbrev uplace_j2_P (b:Code):Prop:=∀ (k:Out→St σ→Option R) (authority0:By) (kk1:Int) (b2:Bool) (s3 s4:By) (n5:Int) (s6:By) (n7 n8 n9 n10 n11 n12 n13 n14 n15 n16:Int) (s17:By),evCode (c_uplace lf) cl yh b ⟨gp [(1,.s (.str authority0)),(0,.ptr 0 0 0),(1,.ptr 1 0 0),(2,.s (.str authority0)),(0,.s (.str ([]:List UInt8))),(1,.s (.int .i64 kk1)),(35,.s (.bool b2))] 42,[(bU s3 s4 n5 s6 n7 n8 n9 n10 n11 n12 n13 n14 n15 n16 s17),bU0],s⟩ k=uplace_j2 authority0 s3 s4 n5 s6 n7 n8 n9 n10 n11 n12 n13 n14 n15 n16 s17 (fun n0 B1 s2 s3 n4 s5 n6 n7 n8 n9 n10 n11 n12 n13 n14 n15 s16 H17=>k .ret ⟨gp [(4,.ptr 1 0 0),(0,.s (.int .i64 n0))] 83,(B1::(bU s2 s3 n4 s5 n6 n7 n8 n9 n10 n11 n12 n13 n14 n15 s16)::H17),s⟩)
theorem uplace_j2_eq (b_11111:Code) (h_uplace_j0:uplace_j0_P (R:=R) lf cl yh s b_11111):uplace_j2_P (R:=R) lf cl yh s (cd [1,1,1,1] (putC [1,1,1,1,1] b_11111 b_uplace)):=by
 intro k authority0 kk1 b2 s3 s4 n5 s6 n7 n8 n9 n10 n11 n12 n13 n14 n15 n16 s17;unfold uplace_j2;exact (Eq.trans (by kernel_rfl) ((h_uplace_j0 k authority0 ([]:List UInt8) false s3 s4 n5 s6 n7 n8 n9 n10 n11 n12 n13 n14 n15 n16 s17).trans (by kernel_rfl)))
theorem uplace_j2_fu:uplace_j2_P (R:=R) lf cl yh s (cd [1,1,1,1] b_uplace):=by
 intro k authority0 kk1 b2 s3 s4 n5 s6 n7 n8 n9 n10 n11 n12 n13 n14 n15 n16 s17;exact Eq.trans (by kernel_rfl) (uplace_j2_eq lf cl yh s (cd [1,1,1,1,1] b_uplace) (uplace_j0_eq lf cl yh s) k authority0 kk1 b2 s3 s4 n5 s6 n7 n8 n9 n10 n11 n12 n13 n14 n15 n16 s17)
noncomputable def uplace {R:Type} (lf:Nat) (u0 u1:By) (u2:Int) (u3:By) (u4 u5 u6 u7 u8 u9 u10 u11 u12 u13:Int) (u14 authority15:By) (k0:By→By→Int→By→Int→Int→Int→Int→Int→Int→Int→Int→Int→Int→By→Int→(List Blk)→Option R):Option R:=cond (small (List.length authority15)) (vl (lastI (u8n (64:Int)) authority15) fun n'5=>cond (not (ltI n'5 (0:Int))) (cond (sub3 (0:Int) n'5 (List.length authority15)) (vl (cut authority15 (0:Int) n'5) fun s'6=>cond (sub3 (wi64 (n'5+(1:Int))) (↑(List.length authority15):Int) (List.length authority15)) (vl (cut authority15 (wi64 (n'5+(1:Int))) (↑(List.length authority15):Int)) fun s'7=>cond (small (List.length s'7)) (cond (List.isPrefixOf (([91]:List UInt8)) s'7) (cond (small (List.length s'7)) (vl (Lib.indexByte s'7 (u8n (93:Int))) fun n'16=>cond (ltI n'16 (0:Int)) (k0 ([]:List UInt8) ([]:List UInt8) 0 ([]:List UInt8) 0 0 0 0 0 0 0 0 0 0 ([]:List UInt8) 4 [(bU u0 s'6 u2 u3 u4 u5 u6 u7 u8 u9 u10 u11 u12 u13 u14),bU0]) (vl (wi64 (n'16+(1:Int))) fun n'17=>cond (sub3 (0:Int) n'17 (List.length s'7)) (vl (wi64 (n'16+(1:Int))) fun n'18=>cond (sub3 n'18 (↑(List.length s'7):Int) (List.length s'7)) (vl (cut s'7 n'18 (↑(List.length s'7):Int)) fun s'19=>uplace_j1 (cut s'7 (0:Int) n'17) s'19 u0 s'6 u2 u3 u4 u5 u6 u7 u8 u9 u10 u11 u12 u13 u14 (fun n'83 B'84 s'85 s'86 n'87 s'88 n'89 n'90 n'91 n'92 n'93 n'94 n'95 n'96 n'97 n'98 s'99 H'100=>k0 s'85 s'86 n'87 s'88 n'89 n'90 n'91 n'92 n'93 n'94 n'95 n'96 n'97 n'98 s'99 n'83 (B'84::((bU s'85 s'86 n'87 s'88 n'89 n'90 n'91 n'92 n'93 n'94 n'95 n'96 n'97 n'98 s'99)::H'100)))) (none)) (none))) (none)) (cond (small (List.length s'7)) (vl (Lib.indexByte s'7 (u8n (58:Int))) fun n'21=>cond (not (ltI n'21 (0:Int))) (cond (sub3 (0:Int) n'21 (List.length s'7)) (cond (sub3 n'21 (↑(List.length s'7):Int) (List.length s'7)) (vl (cut s'7 n'21 (↑(List.length s'7):Int)) fun s'22=>uplace_j1 (cut s'7 (0:Int) n'21) s'22 u0 s'6 u2 u3 u4 u5 u6 u7 u8 u9 u10 u11 u12 u13 u14 (fun n'101 B'102 s'103 s'104 n'105 s'106 n'107 n'108 n'109 n'110 n'111 n'112 n'113 n'114 n'115 n'116 s'117 H'118=>k0 s'103 s'104 n'105 s'106 n'107 n'108 n'109 n'110 n'111 n'112 n'113 n'114 n'115 n'116 s'117 n'101 (B'102::((bU s'103 s'104 n'105 s'106 n'107 n'108 n'109 n'110 n'111 n'112 n'113 n'114 n'115 n'116 s'117)::H'118)))) (none)) (none)) (uplace_j2 s'7 u0 s'6 u2 u3 u4 u5 u6 u7 u8 u9 u10 u11 u12 u13 u14 (fun n'137 B'138 s'139 s'140 n'141 s'142 n'143 n'144 n'145 n'146 n'147 n'148 n'149 n'150 n'151 n'152 s'153 H'154=>k0 s'139 s'140 n'141 s'142 n'143 n'144 n'145 n'146 n'147 n'148 n'149 n'150 n'151 n'152 s'153 n'137 (B'138::((bU s'139 s'140 n'141 s'142 n'143 n'144 n'145 n'146 n'147 n'148 n'149 n'150 n'151 n'152 s'153)::H'154))))) (none))) (none)) (none)) (none)) (cond (small (List.length authority15)) (cond (List.isPrefixOf (([91]:List UInt8)) authority15) (cond (small (List.length authority15)) (vl (Lib.indexByte authority15 (u8n (93:Int))) fun n'34=>cond (ltI n'34 (0:Int)) (k0 ([]:List UInt8) ([]:List UInt8) 0 ([]:List UInt8) 0 0 0 0 0 0 0 0 0 0 ([]:List UInt8) 4 [(bU u0 u1 u2 u3 u4 u5 u6 u7 u8 u9 u10 u11 u12 u13 u14),bU0]) (vl (wi64 (n'34+(1:Int))) fun n'35=>cond (sub3 (0:Int) n'35 (List.length authority15)) (vl (cut authority15 (0:Int) n'35) fun s'36=>vl (wi64 (n'34+(1:Int))) fun n'37=>cond (sub3 n'37 (↑(List.length authority15):Int) (List.length authority15)) (vl (cut authority15 n'37 (↑(List.length authority15):Int)) fun s'38=>uplace_j1 s'36 s'38 u0 u1 u2 u3 u4 u5 u6 u7 u8 u9 u10 u11 u12 u13 u14 (fun n'155 B'156 s'157 s'158 n'159 s'160 n'161 n'162 n'163 n'164 n'165 n'166 n'167 n'168 n'169 n'170 s'171 H'172=>k0 s'157 s'158 n'159 s'160 n'161 n'162 n'163 n'164 n'165 n'166 n'167 n'168 n'169 n'170 s'171 n'155 (B'156::((bU s'157 s'158 n'159 s'160 n'161 n'162 n'163 n'164 n'165 n'166 n'167 n'168 n'169 n'170 s'171)::H'172)))) (none)) (none))) (none)) (cond (small (List.length authority15)) (vl (Lib.indexByte authority15 (u8n (58:Int))) fun n'40=>cond (not (ltI n'40 (0:Int))) (cond (sub3 (0:Int) n'40 (List.length authority15)) (vl (cut authority15 (0:Int) n'40) fun s'41=>cond (sub3 n'40 (↑(List.length authority15):Int) (List.length authority15)) (vl (cut authority15 n'40 (↑(List.length authority15):Int)) fun s'42=>uplace_j1 s'41 s'42 u0 u1 u2 u3 u4 u5 u6 u7 u8 u9 u10 u11 u12 u13 u14 (fun n'173 B'174 s'175 s'176 n'177 s'178 n'179 n'180 n'181 n'182 n'183 n'184 n'185 n'186 n'187 n'188 s'189 H'190=>k0 s'175 s'176 n'177 s'178 n'179 n'180 n'181 n'182 n'183 n'184 n'185 n'186 n'187 n'188 s'189 n'173 (B'174::((bU s'175 s'176 n'177 s'178 n'179 n'180 n'181 n'182 n'183 n'184 n'185 n'186 n'187 n'188 s'189)::H'190)))) (none)) (none)) (uplace_j2 authority15 u0 u1 u2 u3 u4 u5 u6 u7 u8 u9 u10 u11 u12 u13 u14 (fun n'191 B'192 s'193 s'194 n'195 s'196 n'197 n'198 n'199 n'200 n'201 n'202 n'203 n'204 n'205 n'206 s'207 H'208=>k0 s'193 s'194 n'195 s'196 n'197 n'198 n'199 n'200 n'201 n'202 n'203 n'204 n'205 n'206 s'207 n'191 (B'192::((bU s'193 s'194 n'195 s'196 n'197 n'198 n'199 n'200 n'201 n'202 n'203 n'204 n'205 n'206 s'207)::H'208))))) (none))) (none))) (none)
theorem uplace_eq (b_1111:Code) (h_uplace_j1:uplace_j1_P (R:=PV × List Blk × σ) lf cl yh s b_1111) (h_uplace_j2:uplace_j2_P (R:=PV × List Blk × σ) lf cl yh s b_1111) (u0 u1:By) (u2:Int) (u3:By) (u4 u5 u6 u7 u8 u9 u10 u11 u12 u13:Int) (u14 authority15:By):evCode (c_uplace lf) cl yh (cd [] (putC [1,1,1,1] b_1111 b_uplace)) ⟨[(gU u0 u1 u2 u3 u4 u5 u6 u7 u8 u9 u10 u11 u12 u13 u14),.s (.str authority15)]++tps 87,[],s⟩ (retK (c_uplace lf) Tryz.f60)=uplace lf u0 u1 u2 u3 u4 u5 u6 u7 u8 u9 u10 u11 u12 u13 u14 authority15 (fun r0 r1 r2 r3 r4 r5 r6 r7 r8 r9 r10 r11 r12 r13 r14 r15 H16=>some (.tup [(gU r0 r1 r2 r3 r4 r5 r6 r7 r8 r9 r10 r11 r12 r13 r14),.s (.int .i64 r15)],H16,s)):=by
 unfold uplace;exact let K0:=(retK (c_uplace lf) Tryz.f60);(Eq.trans (by kernel_rfl) (cond_congr (vl_congr fun n'5=>(cond_congr (cond_congr (vl_congr fun s'6=>(cond_congr (vl_congr fun s'7=>(cond_congr (cond_congr (cond_congr (vl_congr fun n'16=>(cond_congr rfl (vl_congr fun n'17=>(cond_congr (vl_congr fun n'18=>(cond_congr (vl_congr fun s'19=>((h_uplace_j1 K0 (cut s'7 (0:Int) n'17) s'19 u0 s'6 u2 u3 u4 u5 u6 u7 u8 u9 u10 u11 u12 u13 u14).trans (by kernel_rfl))) rfl)) rfl)))) rfl) (cond_congr (vl_congr fun n'21=>(cond_congr (cond_congr (cond_congr (vl_congr fun s'22=>((h_uplace_j1 K0 (cut s'7 (0:Int) n'21) s'22 u0 s'6 u2 u3 u4 u5 u6 u7 u8 u9 u10 u11 u12 u13 u14).trans (by kernel_rfl))) rfl) rfl) ((h_uplace_j2 K0 s'7 n'21 (not (ltI n'21 (0:Int))) u0 s'6 u2 u3 u4 u5 u6 u7 u8 u9 u10 u11 u12 u13 u14).trans (by kernel_rfl)))) rfl)) rfl)) rfl)) rfl) (cond_congr (cond_congr (cond_congr (vl_congr fun n'34=>(cond_congr rfl (vl_congr fun n'35=>(cond_congr (vl_congr fun s'36=>(vl_congr fun n'37=>(cond_congr (vl_congr fun s'38=>((h_uplace_j1 K0 s'36 s'38 u0 u1 u2 u3 u4 u5 u6 u7 u8 u9 u10 u11 u12 u13 u14).trans (by kernel_rfl))) rfl))) rfl)))) rfl) (cond_congr (vl_congr fun n'40=>(cond_congr (cond_congr (vl_congr fun s'41=>(cond_congr (vl_congr fun s'42=>((h_uplace_j1 K0 s'41 s'42 u0 u1 u2 u3 u4 u5 u6 u7 u8 u9 u10 u11 u12 u13 u14).trans (by kernel_rfl))) rfl)) rfl) ((h_uplace_j2 K0 authority15 n'40 (not (ltI n'40 (0:Int))) u0 u1 u2 u3 u4 u5 u6 u7 u8 u9 u10 u11 u12 u13 u14).trans (by kernel_rfl)))) rfl)) rfl))) rfl))
theorem uplace_ev (d:Nat) (u0 u1:By) (u2:Int) (u3:By) (u4 u5 u6 u7 u8 u9 u10 u11 u12 u13:Int) (u14 authority15:By):evC (c_uplace lf) (d+1) σ yh 60 [(gU u0 u1 u2 u3 u4 u5 u6 u7 u8 u9 u10 u11 u12 u13 u14),.s (.str authority15)] [] s=uplace lf u0 u1 u2 u3 u4 u5 u6 u7 u8 u9 u10 u11 u12 u13 u14 authority15 (fun r0 r1 r2 r3 r4 r5 r6 r7 r8 r9 r10 r11 r12 r13 r14 r15 H16=>some (.tup [(gU r0 r1 r2 r3 r4 r5 r6 r7 r8 r9 r10 r11 r12 r13 r14),.s (.int .i64 r15)],H16,s)):=
 (evC_eq (fn:=Tryz.f60) (by kernel_rfl) (by kernel_rfl) (by kernel_rfl)).trans (Eq.trans (by kernel_rfl) (uplace_eq lf (evC (c_uplace lf) d) yh s (cd [1,1,1,1] b_uplace) (uplace_j1_fu lf (evC (c_uplace lf) d) yh s) (uplace_j2_fu lf (evC (c_uplace lf) d) yh s) u0 u1 u2 u3 u4 u5 u6 u7 u8 u9 u10 u11 u12 u13 u14 authority15))
noncomputable abbrev b_uprs:Code:=bodyOf Tryz.f40
noncomputable def c_uprs (lf:Nat):Cfg:=mkCfg lf [40] (lookK [(2,[0,1,0,8,0])]) [(54,X_scut),(55,X_usch),(56,X_lowc),(22,X_uspec),(57,X_cpre),(58,X_sidxa),(59,X_hpre),(60,X_uplace)] (lookK [(23,[2,0]),(22,[2,5,0]),(21,[2,5,0,65]),(20,[2,5,0]),(19,[2,3,1,0]),(18,[2,3,1,0,0,52]),(17,[2,3,1,0,0]),(16,[2,3,1,0]),(15,[2,0]),(14,[2,3,1,48]),(13,[2,3,0,0]),(12,[2,0]),(11,[2,3,1,40]),(10,[2,3,1]),(9,[2,0]),(8,[2,2,0,33]),(7,[2,2,0,0]),(6,[0,1,9,0]),(5,[2,0]),(4,[0,1,9,0,11]),(3,[0,1,1,7,0]),(2,[0,1,9,0,0]),(1,[0,1,9,0]),(0,[0,1])]) [54,55,56,22,57,58,59] (lookK [(0,[0,1]),(1,[0,1,9,0])]) (some [2,0]) [] [] []
noncomputable def uprs_l0f {R:Type} (lf n:Nat) (self:By→Int→Int→Option R) (s0:By) (n1 n2:Int) (k0:(List Blk)→Option R) (k1:By→Option R):Option R:=cond (ltI n2 n1) (cond (inR n2 (List.length s0)) (cond (not (ltI (32:Int) (bAt s0 n2))) (k0 []) (cond (inR n2 (List.length s0)) (cond ((bAt s0 n2)==(127:Int)) (k0 []) (self s0 n1 (wi64 (n2+(1:Int))))) (none))) (none)) (k1 s0)
noncomputable def uprs_l0 {R:Type} (lf n:Nat) (s0:By) (n1 n2:Int) (k0:(List Blk)→Option R) (k1:By→Option R):Option R:=recN (α:=By→Int→Int→Option R) (fun _ _ _=>none) (fun n self s0 n1 n2=>uprs_l0f lf n self s0 n1 n2 k0 k1) n s0 n1 n2
theorem uprs_l0_s {R:Type} (lf n:Nat) (s0:By) (n1 n2:Int) (k0:(List Blk)→Option R) (k1:By→Option R):uprs_l0 lf (n+1) s0 n1 n2 k0 k1=uprs_l0f lf n (fun s0 n1 n2=>uprs_l0 lf n s0 n1 n2 k0 k1) s0 n1 n2 k0 k1:=rfl
theorem uprs_l0_eq (n:Nat) (s0:By) (n1 n2:Int):loopK 1 ((c_uprs lf).keep 2) (bd (c_uprs lf) cl yh (cd [1,0,1,0,0] b_uprs)) n ⟨gp [(0,.s (.str s0)),(1,.ptr 0 0 0),(9,.s (.int .i64 n1)),(0,.s (.int .i64 n2))] 71,[bU0],s⟩ k =
 uprs_l0 lf n s0 n1 n2 (fun H0=>k .ret ⟨gp [(2,.ptr 0 0 0),(0,.s (.int .i64 (4:Int)))] 81,(bU0::H0),s⟩) (fun s0=>k (.exit 0) ⟨gp [(0,.s (.str s0)),(1,.ptr 0 0 0)] 82,[bU0],s⟩):=by
 induction n generalizing s0 n1 n2 with
 | zero=>rfl
 | succ n ih=>rw [uprs_l0_s];unfold uprs_l0f;exact (Eq.trans (by kernel_rfl) (cond_congr (cond_congr (cond_congr rfl (cond_congr (cond_congr rfl (ih s0 n1 (wi64 (n2+(1:Int))))) rfl)) rfl) rfl))
noncomputable def uprs {R:Type} (lf:Nat) (s0:By) (k0:By→By→Int→By→Int→Int→Int→Int→Int→Int→Int→Int→Int→Int→By→Int→(List Blk)→Option R):Option R:=uprs_l0 lf lf s0 (↑(List.length s0):Int) 0 (fun H'0=>k0 ([]:List UInt8) ([]:List UInt8) 0 ([]:List UInt8) 0 0 0 0 0 0 0 0 0 0 ([]:List UInt8) 4 (bU0::H'0)) (fun s'1=>cond (small (List.length s'1)) (vl ((Lib.cut s'1 (([58]:List UInt8)))).1 fun s'4=>vl (((Lib.cut s'1 (([58]:List UInt8)))).2).1 fun s'5=>cond (not (((Lib.cut s'1 (([58]:List UInt8)))).2).2) (k0 ([]:List UInt8) ([]:List UInt8) 0 ([]:List UInt8) 0 0 0 0 0 0 0 0 0 0 ([]:List UInt8) 15 [bU0]) (cond (small (List.length s'4)) (cond (not (schemeB s'4)) (k0 ([]:List UInt8) ([]:List UInt8) 0 ([]:List UInt8) 0 0 0 0 0 0 0 0 0 0 ([]:List UInt8) 15 [bU0]) (cond (small (List.length s'4)) (cond (not (special (lower s'4))) (k0 (lower s'4) ([]:List UInt8) 0 ([]:List UInt8) 0 0 0 0 0 0 0 0 0 (-1) s'5 0 [(bU (lower s'4) ([]:List UInt8) (0:Int) ([]:List UInt8) (0:Int) (0:Int) (0:Int) (0:Int) (0:Int) (0:Int) (0:Int) (0:Int) (0:Int) ((-1):Int) s'5),(bU (lower s'4) ([]:List UInt8) (0:Int) ([]:List UInt8) (0:Int) (0:Int) (0:Int) (0:Int) (0:Int) (0:Int) (0:Int) (0:Int) (0:Int) ((-1):Int) s'5)]) (cond (small (List.length s'5)) (vl (cutp s'5 (([47,47]:List UInt8))) fun s'7=>cond (not (List.isPrefixOf (([47,47]:List UInt8)) s'5)) (k0 ([]:List UInt8) ([]:List UInt8) 0 ([]:List UInt8) 0 0 0 0 0 0 0 0 0 0 ([]:List UInt8) 4 [bU0,(bU (lower s'4) ([]:List UInt8) (0:Int) ([]:List UInt8) (0:Int) (0:Int) (0:Int) (0:Int) (0:Int) (0:Int) (0:Int) (0:Int) (0:Int) ((-1):Int) s'5)]) (cond (small (List.length s'7)) (cond (isSl (([47,63,35]:List UInt8))) (vl (Lib.indexAny s'7 (([47,63,35]:List UInt8))) fun n'9=>cond (not (ltI n'9 (0:Int))) (cond (sub3 (0:Int) n'9 (List.length s'7)) (cond (sub3 (↑(List.length (cut s'7 (0:Int) n'9)):Int) (↑(List.length s'7):Int) (List.length s'7)) (vl (cut s'7 (↑(List.length (cut s'7 (0:Int) n'9)):Int) (↑(List.length s'7):Int)) fun s'11=>cond (small (List.length s'11)) (cond (not (List.isPrefixOf (([47]:List UInt8)) s'11)) (cond (catOk 1 (List.length s'11)) (vl ((([47]:List UInt8))++s'11) fun s'12=>cond (small (List.length (lower s'4))) (cond (small (List.length s'12)) (cond (small (List.length (cut s'7 (0:Int) n'9))) (cond (((-1):Int)==((-1):Int)) (vl (placeU (lower s'4) s'12 (cut s'7 (0:Int) n'9)) fun p'13=>k0 (uS p'13) (uU p'13) (uK p'13) (uN p'13) (uV p'13) (uA p'13 0) (uA p'13 1) (uA p'13 2) (uA p'13 3) (uA p'13 4) (uA p'13 5) (uA p'13 6) (uA p'13 7) (uP p'13) (uR p'13) (uE p'13) [(bQ p'13),(bU (lower s'4) ([]:List UInt8) (0:Int) ([]:List UInt8) (0:Int) (0:Int) (0:Int) (0:Int) (0:Int) (0:Int) (0:Int) (0:Int) (0:Int) ((-1):Int) s'12)]) (none)) (none)) (none)) (none)) (none)) (cond (small (List.length (lower s'4))) (cond (small (List.length s'11)) (cond (small (List.length (cut s'7 (0:Int) n'9))) (cond (((-1):Int)==((-1):Int)) (vl (placeU (lower s'4) s'11 (cut s'7 (0:Int) n'9)) fun p'14=>k0 (uS p'14) (uU p'14) (uK p'14) (uN p'14) (uV p'14) (uA p'14 0) (uA p'14 1) (uA p'14 2) (uA p'14 3) (uA p'14 4) (uA p'14 5) (uA p'14 6) (uA p'14 7) (uP p'14) (uR p'14) (uE p'14) [(bQ p'14),(bU (lower s'4) ([]:List UInt8) (0:Int) ([]:List UInt8) (0:Int) (0:Int) (0:Int) (0:Int) (0:Int) (0:Int) (0:Int) (0:Int) (0:Int) ((-1):Int) s'11)]) (none)) (none)) (none)) (none))) (none)) (none)) (none)) (cond (sub3 (↑(List.length s'7):Int) (↑(List.length s'7):Int) (List.length s'7)) (vl (cut s'7 (↑(List.length s'7):Int) (↑(List.length s'7):Int)) fun s'16=>cond (small (List.length s'16)) (cond (not (List.isPrefixOf (([47]:List UInt8)) s'16)) (cond (catOk 1 (List.length s'16)) (vl ((([47]:List UInt8))++s'16) fun s'17=>cond (small (List.length (lower s'4))) (cond (small (List.length s'17)) (cond (small (List.length s'7)) (cond (((-1):Int)==((-1):Int)) (vl (placeU (lower s'4) s'17 s'7) fun p'18=>k0 (uS p'18) (uU p'18) (uK p'18) (uN p'18) (uV p'18) (uA p'18 0) (uA p'18 1) (uA p'18 2) (uA p'18 3) (uA p'18 4) (uA p'18 5) (uA p'18 6) (uA p'18 7) (uP p'18) (uR p'18) (uE p'18) [(bQ p'18),(bU (lower s'4) ([]:List UInt8) (0:Int) ([]:List UInt8) (0:Int) (0:Int) (0:Int) (0:Int) (0:Int) (0:Int) (0:Int) (0:Int) (0:Int) ((-1):Int) s'17)]) (none)) (none)) (none)) (none)) (none)) (cond (small (List.length (lower s'4))) (cond (small (List.length s'16)) (cond (small (List.length s'7)) (cond (((-1):Int)==((-1):Int)) (vl (placeU (lower s'4) s'16 s'7) fun p'19=>k0 (uS p'19) (uU p'19) (uK p'19) (uN p'19) (uV p'19) (uA p'19 0) (uA p'19 1) (uA p'19 2) (uA p'19 3) (uA p'19 4) (uA p'19 5) (uA p'19 6) (uA p'19 7) (uP p'19) (uR p'19) (uE p'19) [(bQ p'19),(bU (lower s'4) ([]:List UInt8) (0:Int) ([]:List UInt8) (0:Int) (0:Int) (0:Int) (0:Int) (0:Int) (0:Int) (0:Int) (0:Int) (0:Int) ((-1):Int) s'16)]) (none)) (none)) (none)) (none))) (none)) (none))) (none)) (none))) (none))) (none))) (none))) (none))
theorem uprs_ev (d:Nat) (s0:By):evC (c_uprs lf) (d+1) σ yh 40 [.s (.str s0)] [] s=uprs lf s0 (fun r0 r1 r2 r3 r4 r5 r6 r7 r8 r9 r10 r11 r12 r13 r14 r15 H16=>some (.tup [(gU r0 r1 r2 r3 r4 r5 r6 r7 r8 r9 r10 r11 r12 r13 r14),.s (.int .i64 r15)],H16,s)):=by
 refine (evC_eq (fn:=Tryz.f40) (by kernel_rfl) (by kernel_rfl) (by kernel_rfl)).trans ?_
 generalize evC (c_uprs lf) d=cl
 unfold uprs;exact (Eq.trans (by kernel_rfl) ((uprs_l0_eq lf cl yh s (blkK 0 (seqK (c_uprs lf) cl yh (cd [1,1] b_uprs) (retK (c_uprs lf) Tryz.f40))) lf s0 (↑(List.length s0):Int) 0).trans (by kernel_rfl)))
noncomputable def c_uparse (lf:Nat):Cfg:=mkCfg lf [13] (lookK []) [(40,X_uprs)] (lookK [(3,[2,0]),(2,[2,0]),(1,[0,1,3]),(0,[0,1])]) [] (lookK []) (some [2,0]) [] [] []
noncomputable def uparse {R:Type} (lf:Nat) (s0:By) (k0:By→By→Int→By→Int→Int→Int→Int→Int→Int→Int→Int→Int→Int→By→Int→(List Blk)→Option R):Option R:=cond (ltI (2048:Int) (↑(List.length s0):Int)) (k0 ([]:List UInt8) ([]:List UInt8) 0 ([]:List UInt8) 0 0 0 0 0 0 0 0 0 0 ([]:List UInt8) 3 [bU0]) (cond (small (List.length s0)) (vl (parseU0 s0) fun p'0=>k0 (uS p'0) (uU p'0) (uK p'0) (uN p'0) (uV p'0) (uA p'0 0) (uA p'0 1) (uA p'0 2) (uA p'0 3) (uA p'0 4) (uA p'0 5) (uA p'0 6) (uA p'0 7) (uP p'0) (uR p'0) (uE p'0) [(bQ p'0)]) (none))
theorem uparse_ev (d:Nat) (s0:By):evC (c_uparse lf) (d+1) σ yh 13 [.s (.str s0)] [] s=uparse lf s0 (fun r0 r1 r2 r3 r4 r5 r6 r7 r8 r9 r10 r11 r12 r13 r14 r15 H16=>some (.tup [(gU r0 r1 r2 r3 r4 r5 r6 r7 r8 r9 r10 r11 r12 r13 r14),.s (.int .i64 r15)],H16,s)):=by
 refine (evC_eq (fn:=Tryz.f13) (by kernel_rfl) (by kernel_rfl) (by kernel_rfl)).trans ?_
 generalize evC (c_uparse lf) d=cl
 unfold uparse;kernel_rfl
noncomputable def c_utext (lf:Nat):Cfg:=mkCfg lf [42] (lookK []) [(22,X_uspec),(50,X_hfmt),(51,X_itoaU)] (lookK [(9,[2]),(8,[1,1]),(7,[1,1,28]),(6,[1,1]),(5,[1,1]),(4,[1,1,15]),(3,[1,1]),(2,[2]),(1,[1,5]),(0,[1])]) [22,50,51] (lookK []) (some [2]) [] [] []
noncomputable def utext {R:Type} (lf:Nat) (u0 u1:By) (u2:Int) (u3:By) (u4 u5 u6 u7 u8 u9 u10 u11 u12 u13:Int) (u14:By) (k0:By→(List Blk)→Option R):Option R:=cond (not (special u0)) (cond (catOk (List.length u0) 1) (vl (u0++(([58]:List UInt8))) fun s'1=>cond (catOk (List.length s'1) (List.length u14)) (k0 (s'1++u14) [(bU u0 u1 u2 u3 u4 u5 u6 u7 u8 u9 u10 u11 u12 u13 u14)]) (none)) (none)) (cond (catOk (List.length u0) 3) (vl (u0++(([58,47,47]:List UInt8))) fun s'3=>cond (not (u1==([]:List UInt8))) (cond (catOk (List.length u1) 1) (vl (u1++(([64]:List UInt8))) fun s'5=>cond (catOk (List.length s'3) (List.length s'5)) (cond (small (List.length u3)) (cond (ltN u4 4294967296) (cond (ok8 u5 u6 u7 u8 u9 u10 u11 u12) (vl (fmtH (mkH u2 u3 u4 (n8 u5 u6 u7 u8 u9 u10 u11 u12))) fun s'7=>cond (catOk (List.length (s'3++s'5)) (List.length s'7)) (cond (u13 != ((-1):Int)) (cond (i64b u13) (cond (catOk 1 (List.length (itoaI u13))) (vl ((([58]:List UInt8))++(itoaI u13)) fun s'8=>cond (catOk (List.length ((s'3++s'5)++s'7)) (List.length s'8)) (vl (((s'3++s'5)++s'7)++s'8) fun s'9=>cond (catOk (List.length s'9) (List.length u14)) (k0 (s'9++u14) [(bU u0 u1 u2 u3 u4 u5 u6 u7 u8 u9 u10 u11 u12 u13 u14)]) (none)) (none)) (none)) (none)) (cond (catOk (List.length ((s'3++s'5)++s'7)) (List.length u14)) (vl (((s'3++s'5)++s'7)++u14) fun s'10=>k0 s'10 [(bU u0 u1 u2 u3 u4 u5 u6 u7 u8 u9 u10 u11 u12 u13 u14)]) (none))) (none)) (none)) (none)) (none)) (none)) (none)) (cond (small (List.length u3)) (cond (ltN u4 4294967296) (cond (ok8 u5 u6 u7 u8 u9 u10 u11 u12) (vl (fmtH (mkH u2 u3 u4 (n8 u5 u6 u7 u8 u9 u10 u11 u12))) fun s'12=>cond (catOk (List.length s'3) (List.length s'12)) (cond (u13 != ((-1):Int)) (cond (i64b u13) (cond (catOk 1 (List.length (itoaI u13))) (vl ((([58]:List UInt8))++(itoaI u13)) fun s'13=>cond (catOk (List.length (s'3++s'12)) (List.length s'13)) (cond (catOk (List.length ((s'3++s'12)++s'13)) (List.length u14)) (vl (((s'3++s'12)++s'13)++u14) fun s'14=>k0 s'14 [(bU u0 u1 u2 u3 u4 u5 u6 u7 u8 u9 u10 u11 u12 u13 u14)]) (none)) (none)) (none)) (none)) (cond (catOk (List.length (s'3++s'12)) (List.length u14)) (k0 ((s'3++s'12)++u14) [(bU u0 u1 u2 u3 u4 u5 u6 u7 u8 u9 u10 u11 u12 u13 u14)]) (none))) (none)) (none)) (none)) (none))) (none))
theorem utext_ev (d:Nat) (u0 u1:By) (u2:Int) (u3:By) (u4 u5 u6 u7 u8 u9 u10 u11 u12 u13:Int) (u14:By):evC (c_utext lf) (d+1) σ yh 42 [(gU u0 u1 u2 u3 u4 u5 u6 u7 u8 u9 u10 u11 u12 u13 u14)] [] s=utext lf u0 u1 u2 u3 u4 u5 u6 u7 u8 u9 u10 u11 u12 u13 u14 (fun r0 H1=>some (.s (.str r0),H1,s)):=by
 refine (evC_eq (fn:=Tryz.f42) (by kernel_rfl) (by kernel_rfl) (by kernel_rfl)).trans ?_
 generalize evC (c_utext lf) d=cl
 unfold utext;kernel_rfl
noncomputable def c_uvalidU (lf:Nat):Cfg:=mkCfg lf [16] (lookK []) [(42,X_utext),(40,X_uprs)] (lookK [(2,[2]),(1,[1,1,0]),(0,[1])]) [42] (lookK []) (some [2]) [] [] []
noncomputable def uvalidU {R:Type} (lf:Nat) (u0 u1:By) (u2:Int) (u3:By) (u4 u5 u6 u7 u8 u9 u10 u11 u12 u13:Int) (u14:By) (k0:Bool→(List Blk)→Option R):Option R:=cond (smU u0 u1 u3 u14) (cond (ltN u4 4294967296) (cond (ok8 u5 u6 u7 u8 u9 u10 u11 u12) (cond (i64b u13) (vl (textU (mkU u0 u1 u2 u3 u4 (n8 u5 u6 u7 u8 u9 u10 u11 u12) u13 u14)) fun s'0=>cond (small (List.length s'0)) (vl (parseU0 s'0) fun p'1=>cond ((uE p'1)==(0:Int)) (k0 ((u0==(uS p'1))&&((u1==(uU p'1))&&((u2==(uK p'1))&&((u3==(uN p'1))&&((u4==(uV p'1))&&((u5==(uA p'1 0))&&((u6==(uA p'1 1))&&((u7==(uA p'1 2))&&((u8==(uA p'1 3))&&((u9==(uA p'1 4))&&((u10==(uA p'1 5))&&((u11==(uA p'1 6))&&((u12==(uA p'1 7))&&((u13==(uP p'1))&&((u14==(uR p'1))&&true))))))))))))))) [(bU u0 u1 u2 u3 u4 u5 u6 u7 u8 u9 u10 u11 u12 u13 u14),(bQ p'1)]) (k0 false [(bU u0 u1 u2 u3 u4 u5 u6 u7 u8 u9 u10 u11 u12 u13 u14),(bQ p'1)])) (none)) (none)) (none)) (none)) (none)
theorem uvalidU_ev (d:Nat) (u0 u1:By) (u2:Int) (u3:By) (u4 u5 u6 u7 u8 u9 u10 u11 u12 u13:Int) (u14:By):evC (c_uvalidU lf) (d+1) σ yh 16 [(gU u0 u1 u2 u3 u4 u5 u6 u7 u8 u9 u10 u11 u12 u13 u14)] [] s=uvalidU lf u0 u1 u2 u3 u4 u5 u6 u7 u8 u9 u10 u11 u12 u13 u14 (fun r0 H1=>some (.s (.bool r0),H1,s)):=by
 refine (evC_eq (fn:=Tryz.f16) (by kernel_rfl) (by kernel_rfl) (by kernel_rfl)).trans ?_
 generalize evC (c_uvalidU lf) d=cl
 unfold uvalidU;kernel_rfl
noncomputable def c_ufmt (lf:Nat):Cfg:=mkCfg lf [15] (lookK []) [(16,X_uvalidU),(42,X_utext)] (lookK [(3,[2]),(2,[2]),(1,[1,3]),(0,[1])]) [16,42] (lookK []) (some [2]) [] [] []
noncomputable def ufmt {R:Type} (lf:Nat) (u0 u1:By) (u2:Int) (u3:By) (u4 u5 u6 u7 u8 u9 u10 u11 u12 u13:Int) (u14:By) (k0:By→(List Blk)→Option R):Option R:=cond (smU u0 u1 u3 u14) (cond (ltN u4 4294967296) (cond (ok8 u5 u6 u7 u8 u9 u10 u11 u12) (cond (i64b u13) (cond (not (validU (mkU u0 u1 u2 u3 u4 (n8 u5 u6 u7 u8 u9 u10 u11 u12) u13 u14))) (k0 ([]:List UInt8) [(bU u0 u1 u2 u3 u4 u5 u6 u7 u8 u9 u10 u11 u12 u13 u14)]) (cond (smU u0 u1 u3 u14) (cond (ltN u4 4294967296) (cond (ok8 u5 u6 u7 u8 u9 u10 u11 u12) (cond (i64b u13) (vl (textU (mkU u0 u1 u2 u3 u4 (n8 u5 u6 u7 u8 u9 u10 u11 u12) u13 u14)) fun s'0=>k0 s'0 [(bU u0 u1 u2 u3 u4 u5 u6 u7 u8 u9 u10 u11 u12 u13 u14)]) (none)) (none)) (none)) (none))) (none)) (none)) (none)) (none)
theorem ufmt_ev (d:Nat) (u0 u1:By) (u2:Int) (u3:By) (u4 u5 u6 u7 u8 u9 u10 u11 u12 u13:Int) (u14:By):evC (c_ufmt lf) (d+1) σ yh 15 [(gU u0 u1 u2 u3 u4 u5 u6 u7 u8 u9 u10 u11 u12 u13 u14)] [] s=ufmt lf u0 u1 u2 u3 u4 u5 u6 u7 u8 u9 u10 u11 u12 u13 u14 (fun r0 H1=>some (.s (.str r0),H1,s)):=by
 refine (evC_eq (fn:=Tryz.f15) (by kernel_rfl) (by kernel_rfl) (by kernel_rfl)).trans ?_
 generalize evC (c_ufmt lf) d=cl
 unfold ufmt;kernel_rfl
end
end Go.Proofs.YtcfingekgbbclaaGreatDoor.E
namespace Go.Proofs.YtcfingekgbbclaaGreatDoor.E
open Go Go.Proofs 
set_option linter.unusedVariables false
set_option maxRecDepth 100000
section
variable {σ R : Type} (lf : Nat) (cl : CallT) (yh : Yh σ) (s : σ) (k : Out → St σ → Option R)
noncomputable def c_sshould (lf:Nat):Cfg:=mkCfg lf [76] (lookK []) [] (lookK [(1,[2]),(0,[0])]) [] (lookK []) (some [2]) [] [] []
noncomputable def sshould {R:Type} (lf:Nat) (bufLen0:Int) (k0:Bool→Option R):Option R:=k0 (ltI (8:Int) bufLen0)
theorem sshould_ev (d:Nat) (bufLen0:Int):evC (c_sshould lf) (d+1) σ yh 76 [.s (.int .i64 bufLen0)] [] s=sshould lf bufLen0 (fun r0=>some (.s (.bool r0),[],s)):=by
 refine (evC_eq (fn:=Tryz.f76) (by kernel_rfl) (by kernel_rfl) (by kernel_rfl)).trans ?_
 generalize evC (c_sshould lf) d=cl
 unfold sshould;kernel_rfl
noncomputable abbrev b_uvrune:Code:=bodyOf Tryz.f101
noncomputable def c_uvrune (lf:Nat):Cfg:=mkCfg lf [101] (lookK []) [] (lookK [(5,[2]),(2,[2]),(4,[2]),(3,[10]),(1,[0,2]),(0,[0])]) [] (lookK [(0,[])]) (some [2]) [] [] []
noncomputable def uvrune_j0 {R:Type} (r0:Int) (b1:Bool) (k0:Unit→Option R) (k1:Bool→Option R):Option R:=cond b1 (k0 ()) (cond (ltI (57343:Int) r0) (cond (not (ltI (1114111:Int) r0)) (k0 ()) (k1 (not (ltI (1114111:Int) r0)))) (k1 false))
abbrev uvrune_j0_P (b:Code):Prop:=∀ (k:Out→St σ→Option R) (r0:Int) (b1:Bool),evCode (c_uvrune lf) cl yh b ⟨gp [(0,.s (.int .i32 r0)),(2,.s (.bool b1))] 13,[],s⟩ k=uvrune_j0 r0 b1 (fun _=>k .ret ⟨gp [(2,.s (.bool true))] 14,[],s⟩) (fun b0=>k .normal ⟨gp [(10,.s (.bool b0))] 6,[],s⟩)
theorem uvrune_j0_eq:uvrune_j0_P (R:=R) lf cl yh s (cd [1,0,0,1] b_uvrune):=by
 intro k r0 b1;unfold uvrune_j0;kernel_rfl
noncomputable def uvrune {R:Type} (lf:Nat) (r0:Int) (k0:Bool→Option R):Option R:=cond (not (ltI r0 (0:Int))) (uvrune_j0 r0 (ltI r0 (55296:Int)) (fun _=>k0 true) (fun b'0=>k0 false)) (uvrune_j0 r0 false (fun _=>k0 true) (fun b'1=>k0 false))
theorem uvrune_eq (b_1001:Code) (h_uvrune_j0:uvrune_j0_P (R:=PV × List Blk × σ) lf cl yh s b_1001) (r0:Int):evCode (c_uvrune lf) cl yh (cd [] (putC [1,0,0,1] b_1001 b_uvrune)) ⟨[.s (.int .i32 r0)]++tps 16,[],s⟩ (retK (c_uvrune lf) Tryz.f101)=uvrune lf r0 (fun r0=>some (.s (.bool r0),[],s)):=by
 unfold uvrune;exact let K0:=(blkK 0 (seqK (c_uvrune lf) cl yh (cd [1,1] b_uvrune) (retK (c_uvrune lf) Tryz.f101)));(Eq.trans (by kernel_rfl) (cond_congr ((h_uvrune_j0 K0 r0 (ltI r0 (55296:Int))).trans (by kernel_rfl)) ((h_uvrune_j0 K0 r0 false).trans (by kernel_rfl))))
theorem uvrune_ev (d:Nat) (r0:Int):evC (c_uvrune lf) (d+1) σ yh 101 [.s (.int .i32 r0)] [] s=uvrune lf r0 (fun r0=>some (.s (.bool r0),[],s)):=
 (evC_eq (fn:=Tryz.f101) (by kernel_rfl) (by kernel_rfl) (by kernel_rfl)).trans (Eq.trans (by kernel_rfl) (uvrune_eq lf (evC (c_uvrune lf) d) yh s (cd [1,0,0,1] b_uvrune) (uvrune_j0_eq lf (evC (c_uvrune lf) d) yh s) r0))
noncomputable abbrev b_sirune:Code:=bodyOf Tryz.f75
noncomputable def c_sirune (lf:Nat):Cfg:=mkCfg lf [75] (lookK [(38,[4,170]),(29,[0,3,2,0,0,4,0,0]),(25,[0,3,2,0,0,4,0]),(12,[0,3,2,0,0,2]),(5,[0,3,2,0,0])]) [(73,X_sidxb),(101,X_uvrune)] (lookK [(35,[4]),(42,[4]),(41,[4]),(40,[5,169,5]),(39,[5,0,168]),(38,[175,0,0]),(37,[175]),(44,[4]),(33,[4]),(22,[4]),(21,[8,0,3,94]),(20,[8,0,3]),(26,[0,6,0,0,4,0]),(32,[4]),(30,[0,6,0,0,4,0,0]),(31,[0,6,0,0,4,0,0,139]),(29,[0,6,0,0,4,0,0,126]),(28,[0,6,0,0,4,0,0]),(27,[0,6,0,0,4,0,123]),(25,[0,6,0,0,4,0,108]),(24,[0,6,0,0,4,0]),(23,[0,6,0,0,4]),(19,[4]),(18,[0,6,0,0,88]),(17,[0,6,0,0,0]),(16,[0,6,0,0,0]),(15,[4]),(13,[0,6,0,0,2]),(14,[0,6,0,0,2,51]),(12,[0,6,0,0,2,38]),(11,[0,6,0,0,2]),(10,[0,6,0,0]),(9,[4]),(8,[0,6,0,0,1,31]),(7,[0,6,0,0,1]),(6,[0,6,0,0,23]),(5,[0,6,0,0,16]),(4,[0,6,0,0]),(3,[0,6,0,0]),(2,[0,6,0]),(1,[0,6]),(43,[0,0,181]),(36,[0,0,169]),(34,[0,0,158]),(0,[0,0])]) [73,101] (lookK [(0,[4]),(9,[]),(10,[175]),(5,[]),(6,[0,6,0,0,4,0]),(7,[8,0]),(8,[0,6,0,0,4,0,0]),(1,[]),(2,[0,6,0,0]),(3,[8,0]),(4,[0,6,0,0,2])]) (some [4]) [] [] []
noncomputable def sirune_l0f {R:Type} (lf n:Nat) (self:Nat→Option R) (m0:Nat) (k0:Int→Nat→Option R) (k1:Nat→Option R):Option R:=cond (decide (m0<3)) (vl ((Utf8.decode ⟨List.toArray (([47,63,35]:List UInt8))⟩ m0)).1 fun n'5=>cond (n'5==(65533:Int)) (k0 (↑m0:Int) (m0+((Utf8.decode ⟨List.toArray (([47,63,35]:List UInt8))⟩ m0)).2)) (self (m0+((Utf8.decode ⟨List.toArray (([47,63,35]:List UInt8))⟩ m0)).2))) (k1 m0)
noncomputable def sirune_l0 {R:Type} (lf n:Nat) (m0:Nat) (k0:Int→Nat→Option R) (k1:Nat→Option R):Option R:=recN (α:=Nat→Option R) (fun _=>none) (fun n self m0=>sirune_l0f lf n self m0 k0 k1) n m0
theorem sirune_l0_s {R:Type} (lf n:Nat) (m0:Nat) (k0:Int→Nat→Option R) (k1:Nat→Option R):sirune_l0 lf (n+1) m0 k0 k1=sirune_l0f lf n (fun m0=>sirune_l0 lf n m0 k0 k1) m0 k0 k1:=rfl
theorem sirune_l0_eq (n:Nat) (m0:Nat):loopK 1 ((c_sirune lf).keep 38) (bd (c_sirune lf) cl yh (cd [1,0,1,1,1,0,0,1,0,0] b_sirune)) n ⟨gp [(175,.it 0)] 11,[.iter (([47,63,35]:List UInt8)) m0],s⟩ k =
 sirune_l0 lf n m0 (fun n0 m1=>k .ret ⟨gp [(4,.s (.int .i64 n0))] 182,[.iter (([47,63,35]:List UInt8)) m1],s⟩) (fun m0=>k (.exit 9) ⟨gp [] 187,[.iter (([47,63,35]:List UInt8)) m0],s⟩):=by
 induction n generalizing m0 with
 | zero=>rfl
 | succ n ih=>rw [sirune_l0_s];unfold sirune_l0f;exact (Eq.trans (by kernel_rfl) (cond_congr (vl_congr fun n'5=>(cond_congr rfl (ih (m0+((Utf8.decode ⟨List.toArray (([47,63,35]:List UInt8))⟩ m0)).2)))) rfl))
noncomputable def sirune_l1f {R:Type} (lf n:Nat) (self:By→Int→Int→Int→Option R) (rs0:By) (last1 i2 j3:Int) (k0:Int→Int→Option R):Option R:=cond (ltI j3 (↑(List.length rs0):Int)) (cond (inR (wi64 (i2-j3)) 3) (vl (bAt (([47,63,35]:List UInt8)) (wi64 (i2-j3))) fun n'21=>cond (inR (wi64 (last1-j3)) (List.length rs0)) (vl (bAt rs0 (wi64 (last1-j3))) fun n'22=>cond (n'21 != n'22) (none) (self rs0 last1 i2 (wi64 (j3+(1:Int))))) (none)) (none)) (k0 last1 i2)
noncomputable def sirune_l1 {R:Type} (lf n:Nat) (rs0:By) (last1 i2 j3:Int) (k0:Int→Int→Option R):Option R:=recN (α:=By→Int→Int→Int→Option R) (fun _ _ _ _=>none) (fun n self rs0 last1 i2 j3=>sirune_l1f lf n self rs0 last1 i2 j3 k0) n rs0 last1 i2 j3
theorem sirune_l1_s {R:Type} (lf n:Nat) (rs0:By) (last1 i2 j3:Int) (k0:Int→Int→Option R):sirune_l1 lf (n+1) rs0 last1 i2 j3 k0=sirune_l1f lf n (fun rs0 last1 i2 j3=>sirune_l1 lf n rs0 last1 i2 j3 k0) rs0 last1 i2 j3 k0:=rfl
theorem sirune_l1_eq (n:Nat) (rs0:By) (last1 i2 j3:Int):loopK 0 ((c_sirune lf).keep 12) (bd (c_sirune lf) cl yh (cd [1,0,1,1,1,1,1,1,0,1,1,1,1,0,0,0,1,0,0,1,0,1,0,0] b_sirune)) n ⟨gp [(0,.s (.str (([47,63,35]:List UInt8)))),(6,.s (.str rs0)),(0,.s (.int .i64 last1)),(0,.s (.int .i64 i2)),(2,.s (.int .i64 j3))] 174,[],s⟩ k =
 sirune_l1 lf n rs0 last1 i2 j3 (fun last0 i1=>k (.exit 3) ⟨gp [(8,.s (.int .i64 last0)),(0,.s (.int .i64 i1))] 177,[],s⟩):=by
 induction n generalizing rs0 last1 i2 j3 with
 | zero=>rfl
 | succ n ih=>rw [sirune_l1_s];unfold sirune_l1f;exact (Eq.trans (by kernel_rfl) (cond_congr (cond_congr (vl_congr fun n'21=>(cond_congr (vl_congr fun n'22=>(cond_congr rfl (ih rs0 last1 i2 (wi64 (j3+(1:Int)))))) rfl)) rfl) rfl))
noncomputable def sirune_l2f {R:Type} (lf n:Nat) (self:By→Int→Option R) (rs0:By) (last1:Int) (k0:Int→Option R) (k1:Unit→Option R):Option R:=cond (ltI last1 (3:Int)) (cond (inR last1 3) (vl (bAt (([47,63,35]:List UInt8)) last1) fun n'16=>cond (inR last1 (List.length rs0)) (cond (n'16 != (bAt rs0 last1)) (vl (wi64 (last1+(1:Int))) fun n'17=>cond (sub3 n'17 (3:Int) 3) (vl (cut (([47,63,35]:List UInt8)) n'17 (3:Int)) fun s'18=>cond (inR last1 (List.length rs0)) (cond (small (List.length s'18)) (cond (inR (bAt rs0 last1) 256) (vl (Lib.indexByte s'18 (u8n (bAt rs0 last1))) fun n'19=>cond (ltI n'19 (0:Int)) (k0 (-1)) (vl (wi64 (n'19+(1:Int))) fun n'20=>sirune_l1 lf lf rs0 last1 (wi64 (last1+n'20)) 1 (fun last'23 i'24=>k0 (wi64 (i'24-last'23))))) (none)) (none)) (none)) (none)) (sirune_l1 lf lf rs0 last1 last1 1 (fun last'25 i'26=>k0 (wi64 (i'26-last'25))))) (none)) (none)) (k1 ())
noncomputable def sirune_l2 {R:Type} (lf n:Nat) (rs0:By) (last1:Int) (k0:Int→Option R) (k1:Unit→Option R):Option R:=recN (α:=By→Int→Option R) (fun _ _=>none) (fun n self rs0 last1=>sirune_l2f lf n self rs0 last1 k0 k1) n rs0 last1
theorem sirune_l2_s {R:Type} (lf n:Nat) (rs0:By) (last1:Int) (k0:Int→Option R) (k1:Unit→Option R):sirune_l2 lf (n+1) rs0 last1 k0 k1=sirune_l2f lf n (fun rs0 last1=>sirune_l2 lf n rs0 last1 k0 k1) rs0 last1 k0 k1:=rfl
theorem sirune_l2_eq (n:Nat) (rs0:By) (last1:Int):loopK 0 ((c_sirune lf).keep 5) (bd (c_sirune lf) cl yh (cd [1,0,1,1,1,1,1,1,0,1,1,1,1,0,0,0] b_sirune)) n ⟨gp [(0,.s (.str (([47,63,35]:List UInt8)))),(6,.s (.str rs0)),(0,.s (.int .i64 last1)),(0,.s (.int .i64 last1))] 177,[],s⟩ k =
 sirune_l2 lf n rs0 last1 (fun n0=>k .ret ⟨gp [(4,.s (.int .i64 n0))] 182,[],s⟩) (fun _=>k (.exit 1) ⟨gp [] 187,[],s⟩):=by
 induction n generalizing rs0 last1 with
 | zero=>rfl
 | succ n ih=>rw [sirune_l2_s];unfold sirune_l2f;exact let K0:=(blkK 3 (seqK (c_sirune lf) cl yh (cd [1,0,1,1,1,1,1,1,0,1,1,1,1,0,0,0,1,0,0,1,1] b_sirune) (blkK 2 (lpK 0 ((c_sirune lf).keep 5) (bd (c_sirune lf) cl yh (cd [1,0,1,1,1,1,1,1,0,1,1,1,1,0,0,0] b_sirune)) n k))));(Eq.trans (by kernel_rfl) (cond_congr (cond_congr (vl_congr fun n'16=>(cond_congr (cond_congr (vl_congr fun n'17=>(cond_congr (vl_congr fun s'18=>(cond_congr (cond_congr (cond_congr (vl_congr fun n'19=>(cond_congr rfl (vl_congr fun n'20=>((sirune_l1_eq lf cl yh s K0 lf rs0 last1 (wi64 (last1+n'20)) 1).trans (by kernel_rfl))))) rfl) rfl) rfl)) rfl)) ((sirune_l1_eq lf cl yh s K0 lf rs0 last1 last1 1).trans (by kernel_rfl))) rfl)) rfl) rfl))
noncomputable def sirune_j0 {R:Type} (lf:Nat) (r0:Int) (b1:Bool) (k0:Int→Option R) (k1:Int→Nat→Option R):Option R:=cond b1 (cond (inR (wu8 r0) 256) (vl (Lib.indexByte (([47,63,35]:List UInt8)) (u8n (wu8 r0))) fun n'0=>k0 n'0) (none)) (cond (r0==(65533:Int)) (sirune_l0 lf lf 0 (fun n'6 m'7=>k1 n'6 m'7) (fun m'8=>k1 (-1) m'8)) (cond (not (vrune r0)) (k0 (-1)) (vl (Utf8.encode r0).data.toList fun s'2=>vl (wi64 ((↑(List.length s'2):Int)-(1:Int))) fun n'4=>sirune_l2 lf lf s'2 n'4 (fun n'27=>k0 n'27) (fun _=>k0 (-1)))))
abbrev sirune_j0_P (b:Code):Prop:=∀ (k:Out→St σ→Option R) (r0:Int) (b1:Bool),evCode (c_sirune lf) cl yh b ⟨gp [(0,.s (.str (([47,63,35]:List UInt8)))),(0,.s (.int .i32 r0)),(158,.s (.bool b1))] 26,[],s⟩ k=sirune_j0 lf r0 b1 (fun n0=>k .ret ⟨gp [(4,.s (.int .i64 n0))] 182,[],s⟩) (fun n0 m1=>k .ret ⟨gp [(4,.s (.int .i64 n0))] 182,[.iter (([47,63,35]:List UInt8)) m1],s⟩)
theorem sirune_j0_eq:sirune_j0_P (R:=R) lf cl yh s (cd [1,0,1] b_sirune):=by
 intro k r0 b1;unfold sirune_j0;exact (Eq.trans (by kernel_rfl) (cond_congr (cond_congr (vl_congr fun n'0=>rfl) rfl) (cond_congr ((sirune_l0_eq lf cl yh s (blkK 9 (seqK (c_sirune lf) cl yh (cd [1,0,1,1,1,0,1] b_sirune) k)) lf 0).trans (by kernel_rfl)) (cond_congr rfl (vl_congr fun s'2=>(vl_congr fun n'4=>((sirune_l2_eq lf cl yh s (blkK 1 (seqK (c_sirune lf) cl yh (cd [1,0,1,1,1,1,1,1,0,1,1,1,1,1] b_sirune) k)) lf s'2 n'4).trans (by kernel_rfl))))))))
noncomputable def sirune {R:Type} (lf:Nat) (r:Int) (k0:Int→Option R) (k1:Int→Nat→Option R):Option R:=cond (not (ltI r (0:Int))) (sirune_j0 lf r (ltI r (128:Int)) (fun n'28=>k0 n'28) (fun n'29 m'30=>k1 n'29 m'30)) (sirune_j0 lf r false (fun n'31=>k0 n'31) (fun n'32 m'33=>k1 n'32 m'33))
theorem sirune_eq (b_101:Code) (h_sirune_j0:sirune_j0_P (R:=PV × List Blk × σ) lf cl yh s b_101) (r:Int):evCode (c_sirune lf) cl yh (cd [] (putC [1,0,1] b_101 b_sirune)) ⟨[.s (.str (([47,63,35]:List UInt8))),.s (.int .i32 r)]++tps 185,[],s⟩ (retK (c_sirune lf) Tryz.f75)=sirune lf r (fun r0=>some (.s (.int .i64 r0),[],s)) (fun r0 m1=>some (.s (.int .i64 r0),[.iter (([47,63,35]:List UInt8)) m1],s)):=by
 unfold sirune;exact let K0:=(blkK 0 (retK (c_sirune lf) Tryz.f75));(Eq.trans (by kernel_rfl) (cond_congr ((h_sirune_j0 K0 r (ltI r (128:Int))).trans (by kernel_rfl)) ((h_sirune_j0 K0 r false).trans (by kernel_rfl))))
theorem sirune_ev (d:Nat) (r:Int):evC (c_sirune lf) (d+1) σ yh 75 [.s (.str (([47,63,35]:List UInt8))),.s (.int .i32 r)] [] s=sirune lf r (fun r0=>some (.s (.int .i64 r0),[],s)) (fun r0 m1=>some (.s (.int .i64 r0),[.iter (([47,63,35]:List UInt8)) m1],s)):=
 (evC_eq (fn:=Tryz.f75) (by kernel_rfl) (by kernel_rfl) (by kernel_rfl)).trans (Eq.trans (by kernel_rfl) (sirune_eq lf (evC (c_sirune lf) d) yh s (cd [1,0,1] b_sirune) (sirune_j0_eq lf (evC (c_sirune lf) d) yh s) r))
noncomputable abbrev b_sidxaS:Code:=bodyOf Tryz.f58
noncomputable def c_sidxaS (lf:Nat):Cfg:=mkCfg lf [58] (lookK [(18,[1,2,40]),(12,[0,3,1,1])]) [(75,X_sirune),(76,X_sshould),(77,X_smkset)] (lookK [(22,[4]),(21,[4]),(20,[1,7,35,7]),(19,[1,7,0,34]),(18,[1,43,0,0]),(17,[1,43]),(16,[4]),(13,[0,5,1]),(15,[4]),(14,[0,5,1,33]),(12,[0,5,1,27]),(11,[0,5,1]),(10,[0,0,4,25]),(9,[0,0,4,0]),(8,[0,0,24]),(7,[4]),(6,[0,4]),(5,[0,4,14]),(4,[0,4]),(3,[0,0,13]),(2,[4]),(1,[0,0,10]),(0,[0,0])]) [75,76] (lookK [(2,[]),(3,[1,43]),(0,[]),(1,[0,5,1])]) (some [4]) [] [] []
noncomputable def sidxaS_l0f {R:Type} (lf n:Nat) (self:By→Nat→Option R) (s0:By) (m1:Nat) (k0:Int→(List Blk)→Option R) (k1:By→Nat→Option R):Option R:=cond (decide (m1<(List.length s0))) (vl ((Utf8.decode ⟨List.toArray s0⟩ m1)).1 fun n'1=>cond (isSl (([47,63,35]:List UInt8))) (cond (ltN n'1 1114112) (cond (not (ltI (irn n'1) (0:Int))) (k0 (↑m1:Int) [(Blk.iter s0 (m1+((Utf8.decode ⟨List.toArray s0⟩ m1)).2))]) (self s0 (m1+((Utf8.decode ⟨List.toArray s0⟩ m1)).2))) (none)) (none)) (k1 s0 m1)
noncomputable def sidxaS_l0 {R:Type} (lf n:Nat) (s0:By) (m1:Nat) (k0:Int→(List Blk)→Option R) (k1:By→Nat→Option R):Option R:=recN (α:=By→Nat→Option R) (fun _ _=>none) (fun n self s0 m1=>sidxaS_l0f lf n self s0 m1 k0 k1) n s0 m1
theorem sidxaS_l0_s {R:Type} (lf n:Nat) (s0:By) (m1:Nat) (k0:Int→(List Blk)→Option R) (k1:By→Nat→Option R):sidxaS_l0 lf (n+1) s0 m1 k0 k1=sidxaS_l0f lf n (fun s0 m1=>sidxaS_l0 lf n s0 m1 k0 k1) s0 m1 k0 k1:=rfl
theorem sidxaS_l0_eq (n:Nat) (s0:By) (m1:Nat):loopK 1 ((c_sidxaS lf).keep 18) (bd (c_sidxaS lf) cl yh (cd [1,1,1,1,0,1,0,0] b_sidxaS)) n ⟨gp [(1,.s (.str (([47,63,35]:List UInt8)))),(43,.it 0)] 9,[.iter s0 m1],s⟩ k =
 sidxaS_l0 lf n s0 m1 (fun n0 H1=>k .ret ⟨gp [(4,.s (.int .i64 n0))] 50,H1,s⟩) (fun s0 m1=>k (.exit 2) ⟨gp [] 55,[.iter s0 m1],s⟩):=by
 induction n generalizing s0 m1 with
 | zero=>rfl
 | succ n ih=>rw [sidxaS_l0_s];unfold sidxaS_l0f;exact (Eq.trans (by kernel_rfl) (cond_congr (vl_congr fun n'1=>(cond_congr (cond_congr (cond_congr rfl (ih s0 (m1+((Utf8.decode ⟨List.toArray s0⟩ m1)).2))) rfl) rfl)) rfl))
noncomputable def sidxaS {R:Type} (lf:Nat) (t:By) (k0:Int→(List Blk)→Option R):Option R:=cond (ltI (8:Int) (↑(List.length t):Int)) (none) (sidxaS_l0 lf lf t 0 (fun n'2 H'3=>k0 n'2 H'3) (fun s'4 m'5=>k0 (-1) [(Blk.iter s'4 m'5)]))
theorem sidxaS_ev (d:Nat) (t:By):evC (c_sidxaS lf) (d+1) σ yh 58 [.s (.str t),.s (.str (([47,63,35]:List UInt8)))] [] s=sidxaS lf t (fun r0 H1=>some (.s (.int .i64 r0),H1,s)):=by
 refine (evC_eq (fn:=Tryz.f58) (by kernel_rfl) (by kernel_rfl) (by kernel_rfl)).trans ?_
 generalize evC (c_sidxaS lf) d=cl
 unfold sidxaS;exact (Eq.trans (by kernel_rfl) (cond_congr rfl ((sidxaS_l0_eq lf cl yh s (blkK 2 (seqK (c_sidxaS lf) cl yh (cd [1,1,1,1,1] b_sidxaS) (retK (c_sidxaS lf) Tryz.f58))) lf t 0).trans (by kernel_rfl))))
end
end Go.Proofs.YtcfingekgbbclaaGreatDoor.E
namespace Go.Proofs.YtcfingekgbbclaaGreatDoor.E
open Go
set_option linter.unusedVariables false
set_option linter.unusedSimpArgs false
theorem cutc_none {c:UInt8} {s:By} (h:c∉s):Lib.cut s [c]=(s,[],false):=by
 unfold Lib.cut
 rw [index_none h,if_neg (by decide)]
theorem cutc_app {c:UInt8} {p r:By} (h:c∉p):Lib.cut (p++c::r) [c]=(p,r,true):=by
 unfold Lib.cut
 rw [index_app h,if_pos (by omega),Int.toNat_natCast,List.take_left,List.length_singleton]
 rw [show p++c::r=(p++[c])++r by simp,List.drop_left' (by simp)]
def numGo:Int→By→Option Int
 | n,[]=>some n
 | n,b::r=>if 48≤b.toNat∧b.toNat≤57 then numGo (min (10*max n 0+((b.toNat-48:Nat):Int)) 65536) r else none
theorem numP_go:∀ (s:By) (n:Int),numP n s=(numGo n s).bind fun m=>if m<65536 then some m else none
 | [],n=>rfl
 | b::r,n=>by
  rw [numP,numGo]
  split
  ·exact numP_go r _
  ·rfl
theorem numP_range:∀ (s:By) (n p:Int),-1≤n→numP n s=some p→-1≤p∧p<65536
 | [],n,p,hn,h=>by
  rw [numP] at h
  split at h
  ·rename_i h2
   obtain rfl:=Option.some.inj h
   exact ⟨hn,h2⟩
  ·cases h
 | b::r,n,p,hn,h=>by
  rw [numP] at h
  split at h
  ·exact numP_range r _ p (by omega) h
  ·cases h
def noCtl (s:By):Prop:=∀ b∈s,ctl b=false
def noSl (s:By):Prop:=∀ b∈s,slashB b=false
structure CU (u:UrlV):Prop where
 ns:special u.sch=false→schemeB u.sch=true∧lower u.sch=u.sch∧u.user=[]∧u.host=noHost∧u.port = -1∧noCtl u.rest
 sp:special u.sch=true→noCtl u.user∧noSl u.user∧HostOk u.host∧validH u.host=true∧(u.port = -1∨(0≤u.port∧u.port≤65535∧u.port≠dport u.sch))∧(∃ r,u.rest=47::r)∧noCtl u.rest
theorem any_ctl {s:By}:s.any ctl=false↔noCtl s:=by
 unfold noCtl
 rw [List.any_eq_false]
 exact ⟨fun h b hb=>by simpa using h b hb,fun h b hb=>by simp [h b hb]⟩
theorem hostPort_ok {nm user rest a:By} (h:(hostPort nm user rest a).2=0):∃ hh port,(hostPort nm user rest a).1=⟨nm,user,hh,port,rest⟩∧HostOk hh∧validH hh=true∧(port = -1∨(0≤port∧port≤65535∧port≠dport nm)):=by
 unfold hostPort at h ⊢
 cases hn:nameTail a with
 | none=>rw [hn] at h;simp at h
 | some q=>
  obtain ⟨name,tail⟩:=q
  rw [hn] at h
  simp only at h ⊢
  by_cases c1:tail≠[]∧tail.head?≠some 58
  ·rw [if_pos c1] at h;simp at h
  ·rw [if_neg c1] at h ⊢
   by_cases c2:(parseH name).2≠0
   ·rw [if_pos c2] at h;exact absurd h c2
   ·rw [if_neg c2] at h ⊢
    cases hp:numP (-1) (tail.drop 1) with
    | none=>rw [hp] at h;simp at h
    | some p=>
     have hr:=numP_range _ _ _ (by omega) hp
     obtain ⟨o1,o2⟩:=parseH_ok name
     refine ⟨_,_,rfl,o1,o2 (by simpa using c2),?_⟩
     split
     ·exact .inl rfl
     ·rename_i hd
      by_cases h1:p = -1
      ·exact .inl h1
      ·exact .inr ⟨by omega,by omega,hd⟩
theorem hostPort_bad {nm user rest a:By} (h:(hostPort nm user rest a).2≠0):(hostPort nm user rest a).1=noUrl:=by
 unfold hostPort at h ⊢
 split
 ·rfl
 ·rename_i name tail hn
  rw [hn] at h
  simp only at h ⊢
  split
  ·rfl
  ·rename_i c1
   rw [if_neg c1] at h
   split
   ·rfl
   ·rename_i c2
    rw [if_neg c2] at h
    split
    ·rfl
    ·rename_i p hp
     rw [hp] at h
     exact absurd rfl h
theorem lower_idem (s:By):lower (lower s)=lower s:=by
 unfold lower
 rw [List.map_map]
 apply List.map_congr_left
 intro b _
 show lowB (lowB b)=lowB b
 rcases lowB_cases b with ⟨_,e⟩ | ⟨_,e⟩ | ⟨h1,h2,e⟩
 ·rw [e,e]
 ·rw [e,e]
 ·rcases lowB_cases (lowB b) with ⟨_,e2⟩ | ⟨_,e2⟩ | ⟨h3,h4,_⟩
  ·exact e2
  ·exact e2
  ·omega
theorem letter_low (b:UInt8):letter (lowB b)=letter b:=by
 rw [Bool.eq_iff_iff,letter_iff,letter_iff]
 rcases lowB_cases b with ⟨_,e⟩ | ⟨_,e⟩ | ⟨h1,h2,e⟩
 ·rw [e]
 ·rw [e]
 ·omega
theorem lowB_eq {b c:UInt8} (hc:c.toNat<65):lowB b=c↔b=c:=by
 rcases lowB_cases b with ⟨_,e⟩ | ⟨_,e⟩ | ⟨h1,h2,e⟩
 ·rw [e]
 ·rw [e]
 ·constructor
  ·intro h;rw [h] at e;omega
  ·intro h;subst h;omega
theorem schByte_low (b:UInt8):schByte (lowB b)=schByte b:=by
 rw [Bool.eq_iff_iff,schByte_iff,schByte_iff,lowB_eq (by decide),lowB_eq (by decide),lowB_eq (by decide)]
 rcases lowB_cases b with ⟨_,e⟩ | ⟨_,e⟩ | ⟨h1,h2,e⟩
 ·rw [e]
 ·rw [e]
 ·constructor
  ·rintro (h | h | h | h)<;>first | omega | exact .inr (.inr (.inr h))
  ·rintro (h | h | h | h)<;>first | omega | exact .inr (.inr (.inr h))
theorem schemeB_low (s:By):schemeB (lower s)=schemeB s:=by
 cases s with
 | nil=>rfl
 | cons b r=>
  show (letter (lowB b)&&(r.map lowB).all schByte)=(letter b&&r.all schByte)
  rw [letter_low,List.all_map]
  congr 1
  apply List.all_congr rfl
  intro b
  exact schByte_low b
theorem slashed_head (r:By):∃ t,slashed r=47::t:=by
 unfold slashed
 split
 ·rename_i h
  cases r with
  | nil=>cases h
  | cons b t=>
   obtain rfl:=Option.some.inj h
   exact ⟨t,rfl⟩
 ·exact ⟨r,rfl⟩
theorem slashed_ctl {r:By} (h:noCtl r):noCtl (slashed r):=by
 unfold slashed
 split
 ·exact h
 ·intro b hb
  rcases List.mem_cons.1 hb with rfl | hb
  ·decide
  ·exact h b hb
theorem placeU_ok {nm rest auth:By} (hs:special nm=true) (ha:noCtl auth) (hsl:noSl auth) (hr:noCtl rest) (hr2:∃ r,rest=47::r) (h:(placeU nm rest auth).2=0):CU (placeU nm rest auth).1:=by
 unfold placeU at h ⊢
 by_cases hl:0≤lastI 64 auth
 ·rw [if_pos hl] at h ⊢
  obtain ⟨hh,port,e,o1,o2,o3⟩:=hostPort_ok h
  rw [e]
  exact ⟨fun h=>(by rw [hs] at h;cases h),fun _=>⟨fun b hb=>ha b (List.mem_of_mem_take hb),fun b hb=>hsl b (List.mem_of_mem_take hb),o1,o2,o3,hr2,hr⟩⟩
 ·rw [if_neg hl] at h ⊢
  obtain ⟨hh,port,e,o1,o2,o3⟩:=hostPort_ok h
  rw [e]
  exact ⟨fun h=>(by rw [hs] at h;cases h),fun _=>⟨fun b hb=>(by cases hb),fun b hb=>(by cases hb),o1,o2,o3,hr2,hr⟩⟩
theorem parse_CU {s:By} (h:(parseU0 s).2=0):CU (parseU0 s).1:=by
 unfold parseU0 at h ⊢
 cases hc:s.any ctl with
 | true=>rw [hc] at h;simp at h
 | false=>
  rw [hc] at h
  have hn:=any_ctl.1 hc
  simp only [Bool.false_eq_true,if_false] at h ⊢
  rcases split_first 58 s with h58 | ⟨p,r,rfl,h58⟩
  ·rw [cutc_none h58] at h
   simp at h
  ·rw [cutc_app h58] at h ⊢
   have hp:noCtl p:=fun b hb=>hn b (by simp [hb])
   have hr:noCtl r:=fun b hb=>hn b (by simp [hb])
   cases hsch:schemeB p with
   | false=>rw [hsch] at h;simp at h
   | true=>
    rw [hsch] at h
    simp only [Bool.not_true,Bool.or_self,Bool.false_eq_true,if_false] at h ⊢
    cases hsp:special (lower p) with
    | false=>
     simp only [Bool.not_false,if_true]
     exact ⟨fun _=>⟨by rw [schemeB_low];exact hsch,lower_idem p,rfl,rfl,rfl,hr⟩,fun h=>(by simp only at h;rw [hsp] at h;cases h)⟩
    | true=>
     rw [hsp] at h
     simp only [Bool.not_true,Bool.false_eq_true,if_false] at h ⊢
     cases h2:([47,47]:By).isPrefixOf r with
     | false=>rw [h2] at h;simp at h
     | true=>
      rw [h2] at h
      simp only [Bool.not_true,Bool.false_eq_true,if_false] at h ⊢
      exact placeU_ok hsp (fun b hb=>hr b (List.mem_of_mem_drop (List.mem_of_mem_take hb))) (spanU_take _) (slashed_ctl fun b hb=>hr b (List.mem_of_mem_drop (List.mem_of_mem_drop hb))) (slashed_head _) h
theorem placeU_bad {nm rest auth:By} (h:(placeU nm rest auth).2≠0):(placeU nm rest auth).1=noUrl:=by
 unfold placeU at h ⊢
 split
 ·rename_i c;rw [if_pos c] at h;exact hostPort_bad h
 ·rename_i c;rw [if_neg c] at h;exact hostPort_bad h
theorem parse_bad {s:By} (h:(parseU0 s).2≠0):(parseU0 s).1=noUrl:=by
 unfold parseU0 at h ⊢
 split
 ·rfl
 ·rename_i c1
  rw [if_neg c1] at h
  split
  ·rfl
  ·rename_i c2
   rw [if_neg c2] at h
   split
   ·rename_i c3
    rw [if_pos c3] at h
    exact absurd rfl h
   ·rename_i c3
    rw [if_neg c3] at h
    split
    ·rfl
    ·rename_i c4
     rw [if_neg c4] at h
     exact placeU_bad h
theorem ctl_low (b:UInt8):ctl (lowB b)=ctl b:=by
 rw [Bool.eq_iff_iff,ctl_iff,ctl_iff]
 rcases lowB_cases b with ⟨_,e⟩ | ⟨_,e⟩ | ⟨h1,h2,e⟩
 ·rw [e]
 ·rw [e]
 ·omega
theorem any_low (p:By):(lower p).any ctl=p.any ctl:=by
 unfold lower
 rw [List.any_map]
 congr 1
 funext b
 exact ctl_low b
theorem low_no58 {p:By} (h:(58:UInt8)∉p):(58:UInt8)∉lower p:=by
 unfold lower
 intro hm
 obtain ⟨b,hb,e⟩:=List.mem_map.1 hm
 rw [lowB_eq (by decide)] at e
 exact h (e ▸ hb)
theorem case_free {p r:By} (h:(58:UInt8)∉p) (hr:r=[]∨r.head? = some 58):parseU0 (lower p++r)=parseU0 (p++r):=by
 unfold parseU0
 rw [List.any_append,List.any_append,any_low]
 rcases hr with rfl | hr
 ·rw [List.append_nil,List.append_nil,cutc_none h,cutc_none (low_no58 h)]
  simp
 ·cases r with
  | nil=>cases hr
  | cons b t=>
   obtain rfl:=Option.some.inj hr
   rw [cutc_app h,cutc_app (low_no58 h)]
   simp only
   rw [schemeB_low,lower_idem]
theorem ctl_bad {s:By} {b:UInt8} (h:b∈s) (hc:ctl b=true) (hl:s.length≤2048):(parseU s).2=4:=by
 unfold parseU
 rw [if_neg (by omega)]
 unfold parseU0
 have:s.any ctl=true:=List.any_eq_true.2 ⟨b,h,hc⟩
 rw [this]
 rfl
structure UrlOk (u:UrlV):Prop where
 host:HostOk u.host
 port:-1≤u.port∧u.port<65536
theorem noHost_ok:HostOk noHost:=⟨by decide,z8_ok,by decide⟩
theorem CU.ok {u:UrlV} (h:CU u):UrlOk u:=by
 cases hs:special u.sch with
 | false=>
  obtain ⟨_,_,_,a4,a5,_⟩:=h.ns hs
  exact ⟨by rw [a4];exact noHost_ok,by omega⟩
 | true=>
  obtain ⟨_,_,a3,_,a5,_⟩:=h.sp hs
  exact ⟨a3,by omega⟩
theorem parse_ok (s:By):UrlOk (parseU0 s).1:=by
 by_cases h:(parseU0 s).2=0
 ·exact (parse_CU h).ok
 ·rw [parse_bad h]
  exact ⟨noHost_ok,by decide,by decide⟩
theorem insec_cases {s:By} (h:insec s=true):s=bHttp∨s=bWs:=by
 simpa [insec] using h
theorem up_same {s:By} (h:insec s=false) (po:Int):upS s=s∧upP s po=po:=by
 have e:(s==bHttp)=false∧(s==bWs)=false:=by simpa [insec] using h
 unfold upS upP
 rw [e.1,e.2,h]
 simp
theorem colon_split:∀ s:By,(58:UInt8)∉s.takeWhile (fun b=>b != 58)∧((s.dropWhile fun b=>b != 58)=[]∨(s.dropWhile fun b=>b != 58).head? = some 58)
 | []=>⟨by simp,.inl rfl⟩
 | b::r=>by
  obtain ⟨h1,h2⟩:=colon_split r
  by_cases hb:b=58
  ·subst hb
   exact ⟨by simp,.inr (by simp)⟩
  ·have e:(b != 58)=true:=by simpa using hb
   rw [List.takeWhile_cons,List.dropWhile_cons,e]
   simp only [if_true]
   exact ⟨by simp only [List.mem_cons,not_or];exact ⟨fun h=>hb h.symm,h1⟩,h2⟩
theorem colon_at (s:By):s.take (s.takeWhile fun b=>b != 58).length=(s.takeWhile fun b=>b != 58)∧s.drop (s.takeWhile fun b=>b != 58).length=s.dropWhile fun b=>b != 58:=by
 have h:=List.takeWhile_append_dropWhile (p:=fun b:UInt8=>b != 58) (l:=s)
 constructor
 ·exact (List.prefix_iff_eq_take.1 (List.takeWhile_prefix _)).symm
 ·have h2:(s.takeWhile (fun b=>b != 58)++s.dropWhile fun b=>b != 58).drop (s.takeWhile fun b=>b != 58).length=s.dropWhile fun b=>b != 58:=List.drop_left
  rw [h] at h2
  exact h2
theorem case_law (s:By):parseU (lower (s.take (s.takeWhile fun b=>b != 58).length)++s.drop (s.takeWhile fun b=>b != 58).length)=parseU s:=by
 obtain ⟨e1,e2⟩:=colon_at s
 obtain ⟨h1,h2⟩:=colon_split s
 have h:=List.takeWhile_append_dropWhile (p:=fun b:UInt8=>b != 58) (l:=s)
 rw [e1,e2]
 have hl:(lower (s.takeWhile fun b=>b != 58)++s.dropWhile fun b=>b != 58).length=s.length:=by
  rw [List.length_append,lower_len,←List.length_append,h]
 unfold parseU
 rw [hl,case_free h1 h2,h]
theorem ctl_law {s:By} (hs:s.length≤1000) (n:Nat) {b:UInt8} (hb:b.toNat≤32):(parseU (s.take n++[b]++s.drop n)).2=4:=
 ctl_bad (b:=b) (by simp) (ctl_iff.2 (.inl hb)) (by simp only [List.length_append,List.length_take,List.length_drop,List.length_singleton];omega)
theorem i64b_iff {n:Int}:i64b n=true↔-9223372036854775808≤n∧n<9223372036854775808:=by
 unfold i64b
 rw [ltN_iff]
 constructor<;>rintro ⟨h1,h2⟩<;>constructor<;>omega
theorem indexByte_idx (c:UInt8):∀ s:By,Lib.indexByte s c=match idx1 c s with | some k=>(k:Int) | none=>-1
 | []=>rfl
 | b::r=>by
  have ih:=indexByte_idx c r
  unfold Lib.indexByte idx1
  by_cases h:b=c
  ·rw [if_pos h,if_pos (by simpa using h)];rfl
  ·rw [if_neg h,if_neg (by simpa using h),ih]
   cases idx1 c r with
   | none=>rfl
   | some k=>
    have e:((k:Int) == -1)=false:=by rw [beq_eq_false_iff_ne];omega
    simp only [Option.map_some,e,Bool.false_eq_true,if_false]
    rfl
theorem slash_isl (b:UInt8):isl.contains b=slashB b:=by
 rw [Bool.eq_iff_iff]
 simp [isl,slashB,or_assoc]
theorem spanU_cons (b:UInt8) (r:By):spanU (b::r)=if slashB b then 0 else spanU r+1:=by
 unfold spanU
 rw [List.takeWhile_cons]
 cases h:slashB b<;>simp
theorem spanU_le:∀ s:By,spanU s≤s.length
 | []=>Nat.le_refl _
 | b::r=>by
  have:=spanU_le r
  rw [spanU_cons,List.length_cons]
  split<;>omega
theorem indexAny_span:∀ s:By,Lib.indexAny s isl=if spanU s<s.length then (spanU s:Int) else -1
 | []=>rfl
 | b::r=>by
  have ih:=indexAny_span r
  have hl:=spanU_le r
  rw [Lib.indexAny,slash_isl,spanU_cons,List.length_cons,ih]
  cases slashB b with
  | true=>simp
  | false=>
   simp only [Bool.false_eq_true,if_false]
   by_cases h:spanU r<r.length
   ·have e:((spanU r:Int) == -1)=false:=by rw [beq_eq_false_iff_ne];omega
    have h':spanU r+1<r.length+1:=by omega
    simp only [if_pos h,if_pos h',e,Bool.false_eq_true,if_false]
    rfl
   ·have h':¬ spanU r+1<r.length+1:=by omega
    simp only [if_neg h,if_neg h']
    rfl
theorem dec_hi (b:UInt8) (t:By) (hb:128≤b.toNat):128≤(Lib.decodeL (b::t)).1∧(Lib.decodeL (b::t)).1<1114112∧1≤(Lib.decodeL (b::t)).2∧(Lib.decodeL (b::t)).2≤t.length+1∧∀ i,i<(Lib.decodeL (b::t)).2→128≤((b::t).getD i 0).toNat:=by
 have hle:=Lib.decodeL_le (b::t) (by simp)
 have hw:=Lib.decodeL_width (b::t)
 have hr:=Lib.decodeL_rune (b::t)
 rw [List.length_cons] at hle
 refine ⟨?_,by omega,hw,hle,?_⟩
 all_goals
  clear hle hw hr
  rw [Lib.decodeL_N]
  rcases Lib.decodeN_shape (b::t).length ((b::t).getD 0 0).toNat ((b::t).getD 1 0).toNat ((b::t).getD 2 0).toNat ((b::t).getD 3 0).toNat with ⟨c,e⟩ | ⟨c1,c2,c3,cv,e⟩ | ⟨c1,c2,c3,c4,cv,cs,e⟩ | ⟨c1,c2,c3,c4,c5,cv,cw,e⟩ | e
  all_goals rw [e]
 ·exact absurd hb (by simp at c;omega)
 ·exact cv
 ·simp only;omega
 ·simp only;omega
 ·simp only;omega
 ·exact absurd hb (by simp at c;omega)
 ·intro i hi
  have:i=0∨i=1:=by simp only at hi;omega
  rcases this with rfl | rfl<;>omega
 ·intro i hi
  have:i=0∨i=1∨i=2:=by simp only at hi;omega
  rcases this with rfl | rfl | rfl<;>omega
 ·intro i hi
  have:i=0∨i=1∨i=2∨i=3:=by simp only at hi;omega
  rcases this with rfl | rfl | rfl | rfl<;>omega
 ·intro i hi
  have:i=0:=by simp only at hi;omega
  subst this
  exact hb
theorem slash_hi {b:UInt8} (h:128≤b.toNat):slashB b=false:=by
 unfold slashB
 have n:∀ c:UInt8,c.toNat<128→(b==c)=false:=fun c hc=>by
  rw [beq_eq_false_iff_ne]
  rintro rfl
  omega
 rw [n 47 (by decide),n 63 (by decide),n 35 (by decide)]
 rfl
theorem irn_hi {r:Int} (h:128≤r):irn r = -1:=by
 unfold irn
 rw [if_neg (by omega),if_neg (by omega),if_neg (by omega)]
theorem irn_lo (b:UInt8):ltI (irn (b.toNat:Int)) 0 = !slashB b:=by
 have e:∀ c:UInt8,((b.toNat:Int)=(c.toNat:Int))=(b=c):=fun c=>propext ⟨fun h=>UInt8.toNat_inj.1 (by omega),fun h=>by rw [h]⟩
 have e1:((b.toNat:Int)=47)=(b=47):=e 47
 have e2:((b.toNat:Int)=63)=(b=63):=e 63
 have e3:((b.toNat:Int)=35)=(b=35):=e 35
 unfold irn slashB
 simp only [e1,e2,e3]
 by_cases h1:b=47
 ·subst h1;rfl
 ·by_cases h2:b=63
  ·subst h2;rfl
  ·by_cases h3:b=35
   ·subst h3;rfl
   ·have n:∀ c,b≠c→(b==c)=false:=fun c h=>by rwa [beq_eq_false_iff_ne]
    rw [if_neg h1,if_neg h2,if_neg h3,n _ h1,n _ h2,n _ h3]
    rfl
end Go.Proofs.YtcfingekgbbclaaGreatDoor.E
namespace Go.Proofs.YtcfingekgbbclaaGreatDoor.E
open Go Go.Proofs
set_option linter.unusedVariables false
set_option linter.unusedSimpArgs false
set_option maxRecDepth 100000
theorem ltpre_spec {R:Type} {k0:By→Option R} (s p:By) (h0:small s.length=true):ltpre LF s p k0=k0 (cutp s p):=by
 have:=maxL h0
 unfold ltpre cutp
 rw [h0]
 cases h:p.isPrefixOf s with
 | false=>simp
 | true=>
  have:p.length≤s.length:=by rw [isPrefixOf_take] at h;simp at h;exact h.1
  simp (disch:=omega)
theorem tpre_spec {R:Type} {k0:By→Option R} (s p:By) (h0:small s.length=true):tpre LF s p k0=k0 (cutp s p):=by
 unfold tpre;rw [h0];rfl
theorem uport_spec {R:Type} {k0:Int→Option R} (s:By):uport LF s k0=k0 (dport s):=by
 unfold uport dport bHttp bWs bHttps bWss
 generalize (s==([104,116,116,112]:List UInt8))=a
 generalize (s==([119,115]:List UInt8))=b
 generalize (s==([104,116,116,112,115]:List UInt8))=c
 generalize (s==([119,115,115]:List UInt8))=d
 cases a<;>cases b<;>cases c<;>cases d<;>rfl
theorem dport_ins (s:By):((dport s)==(80:Int))=insec s:=by
 unfold dport insec
 cases (s==bHttp || s==bWs) with
 | true=>rfl
 | false=>cases (s==bHttps || s==bWss)<;>rfl
theorem uspec_spec {R:Type} {k0:Bool→Option R} (s:By):uspec LF s k0=k0 (special s):=by
 unfold uspec
 rw [ltI_eq,dport_special]
theorem uins_sp (sc us:By) (kd:Int) (nm:By) (v4 a0 a1 a2 a3 a4 a5 a6 a7 po:Int) (re:By) :
  ∃ r H,uins LF sc us kd nm v4 a0 a1 a2 a3 a4 a5 a6 a7 po re (fun r0 H1=>rv (.s (.bool r0)) H1)=rv r H∧r.stab [] H = .s (.bool (insec sc)):=
 ⟨_,_,rfl,by rw [←dport_ins];rfl⟩
def nonL:By:=[48,49,50,51,52,53,54,55,56,57,43,45,46]
theorem idx_contains (c:UInt8):∀ l:By,ltI (Lib.indexByte l c) 0 = !l.contains c
 | []=>rfl
 | b::r=>by
  have ih:=idx_contains c r
  have hg:=Lib.indexByte_ge r c
  unfold Lib.indexByte
  by_cases h:b=c
  ·subst h;simp [ltI_f]
  ·have e:(b==c)=false:=by simpa using h
   have e2:(c==b)=false:=by simpa using Ne.symm h
   rw [List.contains_cons,e2,Bool.false_or,←ih,e]
   simp only [Bool.false_eq_true,if_false]
   by_cases hm:Lib.indexByte r c = -1
   ·rw [hm];rfl
   ·have:(Lib.indexByte r c == -1)=false:=by simpa using hm
    rw [this,if_neg (by simp),ltI_f (by omega),ltI_f (by omega)]
theorem schByte_non:∀ b:UInt8,schByte b=(letter b || nonL.contains b):=by
 have:∀ n:Fin 256,schByte (UInt8.ofNat n.val)=(letter (UInt8.ofNat n.val) || nonL.contains (UInt8.ofNat n.val)):=by decide +kernel
 intro b
 have h:=this ⟨b.toNat,b.toNat_lt⟩
 simpa using h
theorem usch_j1_eqn {R:Type} {k0:Unit→Option R} {k1:By→Int→Int→Bool→Option R} (s:By) (i:Nat) (b:UInt8) (l:Bool) (n:Int):usch_j1 s (i:Int) (b.toNat:Int) l n k0 k1=if l then k1 s n i false else if i=0 then k0 () else if nonL.contains b then k1 s n i false else k0 ():=by
 unfold usch_j1
 cases l with
 | true=>rfl
 | false=>
  rw [Bool.not_false,cond_true,if_neg (by simp)]
  by_cases hi:i=0
  ·subst hi;rfl
  ·have hb:=b.toNat_lt
   rw [show ((i:Int)==0)=false by simpa using hi,cond_false,inR_t (by omega) (by omega),cond_true,if_neg hi]
   simp only [vl]
   rw [u8n_nat]
   have e:=idx_contains b nonL
   rw [show ([48,49,50,51,52,53,54,55,56,57,43,45,46]:List UInt8)=nonL from rfl,e]
   cases nonL.contains b<;>rfl
theorem usch_round {R:Type} {self:By→Int→Int→Option R} {k0:Unit→Option R} {k1:By→Option R} (s:By) (hs:s.length≤1000000000) (n i:Nat) (hi:i<s.length) :
  usch_l0f LF n self s (s.length:Int) (i:Int) k0 k1=if letter (s.getD i 0) then self s s.length ((i+1:Nat):Int) else if i=0 then k0 () else if nonL.contains (s.getD i 0) then self s s.length ((i+1:Nat):Int) else k0 ():=by
 have e1:wi64 ((i:Int)+1)=((i+1:Nat):Int):=by rw [wi64_id (by omega) (by omega)];rfl
 unfold usch_l0f
 rw [ltI_t (by omega),inR_t (by omega) (by omega),bAt_nat]
 simp only [cond_true]
 generalize s.getD i 0=b
 have go:∀ l,usch_j1 s (i:Int) (b.toNat:Int) l (s.length:Int) (fun _=>k0 ()) (fun s'0 n'1 n'2 b'3=>self s'0 n'1 (wi64 (n'2+(1:Int))))=if l then self s s.length ((i+1:Nat):Int) else if i=0 then k0 () else if nonL.contains b then self s s.length ((i+1:Nat):Int) else k0 ():=fun l=>by
  rw [usch_j1_eqn,e1]
 have hl:letter b=((Nat.ble 97 b.toNat&&Nat.ble b.toNat 122) || (Nat.ble 65 b.toNat&&Nat.ble b.toNat 90)):=rfl
 by_cases h97:97≤b.toNat
 ·rw [ltI_f (by omega),Bool.not_false,cond_true]
  by_cases h122:b.toNat≤122
  ·rw [ltI_f (by omega),Bool.not_false,cond_true,if_pos (letter_iff.2 (.inl ⟨h97,h122⟩))]
   unfold usch_j0
   simp only [e1]
  ·rw [ltI_t (by omega),Bool.not_true,cond_false,ltI_f (by omega),Bool.not_false,cond_true,ltI_t (by omega),Bool.not_true]
   have hn:letter b=false:=by
    rw [←Bool.not_eq_true,letter_iff];omega
   rw [hn]
   exact go false
 ·rw [ltI_t (by omega),Bool.not_true,cond_false]
  by_cases h65:65≤b.toNat
  ·rw [ltI_f (by omega),Bool.not_false,cond_true]
   have hn:letter b = !ltI 90 (b.toNat:Int):=by
    rw [Bool.eq_iff_iff,letter_iff,Bool.not_eq_true',ltI_niff];omega
   rw [hn]
   exact go _
  ·rw [ltI_t (by omega),Bool.not_true,cond_false]
   have hn:letter b=false:=by
    rw [←Bool.not_eq_true,letter_iff];omega
   rw [hn]
   exact go false
theorem usch_loop {R:Type} {k0:Unit→Option R} {k1:By→Option R} (s:By) (hs:s.length≤1000000000):∀ (r i n:Nat),i+r=s.length→r<n→0<i→
  usch_l0 LF n s (s.length:Int) (i:Int) k0 k1=if (s.drop i).all schByte then k1 s else k0 ():=by
 intro r
 induction r with
 | zero=>
  intro i n hi hn h0
  obtain ⟨n,rfl⟩:∃ m,n=m+1:=⟨n-1,by omega⟩
  rw [usch_l0_s]
  unfold usch_l0f
  rw [ltI_f (by omega),List.drop_of_length_le (by omega)]
  rfl
 | succ r ih=>
  intro i n hi hn h0
  obtain ⟨n,rfl⟩:∃ m,n=m+1:=⟨n-1,by omega⟩
  rw [usch_l0_s,usch_round s hs n i (by omega),ih (i+1) n (by omega) (by omega) (by omega),drop_cons s i (by omega),List.all_cons,schByte_non,if_neg (by omega:¬ i=0)]
  cases letter (s.getD i 0) with
  | true=>simp
  | false=>
   cases nonL.contains (s.getD i 0)<;>simp
theorem usch_spec {R:Type} {k0:Bool→Option R} (s:By) (h0:small s.length=true):usch LF s k0=k0 (schemeB s):=by
 have hs:=maxL h0
 have hLF:=LF_big
 unfold usch
 obtain ⟨n,hn⟩:∃ m,LF=m+1:=⟨LF-1,by omega⟩
 cases s with
 | nil=>
  conv=>lhs;rw [show (LF:Nat)=LF from rfl]
  have e:=usch_l0_s LF n ([]:By) (([]:By).length:Int) 0 (fun _=>k0 false) (fun s'23=>k0 (not (s'23==([]:List UInt8))))
  rw [←hn] at e
  rw [e]
  rfl
 | cons b t=>
  have e:=usch_l0_s LF n (b::t) ((b::t).length:Int) 0 (fun _=>k0 false) (fun s'23=>k0 (not (s'23==([]:List UInt8))))
  rw [←hn] at e
  rw [e]
  refine Eq.trans (usch_round (b::t) hs n 0 (by simp)) ?_
  have e2:=usch_loop (k0:=fun _=>k0 false) (k1:=fun s'23=>k0 (not (s'23==([]:List UInt8)))) (b::t) hs t.length 1 n (by simp;omega) (by simp at hs;omega) (by omega)
  rw [List.getD_cons_zero]
  simp only [Nat.zero_add,if_true]
  rw [show (((0+1:Nat):Int))=((1:Nat):Int) from rfl,e2]
  rw [show (b::t).drop 1=t from rfl,show schemeB (b::t)=(letter b&&t.all schByte) from rfl]
  cases letter b with
  | false=>rfl
  | true=>cases t.all schByte<;>rfl
theorem numV_go:∀ (s:By) (n:Int),numV.go n s=(numGo n s).getD 0
 | [],n=>rfl
 | b::r,n=>by
  unfold numV.go numGo
  split
  ·exact numV_go r _
  ·rfl
theorem unum_loop {R:Type} {k0:Unit→Option R} {k1:Int→Option R} (s:By) (hs:s.length≤1000000000):∀ (r i n:Nat) (v:Int),i+r=s.length→r<n→-1≤v→v≤65536→
  unum_l0 LF n s v (s.length:Int) (i:Int) k0 k1=match numGo v (s.drop i) with | some m=>k1 m | none=>k0 ():=by
 intro r
 induction r with
 | zero=>
  intro i n v hi hn h0 h1
  obtain ⟨n,rfl⟩:∃ m,n=m+1:=⟨n-1,by omega⟩
  rw [unum_l0_s]
  unfold unum_l0f
  rw [ltI_f (by omega),List.drop_of_length_le (by omega)]
  rfl
 | succ r ih=>
  intro i n v hi hn h0 h1
  obtain ⟨n,rfl⟩:∃ m,n=m+1:=⟨n-1,by omega⟩
  have e1:wi64 ((i:Int)+1)=((i+1:Nat):Int):=by rw [wi64_id (by omega) (by omega)];rfl
  rw [unum_l0_s]
  unfold unum_l0f
  rw [ltI_t (by omega),inR_t (by omega) (by omega),bAt_nat,drop_cons s i (by omega),e1]
  have hb:=(s.getD i 0).toNat_lt
  generalize s.getD i 0=b at *
  unfold numGo
  simp only [cond_true,vl]
  by_cases h48:b.toNat<48
  ·rw [ltI_t (by omega),cond_true,if_neg (by omega)]
  ·rw [ltI_f (by omega),cond_false]
   by_cases h57:57<b.toNat
   ·rw [ltI_t (by omega),cond_true,if_neg (by omega)]
   ·rw [ltI_f (by omega),cond_false,if_pos (show 48≤b.toNat∧b.toNat≤57 by omega)]
    have m1:(if (0:Int) > v then (0:Int) else v)=max v 0:=by omega
    have e2:wi64 (10*max v 0)=10*max v 0:=wi64_id (by omega) (by omega)
    have e3:wu8 ((b.toNat:Int)-48)=((b.toNat-48:Nat):Int):=by rw [wu8_id (by omega) (by omega)];omega
    have e4:wi64 ((b.toNat-48:Nat):Int)=((b.toNat-48:Nat):Int):=wi64_id (by omega) (by omega)
    have e5:wi64 (10*max v 0+((b.toNat-48:Nat):Int))=10*max v 0+((b.toNat-48:Nat):Int):=wi64_id (by omega) (by omega)
    rw [m1,e2,e3,e4,e5]
    have m2:(if (65536:Int)<10*max v 0+((b.toNat-48:Nat):Int) then (65536:Int) else 10*max v 0+((b.toNat-48:Nat):Int))=min (10*max v 0+((b.toNat-48:Nat):Int)) 65536:=by omega
    rw [m2]
    exact ih (i+1) n _ (by omega) (by omega) (by omega) (by omega)
theorem unum_spec {R:Type} {k0:Int→Bool→Option R} (s:By) (h0:small s.length=true):unum LF s k0=k0 (numV s) (numP (-1) s).isSome:=by
 have hs:=maxL h0
 have hLF:=LF_big
 unfold unum
 refine Eq.trans (unum_loop s hs s.length 0 LF (-1) (by omega) (by omega) (by omega) (by omega)) ?_
 rw [List.drop_zero,numP_go,show numV s=numV.go (-1) s from rfl,numV_go]
 cases numGo (-1) s with
 | none=>rfl
 | some m=>
  simp only [Option.getD_some,Option.bind_some]
  rw [ltI_eq]
  by_cases h:m<65536
  ·rw [decide_eq_true h,if_pos h];rfl
  ·rw [decide_eq_false h,if_neg h];rfl
theorem numP_val {s:By} {p:Int} (h:numP (-1) s=some p):numV s=p:=by
 rw [numP_go] at h
 rw [show numV s=numV.go (-1) s from rfl,numV_go]
 cases hg:numGo (-1) s with
 | none=>rw [hg] at h;cases h
 | some m=>
  rw [hg] at h
  simp only [Option.bind_some] at h
  split at h
  ·exact Option.some.inj h
  ·cases h
def hpT (name tail nm user rest:By):UrlV × Nat:=
 if (parseH name).2≠0 then (noUrl,(parseH name).2)
 else match numP (-1) (tail.drop 1) with
  | none=>(noUrl,16)
  | some p=>(⟨nm,user,(parseH name).1,if p=dport nm then -1 else p,rest⟩,0)
def hpC (name tail nm user rest:By):UrlV × Nat:=if tail≠[]∧tail.head?≠some 58 then (noUrl,4) else hpT name tail nm user rest
theorem hostPort_hpC (nm user rest a:By):hostPort nm user rest a=match nameTail a with | none=>(noUrl,4) | some (name,tail)=>hpC name tail nm user rest:=by
 unfold hostPort
 cases nameTail a with
 | none=>rfl
 | some q=>
  obtain ⟨name,tail⟩:=q
  rfl
theorem cutp_colon {t:By} (h:t=[]∨t.head? = some 58):cutp t [58]=t.drop 1:=by
 rcases h with rfl | h
 ·rfl
 ·cases t with
  | nil=>cases h
  | cons b r=>
   simp only [List.head?_cons,Option.some.injEq] at h
   subst h
   simp [cutp]
theorem uplace_j0_sp (name tail:By) (hn:name.length≤1000000000) (ht:tail.length≤1000000000) (hc:tail=[]∨tail.head? = some 58) (s3 s4:By) (n5:Int) (s6:By) (n7 n8 n9 n10 n11 n12 n13 n14 n15:Int) (s17:By) :
  ∃ B H,∀ (R:Type) (k0:Int→Blk→By→By→Int→By→Int→Int→Int→Int→Int→Int→Int→Int→Int→Int→By→List Blk→Option R),uplace_j0 name tail s3 s4 n5 s6 n7 n8 n9 n10 n11 n12 n13 n14 n15 (-1) s17 k0=(fun q=>k0 (uE q) B (uS q) (uU q) (uK q) (uN q) (uV q) (uA q 0) (uA q 1) (uA q 2) (uA q 3) (uA q 4) (uA q 5) (uA q 6) (uA q 7) (uP q) (uR q) H) (hpT name tail s3 s4 s17):=by
 have hd:(tail.drop 1).length≤1000000000:=by rw [List.length_drop];omega
 by_cases he:(parseH name).2=0
 ·cases hp:numP (-1) (tail.drop 1) with
  | none=>
   apply Exists.intro;apply Exists.intro;intro R k0
   unfold uplace_j0 hpT
   rw [small_t hn,cond_true,cutp_colon hc,small_t ht]
   simp only [vl,cond_true]
   rw [he,small_t hd,hp]
   rfl
  | some p=>
   have hv:=numP_val hp
   by_cases h2:p=dport s3
   ·apply Exists.intro;apply Exists.intro;intro R k0
    unfold uplace_j0 hpT
    rw [small_t hn,cond_true,cutp_colon hc,small_t ht]
    simp only [vl,cond_true]
    rw [he,small_t hd,hp,hv,show (p != dport s3)=false by simpa using h2]
    simp only [h2,if_true]
    rfl
   ·apply Exists.intro;apply Exists.intro;intro R k0
    unfold uplace_j0 hpT
    rw [small_t hn,cond_true,cutp_colon hc,small_t ht]
    simp only [vl,cond_true]
    rw [he,small_t hd,hp,hv,show (p != dport s3)=true by simpa using h2]
    simp only [h2,if_false]
    rfl
 ·apply Exists.intro;apply Exists.intro;intro R k0
  unfold uplace_j0 hpT
  rw [small_t hn,cond_true]
  simp only [vl]
  rw [show (((parseH name).2:Int) != 0)=true by simpa using he,cond_true,if_pos he]
  rfl
theorem uplace_j1_sp (name tail:By) (hn:name.length≤1000000000) (ht:tail.length≤1000000000) (s3 s4:By) (n5:Int) (s6:By) (n7 n8 n9 n10 n11 n12 n13 n14 n15:Int) (s17:By) :
  ∃ B H,∀ (R:Type) (k0:Int→Blk→By→By→Int→By→Int→Int→Int→Int→Int→Int→Int→Int→Int→Int→By→List Blk→Option R),uplace_j1 name tail s3 s4 n5 s6 n7 n8 n9 n10 n11 n12 n13 n14 n15 (-1) s17 k0=(fun q=>k0 (uE q) B (uS q) (uU q) (uK q) (uN q) (uV q) (uA q 0) (uA q 1) (uA q 2) (uA q 3) (uA q 4) (uA q 5) (uA q 6) (uA q 7) (uP q) (uR q) H) (hpC name tail s3 s4 s17):=by
 cases tail with
 | nil=>
  obtain ⟨B,H,e⟩:=uplace_j0_sp name [] hn ht (.inl rfl) s3 s4 n5 s6 n7 n8 n9 n10 n11 n12 n13 n14 n15 s17
  refine ⟨B,H,fun R k0=>?_⟩
  unfold uplace_j1 hpC
  exact e R k0
 | cons b r=>
  by_cases hb:b=58
  ·subst hb
   obtain ⟨B,H,e⟩:=uplace_j0_sp name (58::r) hn ht (.inr rfl) s3 s4 n5 s6 n7 n8 n9 n10 n11 n12 n13 n14 n15 s17
   refine ⟨B,H,fun R k0=>?_⟩
   unfold uplace_j1 hpC
   rw [inR_t (by omega) (by simp),if_neg (by simp)]
   exact e R k0
  ·apply Exists.intro;apply Exists.intro;intro R k0
   unfold uplace_j1 hpC
   have hne:(((b.toNat:Int)) != (58:Int))=true:=by
    rw [bne_iff_ne]
    intro h
    have h2:b.toNat=58:=by omega
    exact hb (UInt8.toNat_inj.1 h2)
   rw [inR_t (by omega) (by simp),if_pos (by simpa using hb),bAt_zero,List.getD_cons_zero,hne]
   rfl
theorem idx_neg {c:UInt8} {s:By} (h:idx1 c s=none):Lib.indexByte s c = -1:=by rw [indexByte_idx,h]
theorem idx_pos {c:UInt8} {s:By} {k:Nat} (h:idx1 c s=some k):Lib.indexByte s c=(k:Int)∧k<s.length:=by
 obtain ⟨p,r,rfl,_,rfl⟩:=idx1_some h
 exact ⟨by rw [indexByte_idx,h],by simp⟩
theorem pre1 (c:UInt8) (s:By):([c]:By).isPrefixOf s=(s.head? == some c):=by
 cases s with
 | nil=>rfl
 | cons b r=>
  rw [show ([c]:By).isPrefixOf (b::r)=(c==b&&true) from rfl,Bool.and_true,List.head?_cons,Bool.eq_iff_iff,beq_iff_eq,beq_iff_eq]
  exact ⟨fun h=>by rw [h],fun h=>(Option.some.inj h).symm⟩
abbrev KU (R:Type):=By→By→Int→By→Int→Int→Int→Int→Int→Int→Int→Int→Int→Int→By→Int→List Blk→Option R
abbrev callU {R:Type} (k0:KU R) (q:UrlV × Nat) (H:List Blk):Option R:=k0 (uS q) (uU q) (uK q) (uN q) (uV q) (uA q 0) (uA q 1) (uA q 2) (uA q 3) (uA q 4) (uA q 5) (uA q 6) (uA q 7) (uP q) (uR q) (uE q) H
theorem uplace_sp0 (sc:By) (kd:Int) (nm:By) (v4 a0 a1 a2 a3 a4 a5 a6 a7:Int) (re a:By) (h2:small a.length=true) :
  ∃ H,∀ (R:Type) (k0:KU R),uplace LF sc [] kd nm v4 a0 a1 a2 a3 a4 a5 a6 a7 (-1) re a k0=callU k0 (placeU sc re a) H:=by
 have ha:=maxL h2
 have ge:=lastI_ge 64 a
 have key:∀ (us b:By),b.length≤1000000000→∃ H,∀ (R:Type) (k0:KU R),(cond (small (List.length b)) (cond (List.isPrefixOf (([91]:List UInt8)) b)
   (cond (small (List.length b))
    (vl (Lib.indexByte b (u8n (93:Int))) fun n'34=>
    cond (ltI n'34 (0:Int))
     (k0 ([]:List UInt8) ([]:List UInt8) 0 ([]:List UInt8) 0 0 0 0 0 0 0 0 0 0 ([]:List UInt8) 4 [(bU sc us kd nm v4 a0 a1 a2 a3 a4 a5 a6 a7 (-1) re),bU0])
     (cond (sub3 (0:Int) (wi64 (n'34+(1:Int))) (List.length b))
      (cond (sub3 (wi64 (n'34+(1:Int))) (↑(List.length b):Int) (List.length b))
       (uplace_j1 (cut b (0:Int) (wi64 (n'34+(1:Int)))) (cut b (wi64 (n'34+(1:Int))) (↑(List.length b):Int)) sc us kd nm v4 a0 a1 a2 a3 a4 a5 a6 a7 (-1) re (fun n0 B1 s2 s3 n4 s5 n6 n7 n8 n9 n10 n11 n12 n13 n14 n15 s16 H17=>k0 s2 s3 n4 s5 n6 n7 n8 n9 n10 n11 n12 n13 n14 n15 s16 n0 (B1::((bU s2 s3 n4 s5 n6 n7 n8 n9 n10 n11 n12 n13 n14 n15 s16)::H17))))
       (none))
      (none)))
    (none))
   (cond (small (List.length b))
    (vl (Lib.indexByte b (u8n (58:Int))) fun n'40=>
    cond (not (ltI n'40 (0:Int)))
     (cond (sub3 (0:Int) n'40 (List.length b))
      (cond (sub3 n'40 (↑(List.length b):Int) (List.length b))
       (uplace_j1 (cut b (0:Int) n'40) (cut b n'40 (↑(List.length b):Int)) sc us kd nm v4 a0 a1 a2 a3 a4 a5 a6 a7 (-1) re (fun n0 B1 s2 s3 n4 s5 n6 n7 n8 n9 n10 n11 n12 n13 n14 n15 s16 H17=>k0 s2 s3 n4 s5 n6 n7 n8 n9 n10 n11 n12 n13 n14 n15 s16 n0 (B1::((bU s2 s3 n4 s5 n6 n7 n8 n9 n10 n11 n12 n13 n14 n15 s16)::H17))))
      (none))
     (none))
     (uplace_j1 b ([]:List UInt8) sc us kd nm v4 a0 a1 a2 a3 a4 a5 a6 a7 (-1) re (fun n0 B1 s2 s3 n4 s5 n6 n7 n8 n9 n10 n11 n12 n13 n14 n15 s16 H17=>k0 s2 s3 n4 s5 n6 n7 n8 n9 n10 n11 n12 n13 n14 n15 s16 n0 (B1::((bU s2 s3 n4 s5 n6 n7 n8 n9 n10 n11 n12 n13 n14 n15 s16)::H17)))))
    (none))) none)=callU k0 (hostPort sc us re b) H:=by
  intro us b hb
  rw [hostPort_hpC]
  unfold nameTail
  have hsm:small b.length=true:=small_t hb
  have c93:u8n (93:Int)=93:=rfl
  have c58:u8n (58:Int)=58:=rfl
  by_cases h91:b.head? = some 91
  ·rw [if_pos h91]
   have hp:([91]:By).isPrefixOf b=true:=by rw [pre1,h91];rfl
   cases hi:idx1 93 b with
   | none=>
    apply Exists.intro;intro R k0
    rw [hsm,hp,c93,idx_neg hi]
    rfl
   | some k=>
    obtain ⟨e,hk⟩:=idx_pos hi
    have e1:wi64 ((k:Int)+1)=((k+1:Nat):Int):=by rw [wi64_id (by omega) (by omega)];rfl
    obtain ⟨B,H,e2⟩:=uplace_j1_sp (b.take (k+1)) (b.drop (k+1)) (by rw [List.length_take];omega) (by rw [List.length_drop];omega) sc us kd nm v4 a0 a1 a2 a3 a4 a5 a6 a7 re
    apply Exists.intro;intro R k0
    rw [hsm,hp,c93,e]
    simp only [vl,cond_true]
    rw [ltI_f (by omega),cond_false,e1,sub3_t (by omega) (by omega) (by omega),sub3_t (by omega) (by omega) (by omega),cond_true,cond_true,cut_zero,cut_all,Int.toNat_natCast,e2]
  ·rw [if_neg h91]
   have hp:([91]:By).isPrefixOf b=false:=by rw [pre1];simpa using h91
   cases hi:idx1 58 b with
   | none=>
    obtain ⟨B,H,e2⟩:=uplace_j1_sp b [] hb (by simp) sc us kd nm v4 a0 a1 a2 a3 a4 a5 a6 a7 re
    apply Exists.intro;intro R k0
    rw [hsm,hp,c58,idx_neg hi]
    simp only [vl,cond_true,cond_false]
    rw [ltI_t (by omega),Bool.not_true,cond_false,e2]
   | some k=>
    obtain ⟨e,hk⟩:=idx_pos hi
    obtain ⟨B,H,e2⟩:=uplace_j1_sp (b.take k) (b.drop k) (by rw [List.length_take];omega) (by rw [List.length_drop];omega) sc us kd nm v4 a0 a1 a2 a3 a4 a5 a6 a7 re
    apply Exists.intro;intro R k0
    rw [hsm,hp,c58,e]
    simp only [vl,cond_true,cond_false]
    rw [ltI_f (by omega),Bool.not_false,cond_true,sub3_t (by omega) (by omega) (by omega),sub3_t (by omega) (by omega) (by omega),cond_true,cond_true,cut_zero,cut_all,Int.toNat_natCast,e2]
 have c64:u8n (64:Int)=64:=rfl
 unfold placeU
 by_cases h:0≤lastI 64 a
 ·obtain ⟨p,r,rfl,_,hl⟩:=lastI_some h
  rw [if_pos h,hl,Int.toNat_natCast]
  rw [List.length_append,List.length_cons] at ha
  obtain ⟨H,e⟩:=key ((p++64::r).take p.length) ((p++64::r).drop (p.length+1)) (by rw [List.length_drop,List.length_append,List.length_cons];omega)
  refine ⟨H,fun R k0=>?_⟩
  refine Eq.trans ?_ (e R k0)
  have e1:wi64 ((p.length:Int)+1)=((p.length+1:Nat):Int):=by rw [wi64_id (by omega) (by omega)];rfl
  have ln:(p++64::r).length=p.length+r.length+1:=by rw [List.length_append,List.length_cons];omega
  unfold uplace
  rw [h2,c64,hl]
  simp only [vl,cond_true]
  rw [ltI_f (by omega),Bool.not_false,cond_true,e1,sub3_t (by omega) (by omega) (by omega),sub3_t (by omega) (by omega) (by omega),cond_true,cond_true,cut_zero,cut_all,Int.toNat_natCast,Int.toNat_natCast]
  rfl
 ·rw [if_neg h]
  obtain ⟨H,e⟩:=key [] a ha
  refine ⟨H,fun R k0=>?_⟩
  refine Eq.trans ?_ (e R k0)
  unfold uplace
  rw [h2,c64]
  simp only [vl,cond_true]
  rw [ltI_t (by omega),Bool.not_true,cond_false]
  rfl
def Tru (x:Option (PV × List Blk × Unit)):Prop:=∃ H,x=some (.s (.bool true),H,())
theorem eq8 {v6:List Nat} (h:v6.length=8):∃ a b c d e f g i,v6=[a,b,c,d,e,f,g,i]:=by
 match v6,h with
 | [a,b,c,d,e,f,g,i],_=>exact ⟨a,b,c,d,e,f,g,i,rfl⟩
theorem validH_name {h:HostV} (hv:validH h=true):h.name.length≤253:=by
 unfold validH at hv
 split at hv
 ·simp only [Bool.and_eq_true] at hv
  exact (validN_iff.1 hv.1.1).le
 ·split at hv
  ·simp only [Bool.and_eq_true,List.isEmpty_iff] at hv
   rw [hv.1];simp
  ·split at hv
   ·simp only [Bool.and_eq_true,List.isEmpty_iff] at hv
    rw [hv.1];simp
   ·cases hv
theorem fmtH_len {h:HostV} (ok:HostOk h):(fmtH h).length≤300:=by
 cases hv:validH h with
 | false=>rw [fmtH_bad hv];simp
 | true=>
  have hn:=validH_name hv
  have h6:=v6_len _ ok.v6.1 ok.v6.2
  have h4:=v4_len _ ok.v4
  unfold fmtH
  rw [if_pos hv]
  split
  ·omega
  ·split
   ·omega
   ·simp only [List.length_cons,List.length_append,List.length_nil];omega
theorem eq_self (n:Int):(n==n)=true:=beq_self_eq_true n
theorem eqB_self (n:By):(n==n)=true:=beq_self_eq_true n
theorem host_mk {h0 h2 h3 h4 h5 h6 h7 h8 h9 h10:Int} {h1:By} (k2:ltN h2 4294967296=true) (k8:ok8 h3 h4 h5 h6 h7 h8 h9 h10=true):HostOk (mkH h0 h1 h2 (n8 h3 h4 h5 h6 h7 h8 h9 h10)):=by
 have ⟨q1,q2⟩:=ltN_iff.1 k2
 refine ⟨by show h2.toNat<_;omega,n8_ok k8,?_⟩
 show (if ltN h0 4 then h0.toNat else 0)<4
 split
 ·rename_i h
  have:=ltN_iff.1 h
  omega
 ·omega
theorem uplace_sp (sc us:By) (kd:Int) (nm:By) (v4 a0 a1 a2 a3 a4 a5 a6 a7 po:Int) (re a:By) (h0:small sc.length=true) (h1:small re.length=true) (h2:small a.length=true) (h3:us.isEmpty=true) (h4:(po == -1)=true) :
  ∃ r H,uplace LF sc us kd nm v4 a0 a1 a2 a3 a4 a5 a6 a7 po re a (fun s0 s1 n2 s3 n4 n5 n6 n7 n8 n9 n10 n11 n12 n13 s14 n15 H16=>rv (.tup [gU s0 s1 n2 s3 n4 n5 n6 n7 n8 n9 n10 n11 n12 n13 s14,.s (.int .i64 n15)]) H16)=rv r H∧
   r.stab [0,0] H=(fun q=>.tup [gU (uS q) (uU q) (uK q) (uN q) (uV q) (uA q 0) (uA q 1) (uA q 2) (uA q 3) (uA q 4) (uA q 5) (uA q 6) (uA q 7) (uP q) (uR q),.s (.int .i64 (uE q))]) (placeU sc re a):=by
 obtain rfl:=List.isEmpty_iff.1 h3
 obtain rfl:po = -1:=by simpa using h4
 obtain ⟨H,e⟩:=uplace_sp0 sc kd nm v4 a0 a1 a2 a3 a4 a5 a6 a7 re a h2
 exact ⟨_,_,e _ _,rfl⟩
theorem ctl_nat (b:UInt8):ctl b=(!ltI 32 (b.toNat:Int) || ((b.toNat:Int)==127)):=by
 rw [Bool.eq_iff_iff,ctl_iff,Bool.or_eq_true,Bool.not_eq_true',ltI_niff,beq_iff_eq]
 omega
theorem uprs_loop {R:Type} {k0:List Blk→Option R} {k1:By→Option R} (s:By) (hs:s.length≤1000000000):∀ (r i n:Nat),i+r=s.length→r<n→
  uprs_l0 LF n s (s.length:Int) (i:Int) k0 k1=if (s.drop i).any ctl then k0 [] else k1 s:=by
 intro r
 induction r with
 | zero=>
  intro i n hi hn
  obtain ⟨n,rfl⟩:∃ m,n=m+1:=⟨n-1,by omega⟩
  rw [uprs_l0_s]
  unfold uprs_l0f
  rw [ltI_f (by omega),List.drop_of_length_le (by omega)]
  rfl
 | succ r ih=>
  intro i n hi hn
  obtain ⟨n,rfl⟩:∃ m,n=m+1:=⟨n-1,by omega⟩
  have e1:wi64 ((i:Int)+1)=((i+1:Nat):Int):=by rw [wi64_id (by omega) (by omega)];rfl
  rw [uprs_l0_s]
  unfold uprs_l0f
  rw [ltI_t (by omega),inR_t (by omega) (by omega),bAt_nat,drop_cons s i (by omega),e1,List.any_cons,ctl_nat]
  simp only [cond_true]
  rw [ih (i+1) n (by omega) (by omega)]
  cases ltI 32 ((s.getD i 0).toNat:Int) with
  | false=>rfl
  | true=>cases (((s.getD i 0).toNat:Int)==127)<;>rfl
theorem uprs_sp0 (s:By) (h0:small s.length=true):∃ H,∀ (R:Type) (k0:KU R),uprs LF s k0=callU k0 (parseU0 s) H:=by
 have hs:=maxL h0
 have hLF:=LF_big
 have L:∀ {R:Type} (k0:List Blk→Option R) (k1:By→Option R),uprs_l0 LF LF s (s.length:Int) 0 k0 k1=if s.any ctl then k0 [] else k1 s:=fun k0 k1=>uprs_loop s hs s.length 0 LF (by omega) (by omega)
 unfold parseU0
 by_cases hc:s.any ctl=true
 ·rw [if_pos hc]
  apply Exists.intro;intro R k0
  unfold uprs
  rw [L,if_pos hc]
  rfl
 rw [if_neg hc]
 rcases split_first 58 s with h58 | ⟨p,r,rfl,h58⟩
 ·apply Exists.intro;intro R k0
  unfold uprs
  rw [L,if_neg hc,h0,cutc_none h58]
  rfl
 have ln:(p++58::r).length=p.length+r.length+1:=by rw [List.length_append,List.length_cons];omega
 have sp:small p.length=true:=small_t (by omega)
 have sr:small r.length=true:=small_t (by omega)
 rw [cutc_app h58]
 simp only [Bool.not_true,Bool.false_or]
 cases hsch:schemeB p with
 | false=>
  apply Exists.intro;intro R k0
  unfold uprs
  rw [L,if_neg hc,h0,cutc_app h58]
  simp only [vl,cond_true,Bool.not_true,cond_false]
  rw [sp,hsch]
  rfl
 | true=>
 rw [if_neg (by simp)]
 cases hspc:special (lower p) with
 | false=>
  apply Exists.intro;intro R k0
  unfold uprs
  rw [L,if_neg hc,h0,cutc_app h58]
  simp only [vl,cond_true,Bool.not_true,cond_false]
  rw [sp,hsch,hspc]
  rfl
 | true=>
 rw [if_neg (by simp)]
 cases hpre:([47,47]:By).isPrefixOf r with
 | false=>
  apply Exists.intro;intro R k0
  unfold uprs
  rw [L,if_neg hc,h0,cutc_app h58]
  simp only [vl,cond_true,Bool.not_true,cond_false]
  rw [sp,hsch,hspc,sr,hpre]
  rfl
 | true=>
 rw [if_neg (by simp)]
 have hcp:cutp r [47,47]=r.drop 2:=by unfold cutp;rw [hpre,if_pos rfl];rfl
 generalize ht:r.drop 2=t
 rw [ht] at hcp
 have lt:t.length≤r.length:=by rw [←ht,List.length_drop];omega
 have st:small t.length=true:=small_t (by omega)
 have hsp:=spanU_le t
 have sl:small (lower p).length=true:=by rw [lower_len];exact sp
 have tail:∀ (R:Type) (k0:KU R) (X au:By),X.length≤t.length→au.length≤t.length→
   (cond (small (List.length X))
    (cond (not (List.isPrefixOf (([47]:List UInt8)) X))
     (cond (catOk 1 (List.length X))
     (cond (small (List.length (lower p)))
      (cond (small (List.length (([47]:List UInt8)++X)))
       (cond (small (List.length au))
       (cond (((-1):Int)==((-1):Int))
        (callU k0 (placeU (lower p) (([47]:List UInt8)++X) au) ((fun q=>[bU (uS q) (uU q) (uK q) (uN q) (uV q) (uA q 0) (uA q 1) (uA q 2) (uA q 3) (uA q 4) (uA q 5) (uA q 6) (uA q 7) (uP q) (uR q),bU (lower p) [] 0 [] 0 0 0 0 0 0 0 0 0 (-1) (([47]:List UInt8)++X)]) (placeU (lower p) (([47]:List UInt8)++X) au)))
        (none))
       (none))
       (none))
      (none))
     (none))
     (cond (small (List.length (lower p)))
     (cond (small (List.length X))
      (cond (small (List.length au))
      (cond (((-1):Int)==((-1):Int))
       (callU k0 (placeU (lower p) X au) ((fun q=>[bU (uS q) (uU q) (uK q) (uN q) (uV q) (uA q 0) (uA q 1) (uA q 2) (uA q 3) (uA q 4) (uA q 5) (uA q 6) (uA q 7) (uP q) (uR q),bU (lower p) [] 0 [] 0 0 0 0 0 0 0 0 0 (-1) X]) (placeU (lower p) X au)))
       (none))
      (none))
      (none))
     (none)))
    none)=callU k0 (placeU (lower p) (slashed X) au) ((fun q=>[bU (uS q) (uU q) (uK q) (uN q) (uV q) (uA q 0) (uA q 1) (uA q 2) (uA q 3) (uA q 4) (uA q 5) (uA q 6) (uA q 7) (uP q) (uR q),bU (lower p) [] 0 [] 0 0 0 0 0 0 0 0 0 (-1) (slashed X)]) (placeU (lower p) (slashed X) au)):=by
  intro R k0 X au hX hau
  rw [small_t (by omega),sl,pre1,small_t (n:=au.length) (by omega)]
  unfold slashed
  by_cases h47:X.head? = some 47
  ·rw [if_pos h47,h47]
   rfl
  ·have e:(X.head? == some 47)=false:=by simpa using h47
   rw [if_neg h47,e,catOk_t (by omega),small_t (by simp;omega)]
   rfl
 refine ⟨(fun X=>(fun q=>[bU (uS q) (uU q) (uK q) (uN q) (uV q) (uA q 0) (uA q 1) (uA q 2) (uA q 3) (uA q 4) (uA q 5) (uA q 6) (uA q 7) (uP q) (uR q),bU (lower p) [] 0 [] 0 0 0 0 0 0 0 0 0 (-1) (slashed X)]) (placeU (lower p) (slashed X) (t.take (spanU t)))) (t.drop (spanU t)),fun R k0=>?_⟩
 refine Eq.trans ?_ (tail R k0 (t.drop (spanU t)) (t.take (spanU t)) (by rw [List.length_drop];omega) (by rw [List.length_take];omega))
 unfold uprs
 rw [L,if_neg hc,h0,cutc_app h58]
 simp only [vl,cond_true,Bool.not_true,cond_false]
 rw [sp,hsch,hspc,sr,hpre,hcp,st]
 rw [show isSl ([47,63,35]:List UInt8)=true from rfl,show ([47,63,35]:List UInt8)=isl from rfl,indexAny_span]
 simp only [cond_true,Bool.not_true,cond_false]
 by_cases hlt:spanU t<t.length
 ·rw [if_pos hlt,ltI_f (by omega),Bool.not_false,cond_true,cut_zero,Int.toNat_natCast,List.length_take,Nat.min_eq_left (by omega),sub3_t (by omega) (by omega) (by omega),sub3_t (by omega) (by omega) (by omega),cut_all,Int.toNat_natCast]
  rfl
 ·have he:spanU t=t.length:=by omega
  rw [if_neg hlt,ltI_t (by omega),Bool.not_true,cond_false,sub3_t (by omega) (by omega) (by omega),cut_all,Int.toNat_natCast,he,List.take_length,st]
  rfl
abbrev rvU (s0 s1:By) (n2:Int) (s3:By) (n4 n5 n6 n7 n8 n9 n10 n11 n12 n13:Int) (s14:By) (n15:Int) (H16:List Blk):=rv (.tup [gU s0 s1 n2 s3 n4 n5 n6 n7 n8 n9 n10 n11 n12 n13 s14,.s (.int .i64 n15)]) H16
abbrev pvU (q:UrlV × Nat):PV:=.tup [gU (uS q) (uU q) (uK q) (uN q) (uV q) (uA q 0) (uA q 1) (uA q 2) (uA q 3) (uA q 4) (uA q 5) (uA q 6) (uA q 7) (uP q) (uR q),.s (.int .i64 (uE q))]
theorem uprs_sp (s:By) (h0:small s.length=true):∃ r H,uprs LF s rvU=rv r H∧r.stab [0,0] H=pvU (parseU0 s):=by
 obtain ⟨H,e⟩:=uprs_sp0 s h0
 exact ⟨_,_,e _ _,rfl⟩
theorem uparse_sp (s:By) (h0:small s.length=true):∃ r H,uparse LF s rvU=rv r H∧r.stab [0,0] H=pvU (parseU s):=by
 unfold uparse parseU
 by_cases h:2048<s.length
 ·rw [ltI_t (by omega),if_pos h]
  exact ⟨_,_,rfl,rfl⟩
 ·rw [ltI_f (by omega),if_neg h,h0]
  exact ⟨_,_,rfl,rfl⟩
theorem dec_bound:∀ (k u:Nat),0<k→u<10 ^ k→(Lib.decDigits u).length≤k
 | 0,u,h,_=>by omega
 | k+1,u,_,h=>by
  by_cases h1:u<10
  ·rw [Lib.decDigits_one h1];simp
  ·rw [decDigits_eq2 u h1,List.length_append,List.length_singleton]
   have hk:0<k:=by
    rcases Nat.eq_zero_or_pos k with rfl | hk
    ·rw [Nat.zero_add,Nat.pow_one] at h;omega
    ·exact hk
   have:=dec_bound k (u / 10) hk (by rw [Nat.pow_succ] at h;omega)
   omega
theorem itoaI_len {p:Int} (h:i64b p=true):(itoaI p).length≤20:=by
 obtain ⟨h1,h2⟩:=i64b_iff.1 h
 unfold itoaI
 split
 ·have:=dec_bound 19 (-p).toNat (by omega) (by omega)
  rw [List.length_cons]
  omega
 ·have:=dec_bound 19 p.toNat (by omega) (by omega)
  omega
theorem fmtH4 (kd:Int) (nm:By) (v4:Int) (a:List Nat):fmtH (mkH kd nm v4 a)=fmtH (mkH4 kd nm v4 a):=by
 unfold mkH mkH4
 cases h:ltN kd 4 with
 | true=>rfl
 | false=>
  rw [if_neg (by simp),if_neg (by simp),fmtH_bad (by rfl),fmtH_bad (by rfl)]
theorem smU_iff {sc us nm re:By} (h:smU sc us nm re=true):sc.length≤100000000∧us.length≤100000000∧nm.length≤100000000∧re.length≤100000000:=by
 simp only [smU,Bool.and_eq_true,Nat.ble_eq,and_assoc] at h
 exact h
theorem textU_len {sc us:By} {kd:Int} {nm:By} {v4 a0 a1 a2 a3 a4 a5 a6 a7 po:Int} {re:By} (h0:smU sc us nm re=true) (h1:ltN v4 4294967296=true) (h2:ok8 a0 a1 a2 a3 a4 a5 a6 a7=true) (h3:i64b po=true) :
  (textU (mkU sc us kd nm v4 (n8 a0 a1 a2 a3 a4 a5 a6 a7) po re)).length≤400000000:=by
 obtain ⟨l1,l2,l3,l4⟩:=smU_iff h0
 have hf:=fmtH_len (host_mk (h0:=kd) (h1:=nm) h1 h2)
 rw [fmtH4] at hf
 have hi:=itoaI_len h3
 unfold textU mkU authU
 simp only
 split
 ·split<;>split<;>simp only [List.length_append,List.length_cons,List.length_nil]<;>omega
 ·simp only [List.length_append,List.length_cons]
  omega
theorem utext_sp (sc us:By) (kd:Int) (nm:By) (v4 a0 a1 a2 a3 a4 a5 a6 a7 po:Int) (re:By) (h0:smU sc us nm re=true) (h1:ltN v4 4294967296=true) (h2:ok8 a0 a1 a2 a3 a4 a5 a6 a7=true) (h3:i64b po=true) :
  ∃ r H,utext LF sc us kd nm v4 a0 a1 a2 a3 a4 a5 a6 a7 po re (fun r0 H1=>rv (.s (.str r0)) H1)=rv r H∧r.stab [] H = .s (.str (textU (mkU sc us kd nm v4 (n8 a0 a1 a2 a3 a4 a5 a6 a7) po re))):=by
 obtain ⟨l1,l2,l3,l4⟩:=smU_iff h0
 have hf:=fmtH_len (host_mk (h0:=kd) (h1:=nm) h1 h2)
 have hi:=itoaI_len h3
 have key:∀ T:By,utext LF sc us kd nm v4 a0 a1 a2 a3 a4 a5 a6 a7 po re (fun r0 H1=>rv (.s (.str r0)) H1)=rv (.s (.str T)) [bU sc us kd nm v4 a0 a1 a2 a3 a4 a5 a6 a7 po re]→T=textU (mkU sc us kd nm v4 (n8 a0 a1 a2 a3 a4 a5 a6 a7) po re)→∃ r H,utext LF sc us kd nm v4 a0 a1 a2 a3 a4 a5 a6 a7 po re (fun r0 H1=>rv (.s (.str r0)) H1)=rv r H∧r.stab [] H = .s (.str (textU (mkU sc us kd nm v4 (n8 a0 a1 a2 a3 a4 a5 a6 a7) po re))):=fun T e1 e2=>⟨_,_,e1,by rw [←e2];rfl⟩
 have sn:small nm.length=true:=small_t (by omega)
 cases hs:special sc with
 | false=>
  refine key (sc++[58]++re) ?_ ?_
  ·unfold utext
   rw [hs,catOk_t (by omega)]
   simp only [vl,cond_true,Bool.not_false]
   rw [catOk_t (by simp;omega)]
   rfl
  ·unfold textU mkU
   simp only [hs]
   simp
 | true=>
  have hF:=hf
  by_cases hu:us=[]
  ·subst hu
   have e0:(([]:By)==([]:List UInt8))=true:=rfl
   by_cases hp:po = -1
   ·subst hp
    refine key (((sc++[58,47,47])++fmtH (mkH kd nm v4 (n8 a0 a1 a2 a3 a4 a5 a6 a7)))++re) ?_ ?_
    ·unfold utext
     rw [hs,sn,h1,h2,e0]
     simp only [vl,cond_true,cond_false,Bool.not_true,show ((-1:Int) != -1)=false from rfl]
     repeat rw [catOk_t (by first | omega | (simp only [List.length_append,List.length_cons,List.length_nil];omega))]
     rfl
    ·unfold textU mkU authU
     simp [hs,fmtH4]
   ·refine key (((sc++[58,47,47])++fmtH (mkH kd nm v4 (n8 a0 a1 a2 a3 a4 a5 a6 a7)))++([58]++itoaI po)++re) ?_ ?_
    ·unfold utext
     rw [hs,sn,h1,h2,h3,e0]
     simp only [vl,cond_true,cond_false,Bool.not_true,show (po != -1)=true by simpa using hp]
     repeat rw [catOk_t (by first | omega | (simp only [List.length_append,List.length_cons,List.length_nil];omega))]
     rfl
    ·unfold textU mkU authU
     simp [hs,fmtH4,hp]
  ·have e0:(us==([]:List UInt8))=false:=by simpa using hu
   by_cases hp:po = -1
   ·subst hp
    refine key (((sc++[58,47,47])++(us++[64])++fmtH (mkH kd nm v4 (n8 a0 a1 a2 a3 a4 a5 a6 a7)))++re) ?_ ?_
    ·unfold utext
     rw [hs,sn,h1,h2,e0]
     simp only [vl,cond_true,cond_false,Bool.not_true,Bool.not_false,show ((-1:Int) != -1)=false from rfl]
     repeat rw [catOk_t (by first | omega | (simp only [List.length_append,List.length_cons,List.length_nil];omega))]
     rfl
    ·unfold textU mkU authU
     simp [hs,fmtH4,hu]
   ·refine key (((sc++[58,47,47])++(us++[64])++fmtH (mkH kd nm v4 (n8 a0 a1 a2 a3 a4 a5 a6 a7)))++([58]++itoaI po)++re) ?_ ?_
    ·unfold utext
     rw [hs,sn,h1,h2,h3,e0]
     simp only [vl,cond_true,cond_false,Bool.not_true,Bool.not_false,show (po != -1)=true by simpa using hp]
     repeat rw [catOk_t (by first | omega | (simp only [List.length_append,List.length_cons,List.length_nil];omega))]
     rfl
    ·unfold textU mkU authU
     simp [hs,fmtH4,hp,hu]
theorem kind_eq {kd:Int} {k:Nat} (hk:k<4):(kd==(k:Int))=(k==(if ltN kd 4 then kd.toNat else 4)):=by
 rw [Bool.eq_iff_iff,beq_iff_eq,beq_iff_eq]
 cases h:ltN kd 4 with
 | true=>
  obtain ⟨h1,h2⟩:=ltN_iff.1 h
  rw [if_pos rfl]
  omega
 | false=>
  rw [if_neg (by simp)]
  have:¬ (0≤kd∧kd<4):=fun q=>by
   have:=ltN_iff.2 q
   rw [h] at this
   cases this
  omega
theorem by_sym (a b:By):(a==b)=(b==a):=by
 rw [Bool.eq_iff_iff,beq_iff_eq,beq_iff_eq]
 exact eq_comm
theorem int_sym (a b:Int):(a==b)=(b==a):=by
 rw [Bool.eq_iff_iff,beq_iff_eq,beq_iff_eq]
 exact eq_comm
theorem nat_sym (a b:Nat):((a:Int)==(b:Int))=(b==a):=by
 rw [Bool.eq_iff_iff,beq_iff_eq,beq_iff_eq]
 omega
theorem cells_eqU {sc us:By} {kd:Int} {nm:By} {v4 a0 a1 a2 a3 a4 a5 a6 a7 po:Int} {re:By} {p:UrlV × Nat} (h1:ltN v4 4294967296=true) (h2:ok8 a0 a1 a2 a3 a4 a5 a6 a7=true) (hp:UrlOk p.1) :
  ((sc==(uS p))&&((us==(uU p))&&((kd==(uK p))&&((nm==(uN p))&&((v4==(uV p))&&((a0==(uA p 0))&&((a1==(uA p 1))&&((a2==(uA p 2))&&((a3==(uA p 3))&&((a4==(uA p 4))&&((a5==(uA p 5))&&((a6==(uA p 6))&&((a7==(uA p 7))&&((po==(uP p))&&((re==(uR p))&&true)))))))))))))))=eqU p.1 (mkU sc us kd nm v4 (n8 a0 a1 a2 a3 a4 a5 a6 a7) po re):=by
 obtain ⟨⟨s,u,⟨k,n,v,l⟩,q,t⟩,e⟩:=p
 obtain ⟨ho,_⟩:=hp
 obtain ⟨b0,b1,b2,b3,b4,b5,b6,b7,rfl⟩:=eq8 ho.v6.1
 obtain ⟨c0,c1,c2,c3,c4,c5,c6,c7,rfl,rfl,rfl,rfl,rfl,rfl,rfl,rfl,_⟩:=ok8_iff h2
 obtain ⟨w,rfl⟩:=Int.eq_ofNat_of_zero_le (ltN_iff.1 h1).1
 have hk:k<4:=ho.kd
 have hl:(([b0,b1,b2,b3,b4,b5,b6,b7]:List Nat)==[c0,c1,c2,c3,c4,c5,c6,c7])=((b0==c0)&&((b1==c1)&&((b2==c2)&&((b3==c3)&&((b4==c4)&&((b5==c5)&&((b6==c6)&&((b7==c7)&&true)))))))):=rfl
 simp only [eqU,eqH,mkU,mkH4,n8,Int.toNat_natCast,hl,List.getD_cons_zero,List.getD_cons_succ]
 rw [kind_eq hk,by_sym sc,by_sym us,by_sym nm,by_sym re,int_sym po,nat_sym w,nat_sym c0,nat_sym c1,nat_sym c2,nat_sym c3,nat_sym c4,nat_sym c5,nat_sym c6,nat_sym c7]
 simp only [Bool.and_assoc,Bool.and_true]
 rfl
theorem uvalidU_sp (sc us:By) (kd:Int) (nm:By) (v4 a0 a1 a2 a3 a4 a5 a6 a7 po:Int) (re:By) (h0:smU sc us nm re=true) (h1:ltN v4 4294967296=true) (h2:ok8 a0 a1 a2 a3 a4 a5 a6 a7=true) (h3:i64b po=true) :
  ∃ r H,uvalidU LF sc us kd nm v4 a0 a1 a2 a3 a4 a5 a6 a7 po re (fun r0 H1=>rv (.s (.bool r0)) H1)=rv r H∧r.stab [] H = .s (.bool (validU (mkU sc us kd nm v4 (n8 a0 a1 a2 a3 a4 a5 a6 a7) po re))):=by
 have hl:=textU_len (kd:=kd) h0 h1 h2 h3
 unfold uvalidU validU
 rw [h0,h1,h2,h3]
 simp only [vl,cond_true]
 rw [small_t (by omega),cond_true]
 have hp:=parse_ok (textU (mkU sc us kd nm v4 (n8 a0 a1 a2 a3 a4 a5 a6 a7) po re))
 rw [cells_eqU h1 h2 hp]
 generalize parseU0 (textU (mkU sc us kd nm v4 (n8 a0 a1 a2 a3 a4 a5 a6 a7) po re))=p
 obtain ⟨p1,e⟩:=p
 by_cases he:e=0
 ·subst he
  exact ⟨_,_,rfl,rfl⟩
 ·rw [show (uE (p1,e)==(0:Int))=false by simpa using he,show (e==0)=false by simpa using he]
  exact ⟨_,_,rfl,rfl⟩
theorem ufmt_sp (sc us:By) (kd:Int) (nm:By) (v4 a0 a1 a2 a3 a4 a5 a6 a7 po:Int) (re:By) (h0:smU sc us nm re=true) (h1:ltN v4 4294967296=true) (h2:ok8 a0 a1 a2 a3 a4 a5 a6 a7=true) (h3:i64b po=true) :
  ∃ r H,ufmt LF sc us kd nm v4 a0 a1 a2 a3 a4 a5 a6 a7 po re (fun r0 H1=>rv (.s (.str r0)) H1)=rv r H∧r.stab [] H = .s (.str (fmtU (mkU sc us kd nm v4 (n8 a0 a1 a2 a3 a4 a5 a6 a7) po re))):=by
 unfold ufmt fmtU
 rw [h0,h1,h2,h3]
 cases validU (mkU sc us kd nm v4 (n8 a0 a1 a2 a3 a4 a5 a6 a7) po re) with
 | false=>exact ⟨_,_,rfl,rfl⟩
 | true=>exact ⟨_,_,rfl,rfl⟩
theorem eqQH_self (p q:UrlV × Nat) (h:p.1=q.1) (r:Bool):eqQH p q r=r:=by
 obtain ⟨u,e⟩:=p
 obtain ⟨v,f⟩:=q
 obtain rfl:u=v:=h
 simp only [eqQH,beq_self_eq_true,Bool.true_and]
theorem luc_loop {R:Type} {a b:Int} {k0:By→Int→Int→Int→Option R} (s:By) (hs:s.length≤1000000000):∀ (r i n:Nat),i+r=s.length→r<n→
  luc_l0 LF n s a b (i:Int) k0=k0 s a b ((i+((s.drop i).takeWhile fun b=>b != 58).length:Nat):Int):=by
 intro r
 induction r with
 | zero=>
  intro i n hi hn
  obtain ⟨n,rfl⟩:∃ m,n=m+1:=⟨n-1,by omega⟩
  rw [luc_l0_s]
  unfold luc_l0f
  rw [ltI_f (by omega),List.drop_of_length_le (by omega)]
  rfl
 | succ r ih=>
  intro i n hi hn
  obtain ⟨n,rfl⟩:∃ m,n=m+1:=⟨n-1,by omega⟩
  have e1:wi64 ((i:Int)+1)=((i+1:Nat):Int):=by rw [wi64_id (by omega) (by omega)];rfl
  rw [luc_l0_s]
  unfold luc_l0f
  rw [ltI_t (by omega),inR_t (by omega) (by omega),bAt_nat,drop_cons s i (by omega),e1]
  simp only [cond_true]
  rw [ih (i+1) n (by omega) (by omega)]
  by_cases h:s.getD i 0=58
  ·rw [h];rfl
  ·have h1:(((s.getD i 0).toNat:Int) != 58)=true:=by
    simp only [bne_iff_ne,ne_eq]
    intro e
    exact h (UInt8.toNat_inj.1 (by show _=58;omega))
   have h2:(s.getD i 0 != 58)=true:=by simpa using h
   rw [h1,List.takeWhile_cons,h2]
   simp only [cond_true,if_true,List.length_cons]
   congr 2
   omega
theorem luc_true (s:By) (a b:Int) (hb:0≤b):Tru (evC (c_luc LF) 1 Unit noY 5 [.s (.str s),.s (.int .i64 a),.s (.int .u8 b)] [] ()):=by
 refine Eq.subst (motive:=Tru) (luc_ev (σ:=Unit) LF noY () 0 s a b).symm ?_
 unfold luc
 by_cases c1:(1000:Int)<s.length
 ·rw [ltI_t c1];exact ⟨_,rfl⟩
 rw [ltI_f (by omega),cond_false]
 have hLF:=LF_big
 have L:∀ {R:Type} (k0:By→Int→Int→Int→Option R),luc_l0 LF LF s a b 0 k0=k0 s a b ((s.takeWhile fun b=>b != 58).length:Int):=fun k0=>(luc_loop s (by omega) s.length 0 LF (by omega) (by omega)).trans (by rw [List.drop_zero,Nat.zero_add])
 rw [L]
 clear L
 have hcase:=case_law s
 have hctl:=@ctl_law s (by omega)
 have hk:(s.takeWhile fun b=>b != 58).length≤s.length:=List.Sublist.length_le (List.takeWhile_sublist _)
 generalize (s.takeWhile fun b=>b != 58).length=k at *
 have hl:=lower_len (s.take k)
 rw [List.length_take] at hl
 have e0:wi64 ((s.length:Int)+1)=(s.length:Int)+1:=wi64_id (by omega) (by omega)
 have m1:=Int.emod_nonneg a (show (s.length:Int)+1≠0 by omega)
 have m2:=Int.emod_lt_of_pos a (show (0:Int)<(s.length:Int)+1 by omega)
 have t1:=Int.tmod_nonneg 33 hb
 have t2:=Int.tmod_lt_of_pos b (show (0:Int)<33 by omega)
 generalize Int.tmod b 33=t at *
 obtain ⟨i,hi⟩:∃ i:Nat,Int.emod a ((s.length:Int)+1)=(i:Int):=⟨_,(Int.toNat_of_nonneg m1).symm⟩
 have hi2:i≤s.length:=by have:(a % ((s.length:Int)+1))=(i:Int):=hi;omega
 obtain ⟨c,rfl⟩:∃ c:Nat,t=(c:Int):=⟨_,(Int.toNat_of_nonneg t1).symm⟩
 have hu:List.map elU8 [[SV.int .u8 (c:Int)]]=[UInt8.ofNat c]:=rfl
 have hun:(UInt8.ofNat c).toNat≤32:=by rw [UInt8.toNat_ofNat'];omega
 have hu2:List.all [[SV.int .u8 (c:Int)]] isU8=true:=by
  simp only [List.all_cons,List.all_nil,isU8,Bool.and_true,Bool.and_eq_true,decide_eq_true_eq]
  omega
 have hc:=hctl i hun
 simp only [vl,e0]
 simp only [hi,hu,hu2]
 rw [small_t (by omega),cut_zero,cut_zero,cut_all,cut_all]
 simp only [Int.toNat_natCast]
 rw [sub3_t (by omega) (by omega) (by omega),sub3_t (by omega) (by omega) (by omega),sub3_t (by omega) (by omega) (by omega),sub3_t (by omega) (by omega) (by omega)]
 rw [small_t (by rw [List.length_take];omega),catOk_t (by rw [hl,List.length_drop];omega),small_t (by rw [List.length_append,hl,List.length_drop];omega),hcase,eqQH_self _ _ rfl]
 rw [ltI_t (by omega),ltN_t (by omega) (by omega),catOk_t (by rw [List.length_take,List.length_singleton];omega),catOk_t (by rw [List.length_append,List.length_take,List.length_singleton,List.length_drop];omega),small_t (by rw [List.length_append,List.length_append,List.length_take,List.length_singleton,List.length_drop];omega)]
 simp only [cond_true,beq_self_eq_true,Bool.and_true,Bool.not_true,cond_false,bne_self_eq_false,eq_self,eqB_self]
 rw [show (uE (parseU (s.take i++[UInt8.ofNat c]++s.drop i))==(4:Int))=true by show (((parseU (s.take i++[UInt8.ofNat c]++s.drop i)).2:Int)==4)=true;rw [hc];rfl]
 exact ⟨_,rfl⟩
theorem luc_law (args:List PV) (h:ArgsOf Tryz.prog [9,3,5] args):∃ d Hc,evC (c_luc LF) d Unit noY 5 args [] ()=some (.s (.bool true),Hc,()):=by
 obtain ⟨v1,q1,rfl,h1,v2,q2,rfl,h2,v3,q3,rfl,h3,rfl⟩:=h
 obtain ⟨s,rfl,_⟩:=arg_str h1 (by kernel_rfl) (by kernel_rfl)
 obtain ⟨a,rfl,_⟩:=arg_int (k:=.i64) h2 (by kernel_rfl) (by kernel_rfl)
 obtain ⟨b,rfl,hb,_⟩:=arg_int (k:=.u8) h3 (by kernel_rfl) (by kernel_rfl)
 obtain ⟨H,e⟩:=luc_true s a b hb
 exact ⟨1,H,e⟩
end Go.Proofs.YtcfingekgbbclaaGreatDoor.E
namespace Go.Proofs.YtcfingekgbbclaaGreatDoor.E
open Go Go.Proofs 
set_option linter.unusedVariables false
set_option maxRecDepth 100000
section
theorem x_explode:XFact Tryz.prog GX 165 X_explode:=fun args ret Hc h=>by
 have:trRes (X_explode args)=none:=by unfold X_explode X_explode0;split<;>rfl
 rw [this] at h;cases h
theorem x_lpre:XFact Tryz.prog GX 79 X_lpre:=by
 refine XFact.fix (pf:=X_lpre0) _ (xfact_of_stab [] (C₀:=c_lpre LF) (XFacts.ok (l:=[]) rfl trivial) (okFns_of rfl (by kernel_rfl)) follows ?_)
 intro args ret Hc h
 unfold X_lpre0 at h
 split at h
 ·rename_i s p
  obtain ⟨h0,h⟩:=tr_need h
  obtain ⟨rfl,rfl⟩:=tr_ret h
  have e:=(lpre_ev LF noY () 0 s p).trans (lpre_spec s p h0)
  exact ⟨rfl,rfl,rfl,1,_,_,e,rfl⟩
 ·cases h
theorem x_hpre:XFact Tryz.prog GX 59 X_hpre:=by
 refine XFact.fix (pf:=X_hpre0) _ (xfact_of_stab [] (C₀:=c_hpre LF) (XFacts.ok (l:=[(79,X_lpre)]) rfl ⟨x_lpre,trivial⟩) (okFns_of rfl (by kernel_rfl)) follows ?_)
 intro args ret Hc h
 unfold X_hpre0 at h
 split at h
 ·rename_i s p
  obtain ⟨h0,h⟩:=tr_need h
  obtain ⟨rfl,rfl⟩:=tr_ret h
  have e:=(hpre_ev LF noY () 0 s p).trans (hpre_spec s p h0)
  exact ⟨rfl,rfl,rfl,1,_,_,e,rfl⟩
 ·cases h
theorem x_lsuf:XFact Tryz.prog GX 93 X_lsuf:=by
 refine XFact.fix (pf:=X_lsuf0) _ (xfact_of_stab [] (C₀:=c_lsuf LF) (XFacts.ok (l:=[]) rfl trivial) (okFns_of rfl (by kernel_rfl)) follows ?_)
 intro args ret Hc h
 unfold X_lsuf0 at h
 split at h
 ·rename_i s p
  obtain ⟨h0,h⟩:=tr_need h
  obtain ⟨rfl,rfl⟩:=tr_ret h
  have e:=(lsuf_ev LF noY () 0 s p).trans (lsuf_spec s p h0)
  exact ⟨rfl,rfl,rfl,1,_,_,e,rfl⟩
 ·cases h
theorem x_ltsuf:XFact Tryz.prog GX 137 X_ltsuf:=by
 refine XFact.fix (pf:=X_ltsuf0) _ (xfact_of_stab [] (C₀:=c_ltsuf LF) (XFacts.ok (l:=[(93,X_lsuf)]) rfl ⟨x_lsuf,trivial⟩) (okFns_of rfl (by kernel_rfl)) follows ?_)
 intro args ret Hc h
 unfold X_ltsuf0 at h
 split at h
 ·rename_i s p
  obtain ⟨h0,h⟩:=tr_need h
  obtain ⟨rfl,rfl⟩:=tr_ret h
  have e:=(ltsuf_ev LF noY () 0 s p).trans (ltsuf_spec s p h0)
  exact ⟨rfl,rfl,rfl,1,_,_,e,rfl⟩
 ·cases h
theorem x_tsufc:XFact Tryz.prog GX 107 X_tsufc:=by
 refine XFact.fix (pf:=X_tsufc0) _ (xfact_of_stab [] (C₀:=c_tsufc LF) (XFacts.ok (l:=[(137,X_ltsuf)]) rfl ⟨x_ltsuf,trivial⟩) (okFns_of rfl (by kernel_rfl)) follows ?_)
 intro args ret Hc h
 unfold X_tsufc0 at h
 split at h
 ·rename_i s p
  obtain ⟨h0,h⟩:=tr_need h
  obtain ⟨rfl,rfl⟩:=tr_ret h
  have e:=(tsufc_ev LF noY () 0 s p).trans (tsufc_spec s p h0)
  exact ⟨rfl,rfl,rfl,1,_,_,e,rfl⟩
 ·cases h
theorem x_lcpre:XFact Tryz.prog GX 74 X_lcpre:=by
 refine XFact.fix (pf:=X_lcpre0) _ (xfact_of_stab [0,0] (C₀:=c_lcpre LF) (XFacts.ok (l:=[(79,X_lpre)]) rfl ⟨x_lpre,trivial⟩) (okFns_of rfl (by kernel_rfl)) follows ?_)
 intro args ret Hc h
 unfold X_lcpre0 at h
 split at h
 ·rename_i s p
  obtain ⟨h0,h⟩:=tr_need h
  obtain ⟨rfl,rfl⟩:=tr_ret h
  have e:=(lcpre_ev LF noY () 0 s p).trans (lcpre_spec s p h0)
  exact ⟨rfl,rfl,rfl,1,_,_,e,rfl⟩
 ·cases h
theorem x_cpre:XFact Tryz.prog GX 57 X_cpre:=by
 refine XFact.fix (pf:=X_cpre0) _ (xfact_of_stab [0,0] (C₀:=c_cpre LF) (XFacts.ok (l:=[(74,X_lcpre)]) rfl ⟨x_lcpre,trivial⟩) (okFns_of rfl (by kernel_rfl)) follows ?_)
 intro args ret Hc h
 unfold X_cpre0 at h
 split at h
 ·rename_i s p
  obtain ⟨h0,h⟩:=tr_need h
  obtain ⟨rfl,rfl⟩:=tr_ret h
  have e:=(cpre_ev LF noY () 0 s p).trans (cpre_spec s p h0)
  exact ⟨rfl,rfl,rfl,1,_,_,e,rfl⟩
 ·cases h
theorem x_gsplit:XFact Tryz.prog GX 138 X_gsplit:=by
 refine XFact.fix (pf:=X_gsplit0) _ (xfact_of_stab [1] (C₀:=c_gsplit LF) (XFacts.ok (l:=[(165,X_explode),(166,X_scnt),(154,X_sidx)]) rfl ⟨x_explode,x_scnt,x_sidx,trivial⟩) (okFns_of rfl (by kernel_rfl)) follows ?_)
 intro args ret Hc h
 unfold X_gsplit0 at h
 split at h
 ·rename_i s p v n
  obtain ⟨h0,h⟩:=tr_need h
  obtain ⟨h1,h⟩:=tr_need h
  obtain ⟨h2,h⟩:=tr_need h
  obtain ⟨h3,h⟩:=tr_need h
  obtain ⟨rfl,rfl⟩:=tr_ret h
  obtain ⟨r,H,e,hs⟩:=gsplit_spec s p v n h0 h1 h2 h3
  exact ⟨rfl,rfl,rfl,1,r,H,(gsplit_ev LF noY () 0 s p v n).trans e,hs⟩
 ·cases h
theorem x_ssplit:XFact Tryz.prog GX 109 X_ssplit:=by
 refine XFact.fix (pf:=X_ssplit0) _ (xfact_of_stab [1] (C₀:=c_ssplit LF) (XFacts.ok (l:=[(138,X_gsplit)]) rfl ⟨x_gsplit,trivial⟩) (okFns_of rfl (by kernel_rfl)) follows ?_)
 intro args ret Hc h
 unfold X_ssplit0 at h
 split at h
 ·rename_i s p
  obtain ⟨h0,h⟩:=tr_need h
  obtain ⟨h1,h⟩:=tr_need h
  obtain ⟨rfl,rfl⟩:=tr_ret h
  have e:=(ssplit_ev LF noY () 0 s p).trans (ssplit_spec s p h0 h1)
  exact ⟨rfl,rfl,rfl,1,_,_,e,rfl⟩
 ·cases h
theorem x_lowc:XFact Tryz.prog GX 56 X_lowc:=by
 refine XFact.fix (pf:=X_lowc0) _ (xfact_of_stab [] (C₀:=c_lowc LF) (XFacts.ok (l:=[]) rfl trivial) (okFns_of rfl (by kernel_rfl)) follows ?_)
 intro args ret Hc h
 unfold X_lowc0 at h
 split at h
 ·rename_i s
  obtain ⟨h0,h⟩:=tr_need h
  obtain ⟨rfl,rfl⟩:=tr_ret h
  have e:=(lowc_ev LF noY () 0 s).trans (lowc_spec s h0)
  exact ⟨rfl,rfl,rfl,1,_,_,e,rfl⟩
 ·cases h
theorem x_hexc:XFact Tryz.prog GX 122 X_hexc:=by
 refine XFact.fix (pf:=X_hexc0) _ (xfact_of_stab [] (C₀:=c_hexc LF) (XFacts.ok (l:=[(59,X_hpre)]) rfl ⟨x_hpre,trivial⟩) (okFns_of rfl (by kernel_rfl)) follows ?_)
 intro args ret Hc h
 unfold X_hexc0 at h
 split at h
 ·rename_i s
  obtain ⟨h0,h⟩:=tr_need h
  obtain ⟨rfl,rfl⟩:=tr_ret h
  have e:=(hexc_ev LF noY () 0 s).trans (hexc_spec s h0)
  exact ⟨rfl,rfl,rfl,1,_,_,e,rfl⟩
 ·cases h
theorem x_digs:XFact Tryz.prog GX 124 X_digs:=by
 refine XFact.fix (pf:=X_digs0) _ (xfact_of_stab [0,0] (C₀:=c_digs LF) (XFacts.ok (l:=[]) rfl trivial) (okFns_of rfl (by kernel_rfl)) follows ?_)
 intro args ret Hc h
 unfold X_digs0 at h
 split at h
 ·rename_i s base
  obtain ⟨h0,h⟩:=tr_need h
  obtain ⟨h1,h⟩:=tr_need h
  obtain ⟨rfl,rfl⟩:=tr_ret h
  have e:=(digs_ev LF noY () 0 s base).trans (digs_spec s base h0 h1)
  exact ⟨rfl,rfl,rfl,1,_,_,e,rfl⟩
 ·cases h
theorem x_num:XFact Tryz.prog GX 123 X_num:=by
 refine XFact.fix (pf:=X_num0) _ (xfact_of_stab [0,0] (C₀:=c_num LF) (XFacts.ok (l:=[(122,X_hexc),(124,X_digs)]) rfl ⟨x_hexc,x_digs,trivial⟩) (okFns_of rfl (by kernel_rfl)) follows ?_)
 intro args ret Hc h
 unfold X_num0 at h
 split at h
 ·rename_i s
  obtain ⟨h0,h⟩:=tr_need h
  obtain ⟨rfl,rfl⟩:=tr_ret h
  have e:=(num_ev LF noY () 0 s).trans (num_spec s h0)
  exact ⟨rfl,rfl,rfl,1,_,_,e,rfl⟩
 ·cases h
theorem x_parts:XFact Tryz.prog GX 121 X_parts:=by
 refine XFact.fix (pf:=X_parts0) _ (xfact_of_stab [1] (C₀:=c_parts LF) (XFacts.ok (l:=[(109,X_ssplit)]) rfl ⟨x_ssplit,trivial⟩) (okFns_of rfl (by kernel_rfl)) follows ?_)
 intro args ret Hc h
 unfold X_parts0 at h
 split at h
 ·rename_i s
  obtain ⟨h0,h⟩:=tr_need h
  obtain ⟨rfl,rfl⟩:=tr_ret h
  have e:=(parts_ev LF noY () 0 s).trans (parts_spec s h0)
  exact ⟨rfl,rfl,rfl,1,_,_,e,rfl⟩
 ·cases h
theorem x_numeric:XFact Tryz.prog GX 90 X_numeric:=by
 refine XFact.fix (pf:=X_numeric0) _ (xfact_of_stab [] (C₀:=c_numeric LF) (XFacts.ok (l:=[(121,X_parts),(122,X_hexc),(123,X_num),(124,X_digs)]) rfl ⟨x_parts,x_hexc,x_num,x_digs,trivial⟩) (okFns_of rfl (by kernel_rfl)) follows ?_)
 intro args ret Hc h
 unfold X_numeric0 at h
 split at h
 ·rename_i s
  obtain ⟨h0,h⟩:=tr_need h
  obtain ⟨rfl,rfl⟩:=tr_ret h
  have e:=(numeric_ev LF noY () 0 s).trans (numeric_spec s h0)
  exact ⟨rfl,rfl,rfl,1,_,_,e,rfl⟩
 ·cases h
theorem x_pnum:XFact Tryz.prog GX 108 X_pnum:=by
 refine XFact.fix (pf:=X_pnum0) _ (xfact_of_stab [0,0] (C₀:=c_pnum LF) (XFacts.ok (l:=[(121,X_parts),(123,X_num)]) rfl ⟨x_parts,x_num,trivial⟩) (okFns_of rfl (by kernel_rfl)) follows ?_)
 intro args ret Hc h
 unfold X_pnum0 at h
 split at h
 ·rename_i s
  obtain ⟨h0,h⟩:=tr_need h
  obtain ⟨rfl,rfl⟩:=tr_ret h
  have e:=(pnum_ev LF noY () 0 s).trans (pnum_spec s h0)
  exact ⟨rfl,rfl,rfl,1,_,_,e,rfl⟩
 ·cases h
theorem x_v4p:XFact Tryz.prog GX 180 X_v4p:=by
 refine XFact.fix (pf:=X_v4p0) _ (xfact_of_stab [0,0] (C₀:=c_v4p LF) (XFacts.ok (l:=[(109,X_ssplit),(124,X_digs),(51,X_itoa)]) rfl ⟨x_ssplit,x_digs,x_itoa,trivial⟩) (okFns_of rfl (by kernel_rfl)) follows ?_)
 intro args ret Hc h
 unfold X_v4p0 at h
 split at h
 ·rename_i s
  obtain ⟨h0,h⟩:=tr_need h
  obtain ⟨rfl,rfl⟩:=tr_ret h
  have e:=(v4p_ev LF noY () 0 s).trans (v4p_spec s h0)
  exact ⟨rfl,rfl,rfl,1,_,_,e,rfl⟩
 ·cases h
theorem x_v4f:XFact Tryz.prog GX 67 X_v4f:=by
 refine XFact.fix (pf:=X_v4f0) _ (xfact_of_stab [] (C₀:=c_v4f LF) (XFacts.ok (l:=[(51,X_itoa)]) rfl ⟨x_itoa,trivial⟩) (okFns_of rfl (by kernel_rfl)) follows ?_)
 intro args ret Hc h
 unfold X_v4f0 at h
 split at h
 ·rename_i v
  obtain ⟨h0,h⟩:=tr_need h
  obtain ⟨rfl,rfl⟩:=tr_ret h
  have e:=(v4f_ev LF noY () 0 v).trans (v4f_spec v h0)
  exact ⟨rfl,rfl,rfl,1,_,_,e,rfl⟩
 ·cases h
theorem x_rlow:XFact Tryz.prog GX 17 X_rlow:=by
 refine XFact.fix (pf:=X_rlow0) _ (xfact_of_stab [] (C₀:=c_rlow LF) (XFacts.ok (l:=[]) rfl trivial) (okFns_of rfl (by kernel_rfl)) follows ?_)
 intro args ret Hc h
 unfold X_rlow0 at h
 split at h
 ·rename_i s
  obtain ⟨h0,h⟩:=tr_need h
  obtain ⟨rfl,rfl⟩:=tr_ret h
  have e:=(rlow_ev LF noY () 0 s).trans (rlow_spec s h0)
  exact ⟨rfl,rfl,rfl,1,_,_,e,rfl⟩
 ·cases h
theorem x_gsplitM:XFact Tryz.prog GX 138 X_gsplitM:=by
 refine XFact.fix (pf:=X_gsplitM0) _ (xfact_of_run (C₀:=c_gsplit LF) (XFacts.ok (l:=[(165,X_explode),(166,X_scnt),(154,X_sidx)]) rfl ⟨x_explode,x_scnt,x_sidx,trivial⟩) (okFns_of rfl (by kernel_rfl)) follows ?_)
 intro args ret Hc h
 unfold X_gsplitM0 at h
 split at h
 ·rename_i s p v n
  obtain ⟨h0,h⟩:=tr_need h
  obtain ⟨h1,h⟩:=tr_need h
  obtain ⟨h2,h⟩:=tr_need h
  obtain ⟨h3,h⟩:=tr_need h
  obtain ⟨rfl,rfl⟩:=tr_ret h
  have e:=(gsplit_ev LF noY () 0 s p v n).trans (gsplit_run s p v n h0 h1 h2 h3)
  exact ⟨rfl,1,_,[],e,rfl,rfl⟩
 ·cases h
theorem x_ssplitM:XFact Tryz.prog GX 109 X_ssplitM:=by
 refine XFact.fix (pf:=X_ssplitM0) _ (xfact_of_run (C₀:=c_ssplitM LF) (XFacts.ok (l:=[(138,X_gsplitM)]) rfl ⟨x_gsplitM,trivial⟩) (okFns_of rfl (by kernel_rfl)) follows ?_)
 intro args ret Hc h
 unfold X_ssplitM0 at h
 split at h
 ·rename_i s p
  obtain ⟨h0,h⟩:=tr_need h
  obtain ⟨h1,h⟩:=tr_need h
  obtain ⟨rfl,rfl⟩:=tr_ret h
  have e:=(ssplitM_ev LF noY () 0 s p).trans (ssplitM_spec s p h0 h1)
  exact ⟨rfl,1,_,[],e,rfl,rfl⟩
 ·cases h
end
section
theorem x_grpc:XFact Tryz.prog GX 179 X_grpc:=by
 refine XFact.fix (pf:=X_grpc0) _ (xfact_of_stab [0,0] (C₀:=c_grpc LF) (XFacts.ok (l:=[]) rfl trivial) (okFns_of rfl (by kernel_rfl)) follows ?_)
 intro args ret Hc h
 unfold X_grpc0 at h
 split at h
 ·rename_i s
  obtain ⟨h0,h⟩:=tr_need h
  obtain ⟨rfl,rfl⟩:=tr_ret h
  have e:=(grpc_ev LF noY () 0 s).trans (grpc_spec s h0)
  exact ⟨rfl,rfl,rfl,1,_,_,e,rfl⟩
 ·cases h
theorem x_grpsc:XFact Tryz.prog GX 164 X_grpsc:=by
 refine XFact.fix (pf:=X_grpsc0) _ (xfact_of_stab [1,0] (C₀:=c_grpsc LF) (XFacts.ok (l:=[(109,X_ssplit),(179,X_grpc),(180,X_v4p)]) rfl ⟨x_ssplit,x_grpc,x_v4p,trivial⟩) (okFns_of rfl (by kernel_rfl)) follows ?_)
 intro args ret Hc h
 unfold X_grpsc0 at h
 split at h
 ·rename_i s last
  obtain ⟨h0,h⟩:=tr_need h
  obtain ⟨rfl,rfl⟩:=tr_ret h
  obtain ⟨r,H,e,hs⟩:=grpsc_spec s last h0
  exact ⟨rfl,rfl,rfl,1,r,H,(grpsc_ev LF noY () 0 s last).trans e,hs⟩
 ·cases h
theorem x_v6p:XFact Tryz.prog GX 135 X_v6p:=by
 refine XFact.fix (pf:=X_v6p0) _ (xfact_of_stab [0,0] (C₀:=c_v6p LF) (XFacts.ok (l:=[(54,X_scut),(164,X_grpsc)]) rfl ⟨x_scut,x_grpsc,trivial⟩) (okFns_of rfl (by kernel_rfl)) follows ?_)
 intro args ret Hc h
 unfold X_v6p0 at h
 split at h
 ·rename_i s
  obtain ⟨h0,h⟩:=tr_need h
  obtain ⟨rfl,rfl⟩:=tr_ret h
  obtain ⟨r,H,e,hs⟩:=v6p_sp s h0
  exact ⟨rfl,rfl,rfl,1,r,H,(v6p_ev LF noY () 0 s).trans e,hs⟩
 ·cases h
theorem x_zeros:XFact Tryz.prog GX 95 X_zeros:=by
 refine XFact.fix (pf:=X_zeros0) _ (xfact_of_stab [0,0] (C₀:=c_zeros LF) (XFacts.ok (l:=[]) rfl trivial) (okFns_of rfl (by kernel_rfl)) follows ?_)
 intro args ret Hc h
 unfold X_zeros0 at h
 split at h
 ·rename_i a0 a1 a2 a3 a4 a5 a6 a7
  obtain ⟨h0,h⟩:=tr_need h
  obtain ⟨rfl,rfl⟩:=tr_ret h
  have e:=(zeros_ev LF noY () 0 a0 a1 a2 a3 a4 a5 a6 a7).trans (zeros_spec a0 a1 a2 a3 a4 a5 a6 a7 h0)
  exact ⟨rfl,rfl,rfl,1,_,_,e,rfl⟩
 ·cases h
theorem x_v6j:XFact Tryz.prog GX 96 X_v6j:=by
 refine XFact.fix (pf:=X_v6j0) _ (xfact_of_stab [] (C₀:=c_v6j LF) (XFacts.ok (l:=[(128,X_fmtu),(111,X_sjoin)]) rfl ⟨x_fmtu,x_sjoin,trivial⟩) (okFns_of rfl (by kernel_rfl)) follows ?_)
 intro args ret Hc h
 unfold X_v6j0 at h
 split at h
 ·rename_i l_z l_t l
  obtain ⟨h0,h⟩:=tr_need h
  obtain ⟨h1,h⟩:=tr_need h
  obtain ⟨rfl,rfl⟩:=tr_ret h
  obtain ⟨r,H,e,hs⟩:=v6j_sp l_z l_t l h0 h1
  exact ⟨rfl,rfl,rfl,1,r,H,(v6j_ev LF noY () 0 l_z l_t l).trans e,hs⟩
 ·cases h
theorem x_v6f:XFact Tryz.prog GX 68 X_v6f:=by
 refine XFact.fix (pf:=X_v6f0) _ (xfact_of_stab [] (C₀:=c_v6f LF) (XFacts.ok (l:=[(95,X_zeros),(96,X_v6j)]) rfl ⟨x_zeros,x_v6j,trivial⟩) (okFns_of rfl (by kernel_rfl)) follows ?_)
 intro args ret Hc h
 unfold X_v6f0 at h
 split at h
 ·rename_i a0 a1 a2 a3 a4 a5 a6 a7
  obtain ⟨h0,h⟩:=tr_need h
  obtain ⟨rfl,rfl⟩:=tr_ret h
  obtain ⟨r,H,e,hs⟩:=v6f_sp a0 a1 a2 a3 a4 a5 a6 a7 h0
  exact ⟨rfl,rfl,rfl,1,r,H,(v6f_ev LF noY () 0 a0 a1 a2 a3 a4 a5 a6 a7).trans e,hs⟩
 ·cases h
theorem x_ppoint:XFact Tryz.prog GX 168 X_ppoint:=by
 refine XFact.fix (pf:=X_ppoint0) _ (xfact_of_stab [] (C₀:=c_ppoint LF) (XFacts.ok (l:=[]) rfl trivial) (okFns_of rfl (by kernel_rfl)) follows ?_)
 intro args ret Hc h
 unfold X_ppoint0 at h
 split at h
 ·rename_i n
  obtain ⟨rfl,rfl⟩:=tr_ret h
  have e:=(ppoint_ev LF noY () 0 n).trans (ppoint_spec n )
  exact ⟨rfl,rfl,rfl,1,_,_,e,rfl⟩
 ·cases h
theorem x_padapt:XFact Tryz.prog GX 170 X_padapt:=by
 refine XFact.fix (pf:=X_padapt0) _ (xfact_of_stab [] (C₀:=c_padapt LF) (XFacts.ok (l:=[]) rfl trivial) (okFns_of rfl (by kernel_rfl)) follows ?_)
 intro args ret Hc h
 unfold X_padapt0 at h
 split at h
 ·rename_i d c f
  obtain ⟨h0,h⟩:=tr_need h
  obtain ⟨h1,h⟩:=tr_need h
  obtain ⟨h2,h⟩:=tr_need h
  obtain ⟨rfl,rfl⟩:=tr_ret h
  have e:=(padapt_ev LF noY () 0 d c f).trans (padapt_spec d c f h0 h1 h2)
  exact ⟨rfl,rfl,rfl,1,_,_,e,rfl⟩
 ·cases h
theorem x_pdig:XFact Tryz.prog GX 183 X_pdig:=by
 refine XFact.fix (pf:=X_pdig0) _ (xfact_of_stab [] (C₀:=c_pdig LF) (XFacts.ok (l:=[]) rfl trivial) (okFns_of rfl (by kernel_rfl)) follows ?_)
 intro args ret Hc h
 unfold X_pdig0 at h
 split at h
 ·rename_i d
  obtain ⟨h0,h⟩:=tr_need h
  obtain ⟨rfl,rfl⟩:=tr_ret h
  have e:=(pdig_ev LF noY () 0 d).trans (pdig_spec d h0)
  exact ⟨rfl,rfl,rfl,1,_,_,e,rfl⟩
 ·cases h
theorem x_pval:XFact Tryz.prog GX 189 X_pval:=by
 refine XFact.fix (pf:=X_pval0) _ (xfact_of_stab [] (C₀:=c_pval LF) (XFacts.ok (l:=[]) rfl trivial) (okFns_of rfl (by kernel_rfl)) follows ?_)
 intro args ret Hc h
 unfold X_pval0 at h
 split at h
 ·rename_i b
  obtain ⟨h0,h⟩:=tr_need h
  obtain ⟨rfl,rfl⟩:=tr_ret h
  have e:=(pval_ev LF noY () 0 b).trans (pval_spec b h0)
  exact ⟨rfl,rfl,rfl,1,_,_,e,rfl⟩
 ·cases h
end
section
theorem x_pthr:XFact Tryz.prog GX 182 X_pthr:=by
 refine XFact.fix (pf:=X_pthr0) _ (xfact_of_run (C₀:=c_pthr LF) (XFacts.ok (l:=[]) rfl trivial) (okFns_of rfl (by kernel_rfl)) follows ?_)
 intro args ret Hc h
 unfold X_pthr0 at h
 split at h
 ·rename_i b
  obtain ⟨rfl,rfl⟩:=tr_ret h
  have e:=(pthr_ev LF noY () 0 b).trans (pthr_spec b )
  exact ⟨rfl,1,_,[],e,rfl,rfl⟩
 ·cases h
theorem y_pnext:YFact Tryz.prog GX 188 X_pnext:=by
 refine yfact_of_run (C₀:=c_pnext LF) (XFacts.ok (l:=[]) rfl trivial) (okFns_of rfl (by kernel_rfl)) follows ?_
 intro args H ret Hc h
 unfold X_pnext at h
 split at h
 ·rename_i k b
  obtain ⟨h0,h⟩:=tr_need h
  obtain ⟨h1,h⟩:=tr_need h
  obtain ⟨rfl,rfl⟩:=tr_ret h
  refine ⟨rfl,rfl,fun σ yh s=>?_⟩
  have e:=(pnext_ev LF yh s 0 k b).trans (pnext_spec k b h0 h1)
  exact ⟨1,_,e,rfl⟩
 ·cases h
theorem y_papp:YFact Tryz.prog GX 169 X_papp:=by
 refine yfact_of_run (C₀:=c_papp LF) (xok_of (lx:=[(182,X_pthr),(183,X_pdig)]) (ly:=[(188,X_pnext)]) (ls:=[]) rfl rfl rfl ⟨x_pthr,x_pdig,trivial⟩ ⟨y_pnext,trivial⟩ trivial) (okFns_of rfl (by kernel_rfl)) follows ?_
 intro args H ret Hc h
 unfold X_papp at h
 split at h
 ·rename_i q b z l
  obtain ⟨h0,h⟩:=tr_need h
  obtain ⟨h1,h⟩:=tr_need h
  obtain ⟨h2,h⟩:=tr_need h
  obtain ⟨rfl,rfl⟩:=tr_ret h
  obtain ⟨x0,x1,e0⟩:=papp_spec q b z l h0 h1 h2
  exact ⟨rfl,rfl,fun σ yh s=>⟨1,_,(papp_ev LF yh s 0 q b z l).trans (e0 _ _),rfl⟩⟩
 ·cases h
theorem x_penc:XFact Tryz.prog GX 141 X_penc:=by
 refine XFact.fix (pf:=X_penc0) _ (xfact_of_stab [0,0] (C₀:=c_penc LF) (xok_of (lx:=[(168,X_ppoint),(170,X_padapt)]) (ly:=[(169,X_papp)]) (ls:=[]) rfl rfl rfl ⟨x_ppoint,x_padapt,trivial⟩ ⟨y_papp,trivial⟩ trivial) (okFns_of rfl (by kernel_rfl)) follows ?_)
 intro args ret Hc h
 unfold X_penc0 at h
 split at h
 ·rename_i p_z p_t p
  obtain ⟨h0,h⟩:=tr_need h
  obtain ⟨rfl,rfl⟩:=tr_ret h
  obtain ⟨r,H,e,hs⟩:=penc_sp p_z p_t p h0
  exact ⟨rfl,rfl,rfl,1,r,H,(penc_ev LF noY () 0 p_z p_t p).trans e,hs⟩
 ·cases h
end
section
theorem y_dnum:YFact Tryz.prog GX 186 X_dnum:=by
 refine yfact_of_run (C₀:=c_dnum LF) (xok_of (lx:=[(182,X_pthr),(189,X_pval)]) (ly:=[(188,X_pnext)]) (ls:=[]) rfl rfl rfl ⟨x_pthr,x_pval,trivial⟩ ⟨y_pnext,trivial⟩ trivial) (okFns_of rfl (by kernel_rfl)) follows ?_
 intro args H ret Hc h
 unfold X_dnum at h
 split at h
 ·rename_i rest n i b st z l
  obtain ⟨h0,h⟩:=tr_need h
  obtain ⟨h1,h⟩:=tr_need h
  obtain ⟨h2,h⟩:=tr_need h
  obtain ⟨rfl,rfl⟩:=tr_ret h
  obtain ⟨x0,e0⟩:=dnum_spec rest n i b st z l h0 h1 h2
  exact ⟨rfl,rfl,fun σ yh s=>⟨1,_,(dnum_ev LF yh s 0 rest n i b st z l).trans (e0 _ _),rfl⟩⟩
 ·cases h
theorem x_ilastb:XFact Tryz.prog GX 104 X_ilastb:=by
 refine XFact.fix (pf:=X_ilastb0) _ (xfact_of_stab [] (C₀:=c_ilastb LF) (XFacts.ok (l:=[]) rfl trivial) (okFns_of rfl (by kernel_rfl)) follows ?_)
 intro args ret Hc h
 unfold X_ilastb0 at h
 split at h
 ·rename_i s c
  obtain ⟨h0,h⟩:=tr_need h
  obtain ⟨h1,h⟩:=tr_need h
  obtain ⟨rfl,rfl⟩:=tr_ret h
  have e:=(ilastb_ev LF noY () 0 s c).trans (ilastb_spec s c h0 h1)
  exact ⟨rfl,rfl,rfl,1,_,_,e,rfl⟩
 ·cases h
theorem x_lastb:XFact Tryz.prog GX 80 X_lastb:=by
 refine XFact.fix (pf:=X_lastb0) _ (xfact_of_stab [] (C₀:=c_lastb LF) (XFacts.ok (l:=[(104,X_ilastb)]) rfl ⟨x_ilastb,trivial⟩) (okFns_of rfl (by kernel_rfl)) follows ?_)
 intro args ret Hc h
 unfold X_lastb0 at h
 split at h
 ·rename_i s c
  obtain ⟨h0,h⟩:=tr_need h
  obtain ⟨h1,h⟩:=tr_need h
  obtain ⟨rfl,rfl⟩:=tr_ret h
  have e:=(lastb_ev LF noY () 0 s c).trans (lastb_spec s c h0 h1)
  exact ⟨rfl,rfl,rfl,1,_,_,e,rfl⟩
 ·cases h
end
end Go.Proofs.YtcfingekgbbclaaGreatDoor.E
namespace Go.Proofs.YtcfingekgbbclaaGreatDoor.E
open Go Go.Proofs Go.Sort
set_option linter.unusedVariables false
set_option linter.unusedSimpArgs false
set_option maxRecDepth 100000
theorem sins_res {C:Cfg} {σ:Type} {I:σ→(Nat→Prop)→(Nat→Prop)→World→Prop} (hI:HI I) {Γ:Ctx} {Φ:Nat→Prop} {w w':World} {z v1:Bool} {E e1 s1:Nat} {l l' m:LL} {s:σ} (g cap:Nat) (Vs:List Value) (cur:Array Value)
  (hnf:fixedT C E=false) (hH:HR Γ [.arr z E 1 l,.arr v1 e1 s1 m] w) (hi:I s Γ.St Φ w) (hd:∀ b g,Γ.nm b=some g→¬ Φ g)
  (hown:Γ.nm 0=some g∨g=w.heap.size) (hgl:g<w'.heap.size) (hoth:∀ k,k<w.heap.size→Γ.nm 0≠some k→w'.heap[k]? = w.heap[k]?) (hsz:w.heap.size≤w'.heap.size) (h1:w'.os=w.os) (h2:w'.tape=w.tape) (h3:w'.output=w.output)
  (hrow:w'.heap[g]? = some (.cells cur E (0,0))) (hE:Els Γ.St w' 1 l' Vs) (hl':l'≠[]) (hc:∀ q,q<Vs.length→cur[q]? = Vs[q]?) (hl:Vs.length≤cur.size) (hcap:l'.length≤cap) (hm:cap≤maxLen) (hcs:cur.size=cap) :
  CRes C I Γ [.arr z E 1 l,.arr v1 e1 s1 m] w Φ (.fl 0) [.arr z E 1 l',.arr v1 e1 s1 m] s (.slice (some ⟨g,0,none⟩) l'.length cap) w':=by
 have hblt:0<[Blk.arr z E 1 l,.arr v1 e1 s1 m].length:=by simp
 have hng:(Γ.re 0 (some g)).nm 0=some g:=by simp [Ctx.re]
 have hnf':¬ fixS C (shpOf [Blk.arr z E 1 l,.arr v1 e1 s1 m] 0):=by simp [shpOf,Blk.shp,fixS,hnf]
 have hk:([Blk.arr z E 1 l,.arr v1 e1 s1 m].map (Blk.kill 0)).set 0 (.arr z E 1 l')=[.arr z E 1 l',.arr v1 e1 s1 m]:=rfl
 have hgS:¬ Γ.St g:=by
  rcases hown with h | h
  ·exact (hH.lt 0 g h).2.2
  ·intro hs
   have:=hH.stlt g hs
   omega
 obtain ⟨q1,q2,q3⟩:=rebind (C:=C) (y:=.arr z E 1 l') (ng:=some g) (w':=w') hH hblt hnf' (fun k hk=>by
   simp only [Option.some.injEq] at hk;subst hk
   refine ⟨hgl,hgS,fun c hc hc2=>?_⟩
   rcases hown with h | h
   ·exact hc (hH.inj c 0 _ hc2 h)
   ·have:=(hH.lt c _ hc2).2.1
    omega)
  (fun k hk=>by
   simp only [Option.some.injEq] at hk;subst hk
   rcases hown with h | h
   ·exact .inl h
   ·exact .inr (by omega)) hoth hsz h1 h2 h3
  (BR.els hng hrow hE (by rintro ⟨_,h⟩;exact hl' h) hc hl) rfl
 rw [hk] at q1 q2
 refine ⟨_,Φ,q1.lift Φ,q2,?_,fun c hc=>?_,?_,fun b g' hb=>?_⟩
 ·refine .fl 0 g z E 1 l'.length cap rfl (fun _ h=>hl' (List.length_eq_zero_iff.1 h)) hng hcap hm ?_
  simp only [World.shape?,hrow,hcs,Nat.mul_one]
 ·simp only [PV.nms,List.mem_singleton] at hc
  subst hc
  simp
 ·refine hI.mono s Γ.St Φ w Γ.St w' hi (fun _ h=>h) (fun k hk hp=>(hI.foot _ _ _ _ hi k hp).2 hk) (fun k hk=>Nat.lt_of_lt_of_le (hH.stlt k hk) hsz) (fun k hk=>?_) hsz h1 h2 h3
  rcases hk with hk | hk
  ·exact hoth k (hH.stlt k hk) (fun h=>(hH.lt 0 k h).2.2 hk)
  ·exact hoth k (hI.foot _ _ _ _ hi k hk).1 (fun h=>hd 0 k h hk)
 ·simp only [Ctx.re] at hb
  split at hb
  ·simp only [Option.some.injEq] at hb
   subst hb
   rcases hown with h | h
   ·exact hd 0 _ h
   ·intro hp
    have:=(hI.foot _ _ _ _ hi _ hp).1
    omega
  ·exact hd b g' hb
theorem setCells_row {w:World} {g o e:Nat} {vs:List Value} {cur:Array Value} (hg:w.heap[g]? = some (.cells cur e (0,0))) (hle:o+vs.length≤cur.size) (h1:∀ v∈vs,v.oneCell'=true) :
  (w.setCells g o vs).heap[g]? = some (.cells (putAt cur.toList o vs).toArray e (0,0))∧(∀ k,k≠g→(w.setCells g o vs).heap[k]? = w.heap[k]?)∧(w.setCells g o vs).heap.size=w.heap.size∧(w.setCells g o vs).os=w.os∧(w.setCells g o vs).tape=w.tape∧(w.setCells g o vs).output=w.output:=by
 obtain ⟨w',r1,r2,r3,r4,r5,r6,r7,_⟩:=run_storeCells_put (P:=Tryz.prog) (o:=o) hg hle h1
 have hcell:∀ j,j<vs.length→∃ v,w.cell? ⟨g,o+0+j,none⟩=some v:=fun j hj=>by
  refine ⟨cur[o+j]'(by omega),?_⟩
  simp [World.cell?,hg,Array.getElem?_eq_getElem (show o+j<cur.size by omega)]
 have r:=run_storeCells_cells (P:=Tryz.prog) g o vs 0 w (fun j hj=>by obtain ⟨v,h⟩:=hcell j hj;rw [h];rfl) (fun j hj=>by simp [World.frozen?,hg]) h1
 rw [r] at r1
 simp only [Nat.add_zero,Result.ok.injEq,true_and] at r1
 rw [r1]
 exact ⟨r2,r3,r4,r5,r6,r7⟩
theorem insR_els {St:Nat→Prop} {w:World} {l:LL} {cs:List Value} {i:Nat} {n:Int} (h:Els St w 1 l cs) (hi:i≤l.length):Els St w 1 (insR l i n) (cs.take i++Value.int .i64 n::cs.drop i):=by
 have hlen:=h.1
 rw [Nat.mul_one] at hlen
 have h1:Els St w 1 (l.take i) (cs.take i):=by
  refine ⟨by rw [List.length_take,List.length_take,hlen,Nat.mul_one],fun j hj=>?_⟩
  rw [List.length_take] at hj
  rw [List.getElem_take]
  obtain ⟨a,b⟩:=h.2 j (by omega)
  refine ⟨a,fun k hk=>?_⟩
  obtain ⟨U,e,v⟩:=b k hk
  exact ⟨U,by rw [List.getElem?_take_of_lt (by omega)];exact e,v⟩
 have h2:Els St w 1 [[SV.int .i64 n]] [Value.int .i64 n]:=by
  refine ⟨rfl,fun j hj=>?_⟩
  have:j=0:=by simpa using hj
  subst this
  refine ⟨rfl,fun k hk=>?_⟩
  have:k=0:=by simpa using hk
  subst this
  exact ⟨_,rfl,.int _ _⟩
 have h3:Els St w 1 (l.drop i) (cs.drop i):=by
  refine ⟨by rw [List.length_drop,List.length_drop,hlen,Nat.mul_one],fun j hj=>?_⟩
  rw [List.length_drop] at hj
  rw [List.getElem_drop]
  obtain ⟨a,b⟩:=h.2 (i+j) (by omega)
  refine ⟨a,fun k hk=>?_⟩
  obtain ⟨U,e,v⟩:=b k hk
  exact ⟨U,by rw [List.getElem?_drop];rw [show i+(j*1+k)=(i+j)*1+k by omega];exact e,v⟩
 have:=(h1.append h2).append h3
 unfold insR
 simpa using this
theorem insR_len (l:LL) (i:Nat) (n:Int) (h:i≤l.length):(insR l i n).length=l.length+1:=by
 unfold insR
 rw [List.length_append,List.length_cons,List.length_take,List.length_drop]
 omega
theorem insR_ne (l:LL) (i:Nat) (n:Int):insR l i n≠[]:=by
 unfold insR
 simp
theorem y_sins:YFact Tryz.prog GX 187 X_sins:=by
 intro C hP hG σ I yh yv hI hy args H s ret Hc hpf Γ Φ w Vs hyv hH hg hi hd hc hn
 unfold X_sins at hpf
 split at hpf
 ·rename_i i z l nn
  obtain ⟨h0,hpf⟩:=tr_need hpf
  obtain ⟨h1,hpf⟩:=tr_need hpf
  obtain ⟨rfl,rfl⟩:=tr_ret hpf
  obtain ⟨i0,i1⟩:=ltN_iff.1 h0
  obtain ⟨i,rfl⟩:=Int.eq_ofNat_of_zero_le i0
  have hl:=Nat.le_of_ble_eq_true h1
  have hil:i≤l.length:=by
   have:(i:Int)<((l.length+1:Nat):Int):=i1
   omega
  obtain ⟨S,X0,V,rfl,hs,hx,hv⟩:=hc.arr3
  obtain rfl:=hx.inv_int
  have hnf:fixedT C 3=false:=by
   unfold fixedT Cfg.sh
   rw [hP]
   kernel_rfl
  obtain ⟨g1,cur1,n1,n2,n3,n4,n5⟩:=hH.arr' (b:=1) rfl (by simp)
  have hvs:∃ cap,V = .slice (some ⟨g1,0,none⟩) 1 cap:=by
   cases hv with
   | flv _ e sz h=>simp [shpOf,Blk.shp] at h
   | fl _ g v e sz n cap h hv' hg' hcap hm hs'=>
    rw [n1] at hg'
    simp only [Option.some.injEq] at hg'
    subst hg'
    simp only [shpOf,List.getElem?_cons_succ,List.getElem?_cons_zero,Option.map_some,Blk.shp,Option.some.injEq,Shp.arr.injEq] at h
    obtain ⟨_,_,_,h4⟩:=h
    subst h4
    exact ⟨cap,rfl⟩
  obtain ⟨cap1,rfl⟩:=hvs
  obtain ⟨V1,p1,p2⟩:=n5 0 (by simp) 0 (by simp)
  have p3:V1 = .int .i64 nn:=by cases p2;rfl
  subst p3
  have hvcell:∀ j v,[Value.int .i64 nn][j]? = some v→w.cell? ⟨g1,0+j,none⟩=some v:=by
   intro j v hj
   have:j=0:=by
    have:=(List.getElem?_eq_some_iff.1 hj).1
    simpa using this
   subst this
   simp only [List.getElem?_cons_zero,Option.some.injEq] at hj
   subst hj
   simpa [World.cell?,n2] using p1
  have hv1:∀ v∈[Value.int .i64 nn],v.oneCell'=true:=by simp [Value.oneCell']
  rw [Int.toNat_natCast]
  refine upon_of_calls (fn:=Tryz.f187) (by kernel_rfl) (by kernel_rfl) (by kernel_rfl) ?_
  have grownEnd:∀ (base:Option Addr) (c:Nat) (cs:List Value),l.length≤c→c<l.length+1→cs.length=l.length→(base=none→l.length=0)→(∀ a,base=some a→∀ j v,cs[j]? = some v→w.cell? (a.add j)=some v)→Els Γ.St w 1 l cs→
    Calls Tryz.prog 187 #[.slice base l.length c,.int .i64 (l.length:Int),.slice (some ⟨g1,0,none⟩) 1 cap1] w fun e w'=>∃ V,e = .returned V∧CRes C I Γ [.arr z 3 1 l,.arr false 3 1 [[SV.int .i64 nn]]] w Φ (.fl 0) [.arr z 3 1 (insR l l.length nn),.arr false 3 1 [[SV.int .i64 nn]]] s V w':=by
   intro base c cs a1 a2 a3 a4 a5 a6
   refine (Any2.slices_Insert_int_end_grow Tryz.lays2_21 base l.length c g1 0 1 cap1 cs [.int .i64 nn] w (by omega) a1 a2 (by omega) a3 rfl a4 a5 hvcell hv1).mono ?_
   rintro e w' ⟨rfl,rfl⟩
   refine ⟨_,rfl,?_⟩
   obtain ⟨hge,hle⟩:=grown_facts (w:=w) (need:=l.length+1) (cap:=c) (e:=3) (by omega)
   have hE:=insR_els (n:=nn) a6 (Nat.le_refl l.length)
   have hcsl:cs.take l.length++Value.int .i64 nn::cs.drop l.length=cs++[Value.int .i64 nn]:=by
    rw [List.take_of_length_le (by omega),List.drop_of_length_le (by omega)]
   rw [hcsl] at hE
   have hlen:=insR_len l l.length nn (Nat.le_refl _)
   obtain ⟨r1,r2⟩:=grown_row (olds:=cs) (Vs:=[Value.int .i64 nn]) (z:=(Value.int .i64 0).cells) (k:=grownCap w (l.length+1) c 3) (n:=l.length) (m:=1) (size:=1) rfl (by omega) rfl hge
   have hrowE:(cs.toArray++[Value.int .i64 nn].toArray)=(cs++[Value.int .i64 nn]).toArray:=by simp
   rw [hrowE] at r1 r2
   have key:∀ (row:Array Value) (kc:Nat),row.size=kc→(∀ q,q<(cs++[Value.int .i64 nn]).length→row[q]? = (cs++[Value.int .i64 nn])[q]?)→l.length+1≤kc→kc≤maxLen→
     CRes C I Γ [.arr z 3 1 l,.arr false 3 1 [[SV.int .i64 nn]]] w Φ (.fl 0) [.arr z 3 1 (insR l l.length nn),.arr false 3 1 [[SV.int .i64 nn]]] s (.slice (some ⟨w.heap.size,0,none⟩) (l.length+1) kc) (w.drew.alloc (.cells row 3)):=by
    intro row kc b1 b2 b3 b4
    have hwh:(w.drew.alloc (.cells row 3)).heap=w.heap.push (.cells row 3):=rfl
    have:=sins_res (C:=C) (w':=w.drew.alloc (.cells row 3)) (l':=insR l l.length nn) hI w.heap.size kc (cs++[Value.int .i64 nn]) row hnf hH hi hd (.inr rfl) (by rw [hwh];simp) (fun k hk _=>heap_push_lt hwh hk) (by rw [hwh];simp) rfl rfl rfl (heap_push_eq hwh) (hE.mono (fun g hg=>heap_push_lt hwh (hH.stlt g hg)) (fun _ h=>h)) (insR_ne _ _ _) b2 (by rw [b1,List.length_append,List.length_singleton];omega) (by rw [hlen];exact b3) b4 b1
    rw [hlen] at this
    exact this
   exact key _ _ (r1.trans (Nat.mul_one _)) r2 hge hle
  have two:∀ (row:Array Value) (cs:List Value),cs.length=l.length→i<l.length→l.length+1≤row.size→(∀ q,q<i→row[q]? = cs[q]?)→
    ∀ q,q<(cs.take i++Value.int .i64 nn::cs.drop i).length→(putAt (putAt row.toList i [Value.int .i64 nn]) (i+1) (cs.drop i)).toArray[q]? = (cs.take i++Value.int .i64 nn::cs.drop i)[q]?:=by
   intro row cs a1 a2 a3 a4 q hq
   have hq':q<l.length+1:=by
    rw [List.length_append,List.length_cons,List.length_take,List.length_drop] at hq
    omega
   have ht:(cs.take i).length=i:=by rw [List.length_take];omega
   have hrl:row.toList.length=row.size:=Array.length_toList
   simp only [List.getElem?_toArray]
   rw [putAt_get _ _ _ (by rw [putAt_length,List.length_drop,hrl];omega),putAt_get _ _ _ (by rw [List.length_singleton,hrl];omega)]
   by_cases h1:q<i
   ·rw [if_neg (by omega),if_neg (by omega),List.getElem?_append_left (by omega),List.getElem?_take_of_lt h1]
    simpa using a4 q h1
   ·by_cases h2:q=i
    ·subst h2
     rw [if_neg (by omega),if_pos (by rw [List.length_singleton];omega),List.getElem?_append_right (by omega),ht,Nat.sub_self]
     rfl
    ·rw [if_pos (by rw [List.length_drop];omega),List.getElem?_append_right (by omega),ht,show q-i=(q-(i+1))+1 by omega,List.getElem?_cons_succ]
  have grownMid:∀ (g c:Nat) (cs:List Value),i<l.length→l.length≤c→c<l.length+1→cs.length=l.length→(∀ j v,cs[j]? = some v→w.cell? ⟨g,0+j,none⟩=some v)→(∀ v∈cs,v.oneCell'=true)→Els Γ.St w 1 l cs→
    Calls Tryz.prog 187 #[.slice (some ⟨g,0,none⟩) l.length c,.int .i64 (i:Int),.slice (some ⟨g1,0,none⟩) 1 cap1] w fun e w'=>∃ V,e = .returned V∧CRes C I Γ [.arr z 3 1 l,.arr false 3 1 [[SV.int .i64 nn]]] w Φ (.fl 0) [.arr z 3 1 (insR l i nn),.arr false 3 1 [[SV.int .i64 nn]]] s V w':=by
   intro g c cs hi' a1 a2 a3 a4 a5 a6
   refine (Any2.slices_Insert_int_grow Tryz.lays2_21 g 0 l.length c i g1 0 1 cap1 cs [.int .i64 nn] w hi' (by omega) a1 a2 (by omega) a3 rfl a4 hvcell a5 hv1).mono ?_
   rintro e w' ⟨rfl,rfl⟩
   refine ⟨_,rfl,?_⟩
   obtain ⟨hge,hle⟩:=grown_facts (w:=w) (need:=l.length+1) (cap:=c) (e:=3) (by omega)
   have hE:=insR_els (n:=nn) a6 hil
   have hlen:=insR_len l i nn hil
   have key:∀ (row:Array Value) (kc:Nat),row.size=kc→(∀ q,q<i→row[q]? = cs[q]?)→l.length+1≤kc→kc≤maxLen→
     CRes C I Γ [.arr z 3 1 l,.arr false 3 1 [[SV.int .i64 nn]]] w Φ (.fl 0) [.arr z 3 1 (insR l i nn),.arr false 3 1 [[SV.int .i64 nn]]] s (.slice (some ⟨w.heap.size,0,none⟩) (l.length+1) kc) (((w.alloc (.cells row 3)).drew.setCells w.heap.size i [Value.int .i64 nn]).drew.setCells w.heap.size (i+1) (cs.drop i)):=by
    intro row kc b1 b2 b3 b4
    have hwh:(w.alloc (.cells row 3)).drew.heap=w.heap.push (.cells row 3):=rfl
    obtain ⟨c1,c2,c3,c4,c5,c6⟩:=setCells_row (w:=(w.alloc (.cells row 3)).drew) (o:=i) (vs:=[Value.int .i64 nn]) (heap_push_eq hwh) (by rw [List.length_singleton];omega) hv1
    generalize hw1:(w.alloc (.cells row 3)).drew.setCells w.heap.size i [Value.int .i64 nn]=w1 at *
    have hs1:(putAt row.toList i [Value.int .i64 nn]).toArray.size=kc:=by rw [List.size_toArray,putAt_length];simpa using b1
    obtain ⟨d1,d2,d3,d4,d5,d6⟩:=setCells_row (w:=w1.drew) (o:=i+1) (vs:=cs.drop i) c1 (by rw [hs1,List.length_drop];omega) (fun v hv=>a5 v (List.mem_of_mem_drop hv))
    have hoth:∀ k,k<w.heap.size→(w1.drew.setCells w.heap.size (i+1) (cs.drop i)).heap[k]? = w.heap[k]?:=fun k hk=>by
     rw [d2 k (by omega)]
     exact (c2 k (by omega)).trans (heap_push_lt hwh hk)
    have hsz:(w1.drew.setCells w.heap.size (i+1) (cs.drop i)).heap.size=w.heap.size+1:=by
     rw [d3]
     show w1.heap.size=_
     rw [c3,hwh]
     simp
    have:=sins_res (C:=C) (w':=w1.drew.setCells w.heap.size (i+1) (cs.drop i)) (l':=insR l i nn) hI w.heap.size kc (cs.take i++Value.int .i64 nn::cs.drop i) _ hnf hH hi hd (.inr rfl) (by rw [hsz];omega) (fun k hk _=>hoth k hk) (by rw [hsz];omega) (d4.trans c4) (d5.trans c5) (d6.trans c6) d1 (hE.mono (fun g hg=>hoth g (hH.stlt g hg)) (fun _ h=>h)) (insR_ne _ _ _) (two row cs a3 hi' (by omega) b2) (by rw [List.size_toArray,putAt_length,List.length_append,List.length_cons,List.length_take,List.length_drop];simp only [List.size_toArray,putAt_length] at hs1 ⊢;omega) (by rw [hlen];exact b3) b4 (by rw [List.size_toArray,putAt_length];simpa using hs1)
    rw [hlen] at this
    exact this
   have hz1:(Value.int .i64 0).cells.size=1:=rfl
   have ht:(cs.take i).length=i:=by rw [List.length_take];omega
   refine key _ _ ?_ (fun q hq=>?_) hge hle
   ·simp only [Array.size_append,List.size_toArray,size_zeroCells,hz1,Nat.mul_one,ht]
    have:l.length+1≤grownCap w (l.length+1) c 3:=hge
    show i+(l.length+1-i)+(grownCap w (l.length+1) c 3-(l.length+1))=grownCap w (l.length+1) c 3
    omega
   ·rw [Array.getElem?_append_left (by simp only [Array.size_append,List.size_toArray,ht];omega),Array.getElem?_append_left (by simp only [List.size_toArray,ht];omega),List.getElem?_toArray,List.getElem?_take_of_lt hq]
  have two':∀ (row:Array Value) (cs:List Value),cs.length=l.length→i<l.length→l.length+1≤row.size→(∀ q,q<i→row[q]? = cs[q]?)→
    ∀ q,q<(cs.take i++Value.int .i64 nn::cs.drop i).length→(putAt (putAt row.toList (i+1) (cs.drop i)) i [Value.int .i64 nn]).toArray[q]? = (cs.take i++Value.int .i64 nn::cs.drop i)[q]?:=by
   intro row cs a1 a2 a3 a4 q hq
   have hq':q<l.length+1:=by
    rw [List.length_append,List.length_cons,List.length_take,List.length_drop] at hq
    omega
   have ht:(cs.take i).length=i:=by rw [List.length_take];omega
   have hrl:row.toList.length=row.size:=Array.length_toList
   simp only [List.getElem?_toArray]
   rw [putAt_get _ _ _ (by rw [putAt_length,List.length_singleton,hrl];omega),putAt_get _ _ _ (by rw [List.length_drop,hrl];omega)]
   by_cases h1:q<i
   ·rw [if_neg (by omega),if_neg (by omega),List.getElem?_append_left (by omega),List.getElem?_take_of_lt h1]
    simpa using a4 q h1
   ·by_cases h2:q=i
    ·subst h2
     rw [if_pos (by rw [List.length_singleton];omega),List.getElem?_append_right (by omega),ht,Nat.sub_self]
     rfl
    ·rw [if_neg (by rw [List.length_singleton];omega),if_pos (by rw [List.length_drop];omega),List.getElem?_append_right (by omega),ht,show q-i=(q-(i+1))+1 by omega,List.getElem?_cons_succ]
  cases hs with
  | flv _ e2 sz2 h'=>
   simp only [shpOf,List.getElem?_cons_zero,Option.map_some,Blk.shp,Option.some.injEq,Shp.arr.injEq] at h'
   obtain ⟨q1,q2,q3,h4⟩:=h'
   obtain rfl:=List.length_eq_zero_iff.1 h4
   obtain rfl:i=0:=by simpa using hil
   exact grownEnd none 0 [] (by simp) (by simp) rfl (fun _=>rfl) (fun a h=>by cases h) ⟨rfl,fun j hj=>by simp at hj⟩
  | fl _ g z' e2 sz2 n' cap h' hv' hg' hcap hm hs'=>
   simp only [shpOf,List.getElem?_cons_zero,Option.map_some,Blk.shp,Option.some.injEq,Shp.arr.injEq] at h'
   obtain ⟨rfl,rfl,rfl,rfl⟩:=h'
   have hne:¬ (z=true∧l=[]):=by rintro ⟨q1,q2⟩;exact hv' q1 (by rw [q2];rfl)
   obtain ⟨g',cur,hg2,hh,hsize,hlens,hels⟩:=hH.arr' (b:=0) rfl hne
   obtain rfl:g=g':=by
    rw [hg'] at hg2
    exact Option.some.inj hg2
   have hcs:cur.size=cap:=by
    have:=hs'
    simp only [World.shape?,hh,Option.some.injEq,Prod.mk.injEq,true_and,Nat.mul_one] at this
    exact this
   rw [Nat.mul_one] at hsize
   have hO:Els Γ.St w 1 l (cur.toList.take l.length):=by
    refine ⟨by rw [List.length_take,Array.length_toList (xs:=cur)];omega,fun j hj=>⟨hlens j hj,fun k hk=>?_⟩⟩
    obtain ⟨U,e1,u⟩:=hels j hj k hk
    refine ⟨U,?_,u⟩
    have hk':k<1:=by rw [←hlens j hj];exact hk
    rw [List.getElem?_take,if_pos (by omega)]
    simpa using e1
   have hol:(cur.toList.take l.length).length=l.length:=by rw [List.length_take,Array.length_toList (xs:=cur)];omega
   have hcell:∀ j v,(cur.toList.take l.length)[j]? = some v→w.cell? ⟨g,0+j,none⟩=some v:=by
    intro j v hj
    have hj':j<l.length:=by
     have:=(List.getElem?_eq_some_iff.1 hj).1
     omega
    rw [List.getElem?_take,if_pos hj'] at hj
    simpa [World.cell?,hh] using hj
   have h1c:∀ v∈cur.toList.take l.length,v.oneCell'=true:=by
    intro v hv
    obtain ⟨j,hj,rfl⟩:=List.getElem_of_mem hv
    have hj':j<l.length:=by omega
    obtain ⟨_,u⟩:=hO.2 j hj'
    obtain ⟨U,e1,u2⟩:=u 0 (by rw [hlens j hj'];exact Nat.one_pos)
    rw [Nat.mul_one,Nat.add_zero,List.getElem?_eq_getElem hj] at e1
    cases e1
    exact u2.oneCell
   have hlen:=insR_len l i nn hil
   have hE:=insR_els (n:=nn) hO hil
   have hsome:∀ j,j<cap→(w.cell? ⟨g,j,none⟩).isSome=true:=by
    intro j hj
    simp only [World.cell?,hh]
    rw [Array.getElem?_eq_getElem (by omega)]
    rfl
   have hfrz:∀ j,w.frozen? ⟨g,j,none⟩=false:=fun j=>by simp [World.frozen?,hh]
   have hng1:g1≠g:=fun e=>by
    have:=hH.inj 1 0 g (by rw [←e];exact n1) hg'
    omega
   have hmx:cap≤9223372036854775807:=by
    simp only [maxLen] at hm
    omega
   by_cases hroom:l.length+1≤cap
   ·have key:∀ (w':World) (row:List Value),w'.heap[g]? = some (.cells row.toArray 3 (0,0))→(∀ k,k≠g→w'.heap[k]? = w.heap[k]?)→w'.heap.size=w.heap.size→w'.os=w.os→w'.tape=w.tape→w'.output=w.output→row.length=cap→
      (∀ q,q<((cur.toList.take l.length).take i++Value.int .i64 nn::(cur.toList.take l.length).drop i).length→row.toArray[q]? = ((cur.toList.take l.length).take i++Value.int .i64 nn::(cur.toList.take l.length).drop i)[q]?)→
      CRes C I Γ [.arr z 3 1 l,.arr false 3 1 [[SV.int .i64 nn]]] w Φ (.fl 0) [.arr z 3 1 (insR l i nn),.arr false 3 1 [[SV.int .i64 nn]]] s (.slice (some ⟨g,0,none⟩) (l.length+1) cap) w':=by
     intro w' row k1 k2 k3 k4 k5 k6 k7 k8
     have hgS:¬ Γ.St g:=(hH.lt 0 g hg').2.2
     have:=sins_res (C:=C) (w':=w') (l':=insR l i nn) hI g cap ((cur.toList.take l.length).take i++Value.int .i64 nn::(cur.toList.take l.length).drop i) row.toArray hnf hH hi hd (.inl hg') (by rw [k3];exact (hH.lt 0 g hg').2.1) (fun k hk hk2=>k2 k (fun e=>hk2 (e ▸ hg'))) (by omega) k4 k5 k6 k1
      (hE.mono (fun k hk=>k2 k (fun e=>hgS (e ▸ hk))) (fun _ h=>h)) (insR_ne _ _ _) k8
      (by rw [List.size_toArray,k7,List.length_append,List.length_cons,List.length_take,List.length_drop,hol];omega) (by rw [hlen];exact hroom) hm (by rw [List.size_toArray,k7])
     rw [hlen] at this
     exact this
    by_cases hie:i=l.length
    ·subst hie
     refine (Any2.slices_Insert_int_end_room Tryz.lays2_21 g 0 l.length cap g1 0 1 cap1 [.int .i64 nn] w (by omega) hroom hmx rfl (fun j hj=>hsome _ (by omega)) (fun j hj=>hfrz _) hvcell hv1).mono ?_
     rintro e w' ⟨rfl,rfl⟩
     refine ⟨_,rfl,?_⟩
     obtain ⟨c1,c2,c3,c4,c5,c6⟩:=setCells_row (w:=w) (o:=0+l.length) (vs:=[Value.int .i64 nn]) hh (by rw [List.length_singleton];omega) hv1
     refine key _ _ c1 c2 c3 c4 c5 c6 (by rw [putAt_length];simpa using hcs) (fun q hq=>?_)
     rw [List.take_of_length_le (by omega),List.drop_of_length_le (by omega)] at hq ⊢
     rw [List.length_append,hol,List.length_singleton] at hq
     simp only [List.getElem?_toArray]
     rw [putAt_get _ _ _ (by rw [List.length_singleton,Array.length_toList (xs:=cur)];omega)]
     by_cases hq2:q<l.length
     ·rw [if_neg (by omega),List.getElem?_append_left (by omega),List.getElem?_take,if_pos hq2]
     ·obtain rfl:q=l.length:=by omega
      rw [if_pos (by rw [List.length_singleton];omega),List.getElem?_append_right (by omega),hol]
      simp
    ·have hi':i<l.length:=by omega
     refine (Any2.slices_Insert_int_shift Tryz.lays2_21 g 0 l.length cap i g1 0 1 cap1 (cur.toList.take l.length) [.int .i64 nn] w hi' (by omega) hroom hmx hng1 hol rfl hcell (fun j hj=>hsome _ (by omega)) (fun j hj=>hfrz _) hvcell h1c hv1 3 3 cur1.size cur.size (by simp [World.shape?,n2]) (by simp [World.shape?,hh]) (by omega) (by simp [World.frozen?,n2]) (by simp [World.frozen?,n2])).mono ?_
     rintro e w' ⟨rfl,rfl⟩
     refine ⟨_,rfl,?_⟩
     obtain ⟨c1,c2,c3,c4,c5,c6⟩:=setCells_row (w:=w.drew) (o:=0+(i+1)) (vs:=(cur.toList.take l.length).drop i) hh (by rw [List.length_drop,hol];omega) (fun v hv=>h1c v (List.mem_of_mem_drop hv))
     generalize hw1:w.drew.setCells g (0+(i+1)) ((cur.toList.take l.length).drop i)=w1 at *
     have hs1:(putAt cur.toList (0+(i+1)) ((cur.toList.take l.length).drop i)).toArray.size=cap:=by rw [List.size_toArray,putAt_length];simpa using hcs
     obtain ⟨d1,d2,d3,d4,d5,d6⟩:=setCells_row (w:=w1) (o:=0+i) (vs:=[Value.int .i64 nn]) c1 (by rw [hs1,List.length_singleton];omega) hv1
     refine key _ _ d1 (fun k hk=>(d2 k hk).trans (c2 k hk)) (d3.trans c3) (d4.trans c4) (d5.trans c5) (d6.trans c6) (by rw [putAt_length];simpa using hs1) ?_
     rw [Nat.zero_add,Nat.zero_add]
     exact two' cur _ hol hi' (by omega) (fun q hq=>by rw [List.getElem?_take,if_pos (by omega)];simp)
   ·by_cases hie:i=l.length
    ·subst hie
     exact grownEnd (some ⟨g,0,none⟩) cap (cur.toList.take l.length) hcap (by omega) hol (fun h=>by cases h) (fun a h j v hj=>by
      obtain rfl:=Option.some.inj h
      rw [addr_add]
      exact hcell j v hj) hO
    ·exact grownMid g cap _ (by omega) hcap (by omega) hol hcell h1c hO
 ·cases hpf
end Go.Proofs.YtcfingekgbbclaaGreatDoor.E
namespace Go.Proofs.YtcfingekgbbclaaGreatDoor.E
open Go Go.Proofs 
set_option linter.unusedVariables false
set_option maxRecDepth 100000
section
theorem y_dstep:YFact Tryz.prog GX 175 X_dstep:=by
 refine yfact_of_run (C₀:=c_dstep LF) (xok_of (lx:=[(170,X_padapt),(168,X_ppoint)]) (ly:=[(186,X_dnum),(187,X_sins)]) (ls:=[]) rfl rfl rfl ⟨x_padapt,x_ppoint,trivial⟩ ⟨y_dnum,y_sins,trivial⟩ trivial) (okFns_of rfl (by kernel_rfl)) follows ?_
 intro args H ret Hc h
 unfold X_dstep at h
 split at h
 ·rename_i rest n i b st z l
  obtain ⟨h0,h⟩:=tr_need h
  obtain ⟨h1,h⟩:=tr_need h
  obtain ⟨h2,h⟩:=tr_need h
  obtain ⟨h3,h⟩:=tr_need h
  obtain ⟨h4,h⟩:=tr_need h
  obtain ⟨rfl,rfl⟩:=tr_ret h
  refine ⟨rfl,rfl,fun σ yh s=>?_⟩
  have e:=(dstep_ev LF yh s 0 rest n i b st z l).trans (dstep_spec rest n i b st z l h0 h1 h2 h3 h4)
  exact ⟨1,_,e,rfl⟩
 ·cases h
theorem x_pdec:XFact Tryz.prog GX 155 X_pdec:=by
 refine XFact.fix (pf:=X_pdec0) _ (xfact_of_stab [1,0] (C₀:=c_pdec LF) (xok_of (lx:=[(80,X_lastb)]) (ly:=[(175,X_dstep)]) (ls:=[]) rfl rfl rfl ⟨x_lastb,trivial⟩ ⟨y_dstep,trivial⟩ trivial) (okFns_of rfl (by kernel_rfl)) follows ?_)
 intro args ret Hc h
 unfold X_pdec0 at h
 split at h
 ·rename_i s
  obtain ⟨h0,h⟩:=tr_need h
  obtain ⟨rfl,rfl⟩:=tr_ret h
  obtain ⟨r,H,e,hs⟩:=pdec_sp s h0
  exact ⟨rfl,rfl,rfl,1,r,H,(pdec_ev LF noY () 0 s).trans e,hs⟩
 ·cases h
end
end Go.Proofs.YtcfingekgbbclaaGreatDoor.E
namespace Go.Proofs.YtcfingekgbbclaaGreatDoor.E
open Go Go.Proofs Go.Sort
set_option linter.unusedVariables false
set_option linter.unusedSimpArgs false
set_option maxRecDepth 100000
theorem x_uvalid:XFact Tryz.prog GX 139 X_uvalid:=by
 refine XFact.fix (pf:=X_uvalid0) _ (xfact_of_calls (fn:=Tryz.f139) (by kernel_rfl) (by kernel_rfl) (by kernel_rfl) ?_)
 intro args ret Hc h
 unfold X_uvalid0 at h
 split at h
 ·rename_i s
  obtain ⟨h0,h⟩:=tr_need h
  obtain ⟨rfl,rfl⟩:=tr_ret h
  refine ⟨rfl,rfl,fun C hP hCG Γ w Vs hG hlt hc=>?_⟩
  obtain ⟨U,rfl,hu⟩:=hc.arr1
  obtain ⟨s',rfl,rfl⟩:=hu.inv_str
  have hs:=maxL h0
  refine (Any.utf8_ValidString Tryz.lays196 s' w (by simp at hs;omega) (gk_utf8 hG hCG)).mono ?_
  rintro e w' ⟨rfl,hb⟩
  rw [←validD_pts]
  exact ⟨_,rfl,hb,VP.mk_bool _⟩
 ·cases h
theorem x_ucount:XFact Tryz.prog GX 140 X_ucount:=by
 refine XFact.fix (pf:=X_ucount0) _ (xfact_of_calls (fn:=Tryz.f140) (by kernel_rfl) (by kernel_rfl) (by kernel_rfl) ?_)
 intro args ret Hc h
 unfold X_ucount0 at h
 split at h
 ·rename_i s
  obtain ⟨h0,h⟩:=tr_need h
  obtain ⟨rfl,rfl⟩:=tr_ret h
  refine ⟨rfl,rfl,fun C hP hCG Γ w Vs hG hlt hc=>?_⟩
  obtain ⟨U,rfl,hu⟩:=hc.arr1
  obtain ⟨s',rfl,rfl⟩:=hu.inv_str
  have hs:=maxL h0
  refine (Any.utf8_RuneCountInString Tryz.lays195 s' w (by simp at hs;omega)).mono ?_
  rintro e w' ⟨rfl,pos,rfl⟩
  rw [Lib.runeCountL_eq]
  exact ⟨_,rfl,below_iter _ _ _,VP.mk_int _ _⟩
 ·cases h
theorem x_drune:XFact Tryz.prog GX 153 X_drune:=fun args ret Hc h=>by
 have:trRes (X_drune args)=none:=by unfold X_drune X_drune0;split<;>rfl
 rw [this] at h;cases h
theorem z_sseqf:SFact Tryz.prog GX 152 X_sseqf:=by
 refine sfact_of_ev (C₀:=c_sseqf LF) ((XFacts.ok (l:=[(153,X_drune),(154,X_sidx)]) rfl ⟨x_drune,x_sidx,trivial⟩)) (okFns_of rfl (by kernel_rfl)) follows ?_
 intro args H L h σ yh s s' hr
 unfold X_sseqf at h
 split at h
 ·rename_i p t n
  simp only [Option.some.injEq,Prod.mk.injEq] at h
  obtain ⟨h1,rfl⟩:=h
  obtain ⟨t',f⟩:=sseqf_spec (R:=PV × List Blk × σ) yh p t n s s' h1 hr
  exact ⟨1,_,(sseqf_ev LF yh 0 p t n s).trans (f _)⟩
 ·cases h
end Go.Proofs.YtcfingekgbbclaaGreatDoor.E
namespace Go.Proofs.YtcfingekgbbclaaGreatDoor.E
open Go Go.Proofs 
set_option linter.unusedVariables false
set_option maxRecDepth 100000
section
theorem x_lprop:XFact Tryz.prog GX 126 X_lprop:=by
 refine XFact.fix (pf:=X_lprop0) _ (xfact_of_stab [] (C₀:=c_lprop LF) (XFacts.ok (l:=[(155,X_pdec),(141,X_penc)]) rfl ⟨x_pdec,x_penc,trivial⟩) (okFns_of rfl (by kernel_rfl)) follows ?_)
 intro args ret Hc h
 unfold X_lprop0 at h
 split at h
 ·rename_i s
  obtain ⟨h0,h⟩:=tr_need h
  obtain ⟨rfl,rfl⟩:=tr_ret h
  have e:=(lprop_ev LF noY () 0 s).trans (lprop_spec s h0)
  exact ⟨rfl,rfl,rfl,1,_,_,e,rfl⟩
 ·cases h
theorem x_lval:XFact Tryz.prog GX 92 X_lval:=by
 refine XFact.fix (pf:=X_lval0) _ (xfact_of_stab [] (C₀:=c_lval LF) (XFacts.ok (l:=[(57,X_cpre),(126,X_lprop)]) rfl ⟨x_cpre,x_lprop,trivial⟩) (okFns_of rfl (by kernel_rfl)) follows ?_)
 intro args ret Hc h
 unfold X_lval0 at h
 split at h
 ·rename_i s
  obtain ⟨h0,h⟩:=tr_need h
  obtain ⟨rfl,rfl⟩:=tr_ret h
  have e:=(lval_ev LF noY () 0 s).trans (lval_spec s h0)
  exact ⟨rfl,rfl,rfl,1,_,_,e,rfl⟩
 ·cases h
theorem x_lasc:XFact Tryz.prog GX 110 X_lasc:=by
 refine XFact.fix (pf:=X_lasc0) _ (xfact_of_stab [0,0] (C₀:=c_lasc LF) (XFacts.ok (l:=[(139,X_uvalid),(140,X_ucount),(56,X_lowc),(141,X_penc),(92,X_lval)]) rfl ⟨x_uvalid,x_ucount,x_lowc,x_penc,x_lval,trivial⟩) (okFns_of rfl (by kernel_rfl)) follows ?_)
 intro args ret Hc h
 unfold X_lasc0 at h
 split at h
 ·rename_i s
  obtain ⟨h0,h⟩:=tr_need h
  obtain ⟨rfl,rfl⟩:=tr_ret h
  obtain ⟨r,H,e,hs⟩:=lasc_sp s h0
  exact ⟨rfl,rfl,rfl,1,r,H,(lasc_ev LF noY () 0 s).trans e,hs⟩
 ·cases h
theorem x_hdig:XFact Tryz.prog GX 136 X_hdig:=by
 refine XFact.fix (pf:=X_hdig0) _ (xfact_of_stab [] (C₀:=c_hdig LF) (XFacts.ok (l:=[]) rfl trivial) (okFns_of rfl (by kernel_rfl)) follows ?_)
 intro args ret Hc h
 unfold X_hdig0 at h
 split at h
 ·rename_i b
  obtain ⟨h0,h⟩:=tr_need h
  obtain ⟨rfl,rfl⟩:=tr_ret h
  have e:=(hdig_ev LF noY () 0 b).trans (hdig_spec b h0)
  exact ⟨rfl,rfl,rfl,1,_,_,e,rfl⟩
 ·cases h
theorem x_hdec:XFact Tryz.prog GX 106 X_hdec:=by
 refine XFact.fix (pf:=X_hdec0) _ (xfact_of_stab [0,0] (C₀:=c_hdec LF) (XFacts.ok (l:=[(136,X_hdig)]) rfl ⟨x_hdig,trivial⟩) (okFns_of rfl (by kernel_rfl)) follows ?_)
 intro args ret Hc h
 unfold X_hdec0 at h
 split at h
 ·rename_i s
  obtain ⟨h0,h⟩:=tr_need h
  obtain ⟨rfl,rfl⟩:=tr_ret h
  obtain ⟨r,H,e,hs⟩:=hdec_sp s h0
  exact ⟨rfl,rfl,rfl,1,r,H,(hdec_ev LF noY () 0 s).trans e,hs⟩
 ·cases h
theorem x_haddr:XFact Tryz.prog GX 105 X_haddr:=by
 refine XFact.fix (pf:=X_haddr0) _ (xfact_of_stab [0,0] (C₀:=c_haddr LF) (XFacts.ok (l:=[(135,X_v6p)]) rfl ⟨x_v6p,trivial⟩) (okFns_of rfl (by kernel_rfl)) follows ?_)
 intro args ret Hc h
 unfold X_haddr0 at h
 split at h
 ·rename_i s
  obtain ⟨h0,h⟩:=tr_need h
  obtain ⟨h1,h⟩:=tr_need h
  obtain ⟨rfl,rfl⟩:=tr_ret h
  obtain ⟨r,H,e,hs⟩:=haddr_sp s h0 h1
  exact ⟨rfl,rfl,rfl,1,r,H,(haddr_ev LF noY () 0 s).trans e,hs⟩
 ·cases h
theorem x_hparse:XFact Tryz.prog GX 81 X_hparse:=by
 refine XFact.fix (pf:=X_hparse0) _ (xfact_of_stab [0,0] (C₀:=c_hparse LF) (XFacts.ok (l:=[(59,X_hpre),(105,X_haddr),(106,X_hdec),(107,X_tsufc),(90,X_numeric),(108,X_pnum),(109,X_ssplitM),(110,X_lasc),(111,X_sjoin)]) rfl ⟨x_hpre,x_haddr,x_hdec,x_tsufc,x_numeric,x_pnum,x_ssplitM,x_lasc,x_sjoin,trivial⟩) (okFns_of rfl (by kernel_rfl)) follows ?_)
 intro args ret Hc h
 unfold X_hparse0 at h
 split at h
 ·rename_i s
  obtain ⟨h0,h⟩:=tr_need h
  obtain ⟨rfl,rfl⟩:=tr_ret h
  obtain ⟨r,H,e,hs⟩:=hparse_sp s h0
  exact ⟨rfl,rfl,rfl,1,r,H,(hparse_ev LF noY () 0 s).trans e,hs⟩
 ·cases h
theorem x_lsseq:XFact Tryz.prog GX 125 X_lsseq:=by
 refine XFact.fix (pf:=X_lsseq0) _ (xfact_of_run (C₀:=c_lsseq LF) (XFacts.ok (l:=[]) rfl trivial) (okFns_of rfl (by kernel_rfl)) follows ?_)
 intro args ret Hc h
 unfold X_lsseq0 at h
 split at h
 ·rename_i t p n
  obtain ⟨rfl,rfl⟩:=tr_ret h
  have e:=(lsseq_ev LF noY () 0 t p n).trans (lsseq_spec t p n )
  exact ⟨rfl,1,_,[],e,rfl,rfl⟩
 ·cases h
theorem x_sseq:XFact Tryz.prog GX 91 X_sseq:=by
 refine XFact.fix (pf:=X_sseq0) _ (xfact_of_run (C₀:=c_sseq LF) (XFacts.ok (l:=[(125,X_lsseq)]) rfl ⟨x_lsseq,trivial⟩) (okFns_of rfl (by kernel_rfl)) follows ?_)
 intro args ret Hc h
 unfold X_sseq0 at h
 split at h
 ·rename_i t p
  obtain ⟨rfl,rfl⟩:=tr_ret h
  have e:=(sseq_ev LF noY () 0 t p).trans (sseq_spec t p )
  exact ⟨rfl,1,_,[],e,rfl,rfl⟩
 ·cases h
theorem x_hvn:XFact Tryz.prog GX 64 X_hvn:=by
 refine XFact.fix (pf:=X_hvn0) _ (xfact_of_stab [] (C₀:=c_hvn LF) (xok_of (lx:=[(90,X_numeric),(91,X_sseq),(92,X_lval)]) (ly:=[]) (ls:=[(152,X_sseqf)]) rfl rfl rfl ⟨x_numeric,x_sseq,x_lval,trivial⟩ trivial ⟨z_sseqf,trivial⟩) (okFns_of rfl (by kernel_rfl)) follows ?_)
 intro args ret Hc h
 unfold X_hvn0 at h
 split at h
 ·rename_i s
  obtain ⟨h0,h⟩:=tr_need h
  obtain ⟨rfl,rfl⟩:=tr_ret h
  obtain ⟨r,H,e,hs⟩:=hvn_sp s h0
  exact ⟨rfl,rfl,rfl,1,r,H,(hvn_ev LF noY () 0 s).trans e,hs⟩
 ·cases h
theorem x_hval:XFact Tryz.prog GX 46 X_hval:=by
 refine XFact.fix (pf:=X_hval0) _ (xfact_of_stab [] (C₀:=c_hval LF) (XFacts.ok (l:=[(64,X_hvn)]) rfl ⟨x_hvn,trivial⟩) (okFns_of rfl (by kernel_rfl)) follows ?_)
 intro args ret Hc h
 unfold X_hval0 at h
 split at h
 ·rename_i kd nm v4 a0 a1 a2 a3 a4 a5 a6 a7
  obtain ⟨h0,h⟩:=tr_need h
  obtain ⟨h1,h⟩:=tr_need h
  obtain ⟨h2,h⟩:=tr_need h
  obtain ⟨rfl,rfl⟩:=tr_ret h
  obtain ⟨r,H,e,hs⟩:=hval_sp kd nm v4 a0 a1 a2 a3 a4 a5 a6 a7 h0 h1 h2
  exact ⟨rfl,rfl,rfl,1,r,H,(hval_ev LF noY () 0 kd nm v4 a0 a1 a2 a3 a4 a5 a6 a7).trans e,hs⟩
 ·cases h
theorem x_hfmt:XFact Tryz.prog GX 50 X_hfmt:=by
 refine XFact.fix (pf:=X_hfmt0) _ (xfact_of_stab [] (C₀:=c_hfmt LF) (XFacts.ok (l:=[(46,X_hval),(67,X_v4f),(68,X_v6f)]) rfl ⟨x_hval,x_v4f,x_v6f,trivial⟩) (okFns_of rfl (by kernel_rfl)) follows ?_)
 intro args ret Hc h
 unfold X_hfmt0 at h
 split at h
 ·rename_i kd nm v4 a0 a1 a2 a3 a4 a5 a6 a7
  obtain ⟨h0,h⟩:=tr_need h
  obtain ⟨h1,h⟩:=tr_need h
  obtain ⟨h2,h⟩:=tr_need h
  obtain ⟨rfl,rfl⟩:=tr_ret h
  obtain ⟨r,H,e,hs⟩:=hfmt_sp kd nm v4 a0 a1 a2 a3 a4 a5 a6 a7 h0 h1 h2
  exact ⟨rfl,rfl,rfl,1,r,H,(hfmt_ev LF noY () 0 kd nm v4 a0 a1 a2 a3 a4 a5 a6 a7).trans e,hs⟩
 ·cases h
end
end Go.Proofs.YtcfingekgbbclaaGreatDoor.E
namespace Go.Proofs.YtcfingekgbbclaaGreatDoor.E
open Go Go.Proofs Go.Sort
set_option linter.unusedVariables false
set_option linter.unusedSimpArgs false
set_option maxRecDepth 100000
theorem x_sidxb:XFact Tryz.prog GX 73 X_sidxb:=by
 refine XFact.fix (pf:=X_sidxb0) _ (xfact_of_calls (fn:=Tryz.f73) (by kernel_rfl) (by kernel_rfl) (by kernel_rfl) ?_)
 intro args ret Hc h
 unfold X_sidxb0 at h
 split at h
 ·rename_i s c
  obtain ⟨h0,h⟩:=tr_need h
  obtain ⟨h1,h⟩:=tr_need h
  obtain ⟨rfl,rfl⟩:=tr_ret h
  refine ⟨rfl,rfl,fun C hP hCG Γ w Vs hG hlt hc=>?_⟩
  obtain ⟨U,V,rfl,hu,hv⟩:=hc.arr2
  obtain ⟨s',rfl,rfl⟩:=hu.inv_str
  obtain rfl:=hv.inv_int
  refine (Any.strings_IndexByte Tryz.lays137 s' c w).mono ?_
  rintro e w' ⟨rfl,rfl⟩
  exact ⟨_,rfl,RowKit.Below.refl _ _,VP.mk_int _ _⟩
 ·cases h
theorem x_itoaU:XFact Tryz.prog GX 51 X_itoaU:=by
 refine XFact.fix (pf:=X_itoaU0) _ (xfact_of_calls (fn:=Tryz.f51) (by kernel_rfl) (by kernel_rfl) (by kernel_rfl) ?_)
 intro args ret Hc h
 unfold X_itoaU0 at h
 split at h
 ·rename_i n
  obtain ⟨h0,h⟩:=tr_need h
  obtain ⟨rfl,rfl⟩:=tr_ret h
  refine ⟨rfl,rfl,fun C hP hCG Γ w Vs hG hlt hc=>?_⟩
  obtain ⟨U,rfl,hu⟩:=hc.arr1
  obtain rfl:=hu.inv_int
  obtain ⟨hb0,hb1⟩:=i64b_iff.1 h0
  refine (Any.strconv_Itoa Tryz.laysM171 n (by omega) (by omega) w (gk_pow hG hCG)).mono ?_
  rintro e w' ⟨rfl,k,os,rfl⟩
  refine ⟨_,rfl,(below_drewN w k).trans (show RowKit.Below w.heap.size _ _ from below_grow (w.drewN k) os),?_⟩
  have:Lib.itoa n=itoaI n:=by
   unfold Lib.itoa itoaI
   split
   ·rw [show n.natAbs=(-n).toNat by omega]
   ·rfl
  rw [this]
  exact VP.mk_str _
 ·cases h
theorem x_sidxaL:XFact Tryz.prog GX 58 X_sidxaL:=by
 refine XFact.fix (pf:=X_sidxaL0) _ (xfact_of_calls (fn:=Tryz.f58) (by kernel_rfl) (by kernel_rfl) (by kernel_rfl) ?_)
 intro args ret Hc h
 unfold X_sidxaL0 at h
 split at h
 ·rename_i s p
  obtain ⟨h0,h⟩:=tr_need h
  obtain ⟨h1,h⟩:=tr_need h
  obtain ⟨h2,h⟩:=tr_need h
  obtain ⟨rfl,rfl⟩:=tr_ret h
  refine ⟨rfl,rfl,fun C hP hCG Γ w Vs hG hlt hc=>?_⟩
  obtain ⟨U,V,rfl,hu,hv⟩:=hc.arr2
  obtain ⟨s',rfl,rfl⟩:=hu.inv_str
  obtain ⟨p',rfl,hp⟩:=hv.inv_str
  have hs:=maxL h0
  have hp1:p=isl:=by simpa [isSl] using h1
  have h9:=Nat.le_of_ble_eq_true h2
  have hz:=zero_of_info (P:=Tryz.prog) (t:=Tryz.lays153_ren.t 116) (v:=.agg (Array.replicate 256 (.bool false))) (n:=256) (by kernel_rfl)
  subst hp1
  have hpl:p'.size=3:=by have:=Lib.size_eq p';rw [hp] at this;exact this
  have hsl:=Lib.size_eq s'
  refine (Any.strings_IndexAny_long Tryz.lays153 hz.1 hz.2 s' p' w (by omega) (by omega) (by omega) (by omega) ?_).mono ?_
  ·rw [hp]
   intro j b hb
   have:b∈isl:=List.mem_of_getElem? hb
   revert b
   simp only [isl,List.mem_cons,List.not_mem_nil,or_false]
   rintro b _ (rfl | rfl | rfl)<;>decide
  ·rintro e w' ⟨rfl,rfl⟩
   rw [hp]
   exact ⟨_,rfl,((RowKit.Below.refl _ _).alloc (Nat.le_refl _) _).alloc (by simp) _,VP.mk_int _ _⟩
 ·cases h
end Go.Proofs.YtcfingekgbbclaaGreatDoor.E
namespace Go.Proofs.YtcfingekgbbclaaGreatDoor.E
open Go Go.Proofs
set_option linter.unusedVariables false
set_option linter.unusedSimpArgs false
set_option maxRecDepth 100000
theorem sshould_spec {R:Type} {k0:Bool→Option R} (n:Int):sshould LF n k0=k0 (ltI 8 n):=rfl
theorem uvrune_spec {R:Type} {k0:Bool→Option R} (r:Int):uvrune LF r k0=k0 (vrune r):=by
 have e1:ltN r 55296=(!ltI r 0&&ltI r 55296):=by
  rw [Bool.eq_iff_iff,ltN_iff,Bool.and_eq_true,Bool.not_eq_true',ltI_niff,ltI_iff]
  omega
 have e2:(ltI 57343 r&&ltN r 1114112)=(ltI 57343 r && !ltI 1114111 r):=by
  rw [Bool.eq_iff_iff,Bool.and_eq_true,Bool.and_eq_true,ltN_iff,Bool.not_eq_true',ltI_niff,ltI_iff]
  omega
 unfold uvrune uvrune_j0 vrune
 rw [e1,e2]
 cases ltI r 0<;>cases ltI r 55296<;>cases ltI 57343 r<;>cases ltI 1114111 r<;>rfl
theorem irn_ix (b:UInt8):Lib.indexByte isl b=irn (b.toNat:Int):=by
 by_cases h1:b=47
 ·subst h1;rfl
 ·by_cases h2:b=63
  ·subst h2;rfl
  ·by_cases h3:b=35
   ·subst h3;rfl
   ·have n:∀ c:UInt8,b≠c→(c==b)=false:=fun c h=>by rw [beq_eq_false_iff_ne];exact Ne.symm h
    have e:∀ c:UInt8,b≠c→¬ (b.toNat:Int)=(c.toNat:Int):=fun c h q=>h (UInt8.toNat_inj.1 (by omega))
    have i1:¬ (b.toNat:Int)=47:=e 47 h1
    have i2:¬ (b.toNat:Int)=63:=e 63 h2
    have i3:¬ (b.toNat:Int)=35:=e 35 h3
    unfold irn
    rw [if_neg i1,if_neg i2,if_neg i3]
    simp [isl,Lib.indexByte,n _ h1,n _ h2,n _ h3]
theorem ix_hi {l:By} {x:UInt8} (h:∀ b∈l,b.toNat<128) (hx:128≤x.toNat):Lib.indexByte l x = -1:=by
 have e:=idx_contains x l
 have hn:l.contains x=false:=by
  rw [Bool.eq_false_iff]
  intro hc
  have:=h x (by simpa using hc)
  omega
 rw [hn,Bool.not_false,ltI_iff] at e
 have:=Lib.indexByte_ge l x
 omega
theorem enc_list {r:Int} (hv:vrune r=true) (h:128≤r):2≤(Utf8.encode r).data.toList.length∧(Utf8.encode r).data.toList.length≤4∧128≤((Utf8.encode r).data.toList.getD ((Utf8.encode r).data.toList.length-1) 0).toNat:=by
 have hvr:Utf8.valid r=true:=by
  rw [validRune_eq]
  unfold validRune
  simp only [vrune,Bool.or_eq_true,Bool.and_eq_true,ltN_iff,ltI_iff] at hv
  exact decide_eq_true (by omega)
 obtain ⟨h1,h2,h3⟩:=encode_facts r hvr h
 have hl:=Lib.size_eq (Utf8.encode r)
 rw [←hl]
 refine ⟨h1,h2,?_⟩
 have h4:=h3 (by omega)
 rw [List.getD_eq_getElem?_getD,List.getElem?_eq_getElem (by omega),Option.getD_some]
 exact h4
theorem sirune_sp (r:Int) (h:ltN r 1114112=true):∃ r' H,sirune LF r (fun r0=>rv (.s (.int .i64 r0)) []) (fun r0 m1=>rv (.s (.int .i64 r0)) [.iter [47,63,35] m1])=rv r' H∧r'.stab [] H = .s (.int .i64 (irn r)):=by
 obtain ⟨h0,h1⟩:=ltN_iff.1 h
 have hLF:=LF_big
 unfold sirune
 rw [ltI_f (by omega),Bool.not_false,cond_true]
 unfold sirune_j0
 by_cases h128:r<128
 ·obtain ⟨n,rfl⟩:=Int.eq_ofNat_of_zero_le h0
  have e:wu8 (n:Int)=(n:Int):=wu8_id (by omega) (by omega)
  have e2:u8n (n:Int)=UInt8.ofNat n:=by unfold u8n;simp
  have e3:(((UInt8.ofNat n).toNat:Nat):Int)=(n:Int):=by simp;omega
  rw [ltI_t (by omega),cond_true,e,inR_t (by omega) (by omega),e2]
  have e4:=irn_ix (UInt8.ofNat n)
  rw [e3] at e4
  rw [←e4]
  exact ⟨_,_,rfl,rfl⟩
 ·rw [ltI_f (by omega),cond_false,irn_hi (by omega)]
  by_cases hF:r=65533
  ·subst hF
   obtain ⟨m,hm⟩:∃ m,LF=m+1+1+1+1:=⟨LF-4,by omega⟩
   have d0:Utf8.decode ⟨List.toArray ([47,63,35]:List UInt8)⟩ 0=(47,1):=rfl
   have d1:Utf8.decode ⟨List.toArray ([47,63,35]:List UInt8)⟩ 1=(63,1):=rfl
   have d2:Utf8.decode ⟨List.toArray ([47,63,35]:List UInt8)⟩ 2=(35,1):=rfl
   have go:∀ (R:Type) (k0:Int→Nat→Option R) (k1:Nat→Option R),sirune_l0 LF LF 0 k0 k1=k1 3:=fun R k0 k1=>by
    have s3:sirune_l0 LF (m+1) 3 k0 k1=k1 3:=by rw [sirune_l0_s];rfl
    have s2:sirune_l0 LF (m+1+1) 2 k0 k1=k1 3:=by rw [sirune_l0_s];unfold sirune_l0f;rw [d2];exact s3
    have s1:sirune_l0 LF (m+1+1+1) 1 k0 k1=k1 3:=by rw [sirune_l0_s];unfold sirune_l0f;rw [d1];exact s2
    have s0:sirune_l0 LF (m+1+1+1+1) 0 k0 k1=k1 3:=by rw [sirune_l0_s];unfold sirune_l0f;rw [d0];exact s1
    rw [←hm] at s0
    exact s0
   rw [go]
   exact ⟨_,_,rfl,rfl⟩
  ·rw [show (r==(65533:Int))=false by simpa using hF,cond_false]
   cases hv:vrune r with
   | false=>exact ⟨_,_,rfl,rfl⟩
   | true=>
    obtain ⟨l2,l4,hx⟩:=enc_list hv (by omega)
    simp only [vl,Bool.not_true,cond_false]
    generalize (Utf8.encode r).data.toList=l at *
    obtain ⟨m,hm⟩:∃ m,LF=m+1:=⟨LF-1,by omega⟩
    have e1:wi64 ((l.length:Int)-1)=((l.length-1:Nat):Int):=by rw [wi64_id (by omega) (by omega)];omega
    have go:∀ (R:Type) (k0:Int→Option R) (k1:Unit→Option R),k1 ()=k0 (-1)→sirune_l2 LF LF l ((l.length-1:Nat):Int) k0 k1=k0 (-1):=fun R k0 k1 hk=>by
     have s0:sirune_l2 LF (m+1) l ((l.length-1:Nat):Int) k0 k1=k0 (-1):=by
      rw [sirune_l2_s]
      unfold sirune_l2f
      by_cases h3:l.length=4
      ·rw [ltI_f (by omega)]
       exact hk
      ·rw [ltI_t (by omega),inR_t (by omega) (by omega),inR_t (by omega) (by omega),bAt_nat,bAt_nat]
       simp only [vl,cond_true]
       have hlt:(([47,63,35]:List UInt8).getD (l.length-1) 0).toNat<128:=by
        have:l.length=2∨l.length=3:=by omega
        rcases this with q | q<;>rw [q]<;>decide
       have hne:((((([47,63,35]:List UInt8).getD (l.length-1) 0).toNat:Nat):Int) != (((l.getD (l.length-1) 0).toNat:Nat):Int))=true:=by
        rw [bne_iff_ne];omega
       have e2:wi64 (((l.length-1:Nat):Int)+1)=((l.length:Nat):Int):=by rw [wi64_id (by omega) (by omega)];omega
       have e3:cut ([47,63,35]:List UInt8) ((l.length:Nat):Int) 3=([47,63,35]:List UInt8).drop l.length:=by
        rw [show (3:Int)=((3:Nat):Int) from rfl,cut_nat];rfl
       have hb:=(l.getD (l.length-1) 0).toNat_lt
       rw [hne,cond_true,e2,sub3_t (by omega) (by omega) (by omega),cond_true,e3,small_t (by simp;omega),cond_true,inR_t (by omega) (by omega),cond_true,u8n_nat,ix_hi (fun b hb=>?_) hx]
       ·rfl
       ·have:=List.mem_of_mem_drop hb
        simp only [List.mem_cons,List.not_mem_nil,or_false] at this
        rcases this with rfl | rfl | rfl<;>decide
     rw [←hm] at s0
     exact s0
    rw [e1,go _ _ _ rfl]
    exact ⟨_,_,rfl,rfl⟩
theorem x_sshould:XFact Tryz.prog GX 76 X_sshould:=by
 refine XFact.fix (pf:=X_sshould0) _ (xfact_of_stab [] (C₀:=c_sshould LF) (XFacts.ok (l:=[]) rfl trivial) (okFns_of rfl (by kernel_rfl)) follows ?_)
 intro args ret Hc h
 unfold X_sshould0 at h
 split at h
 ·rename_i n
  obtain ⟨rfl,rfl⟩:=tr_ret h
  have e:=(sshould_ev LF noY () 0 n).trans (sshould_spec n)
  exact ⟨rfl,rfl,rfl,1,_,_,e,rfl⟩
 ·cases h
theorem x_uvrune:XFact Tryz.prog GX 101 X_uvrune:=by
 refine XFact.fix (pf:=X_uvrune0) _ (xfact_of_stab [] (C₀:=c_uvrune LF) (XFacts.ok (l:=[]) rfl trivial) (okFns_of rfl (by kernel_rfl)) follows ?_)
 intro args ret Hc h
 unfold X_uvrune0 at h
 split at h
 ·rename_i n
  obtain ⟨rfl,rfl⟩:=tr_ret h
  have e:=(uvrune_ev LF noY () 0 n).trans (uvrune_spec n)
  exact ⟨rfl,rfl,rfl,1,_,_,e,rfl⟩
 ·cases h
theorem x_smkset:XFact Tryz.prog GX 77 X_smkset:=fun args ret Hc h=>by
 have:trRes (X_smkset args)=none:=by unfold X_smkset X_smkset0;split<;>rfl
 rw [this] at h;cases h
theorem x_sirune:XFact Tryz.prog GX 75 X_sirune:=by
 refine XFact.fix (pf:=X_sirune0) _ (xfact_of_stab [] (C₀:=c_sirune LF) (XFacts.ok (l:=[(73,X_sidxb),(101,X_uvrune)]) rfl ⟨x_sidxb,x_uvrune,trivial⟩) (okFns_of rfl (by kernel_rfl)) follows ?_)
 intro args ret Hc h
 unfold X_sirune0 at h
 split at h
 ·rename_i p r
  obtain ⟨h0,h⟩:=tr_need h
  obtain ⟨h1,h⟩:=tr_need h
  obtain ⟨rfl,rfl⟩:=tr_ret h
  obtain rfl:p=isl:=by simpa [isSl] using h0
  obtain ⟨r',H,e,hs⟩:=sirune_sp r h1
  exact ⟨rfl,rfl,rfl,1,r',H,(sirune_ev LF noY () 0 r).trans e,hs⟩
 ·cases h
theorem spanU_skip:∀ (w:Nat) (l:By),w≤l.length→(∀ i,i<w→slashB (l.getD i 0)=false)→spanU l=w+spanU (l.drop w)
 | 0,l,_,_=>by simp
 | w+1,[],h,_=>by simp at h
 | w+1,b::l,h,hb=>by
  have h0:=hb 0 (by omega)
  rw [List.getD_cons_zero] at h0
  have ih:=spanU_skip w l (by simpa using h) (fun i hi=>by have:=hb (i+1) (by omega);rwa [List.getD_cons_succ] at this)
  rw [spanU_cons,h0,List.drop_succ_cons]
  simp only [Bool.false_eq_true,if_false]
  omega
theorem sidxaS_loop (s:By) (hs:s.length≤8):∀ (f m n:Nat),s.length-m≤f→m≤s.length→f<n→∃ H m',∀ (R:Type) (k0:Int→List Blk→Option R) (k1:By→Nat→Option R),
  sidxaS_l0 LF n s m k0 k1=if spanU (s.drop m)<(s.drop m).length then k0 ((m+spanU (s.drop m):Nat):Int) H else k1 s m':=by
 intro f
 induction f with
 | zero=>
  intro m n hf hm hn
  obtain ⟨n,rfl⟩:∃ q,n=q+1:=⟨n-1,by omega⟩
  refine ⟨[],m,fun R k0 k1=>?_⟩
  rw [sidxaS_l0_s]
  unfold sidxaS_l0f
  rw [decide_eq_false (by omega),cond_false,List.drop_of_length_le (by omega),if_neg (by simp)]
 | succ f ih=>
  intro m n hf hm hn
  obtain ⟨n,rfl⟩:∃ q,n=q+1:=⟨n-1,by omega⟩
  by_cases hlt:m<s.length
  ·have hd:=Lib.decodeL_drop ⟨s.toArray⟩ m
   have hd':Utf8.decode ⟨List.toArray s⟩ m=Lib.decodeL (s.drop m):=by rw [←hd]
   have hc:=drop_cons s m hlt
   have hl:(s.drop m).length=s.length-m:=List.length_drop
   generalize hb:s.getD m 0=b at hc
   by_cases h128:b.toNat<128
   ·have ed:Lib.decodeL (s.drop m)=(b.toNat,1):=by rw [hc];exact Lib.decodeL_ascii b _ h128
    have e1:=irn_lo b
    cases hsl:slashB b with
    | true=>
     rw [hsl,Bool.not_true] at e1
     have h0:spanU (s.drop m)=0:=by rw [hc,spanU_cons,hsl];rfl
     refine ⟨[Blk.iter s (m+1)],m,fun R k0 k1=>?_⟩
     rw [sidxaS_l0_s]
     unfold sidxaS_l0f
     rw [decide_eq_true hlt,hd',ed,h0,if_pos (by omega)]
     simp only [vl,cond_true]
     rw [show isSl ([47,63,35]:List UInt8)=true from rfl,cond_true,ltN_iff.2 ⟨by omega,by omega⟩,cond_true,e1]
     rfl
    | false=>
     rw [hsl,Bool.not_false] at e1
     have h0:spanU (s.drop m)=spanU (s.drop (m+1))+1:=by rw [hc,spanU_cons,hsl];rfl
     have hl2:(s.drop (m+1)).length=s.length-(m+1):=List.length_drop
     obtain ⟨H,m',e⟩:=ih (m+1) n (by omega) (by omega) (by omega)
     refine ⟨H,m',fun R k0 k1=>?_⟩
     rw [sidxaS_l0_s]
     unfold sidxaS_l0f
     rw [decide_eq_true hlt,hd',ed]
     simp only [vl,cond_true]
     rw [show isSl ([47,63,35]:List UInt8)=true from rfl,cond_true,ltN_iff.2 ⟨by omega,by omega⟩,cond_true,e1,Bool.not_true,cond_false,e,h0]
     by_cases q:spanU (s.drop (m+1))<(s.drop (m+1)).length
     ·rw [if_pos q,if_pos (by omega),show m+1+spanU (s.drop (m+1))=m+(spanU (s.drop (m+1))+1) by omega]
     ·rw [if_neg q,if_neg (by omega)]
   ·obtain ⟨q1,q2,q3,q4,q5⟩:=dec_hi b (s.drop (m+1)) (by omega)
    rw [←hc] at q1 q2 q3 q4 q5
    have hl2:(s.drop (m+1)).length=s.length-(m+1):=List.length_drop
    generalize Lib.decodeL (s.drop m)=d at *
    obtain ⟨c,w⟩:=d
    simp only at q1 q2 q3 q4 q5
    have hsk:=spanU_skip w (s.drop m) (by omega) (fun i hi=>slash_hi (q5 i hi))
    rw [List.drop_drop] at hsk
    have hl3:(s.drop (m+w)).length=s.length-(m+w):=List.length_drop
    have e1:ltI (irn (c:Int)) 0=true:=by rw [irn_hi (by omega)];rfl
    obtain ⟨H,m',e⟩:=ih (m+w) n (by omega) (by omega) (by omega)
    refine ⟨H,m',fun R k0 k1=>?_⟩
    rw [sidxaS_l0_s]
    unfold sidxaS_l0f
    rw [decide_eq_true hlt,hd']
    simp only [vl,cond_true]
    rw [show isSl ([47,63,35]:List UInt8)=true from rfl,cond_true,ltN_iff.2 ⟨by omega,by omega⟩,cond_true,e1,Bool.not_true,cond_false,e,hsk]
    by_cases q:spanU (s.drop (m+w))<(s.drop (m+w)).length
    ·rw [if_pos q,if_pos (by omega),show m+w+spanU (s.drop (m+w))=m+(w+spanU (s.drop (m+w))) by omega]
    ·rw [if_neg q,if_neg (by omega)]
  ·refine ⟨[],m,fun R k0 k1=>?_⟩
   rw [sidxaS_l0_s]
   unfold sidxaS_l0f
   rw [decide_eq_false hlt,cond_false,List.drop_of_length_le (by omega),if_neg (by simp)]
theorem sidxaS_sp (s:By) (h:s.length≤8):∃ r H,sidxaS LF s (fun r0 H1=>rv (.s (.int .i64 r0)) H1)=rv r H∧r.stab [] H = .s (.int .i64 (Lib.indexAny s isl)):=by
 have hLF:=LF_big
 obtain ⟨H,m',e⟩:=sidxaS_loop s h s.length 0 LF (by omega) (by omega) (by omega)
 unfold sidxaS
 rw [ltI_f (by omega),cond_false,e,indexAny_span,List.drop_zero,Nat.zero_add]
 by_cases q:spanU s<s.length
 ·rw [if_pos q,if_pos q]
  exact ⟨_,_,rfl,rfl⟩
 ·rw [if_neg q,if_neg q]
  exact ⟨_,_,rfl,rfl⟩
theorem x_sidxaS:XFact Tryz.prog GX 58 X_sidxaS:=by
 refine XFact.fix (pf:=X_sidxaS0) _ (xfact_of_stab [] (C₀:=c_sidxaS LF) (XFacts.ok (l:=[(75,X_sirune),(76,X_sshould),(77,X_smkset)]) rfl ⟨x_sirune,x_sshould,x_smkset,trivial⟩) (okFns_of rfl (by kernel_rfl)) follows ?_)
 intro args ret Hc h
 unfold X_sidxaS0 at h
 split at h
 ·rename_i s p
  obtain ⟨h0,h⟩:=tr_need h
  obtain ⟨h1,h⟩:=tr_need h
  obtain ⟨rfl,rfl⟩:=tr_ret h
  obtain rfl:p=isl:=by simpa [isSl] using h0
  obtain ⟨r',H,e,hs⟩:=sidxaS_sp s (Nat.le_of_ble_eq_true h1)
  exact ⟨rfl,rfl,rfl,1,r',H,(sidxaS_ev LF noY () 0 s).trans e,hs⟩
 ·cases h
theorem tr_need_t {c:Bool} {t:Tr} (h:c=true):trRes (.need c t)=trRes t:=by subst h;rfl
theorem x_sidxa:XFact Tryz.prog GX 58 X_sidxa:=fun args ret Hc h=>by
 have hL:=x_sidxaL args ret Hc
 have hS:=x_sidxaS args ret Hc
 unfold X_sidxa at h
 unfold X_sidxaL at hL
 unfold X_sidxaS at hS
 generalize fixL [[0],[0]] args=l at h hL hS
 unfold X_sidxa0 at h
 split at h
 ·rename_i s p
  obtain ⟨h0,h⟩:=tr_need h
  obtain ⟨h1,h⟩:=tr_need h
  by_cases h8:s.length≤8
  ·refine hS ?_
   unfold X_sidxaS0
   rw [tr_need_t h1,tr_need_t (Nat.ble_eq_true_of_le h8)]
   exact h
  ·refine hL ?_
   unfold X_sidxaL0
   rw [tr_need_t h0,tr_need_t h1,tr_need_t (Nat.ble_eq_true_of_le (by omega))]
   exact h
 ·cases h
end Go.Proofs.YtcfingekgbbclaaGreatDoor.E
namespace Go.Proofs.YtcfingekgbbclaaGreatDoor.E
open Go Go.Proofs 
set_option linter.unusedVariables false
set_option maxRecDepth 100000
section
theorem x_ltpre:XFact Tryz.prog GX 112 X_ltpre:=by
 refine XFact.fix (pf:=X_ltpre0) _ (xfact_of_stab [] (C₀:=c_ltpre LF) (XFacts.ok (l:=[(79,X_lpre)]) rfl ⟨x_lpre,trivial⟩) (okFns_of rfl (by kernel_rfl)) follows ?_)
 intro args ret Hc h
 unfold X_ltpre0 at h
 split at h
 ·rename_i s p
  obtain ⟨h0,h⟩:=tr_need h
  obtain ⟨rfl,rfl⟩:=tr_ret h
  have e:=(ltpre_ev LF noY () 0 s p).trans (ltpre_spec s p h0)
  exact ⟨rfl,rfl,rfl,1,_,_,e,rfl⟩
 ·cases h
theorem x_tpre:XFact Tryz.prog GX 83 X_tpre:=by
 refine XFact.fix (pf:=X_tpre0) _ (xfact_of_stab [] (C₀:=c_tpre LF) (XFacts.ok (l:=[(112,X_ltpre)]) rfl ⟨x_ltpre,trivial⟩) (okFns_of rfl (by kernel_rfl)) follows ?_)
 intro args ret Hc h
 unfold X_tpre0 at h
 split at h
 ·rename_i s p
  obtain ⟨h0,h⟩:=tr_need h
  obtain ⟨rfl,rfl⟩:=tr_ret h
  have e:=(tpre_ev LF noY () 0 s p).trans (tpre_spec s p h0)
  exact ⟨rfl,rfl,rfl,1,_,_,e,rfl⟩
 ·cases h
theorem x_uport:XFact Tryz.prog GX 44 X_uport:=by
 refine XFact.fix (pf:=X_uport0) _ (xfact_of_stab [] (C₀:=c_uport LF) (XFacts.ok (l:=[]) rfl trivial) (okFns_of rfl (by kernel_rfl)) follows ?_)
 intro args ret Hc h
 unfold X_uport0 at h
 split at h
 ·rename_i s
  obtain ⟨rfl,rfl⟩:=tr_ret h
  have e:=(uport_ev LF noY () 0 s).trans (uport_spec s )
  exact ⟨rfl,rfl,rfl,1,_,_,e,rfl⟩
 ·cases h
theorem x_uspec:XFact Tryz.prog GX 22 X_uspec:=by
 refine XFact.fix (pf:=X_uspec0) _ (xfact_of_stab [] (C₀:=c_uspec LF) (XFacts.ok (l:=[(44,X_uport)]) rfl ⟨x_uport,trivial⟩) (okFns_of rfl (by kernel_rfl)) follows ?_)
 intro args ret Hc h
 unfold X_uspec0 at h
 split at h
 ·rename_i s
  obtain ⟨rfl,rfl⟩:=tr_ret h
  have e:=(uspec_ev LF noY () 0 s).trans (uspec_spec s )
  exact ⟨rfl,rfl,rfl,1,_,_,e,rfl⟩
 ·cases h
theorem x_uins:XFact Tryz.prog GX 24 X_uins:=by
 refine XFact.fix (pf:=X_uins0) _ (xfact_of_stab [] (C₀:=c_uins LF) (XFacts.ok (l:=[(44,X_uport)]) rfl ⟨x_uport,trivial⟩) (okFns_of rfl (by kernel_rfl)) follows ?_)
 intro args ret Hc h
 unfold X_uins0 at h
 split at h
 ·rename_i sc us kd nm v4 a0 a1 a2 a3 a4 a5 a6 a7 po re
  obtain ⟨rfl,rfl⟩:=tr_ret h
  obtain ⟨r,H,e,hs⟩:=uins_sp sc us kd nm v4 a0 a1 a2 a3 a4 a5 a6 a7 po re 
  exact ⟨rfl,rfl,rfl,1,r,H,(uins_ev LF noY () 0 sc us kd nm v4 a0 a1 a2 a3 a4 a5 a6 a7 po re).trans e,hs⟩
 ·cases h
theorem x_usch:XFact Tryz.prog GX 55 X_usch:=by
 refine XFact.fix (pf:=X_usch0) _ (xfact_of_stab [] (C₀:=c_usch LF) (XFacts.ok (l:=[(73,X_sidxb)]) rfl ⟨x_sidxb,trivial⟩) (okFns_of rfl (by kernel_rfl)) follows ?_)
 intro args ret Hc h
 unfold X_usch0 at h
 split at h
 ·rename_i s
  obtain ⟨h0,h⟩:=tr_need h
  obtain ⟨rfl,rfl⟩:=tr_ret h
  have e:=(usch_ev LF noY () 0 s).trans (usch_spec s h0)
  exact ⟨rfl,rfl,rfl,1,_,_,e,rfl⟩
 ·cases h
theorem x_unum:XFact Tryz.prog GX 82 X_unum:=by
 refine XFact.fix (pf:=X_unum0) _ (xfact_of_stab [0,0] (C₀:=c_unum LF) (XFacts.ok (l:=[]) rfl trivial) (okFns_of rfl (by kernel_rfl)) follows ?_)
 intro args ret Hc h
 unfold X_unum0 at h
 split at h
 ·rename_i s
  obtain ⟨h0,h⟩:=tr_need h
  obtain ⟨rfl,rfl⟩:=tr_ret h
  have e:=(unum_ev LF noY () 0 s).trans (unum_spec s h0)
  exact ⟨rfl,rfl,rfl,1,_,_,e,rfl⟩
 ·cases h
theorem x_uplace:XFact Tryz.prog GX 60 X_uplace:=by
 refine XFact.fix (pf:=X_uplace0) _ (xfact_of_stab [0,0] (C₀:=c_uplace LF) (XFacts.ok (l:=[(80,X_lastb),(59,X_hpre),(73,X_sidxb),(81,X_hparse),(83,X_tpre),(82,X_unum),(44,X_uport)]) rfl ⟨x_lastb,x_hpre,x_sidxb,x_hparse,x_tpre,x_unum,x_uport,trivial⟩) (okFns_of rfl (by kernel_rfl)) follows ?_)
 intro args ret Hc h
 unfold X_uplace0 at h
 split at h
 ·rename_i sc us kd nm v4 a0 a1 a2 a3 a4 a5 a6 a7 po re a
  obtain ⟨h0,h⟩:=tr_need h
  obtain ⟨h1,h⟩:=tr_need h
  obtain ⟨h2,h⟩:=tr_need h
  obtain ⟨h3,h⟩:=tr_need h
  obtain ⟨h4,h⟩:=tr_need h
  obtain ⟨rfl,rfl⟩:=tr_ret h
  obtain ⟨r,H,e,hs⟩:=uplace_sp sc us kd nm v4 a0 a1 a2 a3 a4 a5 a6 a7 po re a h0 h1 h2 h3 h4
  exact ⟨rfl,rfl,rfl,1,r,H,(uplace_ev LF noY () 0 sc us kd nm v4 a0 a1 a2 a3 a4 a5 a6 a7 po re a).trans e,hs⟩
 ·cases h
theorem x_uprs:XFact Tryz.prog GX 40 X_uprs:=by
 refine XFact.fix (pf:=X_uprs0) _ (xfact_of_stab [0,0] (C₀:=c_uprs LF) (XFacts.ok (l:=[(54,X_scut),(55,X_usch),(56,X_lowc),(22,X_uspec),(57,X_cpre),(58,X_sidxa),(59,X_hpre),(60,X_uplace)]) rfl ⟨x_scut,x_usch,x_lowc,x_uspec,x_cpre,x_sidxa,x_hpre,x_uplace,trivial⟩) (okFns_of rfl (by kernel_rfl)) follows ?_)
 intro args ret Hc h
 unfold X_uprs0 at h
 split at h
 ·rename_i s
  obtain ⟨h0,h⟩:=tr_need h
  obtain ⟨rfl,rfl⟩:=tr_ret h
  obtain ⟨r,H,e,hs⟩:=uprs_sp s h0
  exact ⟨rfl,rfl,rfl,1,r,H,(uprs_ev LF noY () 0 s).trans e,hs⟩
 ·cases h
theorem x_uparse:XFact Tryz.prog GX 13 X_uparse:=by
 refine XFact.fix (pf:=X_uparse0) _ (xfact_of_stab [0,0] (C₀:=c_uparse LF) (XFacts.ok (l:=[(40,X_uprs)]) rfl ⟨x_uprs,trivial⟩) (okFns_of rfl (by kernel_rfl)) follows ?_)
 intro args ret Hc h
 unfold X_uparse0 at h
 split at h
 ·rename_i s
  obtain ⟨h0,h⟩:=tr_need h
  obtain ⟨rfl,rfl⟩:=tr_ret h
  obtain ⟨r,H,e,hs⟩:=uparse_sp s h0
  exact ⟨rfl,rfl,rfl,1,r,H,(uparse_ev LF noY () 0 s).trans e,hs⟩
 ·cases h
theorem x_utext:XFact Tryz.prog GX 42 X_utext:=by
 refine XFact.fix (pf:=X_utext0) _ (xfact_of_stab [] (C₀:=c_utext LF) (XFacts.ok (l:=[(22,X_uspec),(50,X_hfmt),(51,X_itoaU)]) rfl ⟨x_uspec,x_hfmt,x_itoaU,trivial⟩) (okFns_of rfl (by kernel_rfl)) follows ?_)
 intro args ret Hc h
 unfold X_utext0 at h
 split at h
 ·rename_i sc us kd nm v4 a0 a1 a2 a3 a4 a5 a6 a7 po re
  obtain ⟨h0,h⟩:=tr_need h
  obtain ⟨h1,h⟩:=tr_need h
  obtain ⟨h2,h⟩:=tr_need h
  obtain ⟨h3,h⟩:=tr_need h
  obtain ⟨rfl,rfl⟩:=tr_ret h
  obtain ⟨r,H,e,hs⟩:=utext_sp sc us kd nm v4 a0 a1 a2 a3 a4 a5 a6 a7 po re h0 h1 h2 h3
  exact ⟨rfl,rfl,rfl,1,r,H,(utext_ev LF noY () 0 sc us kd nm v4 a0 a1 a2 a3 a4 a5 a6 a7 po re).trans e,hs⟩
 ·cases h
theorem x_uvalidU:XFact Tryz.prog GX 16 X_uvalidU:=by
 refine XFact.fix (pf:=X_uvalidU0) _ (xfact_of_stab [] (C₀:=c_uvalidU LF) (XFacts.ok (l:=[(42,X_utext),(40,X_uprs)]) rfl ⟨x_utext,x_uprs,trivial⟩) (okFns_of rfl (by kernel_rfl)) follows ?_)
 intro args ret Hc h
 unfold X_uvalidU0 at h
 split at h
 ·rename_i sc us kd nm v4 a0 a1 a2 a3 a4 a5 a6 a7 po re
  obtain ⟨h0,h⟩:=tr_need h
  obtain ⟨h1,h⟩:=tr_need h
  obtain ⟨h2,h⟩:=tr_need h
  obtain ⟨h3,h⟩:=tr_need h
  obtain ⟨rfl,rfl⟩:=tr_ret h
  obtain ⟨r,H,e,hs⟩:=uvalidU_sp sc us kd nm v4 a0 a1 a2 a3 a4 a5 a6 a7 po re h0 h1 h2 h3
  exact ⟨rfl,rfl,rfl,1,r,H,(uvalidU_ev LF noY () 0 sc us kd nm v4 a0 a1 a2 a3 a4 a5 a6 a7 po re).trans e,hs⟩
 ·cases h
theorem x_ufmt:XFact Tryz.prog GX 15 X_ufmt:=by
 refine XFact.fix (pf:=X_ufmt0) _ (xfact_of_stab [] (C₀:=c_ufmt LF) (XFacts.ok (l:=[(16,X_uvalidU),(42,X_utext)]) rfl ⟨x_uvalidU,x_utext,trivial⟩) (okFns_of rfl (by kernel_rfl)) follows ?_)
 intro args ret Hc h
 unfold X_ufmt0 at h
 split at h
 ·rename_i sc us kd nm v4 a0 a1 a2 a3 a4 a5 a6 a7 po re
  obtain ⟨h0,h⟩:=tr_need h
  obtain ⟨h1,h⟩:=tr_need h
  obtain ⟨h2,h⟩:=tr_need h
  obtain ⟨h3,h⟩:=tr_need h
  obtain ⟨rfl,rfl⟩:=tr_ret h
  obtain ⟨r,H,e,hs⟩:=ufmt_sp sc us kd nm v4 a0 a1 a2 a3 a4 a5 a6 a7 po re h0 h1 h2 h3
  exact ⟨rfl,rfl,rfl,1,r,H,(ufmt_ev LF noY () 0 sc us kd nm v4 a0 a1 a2 a3 a4 a5 a6 a7 po re).trans e,hs⟩
 ·cases h
end
end Go.Proofs.YtcfingekgbbclaaGreatDoor.E
namespace Go.Proofs.YtcfingekgbbclaaGreatDoor.E
open Go Go.Proofs Go.RowKit
set_option linter.unusedVariables false
set_option linter.unusedSimpArgs false
set_option maxRecDepth 100000
abbrev uCells (sc us:ByteArray) (kd:Int) (nm:ByteArray) (v4 a0 a1 a2 a3 a4 a5 a6 a7 po:Int) (re:ByteArray):Array Value:=#[.string sc,.string us,.int .i64 kd,.string nm,.int .u32 v4,.int .u16 a0,.int .u16 a1,.int .u16 a2,.int .u16 a3,.int .u16 a4,.int .u16 a5,.int .u16 a6,.int .u16 a7,.int .i64 po,.string re]
abbrev sHttp:ByteArray:=⟨#[104,116,116,112]⟩
abbrev sHttps:ByteArray:=⟨#[104,116,116,112,115]⟩
abbrev sWs:ByteArray:=⟨#[119,115]⟩
abbrev sWss:ByteArray:=⟨#[119,115,115]⟩
abbrev ent0:MapEntry:={ key:=.string sHttp,val:=.string sHttps,born:=0 }
abbrev ent1:MapEntry:={ key:=.string sWs,val:=.string sWss,born:=1 }
theorem alloc_at (w:World) (o:Obj):(w.alloc o).heap[w.heap.size]? = some o:=(MapKept.heap_alloc w o).1
theorem alloc_set (w:World) (o p:Obj):({ (w.alloc o) with heap:=(w.alloc o).heap.setIfInBounds w.heap.size p }:World)=w.alloc p:=by
 have e:(w.heap.push o).setIfInBounds w.heap.size p=w.heap.push p:=by
  apply Array.toList_inj.1
  rw [Array.toList_setIfInBounds,Array.toList_push,Array.toList_push,←Array.length_toList,List.set_append_right _ _ (Nat.le_refl _),Nat.sub_self]
  rfl
 show ({ w with heap:=(w.heap.push o).setIfInBounds w.heap.size p }:World) = { w with heap:=w.heap.push p }
 rw [e]
theorem map_i1 {P:Program} {t k e:TypeId} (hm:P.underlying t=some (.map k e)) (hk:P.underlying k=some .string) (w:World):(Instr.mapUpdate t (.map (some w.heap.size)) (.string sHttp) (.string sHttps)).run P (w.alloc (.map #[] 0)) = .ok () (w.alloc (.map #[ent0] 1)):=by
 rw [run_mapUpdate_first (w:=w.alloc (.map #[] 0)) t k e w.heap.size 0 sHttp (.string sHttps) hm hk (alloc_at w _),alloc_set]
theorem map_i2 {P:Program} {t k e:TypeId} (hm:P.underlying t=some (.map k e)) (hk:P.underlying k=some .string) (w:World):(Instr.mapUpdate t (.map (some w.heap.size)) (.string sWs) (.string sWss)).run P (w.alloc (.map #[ent0] 1)) = .ok () (w.alloc (.map #[ent0,ent1] 2)):=by
 have hb:=alloc_at w (.map #[ent0] 1)
 have hf:Instr.findNow .string (.string sWs) (#[ent0]:Array MapEntry).toList 0=some none:=rfl
 have hc:(Instr.checkKey false 10000 k (.string sWs)).run P (w.alloc (.map #[ent0] 1)) = .ok () (w.alloc (.map #[ent0] 1)):=MapKept.run_checkKey (k:=.string sWs) hk (by simp [MapKept.IsKey]) false 9999
 simp only [Instr.mapUpdate,Sem.run_bind,run_underlying hm,MapKept.run_getObj_map hb,hc,MapKept.run_findKey hk hf,MapKept.run_setObj_map _ hb,Result.andThen]
 exact congrArg (Result.ok ()) (alloc_set w (.map #[ent0] 1) (.map #[ent0,ent1] 2))
theorem map_lk {P:Program} {t k e:TypeId} (hm:P.underlying t=some (.map k e)) (hk:P.underlying k=some .string) (w:World):(Instr.lookup t (.map (some w.heap.size)) (.string sHttp) false).run P (w.alloc (.map #[ent0,ent1] 2)) = .ok (.string sHttps) (w.alloc (.map #[ent0,ent1] 2))∧(Instr.lookup t (.map (some w.heap.size)) (.string sWs) false).run P (w.alloc (.map #[ent0,ent1] 2)) = .ok (.string sWss) (w.alloc (.map #[ent0,ent1] 2)):=by
 have hb:=alloc_at w (.map #[ent0,ent1] 2)
 have hf:Instr.findNow .string (.string sHttp) (#[ent0,ent1]:Array MapEntry).toList 0=some (some (0,.string sHttps)):=rfl
 have hf2:Instr.findNow .string (.string sWs) (#[ent0,ent1]:Array MapEntry).toList 0=some (some (1,.string sWss)):=rfl
 have hc:∀ s b,(Instr.checkKey b 10000 k (.string s)).run P (w.alloc (.map #[ent0,ent1] 2)) = .ok () (w.alloc (.map #[ent0,ent1] 2)):=fun s b=>MapKept.run_checkKey (k:=.string s) hk (by simp [MapKept.IsKey]) b 9999
 constructor
 ·simp [Instr.lookup,run_underlying hm,MapKept.run_getObj_map hb,hc,MapKept.run_findKey hk hf,Result.andThen]
 ·simp [Instr.lookup,run_underlying hm,MapKept.run_getObj_map hb,hc,MapKept.run_findKey hk hf2,Result.andThen]
theorem size_alloc (w:World) (o:Obj):(w.alloc o).heap.size=w.heap.size+1:=Array.size_push ..
theorem heap_at1 (w:World) (A B C D:Obj):((((w.alloc A).alloc B).alloc C).alloc D).heap[w.heap.size+1]? = some B:=by
 have e:∀ (w:World) (o:Obj) (i:Nat),i<w.heap.size→(w.alloc o).heap[i]? = w.heap[i]?:=fun w o i h=>by
  show (w.heap.push o)[i]? = w.heap[i]?
  rw [Array.getElem?_push,if_neg (Nat.ne_of_lt h)]
 rw [e _ _ _ (by simp only [size_alloc];omega),e _ _ _ (by simp only [size_alloc];omega),←size_alloc w A]
 exact alloc_at (w.alloc A) B
theorem drewN_alloc (w:World) (o:Obj) (n:Nat):(w.alloc o).drewN n=(w.drewN n).alloc o:=rfl
theorem port_http (w:World):Calls Tryz.prog 44 #[.string sHttp] w fun e w'=>e = .returned (.int .i64 80)∧w'=w:=by
 go_enter Tryz.func44,Tryz.ntmps44
 go_wp2
 go_ret
 exact ⟨rfl,rfl⟩
theorem port_https (w:World):Calls Tryz.prog 44 #[.string sHttps] w fun e w'=>e = .returned (.int .i64 443)∧w'=w:=by
 go_enter Tryz.func44,Tryz.ntmps44
 go_wp2
 go_ret
 exact ⟨rfl,rfl⟩
theorem port_ws (w:World):Calls Tryz.prog 44 #[.string sWs] w fun e w'=>e = .returned (.int .i64 80)∧w'=w:=by
 go_enter Tryz.func44,Tryz.ntmps44
 go_wp2
 go_ret
 exact ⟨rfl,rfl⟩
theorem port_wss (w:World):Calls Tryz.prog 44 #[.string sWss] w fun e w'=>e = .returned (.int .i64 443)∧w'=w:=by
 go_enter Tryz.func44,Tryz.ntmps44
 go_wp2
 go_ret
 exact ⟨rfl,rfl⟩
theorem ins_at (sc us nm re:ByteArray) (kd v4 a0 a1 a2 a3 a4 a5 a6 a7 po:Int) (hp:∀ w,Calls Tryz.prog 44 #[.string sc] w fun e w'=>e = .returned (.int .i64 80)∧w'=w) (w:World):Calls Tryz.prog 24 #[.agg (uCells sc us kd nm v4 a0 a1 a2 a3 a4 a5 a6 a7 po re)] w fun e w'=>e = .returned (.bool true)∧w'=w.alloc (.cells (uCells sc us kd nm v4 a0 a1 a2 a3 a4 a5 a6 a7 po re) 29):=by
 have e44:∀ args w,(callFunc 44 args).run Tryz.prog w = .ok (.enter 44 args) w:=enters_of Tryz.func44 (by kernel_rfl) rfl
 go_enter Tryz.func24,Tryz.ntmps24
 go_wp2_with (go_at_fn 44;refine (hp _).mono ?_;rintro e w' ⟨rfl,hw⟩;rw [hw])
 go_ret
 exact ⟨rfl,rfl⟩
theorem up_walk (sc sc2 us nm re:ByteArray) (kd v4 a0 a1 a2 a3 a4 a5 a6 a7 po po2:Int) (h1:po=443→po2 = -1) (h2:¬ po=443→po2=po)
  (hins:∀ w,Calls Tryz.prog 24 #[.agg (uCells sc us kd nm v4 a0 a1 a2 a3 a4 a5 a6 a7 po re)] w fun e w'=>e = .returned (.bool true)∧w'=w.alloc (.cells (uCells sc us kd nm v4 a0 a1 a2 a3 a4 a5 a6 a7 po re) 29))
  (hl:∀ w:World,(Instr.lookup 52 (.map (some w.heap.size)) (.string sc) false).run Tryz.prog (w.alloc (.map #[ent0,ent1] 2)) = .ok (.string sc2) (w.alloc (.map #[ent0,ent1] 2)))
  (hport:∀ w,Calls Tryz.prog 44 #[.string sc2] w fun e w'=>e = .returned (.int .i64 443)∧w'=w) (w:World) :
  Calls Tryz.prog 28 #[.agg (uCells sc us kd nm v4 a0 a1 a2 a3 a4 a5 a6 a7 po re)] w fun e w'=>e = .returned (.agg (uCells sc2 us kd nm v4 a0 a1 a2 a3 a4 a5 a6 a7 po2 re))∧Below w.heap.size w w':=by
 have e24:∀ args w,(callFunc 24 args).run Tryz.prog w = .ok (.enter 24 args) w:=enters_of Tryz.func24 (by kernel_rfl) rfl
 have e44:∀ args w,(callFunc 44 args).run Tryz.prog w = .ok (.enter 44 args) w:=enters_of Tryz.func44 (by kernel_rfl) rfl
 have hmm:=@run_makeMap Tryz.prog
 have h3:∀ (w:World) A B C,(((w.alloc A).alloc B).alloc C).heap.size=w.heap.size+1+1+1:=fun w A B C=>by simp only [World.alloc,Array.size_push]
 have hi1:∀ (w:World) A B C,_:=fun w A B C=>h3 w A B C ▸ map_i1 (P:=Tryz.prog) Tryz.underlying52 Tryz.underlying9 (((w.alloc A).alloc B).alloc C)
 have hi2:∀ (w:World) A B C,_:=fun w A B C=>h3 w A B C ▸ map_i2 (P:=Tryz.prog) Tryz.underlying52 Tryz.underlying9 (((w.alloc A).alloc B).alloc C)
 have hlk:∀ (w:World) A B C,_:=fun w A B C=>h3 w A B C ▸ hl (((w.alloc A).alloc B).alloc C)
 clear hl
 go_enter Tryz.func28,Tryz.ntmps28
 go_wp2_with (go_at_fn 24;refine (hins _).mono ?_;rintro e w' ⟨rfl,hw⟩;rw [hw])
 clear hins hmm e24
 go_quiet (first | (go_at_call 44;exact Calls.quiet_of_same (hport _)))
 obtain ⟨w2,hw2⟩:∃ w2,w2=w.drewN nq:=⟨_,rfl⟩
 have hs:w.heap.size=w2.heap.size:=by rw [hw2];rfl
 have hB:Below w2.heap.size w w2:=by rw [←hs,hw2];exact ⟨rfl,rfl,rfl,Nat.le_refl _,fun _ _=>rfl⟩
 simp only [drewN_alloc,←hw2,hs]
 clear hi1 hi2 hlk h3 hw2
 go_wp2
 all_goals (try simp only [Exit.inBlock,Exit.then])
 ·have e:=h1 (by first | rfl | simpa using ‹(po==443)=true›)
  subst e
  refine bodyPost_ret (results_cell_row rfl _ _ (w2.heap.size+1) 29 _ _ _ rfl (heap_at1 _ _ _ _ _) Tryz.underlying29 rfl (by kernel_rfl)) rfl ⟨rfl,?_⟩
  rw [hs]
  exact (((hB.alloc (Nat.le_refl _) _).alloc (by simp only [size_alloc];omega) _).alloc (by simp only [size_alloc];omega) _).alloc (by simp only [size_alloc];omega) _
 ·have e:=h2 (by first | assumption | simpa using ‹(po==443)=false›)
  subst e
  refine bodyPost_ret (results_cell_row rfl _ _ (w2.heap.size+1) 29 _ _ _ rfl (heap_at1 _ _ _ _ _) Tryz.underlying29 rfl (by kernel_rfl)) rfl ⟨rfl,?_⟩
  rw [hs]
  exact (((hB.alloc (Nat.le_refl _) _).alloc (by simp only [size_alloc];omega) _).alloc (by simp only [size_alloc];omega) _).alloc (by simp only [size_alloc];omega) _
end Go.Proofs.YtcfingekgbbclaaGreatDoor.E
namespace Go.Proofs.YtcfingekgbbclaaGreatDoor.E
open Go Go.Proofs 
set_option linter.unusedVariables false
set_option maxRecDepth 100000
section
variable {σ R : Type} (lf : Nat) (cl : CallT) (yh : Yh σ) (s : σ) (k : Out → St σ → Option R)
noncomputable def c_uupS (lf:Nat):Cfg:=mkCfg lf [28] (lookK []) [(24,X_uins),(44,X_uport)] (lookK [(6,[2]),(5,[1,0]),(4,[1,0,15]),(3,[1,0]),(2,[2]),(1,[1,0,2]),(0,[1,0])]) [24,44] (lookK []) (some [2]) [] [] []
noncomputable def uupS {R:Type} (lf:Nat) (u0 u1:By) (u2:Int) (u3:By) (u4 u5 u6 u7 u8 u9 u10 u11 u12 u13:Int) (u14:By) (k0:By→By→Int→By→Int→Int→Int→Int→Int→Int→Int→Int→Int→Int→By→(List Blk)→Option R):Option R:=cond (not (insec u0)) (k0 u0 u1 u2 u3 u4 u5 u6 u7 u8 u9 u10 u11 u12 u13 u14 [(bU u0 u1 u2 u3 u4 u5 u6 u7 u8 u9 u10 u11 u12 u13 u14),(bU u0 u1 u2 u3 u4 u5 u6 u7 u8 u9 u10 u11 u12 u13 u14)]) (none)
theorem uupS_ev (d:Nat) (u0 u1:By) (u2:Int) (u3:By) (u4 u5 u6 u7 u8 u9 u10 u11 u12 u13:Int) (u14:By):evC (c_uupS lf) (d+1) σ yh 28 [(gU u0 u1 u2 u3 u4 u5 u6 u7 u8 u9 u10 u11 u12 u13 u14)] [] s=uupS lf u0 u1 u2 u3 u4 u5 u6 u7 u8 u9 u10 u11 u12 u13 u14 (fun r0 r1 r2 r3 r4 r5 r6 r7 r8 r9 r10 r11 r12 r13 r14 H15=>some ((gU r0 r1 r2 r3 r4 r5 r6 r7 r8 r9 r10 r11 r12 r13 r14),H15,s)):=by
 refine (evC_eq (fn:=Tryz.f28) (by kernel_rfl) (by kernel_rfl) (by kernel_rfl)).trans ?_
 generalize evC (c_uupS lf) d=cl
 unfold uupS;kernel_rfl
end
end Go.Proofs.YtcfingekgbbclaaGreatDoor.E
namespace Go.Proofs.YtcfingekgbbclaaGreatDoor.E
open Go Go.Proofs Go.RowKit
set_option linter.unusedVariables false
set_option linter.unusedSimpArgs false
set_option maxRecDepth 100000
theorem inv_gU {Γ:Ctx} {sh:Nat→Option Shp} {w:World} {V:Value} {sc us:By} {kd:Int} {nm:By} {v4 a0 a1 a2 a3 a4 a5 a6 a7 po:Int} {re:By} (h:VP Γ sh w (gU sc us kd nm v4 a0 a1 a2 a3 a4 a5 a6 a7 po re) V) :
  ∃ sc' us' nm' re':ByteArray,sc=sc'.data.toList∧us=us'.data.toList∧nm=nm'.data.toList∧re=re'.data.toList∧V = .agg (uCells sc' us' kd nm' v4 a0 a1 a2 a3 a4 a5 a6 a7 po re'):=by
 obtain ⟨A,rfl,hA,hc⟩:=h.inv_agg
 have hs:A.size=15:=hA
 obtain ⟨_,e0,q0⟩:=hc 0 (show 0<15 by omega)
 obtain ⟨_,e1,q1⟩:=hc 1 (show 1<15 by omega)
 obtain ⟨_,e2,q2⟩:=hc 2 (show 2<15 by omega)
 obtain ⟨_,e3,q3⟩:=hc 3 (show 3<15 by omega)
 obtain ⟨_,e4,q4⟩:=hc 4 (show 4<15 by omega)
 obtain ⟨_,e5,q5⟩:=hc 5 (show 5<15 by omega)
 obtain ⟨_,e6,q6⟩:=hc 6 (show 6<15 by omega)
 obtain ⟨_,e7,q7⟩:=hc 7 (show 7<15 by omega)
 obtain ⟨_,e8,q8⟩:=hc 8 (show 8<15 by omega)
 obtain ⟨_,e9,q9⟩:=hc 9 (show 9<15 by omega)
 obtain ⟨_,e10,q10⟩:=hc 10 (show 10<15 by omega)
 obtain ⟨_,e11,q11⟩:=hc 11 (show 11<15 by omega)
 obtain ⟨_,e12,q12⟩:=hc 12 (show 12<15 by omega)
 obtain ⟨_,e13,q13⟩:=hc 13 (show 13<15 by omega)
 obtain ⟨_,e14,q14⟩:=hc 14 (show 14<15 by omega)
 obtain ⟨sc',rfl,rfl⟩:=VP.inv_str q0
 obtain ⟨us',rfl,rfl⟩:=VP.inv_str q1
 obtain rfl:=VP.inv_int q2
 obtain ⟨nm',rfl,rfl⟩:=VP.inv_str q3
 obtain rfl:=VP.inv_int q4
 obtain rfl:=VP.inv_int q5
 obtain rfl:=VP.inv_int q6
 obtain rfl:=VP.inv_int q7
 obtain rfl:=VP.inv_int q8
 obtain rfl:=VP.inv_int q9
 obtain rfl:=VP.inv_int q10
 obtain rfl:=VP.inv_int q11
 obtain rfl:=VP.inv_int q12
 obtain rfl:=VP.inv_int q13
 obtain ⟨re',rfl,rfl⟩:=VP.inv_str q14
 refine ⟨sc',us',nm',re',rfl,rfl,rfl,rfl,?_⟩
 congr 1
 apply Array.ext_getElem?
 intro i
 match i with
 | 0=>exact e0
 | 1=>exact e1
 | 2=>exact e2
 | 3=>exact e3
 | 4=>exact e4
 | 5=>exact e5
 | 6=>exact e6
 | 7=>exact e7
 | 8=>exact e8
 | 9=>exact e9
 | 10=>exact e10
 | 11=>exact e11
 | 12=>exact e12
 | 13=>exact e13
 | 14=>exact e14
 | n+15=>rw [Array.getElem?_eq_none (by omega),Array.getElem?_eq_none (by simp)]
theorem mk_gU {Γ:Ctx} {sh:Nat→Option Shp} {w:World} (sc us:ByteArray) (kd:Int) (nm:ByteArray) (v4 a0 a1 a2 a3 a4 a5 a6 a7 po:Int) (re:ByteArray) :
  VP Γ sh w (gU sc.data.toList us.data.toList kd nm.data.toList v4 a0 a1 a2 a3 a4 a5 a6 a7 po re.data.toList) (.agg (uCells sc us kd nm v4 a0 a1 a2 a3 a4 a5 a6 a7 po re)):=by
 refine VP.mk_agg rfl fun j hj=>?_
 match j,hj with
 | 0,_=>exact ⟨_,rfl,VP.mk_str sc.data.toList⟩
 | 1,_=>exact ⟨_,rfl,VP.mk_str us.data.toList⟩
 | 2,_=>exact ⟨_,rfl,VP.mk_int _ _⟩
 | 3,_=>exact ⟨_,rfl,VP.mk_str nm.data.toList⟩
 | 4,_=>exact ⟨_,rfl,VP.mk_int _ _⟩
 | 5,_=>exact ⟨_,rfl,VP.mk_int _ _⟩
 | 6,_=>exact ⟨_,rfl,VP.mk_int _ _⟩
 | 7,_=>exact ⟨_,rfl,VP.mk_int _ _⟩
 | 8,_=>exact ⟨_,rfl,VP.mk_int _ _⟩
 | 9,_=>exact ⟨_,rfl,VP.mk_int _ _⟩
 | 10,_=>exact ⟨_,rfl,VP.mk_int _ _⟩
 | 11,_=>exact ⟨_,rfl,VP.mk_int _ _⟩
 | 12,_=>exact ⟨_,rfl,VP.mk_int _ _⟩
 | 13,_=>exact ⟨_,rfl,VP.mk_int _ _⟩
 | 14,_=>exact ⟨_,rfl,VP.mk_str re.data.toList⟩
 | n+15,h=>exact absurd h (by simp)
theorem bytes_eq {s t:ByteArray} (h:s.data.toList=t.data.toList):s=t:=by
 cases s with
 | mk a=>cases t with
  | mk b=>congr 1;exact Array.toList_inj.1 h
theorem x_uupI:XFact Tryz.prog GX 28 X_uupI:=by
 refine XFact.fix (pf:=X_uupI0) _ (xfact_of_calls (fn:=Tryz.f28) (by kernel_rfl) (by kernel_rfl) (by kernel_rfl) ?_)
 intro args ret Hc h
 unfold X_uupI0 at h
 split at h
 ·rename_i sc us kd nm v4 a0 a1 a2 a3 a4 a5 a6 a7 po re
  obtain ⟨h0,h⟩:=tr_need h
  obtain ⟨rfl,rfl⟩:=tr_ret h
  refine ⟨rfl,rfl,fun C hP hCG Γ w Vs hG hlt hc=>?_⟩
  obtain ⟨U,rfl,hu⟩:=hc.arr1
  obtain ⟨sc',us',nm',re',rfl,rfl,rfl,rfl,rfl⟩:=inv_gU hu
  have hpo:upP sc'.data.toList po=if po=443 then -1 else po:=by
   unfold upP
   rw [h0,Bool.true_and]
   by_cases q:po=443
   ·rw [if_pos q,q];rfl
   ·rw [if_neg q,show (po==443)=false by simpa using q];rfl
  rw [hpo]
  rcases insec_cases h0 with hs | hs
  ·obtain rfl:sc'=sHttp:=bytes_eq (t:=sHttp) hs
   have W:=up_walk sHttp sHttps us' nm' re' kd v4 a0 a1 a2 a3 a4 a5 a6 a7 po (if po=443 then -1 else po) (fun q=>if_pos q) (fun q=>if_neg q) (fun w=>ins_at _ _ _ _ _ _ _ _ _ _ _ _ _ _ _ port_http w) (fun w=>(map_lk Tryz.underlying52 Tryz.underlying9 w).1) port_https w
   refine W.mono ?_
   rintro e w' ⟨rfl,hB⟩
   exact ⟨_,rfl,hB,mk_gU sHttps us' kd nm' v4 a0 a1 a2 a3 a4 a5 a6 a7 _ re'⟩
  ·obtain rfl:sc'=sWs:=bytes_eq (t:=sWs) hs
   have W:=up_walk sWs sWss us' nm' re' kd v4 a0 a1 a2 a3 a4 a5 a6 a7 po (if po=443 then -1 else po) (fun q=>if_pos q) (fun q=>if_neg q) (fun w=>ins_at _ _ _ _ _ _ _ _ _ _ _ _ _ _ _ port_ws w) (fun w=>(map_lk Tryz.underlying52 Tryz.underlying9 w).2) port_wss w
   refine W.mono ?_
   rintro e w' ⟨rfl,hB⟩
   exact ⟨_,rfl,hB,mk_gU sWss us' kd nm' v4 a0 a1 a2 a3 a4 a5 a6 a7 _ re'⟩
 ·cases h
theorem uupS_sp (sc us:By) (kd:Int) (nm:By) (v4 a0 a1 a2 a3 a4 a5 a6 a7 po:Int) (re:By) (h0:(not (insec sc))=true) :
  ∃ r H,uupS LF sc us kd nm v4 a0 a1 a2 a3 a4 a5 a6 a7 po re (fun s0 s1 n2 s3 n4 n5 n6 n7 n8 n9 n10 n11 n12 n13 s14 H15=>rv (gU s0 s1 n2 s3 n4 n5 n6 n7 n8 n9 n10 n11 n12 n13 s14) H15)=rv r H∧r.stab [] H=gU sc us kd nm v4 a0 a1 a2 a3 a4 a5 a6 a7 po re:=by
 unfold uupS
 rw [h0]
 exact ⟨_,_,rfl,rfl⟩
end Go.Proofs.YtcfingekgbbclaaGreatDoor.E
namespace Go.Proofs.YtcfingekgbbclaaGreatDoor.E
open Go Go.Proofs 
set_option linter.unusedVariables false
set_option maxRecDepth 100000
section
theorem x_uupS:XFact Tryz.prog GX 28 X_uupS:=by
 refine XFact.fix (pf:=X_uupS0) _ (xfact_of_stab [] (C₀:=c_uupS LF) (XFacts.ok (l:=[(24,X_uins),(44,X_uport)]) rfl ⟨x_uins,x_uport,trivial⟩) (okFns_of rfl (by kernel_rfl)) follows ?_)
 intro args ret Hc h
 unfold X_uupS0 at h
 split at h
 ·rename_i sc us kd nm v4 a0 a1 a2 a3 a4 a5 a6 a7 po re
  obtain ⟨h0,h⟩:=tr_need h
  obtain ⟨rfl,rfl⟩:=tr_ret h
  obtain ⟨r,H,e,hs⟩:=uupS_sp sc us kd nm v4 a0 a1 a2 a3 a4 a5 a6 a7 po re h0
  exact ⟨rfl,rfl,rfl,1,r,H,(uupS_ev LF noY () 0 sc us kd nm v4 a0 a1 a2 a3 a4 a5 a6 a7 po re).trans e,hs⟩
 ·cases h
end
end Go.Proofs.YtcfingekgbbclaaGreatDoor.E
namespace Go.Proofs.YtcfingekgbbclaaGreatDoor.E
open Go Go.Proofs Go.RowKit
set_option linter.unusedVariables false
set_option linter.unusedSimpArgs false
set_option maxRecDepth 100000
theorem x_uup:XFact Tryz.prog GX 28 X_uup:=fun args ret Hc h=>by
 have hI:=x_uupI args ret Hc
 have hS:=x_uupS args ret Hc
 unfold X_uup at h
 unfold X_uupI at hI
 unfold X_uupS at hS
 generalize fixL _ args=l at h hI hS
 unfold X_uup0 at h
 split at h
 ·rename_i sc us kd nm v4 a0 a1 a2 a3 a4 a5 a6 a7 po re
  cases hi:insec sc with
  | true=>
   refine hI ?_
   unfold X_uupI0
   rw [tr_need_t hi]
   exact h
  | false=>
   refine hS ?_
   unfold X_uupS0
   rw [tr_need_t (by rw [hi];rfl)]
   obtain ⟨e1,e2⟩:=up_same hi po
   rw [e1,e2] at h
   exact h
 ·cases h
end Go.Proofs.YtcfingekgbbclaaGreatDoor.E
namespace Go.Proofs.YtcfingekgbbclaaGreatDoor.E
open Go Go.Proofs 
set_option linter.unusedVariables false
set_option maxRecDepth 100000
section
variable {σ R : Type} (lf : Nat) (cl : CallT) (yh : Yh σ) (s : σ) (k : Out → St σ → Option R)
noncomputable def c_kmod (lf:Nat):Cfg:=mkCfg lf [18] (lookK []) [] (lookK [(4,[4]),(3,[5]),(2,[1,3,4]),(1,[1,3]),(0,[0,0])]) [] (lookK []) (some [4]) [] [] []
noncomputable def kmod {R:Type} (lf:Nat) (n0 m1:Int) (k0:Int→Option R):Option R:=cond (m1 != (0:Int)) (cond (ltI (Int.tmod n0 m1) (0:Int)) (vl (wi64 ((Int.tmod n0 m1)+m1)) fun n'0=>k0 n'0) (k0 (Int.tmod n0 m1))) (none)
theorem kmod_ev (d:Nat) (n0 m1:Int):evC (c_kmod lf) (d+1) σ yh 18 [.s (.int .i64 n0),.s (.int .i64 m1)] [] s=kmod lf n0 m1 (fun r0=>some (.s (.int .i64 r0),[],s)):=by
 refine (evC_eq (fn:=Tryz.f18) (by kernel_rfl) (by kernel_rfl) (by kernel_rfl)).trans ?_
 generalize evC (c_kmod lf) d=cl
 unfold kmod;kernel_rfl
end
end Go.Proofs.YtcfingekgbbclaaGreatDoor.E
namespace Go.Proofs.YtcfingekgbbclaaGreatDoor.E
open Go Go.Proofs Go.Sort
set_option linter.unusedVariables false
set_option linter.unusedSimpArgs false
set_option maxRecDepth 100000
theorem kmod_spec {R:Type} {k0:Int→Option R} (n m:Int) (h0:ltI 0 m=true) (h1:ltN m 1000000000=true):kmod LF n m k0=k0 (Int.emod n m):=by
 have hm:=ltI_iff.1 h0
 have hm2:=(ltN_iff.1 h1).2
 unfold kmod
 rw [show (m != (0:Int))=true by rw [bne_iff_ne];omega,cond_true]
 have q1:=Int.tmod_lt_of_pos n hm
 have q2:=Int.lt_tmod_of_pos n hm
 have q3:=Int.tmod_add_mul_tdiv n m
 by_cases h:Int.tmod n m<0
 ·rw [ltI_t h,cond_true]
  simp only [vl]
  rw [wi64_id (by omega) (by omega)]
  congr 1
  have q4:Int.tmod n m+m+m*(n.tdiv m-1)=n:=by rw [Int.mul_sub];omega
  exact ((Int.ediv_emod_unique (a:=n) (q:=n.tdiv m-1) hm).2 ⟨q4,by omega,by omega⟩).2.symm
 ·rw [ltI_f (by omega),cond_false]
  congr 1
  exact ((Int.ediv_emod_unique (a:=n) (q:=n.tdiv m) hm).2 ⟨q3,by omega,by omega⟩).2.symm
end Go.Proofs.YtcfingekgbbclaaGreatDoor.E
namespace Go.Proofs.YtcfingekgbbclaaGreatDoor.E
open Go Go.Proofs 
set_option linter.unusedVariables false
set_option maxRecDepth 100000
section
theorem x_kmod:XFact Tryz.prog GX 18 X_kmod:=by
 refine XFact.fix (pf:=X_kmod0) _ (xfact_of_stab [] (C₀:=c_kmod LF) (XFacts.ok (l:=[]) rfl trivial) (okFns_of rfl (by kernel_rfl)) follows ?_)
 intro args ret Hc h
 unfold X_kmod0 at h
 split at h
 ·rename_i n m
  obtain ⟨h0,h⟩:=tr_need h
  obtain ⟨h1,h⟩:=tr_need h
  obtain ⟨rfl,rfl⟩:=tr_ret h
  have e:=(kmod_ev LF noY () 0 n m).trans (kmod_spec n m h0 h1)
  exact ⟨rfl,rfl,rfl,1,_,_,e,rfl⟩
 ·cases h
end
section
theorem awake15_run:resTrue (evC (c_awake15 LF) 1 Unit noY 12 [] [] ())=true:=by kernel_rfl
theorem x_awake15:XFact Tryz.prog GX 12 X_awake15:=
 XFact.fix (pf:=X_awake150) _ (by
  have h:=xfact_true (C₀:=c_awake15 LF) (XFacts.ok (l:=[(13,X_uparse),(28,X_uup),(15,X_ufmt)]) rfl ⟨x_uparse,x_uup,x_ufmt,trivial⟩) (okFns_of rfl (by kernel_rfl)) follows awake15_run
  have e:(fun args:List PV=>match args with | []=>Tr.ret (.s (.bool true)) [] | _=>.fail)=X_awake150:=by
   funext args
   cases args<;>rfl
  rw [←e]
  exact h)
end
end Go.Proofs.YtcfingekgbbclaaGreatDoor.E
namespace Go.Proofs.YtcfingekgbbclaaGreatDoor.E
open Go Go.Proofs Go.ChangeShapes Go.WideShapes Go.ChangeAt Go.RowKit
set_option linter.unusedVariables false
set_option maxRecDepth 100000
section
theorem luc_lifted (os:Os) (started:os.Started) (H:Type) (enc:TypeId × Value→H) :
  ReturnsInHanded {} Tryz.checked os 5 .any (fun w args=>(Rows.urlSchemeCaseSpec.pre enc Tryz.prog Tryz.f5 Rows.urlSchemeCaseRow.domain false w args∧laidMetH Tryz.prog laidH w)∧sizedMet enc Tryz.prog Tryz.f5 (OpenSpec.ofChange Rows.urlSchemeCaseSpec) false w args) (Rows.urlSchemeCaseSpec.post enc Tryz.prog Tryz.f5 false true false false):=
 law_handed started (C:=c_luc LF) (tb:=4) rfl rfl (XFacts.ok (l:=[(12,X_awake15),(13,X_uparse),(17,X_rlow),(18,X_kmod)]) rfl ⟨x_awake15,x_uparse,x_rlow,x_kmod,trivial⟩) (okFns_of rfl (by kernel_rfl)) (by kernel_rfl) Tryz.func5 (c:=bodyOf Tryz.f5) rfl (by kernel_rfl)
  (by
   intro t ht
   have:t=9∨t=3∨t=5:=by simpa only [List.mem_cons,List.mem_nil_iff,or_false] using (show t∈[9,3,5] from ht)
   rcases this with rfl | rfl | rfl
   all_goals exact ⟨⟨by kernel_rfl,of_decide_eq_true (by kernel_rfl)⟩,by kernel_rfl⟩) rfl (by kernel_rfl) rfl
  (fun ds hds=>by
   match ds,hds with
   | [d0,d1,d2],_=>rfl)
  #[(.string ⟨#[]⟩),(.int .i64 0),(.int .u8 0)] 8 (by kernel_rfl) (by kernel_rfl) (by kernel_rfl)
  (fun args h=>luc_law args h)
theorem luc_holds:Rows.UrlSchemeCaseSaid:=
 OpenClaim.holds_of_wide 5 Tryz.f5 rfl rfl rfl rfl rfl rfl rfl ⟨rfl,rfl,rfl,rfl,rfl⟩ rfl rfl rfl rfl rfl (by kernel_rfl) Tryz.func5 (by kernel_rfl)
  (of_decide_eq_true (by kernel_rfl)) (by unfold Func.isWrapper;first | (rw [if_pos (by decide +kernel)];kernel_rfl) | (rw [if_neg (by decide +kernel)];exact ⟨rfl,rfl⟩))
  (fun os started H enc _=>luc_lifted os started H enc)
theorem luc_card:Rows.UrlSchemeCaseCardSaid:=
 Claim7.holds_tied_plain_at .later [] [.data,.data,.data,.data,.pinned] true (true, "0163afbbd4bdcc0cb024432ec76efa84c49da410dbc3a82ef375aee9434dc149") false luc_holds (fun _ h=>by cases h) (by kernel_rfl) (fun _ h=>by cases h) urlSchemeCase_row_tie rfl ⟨rfl,rfl⟩ (by kernel_rfl) rfl
  (fun f fn hf hfn=>by
   obtain rfl:f=5:=Option.some.inj ((show Tryz.prog.funcNamed "hstsstore/hstsstorelaw15.UrlSchemeCase" = some 5 by kernel_rfl).symm.trans hf) |>.symm
   obtain rfl:fn=Tryz.f5:=(Option.some.inj (Tryz.func5.symm.trans hfn)).symm
   exact ⟨by kernel_rfl,fun j t ht=>by
    have hm:t∈[9,3,5]:=Array.mem_toList_iff.2 (Array.mem_of_getElem? ht)
    have hall:([9,3,5].all fun u=>!Tryz.prog.wantsStandIn u)=true:=by kernel_rfl
    exact (show Tryz.prog.wantsStandIn t=false by simpa using List.all_eq_true.1 hall t hm)⟩)
  (by kernel_rfl)
end
#print axioms luc_card
end Go.Proofs.YtcfingekgbbclaaGreatDoor.E
