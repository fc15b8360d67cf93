/-
  RedirectsPrefix: following a beginning of a chain yields a beginning of the hops, as its tied card says. Conditions: what the card itself names (the package-level variables that are listed, tied to the program's text).
-/
import Derived.Test.YthcoijldbdfboaaGreatDoorKRP5
import Derived.Test.YthcoijldbdfboaaGreatDoorCards
import Derived.Test.YthcoijldbdfboaaGreatDoorTie
namespace Go.Proofs.YthcoijldbdfboaaGreatDoor.E
set_option linter.all false
section
open Go Go.Proofs
set_option maxRecDepth 100000
section
variable {σ R : Type} (lf : Nat) (cl : D3) (yh : Yh σ) (s : σ) (k : Out -> St σ -> Option R)
noncomputable def JX (lf:Nat):Cfg:=B8 lf [60] (A3 []) [(22,Rg),(86,A52)] (A3 [(8,[2]),(5,[2]),(7,[2]),(6,[1,12]),(4,[1,5,0]),(3,[1,5]),(2,[2]),(1,[1,3]),(0,[1])]) [22,86] (A3 [(0,[1])]) (some [2]) [] [] []
noncomputable def An5 {R:Type} (lf:Nat) (h0:Int) (h1:By) (h2 h3 h4 h5 h6 h7 h8 h9 h10:Int) (k0:Bool->(List Blk)->Option R):Option R:=cond (A2 h1.length) (cond (ltN h2 4294967296) (cond (ok8 h3 h4 h5 h6 h7 h8 h9 h10) (cond (not (L1 (mkH h0 h1 h2 (n8 h3 h4 h5 h6 h7 h8 h9 h10)))) (k0 false [(bH h0 h1 h2 h3 h4 h5 h6 h7 h8 h9 h10)]) (cond (h0==2) (vl (DI .u32 h2 (24:Int)) λn'0=>k0 (n'0==127) [(bH h0 h1 h2 h3 h4 h5 h6 h7 h8 h9 h10)]) (cond (h0==3) (k0 ((h3==0)&&((h4==0)&&((h5==0)&&((h6==0)&&((h7==0)&&((h8==0)&&((h9==0)&&((h10==1)&&true)))))))) [(bH h0 h1 h2 h3 h4 h5 h6 h7 h8 h9 h10)]) (cond (A2 h1.length) (k0 (Oi ([108,111,99,97,108,104,111,115,116]:List UInt8) h1) [(bH h0 h1 h2 h3 h4 h5 h6 h7 h8 h9 h10)]) none)))) none) none) none
theorem Bg2 (d:Nat) (h0 h1 h2 h3 h4 h5 h6 h7 h8 h9 h10):evC (JX lf) (d+1) σ yh 60 [(gH h0 h1 h2 h3 h4 h5 h6 h7 h8 h9 h10)] [] s=An5 lf h0 h1 h2 h3 h4 h5 h6 h7 h8 h9 h10 (λr0 H1=>some (pB r0,H1,s)):=by
 refine (evE (fn:=Tryz.f60) (by kernel_rfl)).trans ?_
 generalize evC (JX lf) d=cl
 unfold An5;kernel_rfl
noncomputable abbrev Iw:Code:=D0 Tryz.f37
noncomputable def Q8 (lf:Nat):Cfg:=B8 lf [37] (A3 []) [(19,Ks),(28,Wm),(60,Ai6)] (A3 [(10,[2]),(7,[2]),(9,[2]),(8,[1,10]),(6,[1,5,0]),(5,[1,5,0]),(4,[1,5,0]),(3,[1,5]),(2,[2]),(1,[1,3]),(0,[1])]) [19,28,60] (A3 [(0,[1])]) (some [2]) [] [] []
noncomputable def Cj {R:Type} (s0:By) (b1:Bool) (s2:By) (n3:Int) (s4:By) (n5 n6 n7 n8v n9 n10 n11 n12 n13 n14:Int) (s15:By) (k0:Bool->(List Blk)->Option R) (k1:Bool->By->By->Int->By->Int->Int->Int->Int->Int->Int->Int->Int->Int->Int->By->Option R):Option R:=cond b1 (k0 true [(bU s0 s2 n3 s4 n5 n6 n7 n8v n9 n10 n11 n12 n13 n14 s15)]) (cond (s0==[97,98,111,117,116]) (cond (s15==[98,108,97,110,107]) (k0 true [(bU s0 s2 n3 s4 n5 n6 n7 n8v n9 n10 n11 n12 n13 n14 s15)]) (k0 (s15==[115,114,99,100,111,99]) [(bU s0 s2 n3 s4 n5 n6 n7 n8v n9 n10 n11 n12 n13 n14 s15)])) (k1 (s0==[97,98,111,117,116]) s0 s2 n3 s4 n5 n6 n7 n8v n9 n10 n11 n12 n13 n14 s15))
abbrev Ve (b:Code):Prop:=∀ (k:Out->St σ->Option R) s0 b1 s2 n3 s4 n5 n6 n7 n8v n9 n10 n11 n12 n13 n14 s15,A9 (Q8 lf) cl yh b ⟨gp [(1,.ptr 0 0 0),(5,pS s0),(0,pB b1)] 21,[(bU s0 s2 n3 s4 n5 n6 n7 n8v n9 n10 n11 n12 n13 n14 s15)],s⟩ k=Cj s0 b1 s2 n3 s4 n5 n6 n7 n8v n9 n10 n11 n12 n13 n14 s15 (λb0 H1=>k .ret ⟨gp [(2,pB b0)] 27,H1,s⟩) (λb0 s1 s2 n3 s4 n5 n6 n7 n8v n9 n10 n11 n12 n13 n14 s15=>k .normal ⟨gp [(1,.ptr 0 0 0),(10,pB b0)] 17,[(bU s1 s2 n3 s4 n5 n6 n7 n8v n9 n10 n11 n12 n13 n14 s15)],s⟩)
theorem LX:Ve (R:=R) lf cl yh s (cd [1,1,0,1,0,1] Iw):=by
 intro k s0 b1 s2 n3 s4 n5 n6 n7 n8v n9 n10 n11 n12 n13 n14 s15;unfold Cj;kernel_rfl
noncomputable def Ck {R:Type} (s1 s2:By) (n3:Int) (s4:By) (n5 n6 n7 n8v n9 n10 n11 n12 n13 n14:Int) (s15:By) (k0:Bool->(List Blk)->Option R):Option R:=cond (I8 s1) (cond (A2 s4.length) (cond (ltN n5 4294967296) (cond (ok8 n6 n7 n8v n9 n10 n11 n12 n13) (k0 (RG n3 s4 n5 n6 n7 n8v n9 n10 n11 n12 n13) [(bU s1 s2 n3 s4 n5 n6 n7 n8v n9 n10 n11 n12 n13 n14 s15)]) none) none) none) (k0 false [(bU s1 s2 n3 s4 n5 n6 n7 n8v n9 n10 n11 n12 n13 n14 s15)])
abbrev Vf (b:Code):Prop:=∀ (k:Out->St σ->Option R) b0 s1 s2 n3 s4 n5 n6 n7 n8v n9 n10 n11 n12 n13 n14 s15,A9 (Q8 lf) cl yh b ⟨gp [(1,.ptr 0 0 0),(10,pB b0)] 17,[(bU s1 s2 n3 s4 n5 n6 n7 n8v n9 n10 n11 n12 n13 n14 s15)],s⟩ k=Ck s1 s2 n3 s4 n5 n6 n7 n8v n9 n10 n11 n12 n13 n14 s15 (λb0 H1=>k .ret ⟨gp [(2,pB b0)] 27,H1,s⟩)
theorem LY:Vf (R:=R) lf cl yh s (cd [1,1,1] Iw):=by
 intro k b0 s1 s2 n3 s4 n5 n6 n7 n8v n9 n10 n11 n12 n13 n14 s15;unfold Ck;kernel_rfl
noncomputable def BJ {R:Type} (lf:Nat) (u0 u1:By) (u2:Int) (u3:By) (u4 u5 u6 u7 u8 u9 u10 u11 u12 u13:Int) (u14:By) (k0:Bool->(List Blk)->Option R):Option R:=cond (smU u0 u1 u3 u14) (cond (ltN u4 4294967296) (cond (ok8 u5 u6 u7 u8 u9 u10 u11 u12) (cond (T7 u13) (cond (not (Ah (mkU u0 u1 u2 u3 u4 (n8 u5 u6 u7 u8 u9 u10 u11 u12) u13 u14))) (k0 false [(bU u0 u1 u2 u3 u4 u5 u6 u7 u8 u9 u10 u11 u12 u13 u14)]) (cond (u0==[104,116,116,112,115]) (Cj u0 (u0==[104,116,116,112,115]) u1 u2 u3 u4 u5 u6 u7 u8 u9 u10 u11 u12 u13 u14 k0 (λb'2 s'3 s'4 n'5 s'6 n'7 n'8 n'9 n'10 n'11 n'12 n'13 n'14 n'15 n'16 s'17=>Ck s'3 s'4 n'5 s'6 n'7 n'8 n'9 n'10 n'11 n'12 n'13 n'14 n'15 n'16 s'17 k0)) (cond (u0==[119,115,115]) (Cj u0 (u0==[119,115,115]) u1 u2 u3 u4 u5 u6 u7 u8 u9 u10 u11 u12 u13 u14 k0 (λb'22 s'23 s'24 n'25 s'26 n'27 n'28 n'29 n'30 n'31 n'32 n'33 n'34 n'35 n'36 s'37=>Ck s'23 s'24 n'25 s'26 n'27 n'28 n'29 n'30 n'31 n'32 n'33 n'34 n'35 n'36 s'37 k0)) (Cj u0 (u0==[102,105,108,101]) u1 u2 u3 u4 u5 u6 u7 u8 u9 u10 u11 u12 u13 u14 k0 (λb'42 s'43 s'44 n'45 s'46 n'47 n'48 n'49 n'50 n'51 n'52 n'53 n'54 n'55 n'56 s'57=>Ck s'43 s'44 n'45 s'46 n'47 n'48 n'49 n'50 n'51 n'52 n'53 n'54 n'55 n'56 s'57 k0))))) none) none) none) none
theorem Ax6 (b_110101:Code) (h_otrust_j0:Ve (R:=PV × List Blk × σ) lf cl yh s b_110101) (b_111:Code) (h_otrust_j1:Vf (R:=PV × List Blk × σ) lf cl yh s b_111) (u0 u1:By) (u2:Int) (u3:By) (u4 u5 u6 u7 u8 u9 u10 u11 u12 u13:Int) (u14:By):A9 (Q8 lf) cl yh (cd [] (N4 [1,1,1] b_111 (N4 [1,1,0,1,0,1] b_110101 Iw))) ⟨[(gU u0 u1 u2 u3 u4 u5 u6 u7 u8 u9 u10 u11 u12 u13 u14)]++tps 29,[],s⟩ (G5 (Q8 lf) Tryz.f37)=BJ lf u0 u1 u2 u3 u4 u5 u6 u7 u8 u9 u10 u11 u12 u13 u14 (λr0 H1=>some (pB r0,H1,s)):=by
 unfold BJ;exact let K0:=(G5 (Q8 lf) Tryz.f37);let K1:=(H7 0 (I5 (Q8 lf) cl yh b_111 K0));(Eq.trans (by kernel_rfl) (A0 (A0 (A0 (A0 (A0 rfl (A0 ((h_otrust_j0 K1 u0 (u0==[104,116,116,112,115]) u1 u2 u3 u4 u5 u6 u7 u8 u9 u10 u11 u12 u13 u14).trans (congr (congr rfl (by kernel_rfl)) (fx1 λb'2=>(fx1 λs'3=>(fx1 λs'4=>(fx1 λn'5=>(fx1 λs'6=>(fx1 λn'7=>(fx1 λn'8=>(fx1 λn'9=>(fx1 λn'10=>(fx1 λn'11=>(fx1 λn'12=>(fx1 λn'13=>(fx1 λn'14=>(fx1 λn'15=>(fx1 λn'16=>(fx1 λs'17=>(Eq.trans (by kernel_rfl) ((h_otrust_j1 K0 b'2 s'3 s'4 n'5 s'6 n'7 n'8 n'9 n'10 n'11 n'12 n'13 n'14 n'15 n'16 s'17).trans (by kernel_rfl))))))))))))))))))))) (A0 ((h_otrust_j0 K1 u0 (u0==[119,115,115]) u1 u2 u3 u4 u5 u6 u7 u8 u9 u10 u11 u12 u13 u14).trans (congr (congr rfl (by kernel_rfl)) (fx1 λb'22=>(fx1 λs'23=>(fx1 λs'24=>(fx1 λn'25=>(fx1 λs'26=>(fx1 λn'27=>(fx1 λn'28=>(fx1 λn'29=>(fx1 λn'30=>(fx1 λn'31=>(fx1 λn'32=>(fx1 λn'33=>(fx1 λn'34=>(fx1 λn'35=>(fx1 λn'36=>(fx1 λs'37=>(Eq.trans (by kernel_rfl) ((h_otrust_j1 K0 b'22 s'23 s'24 n'25 s'26 n'27 n'28 n'29 n'30 n'31 n'32 n'33 n'34 n'35 n'36 s'37).trans (by kernel_rfl))))))))))))))))))))) ((h_otrust_j0 K1 u0 (u0==[102,105,108,101]) u1 u2 u3 u4 u5 u6 u7 u8 u9 u10 u11 u12 u13 u14).trans (congr (congr rfl (by kernel_rfl)) (fx1 λb'42=>(fx1 λs'43=>(fx1 λs'44=>(fx1 λn'45=>(fx1 λs'46=>(fx1 λn'47=>(fx1 λn'48=>(fx1 λn'49=>(fx1 λn'50=>(fx1 λn'51=>(fx1 λn'52=>(fx1 λn'53=>(fx1 λn'54=>(fx1 λn'55=>(fx1 λn'56=>(fx1 λs'57=>(Eq.trans (by kernel_rfl) ((h_otrust_j1 K0 b'42 s'43 s'44 n'45 s'46 n'47 n'48 n'49 n'50 n'51 n'52 n'53 n'54 n'55 n'56 s'57).trans (by kernel_rfl)))))))))))))))))))))))) rfl) rfl) rfl) rfl))
theorem Ax7 (d:Nat) (u0 u1 u2 u3 u4 u5 u6 u7 u8 u9 u10 u11 u12 u13 u14):evC (Q8 lf) (d+1) σ yh 37 [(gU u0 u1 u2 u3 u4 u5 u6 u7 u8 u9 u10 u11 u12 u13 u14)] [] s=BJ lf u0 u1 u2 u3 u4 u5 u6 u7 u8 u9 u10 u11 u12 u13 u14 (λr0 H1=>some (pB r0,H1,s)):=
 (evE (fn:=Tryz.f37) (by kernel_rfl)).trans (Eq.trans (by kernel_rfl) (Ax6 lf (evC (Q8 lf) d) yh s (cd [1,1,0,1,0,1] Iw) (LX lf (evC (Q8 lf) d) yh s) (cd [1,1,1] Iw) (LY lf (evC (Q8 lf) d) yh s) u0 u1 u2 u3 u4 u5 u6 u7 u8 u9 u10 u11 u12 u13 u14))
end
abbrev Cl7 (f:Int->By->Int->Int->Int->Int->Int->Int->Int->Int->Int->(Bool->List Blk->Option (PV × List Blk × Unit))->Option (PV × List Blk × Unit)) (kd:Int) (nm:By) (v4 a0 a1 a2 a3 a4 a5 a6 a7:Int):Prop:=
 A2 nm.length=true->ltN v4 4294967296=true->ok8 a0 a1 a2 a3 a4 a5 a6 a7=true->∃ r H,f kd nm v4 a0 a1 a2 a3 a4 a5 a6 a7 (λr0 H1=>rv (.s (.bool r0)) H1)=rv r H/\r.stab [] H = .s (.bool (RG kd nm v4 a0 a1 a2 a3 a4 a5 a6 a7))
theorem Bg3 (kd:Int) (nm:By) (v4 a0 a1 a2 a3 a4 a5 a6 a7:Int):Cl7 (An5 LF) kd nm v4 a0 a1 a2 a3 a4 a5 a6 a7:=λh0 h1 h2=>by
 unfold An5 RG
 rw [h0,h1,h2]
 cases L1 (mkH kd nm v4 (n8 a0 a1 a2 a3 a4 a5 a6 a7))<;>cases kd==2<;>cases kd==3<;>exact ⟨_,_,rfl,rfl⟩
theorem Ax8 (sc us:By) (kd:Int) (nm:By) (v4 a0 a1 a2 a3 a4 a5 a6 a7 po:Int) (re:By) (h0:smU sc us nm re=true) (h1:ltN v4 4294967296=true) (h2:ok8 a0 a1 a2 a3 a4 a5 a6 a7=true) (h3:T7 po=true) :
  ∃ r H,BJ LF sc us kd nm v4 a0 a1 a2 a3 a4 a5 a6 a7 po re (λr0 H1=>rv (.s (.bool r0)) H1)=rv r H/\r.stab [] H = .s (.bool (Tv sc us kd nm v4 a0 a1 a2 a3 a4 a5 a6 a7 po re)):=by
 obtain ⟨l1,l2,l3,l4⟩:=Lm h0
 have sn:A2 nm.length=true:=G2
 unfold BJ Cj Ck Tv
 simp only [h0,h1,h2,h3,sn,show (sc==([104,116,116,112,115]:List UInt8))=(sc==Ez) from rfl,show (sc==([119,115,115]:List UInt8))=(sc==CW) from rfl,show (sc==([102,105,108,101]:List UInt8))=(sc==A74) from rfl,show (sc==([97,98,111,117,116]:List UInt8))=(sc==VM) from rfl]
 cases Ah (mkU sc us kd nm v4 (n8 a0 a1 a2 a3 a4 a5 a6 a7) po re)<;>cases sc==Ez<;>cases sc==CW<;>cases sc==A74<;>cases sc==VM<;>cases I8 sc<;>cases re==([98,108,97,110,107]:List UInt8)<;>exact ⟨_,_,rfl,rfl⟩
section
theorem B63:A7 Tryz.prog GX 60 Ai6:=xf [] (JX LF) Yb rfl ⟨NM,Ch3,trivial⟩ rfl (by kernel_rfl) follows λargs=>by
 unfold Yb;split
 ·rename_i kd nm v4 a0 a1 a2 a3 a4 a5 a6 a7;exact λh0=>λh1=>λh2=>(let ⟨rr,hH,ee,qq⟩:=Bg3 kd nm v4 a0 a1 a2 a3 a4 a5 a6 a7 h0 h1 h2;⟨rfl,rfl,rfl,rr,hH,(Bg2 LF noY () 0 kd nm v4 a0 a1 a2 a3 a4 a5 a6 a7).trans ee,qq⟩)
 ·trivial
theorem Bn5:A7 Tryz.prog GX 37 OD:=xf [] (Q8 LF) Rj rfl ⟨Ub,NO,B63,trivial⟩ rfl (by kernel_rfl) follows λargs=>by
 unfold Rj;split
 ·rename_i sc us kd nm v4 a0 a1 a2 a3 a4 a5 a6 a7 po re;exact λh0=>λh1=>λh2=>λh3=>(let ⟨rr,hH,ee,qq⟩:=Ax8 sc us kd nm v4 a0 a1 a2 a3 a4 a5 a6 a7 po re h0 h1 h2 h3;⟨rfl,rfl,rfl,rr,hH,(Ax7 LF noY () 0 sc us kd nm v4 a0 a1 a2 a3 a4 a5 a6 a7 po re).trans ee,qq⟩)
 ·trivial
end
section
variable {σ R : Type} (lf : Nat) (cl : D3) (yh : Yh σ) (s : σ) (k : Out -> St σ -> Option R)
noncomputable def Zh (lf:Nat):Cfg:=B8 lf [20] (A3 []) [] (A3 [(1,[2]),(0,[0])]) [] (A3 []) (some [2]) [] [] []
noncomputable def KM {R:Type} (lf:Nat) (dest0:Int) (k0:Bool->Option R):Option R:=cond (not (ltI dest0 1)) (k0 (not (ltI 22 dest0))) (k0 false)
theorem As3 (d:Nat) (dest0):evC (Zh lf) (d+1) σ yh 20 [pI dest0] [] s=KM lf dest0 (λr0=>some (pB r0,[],s)):=by
 refine (evE (fn:=Tryz.f20) (by kernel_rfl)).trans ?_
 generalize evC (Zh lf) d=cl
 unfold KM;kernel_rfl
noncomputable def VZ (lf:Nat):Cfg:=B8 lf [39] (A3 []) [(20,Xi)] (A3 [(12,[4]),(11,[4]),(10,[17]),(3,[4]),(6,[4]),(9,[4]),(8,[0,13]),(7,[0,0,9]),(5,[0,0,3,2]),(4,[0,0,3,2]),(2,[0,0,3,0]),(1,[0,0,3]),(0,[0,0])]) [20] (A3 [(0,[0])]) (some [4]) [] [] []
noncomputable def Bs0 {R:Type} (lf:Nat) (dest0:Int) (imageSet1:Bool) (k0:Int->Option R):Option R:=cond (dest0==4) (k0 1) (cond (dest0==2) (cond (dest0==2) (k0 2) (cond (dest0==9) (cond (not imageSet1) (k0 2) (cond (not (Hw dest0)) (k0 0) (k0 3))) (cond (not (Hw dest0)) (k0 0) (k0 3)))) (cond (dest0==20) (k0 2) (cond (dest0==9) (cond (not imageSet1) (k0 2) (cond (not (Hw dest0)) (k0 0) (k0 3))) (cond (not (Hw dest0)) (k0 0) (k0 3)))))
theorem Bs1 (d:Nat) (dest0 imageSet1):evC (VZ lf) (d+1) σ yh 39 [pI dest0,pB imageSet1] [] s=Bs0 lf dest0 imageSet1 (λr0=>some (pI r0,[],s)):=by
 refine (evE (fn:=Tryz.f39) (by kernel_rfl)).trans ?_
 generalize evC (VZ lf) d=cl
 unfold Bs0;kernel_rfl
noncomputable abbrev Ak0:Code:=D0 Tryz.f87
noncomputable def Gv (lf:Nat):Cfg:=B8 lf [87] (A3 [(2,[0,0,2,2,0])]) [] (A3 [(7,[4]),(6,[0,0,5,0]),(5,[4]),(4,[0,0,3,1,0,7]),(3,[0,0,3,1,0]),(2,[0,0,5,0,0]),(1,[0,0,5,0]),(0,[0,0])]) [] (A3 [(0,[]),(1,[0,0,5,0])]) (some [4]) [] [] []
noncomputable def Dx {R:Type} (lf n:Nat) (s_z0 s_t1:Bool) (s2:LL) (v3:By) (n4 n5:Int) (k0:Int->Option R) (k1:Unit->Option R):Option R:=match n with | 0=>none | n+1=>cond (ltI n5 n4) (cond (inR n5 s2.length) (cond (okE Qq s2 (Int.toNat n5) 0) (cond (v3==(gX s2 (Int.toNat n5) 0)) (k0 n5) (Dx lf n s_z0 s_t1 s2 v3 n4 (A4 (n5+1)) k0 k1)) none) none) (k1 ())
theorem TG (n s_z0 s_t1 s2 v3 n4 n5):F0 0 ((Gv lf).keep 2) (bd (Gv lf) cl yh (cd [1,0,1,0,0] Ak0)) n ⟨gp [(0,.s (.sl s_z0 s_t1 1 s2)),(0,pS v3),(5,pI n4),(0,pI n5)] 10,[],s⟩ k =
 Dx lf n s_z0 s_t1 s2 v3 n4 n5 (λn0=>k .ret ⟨gp [(4,pI n0)] 14,[],s⟩) (λ_=>k (.exit 0) ⟨gp [] 19,[],s⟩):=by
 induction n generalizing s_z0 s_t1 s2 v3 n4 n5 with
 | zero=>rfl
 | succ n ih=>rw [Dx];simp only [<-ih];kernel_rfl
noncomputable def Ao5 {R:Type} (lf:Nat) (s_z0 s_t1:Bool) (s2:LL) (v3:By) (k0:Int->Option R):Option R:=Dx lf lf s_z0 s_t1 s2 v3 (s2.length:Int) 0 k0 (λ_=>k0 (-1))
theorem Bi6 (d:Nat) (s_z0 s_t1 s2 v3):evC (Gv lf) (d+1) σ yh 87 [.s (.sl s_z0 s_t1 1 s2),pS v3] [] s=Ao5 lf s_z0 s_t1 s2 v3 (λr0=>some (pI r0,[],s)):=by
 refine (evE (fn:=Tryz.f87) (by kernel_rfl)).trans ?_
 generalize evC (Gv lf) d=cl
 unfold Ao5;exact (Eq.trans (by kernel_rfl) ((TG lf cl yh s (H7 0 (I5 (Gv lf) cl yh (cd [1,1] Ak0) (G5 (Gv lf) Tryz.f87))) lf s_z0 s_t1 s2 v3 (s2.length:Int) 0).trans (by kernel_rfl)))
noncomputable def KA (lf:Nat):Cfg:=B8 lf [61] (A3 []) [(87,Ai8)] (A3 [(1,[4]),(0,[0,0])]) [87] (A3 []) (some [4]) [] [] []
noncomputable def Ao4 {R:Type} (lf:Nat) (s_z0 s_t1:Bool) (s2:LL) (v3:By) (k0:Bool->Option R):Option R:=cond (List.all s2 isS) (cond (A2 s2.length) (vl (Au8 (List.map elS s2) v3) λn'0=>k0 (not (ltI n'0 0))) none) none
theorem Bi4 (d:Nat) (s_z0 s_t1 s2 v3):evC (KA lf) (d+1) σ yh 61 [.s (.sl s_z0 s_t1 1 s2),pS v3] [] s=Ao4 lf s_z0 s_t1 s2 v3 (λr0=>some (pB r0,[],s)):=by
 refine (evE (fn:=Tryz.f61) (by kernel_rfl)).trans ?_
 generalize evC (KA lf) d=cl
 unfold Ao4;kernel_rfl
noncomputable def VX (lf:Nat):Cfg:=B8 lf [38] (A3 []) [(22,Rg),(58,UL),(61,Ai7)] (A3 [(1,[4]),(0,[2,0])]) [22,58,61] (A3 []) (some [4]) [] [] [] (nt:=[(26,4,9,1)])
noncomputable def Br2 {R:Type} (lf:Nat) (c0 c1 c2 c3 c_z4 c_t5:Bool) (c6:LL) (h7:Int) (h8:By) (h9 h10 h11 h12 h13 h14 h15 h16 h17:Int) (k0:Bool->(List Blk)->Option R):Option R:=cond (A2 h8.length) (cond (ltN h9 4294967296) (cond (ok8 h10 h11 h12 h13 h14 h15 h16 h17) (cond (L1 (mkH h7 h8 h9 (n8 h10 h11 h12 h13 h14 h15 h16 h17))) (cond (A2 h8.length) (cond (ltN h9 4294967296) (cond (ok8 h10 h11 h12 h13 h14 h15 h16 h17) (vl (Ih (mkH h7 h8 h9 (n8 h10 h11 h12 h13 h14 h15 h16 h17))) λs'0=>cond (List.all c6 isS) (cond (A2 c6.length) (k0 (At4 (List.map elS c6) s'0) [(bCx c0 c1 c2 c3 c_z4 c_t5 c6),(bH h7 h8 h9 h10 h11 h12 h13 h14 h15 h16 h17)]) none) none) none) none) none) (k0 false [(bCx c0 c1 c2 c3 c_z4 c_t5 c6),(bH h7 h8 h9 h10 h11 h12 h13 h14 h15 h16 h17)])) none) none) none
theorem Br3 (d:Nat) (c0 c1 c2 c3 c_z4 c_t5 c6 h7 h8 h9 h10 h11 h12 h13 h14 h15 h16 h17):evC (VX lf) (d+1) σ yh 38 [(gCx c0 c1 c2 c3 c_z4 c_t5 c6),(gH h7 h8 h9 h10 h11 h12 h13 h14 h15 h16 h17)] [] s=Br2 lf c0 c1 c2 c3 c_z4 c_t5 c6 h7 h8 h9 h10 h11 h12 h13 h14 h15 h16 h17 (λr0 H1=>some (pB r0,H1,s)):=by
 refine (evE (fn:=Tryz.f38) (by kernel_rfl)).trans ?_
 generalize evC (VX lf) d=cl
 unfold Br2;kernel_rfl
noncomputable abbrev Ed:Code:=D0 Tryz.f21
noncomputable def X4 (lf:Nat):Cfg:=B8 lf [21] (A3 []) [(34,VA),(35,A63),(36,A66),(37,OD),(38,A48),(39,A49)] (A3 [(13,[10]),(4,[10]),(6,[10]),(8,[10]),(10,[10]),(12,[10]),(11,[10,3,55]),(9,[1,0,2,2,1,0,1,0,46]),(7,[1,0,2,2,1,0,0,0,0,28]),(5,[1,0,2,2,1,0,0,0,0,18]),(3,[1,0,2,2,1,0,0,0,0,9]),(2,[1,0,2,2,0,0,0,0,0,0]),(1,[1,0,2,2,0,0,0,0]),(0,[1,0,2,2,0,0])]) [34,35,37,38,39] (A3 [(0,[10])]) (some [10]) [] [] [] (nt:=[(26,4,9,1)])
noncomputable def Pn {R:Type} (upgrade5 s6 s7:By) (n8v:Int) (s9:By) (n10 n11 n12 n13 n14 n15 n16 n17 n18 n19:Int) (s20:By) (b21 b22 b23 b24 z25 t26:Bool) (l27:LL) (n28:Int) (s29:By) (b30:Bool) (k0:Blk->Blk->Blk->By->(List Blk)->Option R):Option R:=k0 (bU s6 s7 n8v s9 n10 n11 n12 n13 n14 n15 n16 n17 n18 n19 s20) (bCx b21 b22 b23 b24 z25 t26 l27) (bCv n28 s29 b30) upgrade5 []
abbrev AZ (b:Code):Prop:=∀ (k:Out->St σ->Option R) dest0 imageSet1 insecure2 document3 allow4 upgrade5 s6 s7 n8v s9 n10 n11 n12 n13 n14 n15 n16 n17 n18 n19 s20 b21 b22 b23 b24 z25 t26 l27 n28 s29 b30,A9 (X4 lf) cl yh b ⟨gp [(1,pI dest0),(0,pB imageSet1),(2,.ptr 0 0 0),(2,.ptr 1 0 0),(1,.ptr 3 0 0),(0,pB insecure2),(0,pB document3),(0,pS allow4),(0,pS upgrade5),(28,pB true)] 48,[(bU s6 s7 n8v s9 n10 n11 n12 n13 n14 n15 n16 n17 n18 n19 s20),(bCx b21 b22 b23 b24 z25 t26 l27),(bCv n28 s29 b30),(bDx (0:Int) (0:Int) e0)],s⟩ k=Pn upgrade5 s6 s7 n8v s9 n10 n11 n12 n13 n14 n15 n16 n17 n18 n19 s20 b21 b22 b23 b24 z25 t26 l27 n28 s29 b30 (λB0 B1 B2 s3 H4=>k .ret ⟨gp [(10,.ptr 3 0 0)] 81,(B0::B1::B2::(bDx (2:Int) (3:Int) s3)::H4),s⟩)
theorem RO:AZ (R:=R) lf cl yh s (cd [1,1,1,0,0,1,1,1,1,1] Ed):=by
 intro k dest0 imageSet1 insecure2 document3 allow4 upgrade5 s6 s7 n8v s9 n10 n11 n12 n13 n14 n15 n16 n17 n18 n19 s20 b21 b22 b23 b24 z25 t26 l27 n28 s29 b30;unfold Pn;kernel_rfl
noncomputable def Gd {R:Type} (dest0:Int) (imageSet1 insecure2 document3:Bool) (allow4 upgrade5:By) (b6:Bool) (s7 s8:By) (n9:Int) (s10:By) (n11 n12 n13 n14 n15 n16 n17 n18 n19 n20:Int) (s21:By) (b22 b23 b24 b25 z26 t27:Bool) (l28:LL) (n29:Int) (s30:By) (b31:Bool) (k0:Blk->Blk->Blk->Int->Int->By->(List Blk)->Option R) (k1:By->Bool->By->By->Int->By->Int->Int->Int->Int->Int->Int->Int->Int->Int->Int->By->Bool->Bool->Bool->Bool->Bool->Bool->LL->Int->By->Bool->Option R):Option R:=cond b6 (k0 (bU s7 s8 n9 s10 n11 n12 n13 n14 n15 n16 n17 n18 n19 n20 s21) (bCx b22 b23 b24 b25 z26 t27 l28) (bCv n29 s30 b31) 2 3 upgrade5 []) (cond document3 (k0 (bU s7 s8 n9 s10 n11 n12 n13 n14 n15 n16 n17 n18 n19 n20 s21) (bCx b22 b23 b24 b25 z26 t27 l28) (bCv n29 s30 b31) 1 6 allow4 []) (cond (not b23) (k0 (bU s7 s8 n9 s10 n11 n12 n13 n14 n15 n16 n17 n18 n19 n20 s21) (bCx b22 b23 b24 b25 z26 t27 l28) (bCv n29 s30 b31) 1 6 allow4 []) (cond insecure2 (cond ((Aq7 dest0 imageSet1)==2) (cond (n9==1) (cond (not b25) (k0 (bU s7 s8 n9 s10 n11 n12 n13 n14 n15 n16 n17 n18 n19 n20 s21) (bCx b22 b23 b24 b25 z26 t27 l28) (bCv n29 s30 b31) 2 4 upgrade5 []) (k1 upgrade5 (not b25) s7 s8 n9 s10 n11 n12 n13 n14 n15 n16 n17 n18 n19 n20 s21 b22 b23 b24 b25 z26 t27 l28 n29 s30 b31)) (k1 upgrade5 false s7 s8 n9 s10 n11 n12 n13 n14 n15 n16 n17 n18 n19 n20 s21 b22 b23 b24 b25 z26 t27 l28 n29 s30 b31)) (k1 upgrade5 false s7 s8 n9 s10 n11 n12 n13 n14 n15 n16 n17 n18 n19 n20 s21 b22 b23 b24 b25 z26 t27 l28 n29 s30 b31)) (k1 upgrade5 false s7 s8 n9 s10 n11 n12 n13 n14 n15 n16 n17 n18 n19 n20 s21 b22 b23 b24 b25 z26 t27 l28 n29 s30 b31))))
abbrev BA (b:Code):Prop:=∀ (k:Out->St σ->Option R) dest0 imageSet1 insecure2 document3 allow4 upgrade5 b6 s7 s8 n9 s10 n11 n12 n13 n14 n15 n16 n17 n18 n19 n20 s21 b22 b23 b24 b25 z26 t27 l28 n29 s30 b31,A9 (X4 lf) cl yh b ⟨gp [(1,pI dest0),(0,pB imageSet1),(2,.ptr 0 0 0),(2,.ptr 1 0 0),(1,.ptr 3 0 0),(0,pB insecure2),(0,pB document3),(0,pS allow4),(0,pS upgrade5),(28,pB b6)] 48,[(bU s7 s8 n9 s10 n11 n12 n13 n14 n15 n16 n17 n18 n19 n20 s21),(bCx b22 b23 b24 b25 z26 t27 l28),(bCv n29 s30 b31),(bDx (0:Int) (0:Int) e0)],s⟩ k=Gd dest0 imageSet1 insecure2 document3 allow4 upgrade5 b6 s7 s8 n9 s10 n11 n12 n13 n14 n15 n16 n17 n18 n19 n20 s21 b22 b23 b24 b25 z26 t27 l28 n29 s30 b31 (λB0 B1 B2 n3 n4 s5 H6=>k .ret ⟨gp [(10,.ptr 3 0 0)] 81,(B0::B1::B2::(bDx n3 n4 s5)::H6),s⟩) (λupgrade0 b1 s2 s3 n4 s5 n6 n7 n8v n9 n10 n11 n12 n13 n14 n15 s16 b17 b18 b19 b20 z21 t22 l23 n24 s25 b26=>k .normal ⟨gp [(10,.ptr 3 0 0),(3,pS upgrade0),(55,pB b1)] 21,[(bU s2 s3 n4 s5 n6 n7 n8v n9 n10 n11 n12 n13 n14 n15 s16),(bCx b17 b18 b19 b20 z21 t22 l23),(bCv n24 s25 b26),(bDx (0:Int) (0:Int) e0)],s⟩)
theorem RP:BA (R:=R) lf cl yh s (cd [1,1,1,0,0,1,1,1,1,1] Ed):=by
 intro k dest0 imageSet1 insecure2 document3 allow4 upgrade5 b6 s7 s8 n9 s10 n11 n12 n13 n14 n15 n16 n17 n18 n19 n20 s21 b22 b23 b24 b25 z26 t27 l28 n29 s30 b31;unfold Gd;kernel_rfl
noncomputable def Js {R:Type} (dest0:Int) (imageSet1 insecure2 document3:Bool) (allow4 upgrade5:By) (b6:Bool) (s7 s8:By) (n9:Int) (s10:By) (n11 n12 n13 n14 n15 n16 n17 n18 n19 n20:Int) (s21:By) (b22 b23 b24 b25 z26 t27:Bool) (l28:LL) (n29:Int) (s30:By) (b31:Bool) (k0:Blk->Blk->Blk->Int->Int->By->(List Blk)->Option R) (k1:By->Bool->By->By->Int->By->Int->Int->Int->Int->Int->Int->Int->Int->Int->Int->By->Bool->Bool->Bool->Bool->Bool->Bool->LL->Int->By->Bool->Option R):Option R:=cond b6 (k0 (bU s7 s8 n9 s10 n11 n12 n13 n14 n15 n16 n17 n18 n19 n20 s21) (bCx b22 b23 b24 b25 z26 t27 l28) (bCv n29 s30 b31) 2 2 upgrade5 []) (cond (smU s7 s8 s10 s21) (cond (ltN n11 4294967296) (cond (ok8 n12 n13 n14 n15 n16 n17 n18 n19) (cond (T7 n20) (cond (Tv s7 s8 n9 s10 n11 n12 n13 n14 n15 n16 n17 n18 n19 n20 s21) (k0 (bU s7 s8 n9 s10 n11 n12 n13 n14 n15 n16 n17 n18 n19 n20 s21) (bCx b22 b23 b24 b25 z26 t27 l28) (bCv n29 s30 b31) 1 1 allow4 []) (cond (s7==[100,97,116,97]) (k0 (bU s7 s8 n9 s10 n11 n12 n13 n14 n15 n16 n17 n18 n19 n20 s21) (bCx b22 b23 b24 b25 z26 t27 l28) (bCv n29 s30 b31) 1 1 allow4 []) (cond insecure2 (cond b24 (cond (not document3) (Pn upgrade5 s7 s8 n9 s10 n11 n12 n13 n14 n15 n16 n17 n18 n19 n20 s21 b22 b23 b24 b25 z26 t27 l28 n29 s30 b31 (λB'4 B'5 B'6 s'7 H'8=>k0 B'4 B'5 B'6 2 3 s'7 H'8)) (cond (List.all l28 isS) (cond (A2 l28.length) (cond (A2 s10.length) (cond (ltN n11 4294967296) (cond (ok8 n12 n13 n14 n15 n16 n17 n18 n19) (Gd dest0 imageSet1 insecure2 document3 allow4 upgrade5 (ZO (List.map elS l28) (mkH n9 s10 n11 (n8 n12 n13 n14 n15 n16 n17 n18 n19))) s7 s8 n9 s10 n11 n12 n13 n14 n15 n16 n17 n18 n19 n20 s21 b22 b23 b24 b25 z26 t27 l28 n29 s30 b31 k0 k1) none) none) none) none) none)) (Gd dest0 imageSet1 insecure2 document3 allow4 upgrade5 false s7 s8 n9 s10 n11 n12 n13 n14 n15 n16 n17 n18 n19 n20 s21 b22 b23 b24 b25 z26 t27 l28 n29 s30 b31 k0 k1)) (Gd dest0 imageSet1 insecure2 document3 allow4 upgrade5 false s7 s8 n9 s10 n11 n12 n13 n14 n15 n16 n17 n18 n19 n20 s21 b22 b23 b24 b25 z26 t27 l28 n29 s30 b31 k0 k1)))) none) none) none) none)
abbrev Ng (b:Code):Prop:=∀ (k:Out->St σ->Option R) dest0 imageSet1 insecure2 document3 allow4 upgrade5 b6 s7 s8 n9 s10 n11 n12 n13 n14 n15 n16 n17 n18 n19 n20 s21 b22 b23 b24 b25 z26 t27 l28 n29 s30 b31,A9 (X4 lf) cl yh b ⟨gp [(1,pI dest0),(0,pB imageSet1),(2,.ptr 0 0 0),(2,.ptr 1 0 0),(1,.ptr 3 0 0),(0,pB insecure2),(0,pB document3),(0,pS allow4),(0,pS upgrade5),(9,pB b6)] 67,[(bU s7 s8 n9 s10 n11 n12 n13 n14 n15 n16 n17 n18 n19 n20 s21),(bCx b22 b23 b24 b25 z26 t27 l28),(bCv n29 s30 b31),(bDx (0:Int) (0:Int) e0)],s⟩ k=Js dest0 imageSet1 insecure2 document3 allow4 upgrade5 b6 s7 s8 n9 s10 n11 n12 n13 n14 n15 n16 n17 n18 n19 n20 s21 b22 b23 b24 b25 z26 t27 l28 n29 s30 b31 (λB0 B1 B2 n3 n4 s5 H6=>k .ret ⟨gp [(10,.ptr 3 0 0)] 81,(B0::B1::B2::(bDx n3 n4 s5)::H6),s⟩) (λupgrade0 b1 s2 s3 n4 s5 n6 n7 n8v n9 n10 n11 n12 n13 n14 n15 s16 b17 b18 b19 b20 z21 t22 l23 n24 s25 b26=>k .normal ⟨gp [(10,.ptr 3 0 0),(3,pS upgrade0),(55,pB b1)] 21,[(bU s2 s3 n4 s5 n6 n7 n8v n9 n10 n11 n12 n13 n14 n15 s16),(bCx b17 b18 b19 b20 z21 t22 l23),(bCv n24 s25 b26),(bDx (0:Int) (0:Int) e0)],s⟩)
theorem RR (b_1110011111:Code) (h_mrule_j0:AZ (R:=R) lf cl yh s b_1110011111) (h_mrule_j1:BA (R:=R) lf cl yh s b_1110011111):Ng (R:=R) lf cl yh s (cd [1,1,1,0,0,1] (N4 [1,1,1,0,0,1,1,1,1,1] b_1110011111 Ed)):=by
 intro k dest0 imageSet1 insecure2 document3 allow4 upgrade5 b6 s7 s8 n9 s10 n11 n12 n13 n14 n15 n16 n17 n18 n19 n20 s21 b22 b23 b24 b25 z26 t27 l28 n29 s30 b31;unfold Js;exact (Eq.trans (by kernel_rfl) (A0 rfl (A0 (A0 (A0 (A0 (A0 rfl (A0 rfl (A0 (A0 (A0 ((h_mrule_j0 k dest0 imageSet1 insecure2 document3 allow4 upgrade5 s7 s8 n9 s10 n11 n12 n13 n14 n15 n16 n17 n18 n19 n20 s21 b22 b23 b24 b25 z26 t27 l28 n29 s30 b31).trans (by kernel_rfl)) (A0 (A0 (A0 (A0 (A0 ((h_mrule_j1 k dest0 imageSet1 insecure2 document3 allow4 upgrade5 (ZO (List.map elS l28) (mkH n9 s10 n11 (n8 n12 n13 n14 n15 n16 n17 n18 n19))) s7 s8 n9 s10 n11 n12 n13 n14 n15 n16 n17 n18 n19 n20 s21 b22 b23 b24 b25 z26 t27 l28 n29 s30 b31).trans (by kernel_rfl)) rfl) rfl) rfl) rfl) rfl)) ((h_mrule_j1 k dest0 imageSet1 insecure2 document3 allow4 upgrade5 false s7 s8 n9 s10 n11 n12 n13 n14 n15 n16 n17 n18 n19 n20 s21 b22 b23 b24 b25 z26 t27 l28 n29 s30 b31).trans (by kernel_rfl))) ((h_mrule_j1 k dest0 imageSet1 insecure2 document3 allow4 upgrade5 false s7 s8 n9 s10 n11 n12 n13 n14 n15 n16 n17 n18 n19 n20 s21 b22 b23 b24 b25 z26 t27 l28 n29 s30 b31).trans (by kernel_rfl))))) rfl) rfl) rfl) rfl)))
theorem RS:Ng (R:=R) lf cl yh s (cd [1,1,1,0,0,1] Ed):=by
 intro k dest0 imageSet1 insecure2 document3 allow4 upgrade5 b6 s7 s8 n9 s10 n11 n12 n13 n14 n15 n16 n17 n18 n19 n20 s21 b22 b23 b24 b25 z26 t27 l28 n29 s30 b31;exact Eq.trans (by kernel_rfl) (RR lf cl yh s (cd [1,1,1,0,0,1,1,1,1,1] Ed) (RO lf cl yh s) (RP lf cl yh s) k dest0 imageSet1 insecure2 document3 allow4 upgrade5 b6 s7 s8 n9 s10 n11 n12 n13 n14 n15 n16 n17 n18 n19 n20 s21 b22 b23 b24 b25 z26 t27 l28 n29 s30 b31)
noncomputable def RN {R:Type} (lf:Nat) (u0 u1:By) (u2:Int) (u3:By) (u4 u5 u6 u7 u8 u9 u10 u11 u12 u13:Int) (u14:By) (dest15:Int) (imageSet16 c17 c18 c19 c20 c_z21 c_t22:Bool) (c23:LL) (cov24:Int) (cov25:By) (cov26:Bool) (k0:Int->Int->By->(List Blk)->Option R):Option R:=cond (smU u0 u1 u3 u14) (cond (ltN u4 4294967296) (cond (ok8 u5 u6 u7 u8 u9 u10 u11 u12) (cond (T7 u13) (vl (Vz (mkU u0 u1 u2 u3 u4 (n8 u5 u6 u7 u8 u9 u10 u11 u12) u13 u14)) λs'2=>cond (smU (upS u0) u1 u3 u14) (cond (ltN u4 4294967296) (cond (ok8 u5 u6 u7 u8 u9 u10 u11 u12) (cond (T7 (upP u0 u13)) (vl (Vz (mkU (upS u0) u1 u2 u3 u4 (n8 u5 u6 u7 u8 u9 u10 u11 u12) (upP u0 u13) u14)) λs'3=>cond (P6 u0) (Js dest15 imageSet16 (P6 u0) (dest15==4) s'2 s'3 (cov24 != 0) u0 u1 u2 u3 u4 u5 u6 u7 u8 u9 u10 u11 u12 u13 u14 c17 c18 c19 c20 c_z21 c_t22 c23 cov24 cov25 cov26 (λB'111 B'112 B'113 n'114 n'115 s'116 H'117=>k0 n'114 n'115 s'116 (B'111::(B'112::(B'113::((bDx n'114 n'115 s'116)::H'117))))) (λupgrade'118 b'119 s'120 s'121 n'122 s'123 n'124 n'125 n'126 n'127 n'128 n'129 n'130 n'131 n'132 n'133 s'134 b'135 b'136 b'137 b'138 z'139 t'140 l'141 n'142 s'143 b'144=>k0 3 5 e0 [(bU s'120 s'121 n'122 s'123 n'124 n'125 n'126 n'127 n'128 n'129 n'130 n'131 n'132 n'133 s'134),(bCx b'135 b'136 b'137 b'138 z'139 t'140 l'141),(bCv n'142 s'143 b'144),(bDx (3:Int) (5:Int) e0)])) (Js dest15 imageSet16 (P6 u0) (dest15==4) s'2 s'3 false u0 u1 u2 u3 u4 u5 u6 u7 u8 u9 u10 u11 u12 u13 u14 c17 c18 c19 c20 c_z21 c_t22 c23 cov24 cov25 cov26 (λB'145 B'146 B'147 n'148 n'149 s'150 H'151=>k0 n'148 n'149 s'150 (B'145::(B'146::(B'147::((bDx n'148 n'149 s'150)::H'151))))) (λupgrade'152 b'153 s'154 s'155 n'156 s'157 n'158 n'159 n'160 n'161 n'162 n'163 n'164 n'165 n'166 n'167 s'168 b'169 b'170 b'171 b'172 z'173 t'174 l'175 n'176 s'177 b'178=>k0 3 5 e0 [(bU s'154 s'155 n'156 s'157 n'158 n'159 n'160 n'161 n'162 n'163 n'164 n'165 n'166 n'167 s'168),(bCx b'169 b'170 b'171 b'172 z'173 t'174 l'175),(bCv n'176 s'177 b'178),(bDx (3:Int) (5:Int) e0)]))) none) none) none) none) none) none) none) none
theorem Bf1 (b_111001:Code) (h_mrule_j2:Ng (R:=PV × List Blk × σ) lf cl yh s b_111001) (u0 u1:By) (u2:Int) (u3:By) (u4 u5 u6 u7 u8 u9 u10 u11 u12 u13:Int) (u14:By) (dest15:Int) (imageSet16 c17 c18 c19 c20 c_z21 c_t22:Bool) (c23:LL) (cov24:Int) (cov25:By) (cov26:Bool):A9 (X4 lf) cl yh (cd [] (N4 [1,1,1,0,0,1] b_111001 Ed)) ⟨[(gU u0 u1 u2 u3 u4 u5 u6 u7 u8 u9 u10 u11 u12 u13 u14),pI dest15,pB imageSet16,(gCx c17 c18 c19 c20 c_z21 c_t22 c23),(gCv cov24 cov25 cov26)]++tps 87,[],s⟩ (G5 (X4 lf) Tryz.f21)=RN lf u0 u1 u2 u3 u4 u5 u6 u7 u8 u9 u10 u11 u12 u13 u14 dest15 imageSet16 c17 c18 c19 c20 c_z21 c_t22 c23 cov24 cov25 cov26 (λr0 r1 r2 H3=>some (.agg [pI r0,pI r1,pS r2],H3,s)):=by
 unfold RN;exact let K0:=(H7 0 (I5 (X4 lf) cl yh (cd [1,1,1,1] Ed) (G5 (X4 lf) Tryz.f21)));(Eq.trans (by kernel_rfl) (A0 (A0 (A0 (A0 (A5 λs'2=>(A0 (A0 (A0 (A0 (A5 λs'3=>(A0 ((h_mrule_j2 K0 dest15 imageSet16 (P6 u0) (dest15==4) s'2 s'3 (cov24 != 0) u0 u1 u2 u3 u4 u5 u6 u7 u8 u9 u10 u11 u12 u13 u14 c17 c18 c19 c20 c_z21 c_t22 c23 cov24 cov25 cov26).trans (by kernel_rfl)) ((h_mrule_j2 K0 dest15 imageSet16 (P6 u0) (dest15==4) s'2 s'3 false u0 u1 u2 u3 u4 u5 u6 u7 u8 u9 u10 u11 u12 u13 u14 c17 c18 c19 c20 c_z21 c_t22 c23 cov24 cov25 cov26).trans (by kernel_rfl)))) rfl) rfl) rfl) rfl)) rfl) rfl) rfl) rfl))
theorem Bf2 (d:Nat) (u0 u1 u2 u3 u4 u5 u6 u7 u8 u9 u10 u11 u12 u13 u14 dest15 imageSet16 c17 c18 c19 c20 c_z21 c_t22 c23 cov24 cov25 cov26):evC (X4 lf) (d+1) σ yh 21 [(gU u0 u1 u2 u3 u4 u5 u6 u7 u8 u9 u10 u11 u12 u13 u14),pI dest15,pB imageSet16,(gCx c17 c18 c19 c20 c_z21 c_t22 c23),(gCv cov24 cov25 cov26)] [] s=RN lf u0 u1 u2 u3 u4 u5 u6 u7 u8 u9 u10 u11 u12 u13 u14 dest15 imageSet16 c17 c18 c19 c20 c_z21 c_t22 c23 cov24 cov25 cov26 (λr0 r1 r2 H3=>some (.agg [pI r0,pI r1,pS r2],H3,s)):=
 (evE (fn:=Tryz.f21) (by kernel_rfl)).trans (Eq.trans (by kernel_rfl) (Bf1 lf (evC (X4 lf) d) yh s (cd [1,1,1,0,0,1] Ed) (RS lf (evC (X4 lf) d) yh s) u0 u1 u2 u3 u4 u5 u6 u7 u8 u9 u10 u11 u12 u13 u14 dest15 imageSet16 c17 c18 c19 c20 c_z21 c_t22 c23 cov24 cov25 cov26))
noncomputable def WM (lf:Nat):Cfg:=B8 lf [16] (A3 []) [(19,Ks),(20,Xi),(21,Ai5)] (A3 [(5,[10,0]),(2,[10,0]),(4,[10,0]),(3,[1,0,2,2,0,0,6]),(1,[1,0,2,2,0,0,1]),(0,[1,0,2,2,0,0])]) [19,20] (A3 [(0,[1,0,2,2,0,0])]) (some [10,0]) [] [] [] (nt:=[(26,4,9,1)])
noncomputable def By2 {R:Type} (lf:Nat) (u0 u1:By) (u2:Int) (u3:By) (u4 u5 u6 u7 u8 u9 u10 u11 u12 u13:Int) (u14:By) (dest15:Int) (imageSet16 c17 c18 c19 c20 c_z21 c_t22:Bool) (c23:LL) (cov24:Int) (cov25:By) (cov26:Bool) (k0:Int->Int->By->Int->(List Blk)->Option R):Option R:=cond (smU u0 u1 u3 u14) (cond (ltN u4 4294967296) (cond (ok8 u5 u6 u7 u8 u9 u10 u11 u12) (cond (T7 u13) (cond (not (Ah (mkU u0 u1 u2 u3 u4 (n8 u5 u6 u7 u8 u9 u10 u11 u12) u13 u14))) (k0 0 0 e0 1 [(bU u0 u1 u2 u3 u4 u5 u6 u7 u8 u9 u10 u11 u12 u13 u14),(bCx c17 c18 c19 c20 c_z21 c_t22 c23),(bCv cov24 cov25 cov26),(bDx (0:Int) (0:Int) e0)]) (cond (not (Hw dest15)) (k0 0 0 e0 2 [(bU u0 u1 u2 u3 u4 u5 u6 u7 u8 u9 u10 u11 u12 u13 u14),(bCx c17 c18 c19 c20 c_z21 c_t22 c23),(bCv cov24 cov25 cov26),(bDx (0:Int) (0:Int) e0)]) (cond (smU u0 u1 u3 u14) (cond (ltN u4 4294967296) (cond (ok8 u5 u6 u7 u8 u9 u10 u11 u12) (cond (T7 u13) (cond (List.all c23 isS) (cond (A2 c23.length) (vl (Qb u0 u1 u2 u3 u4 u5 u6 u7 u8 u9 u10 u11 u12 u13 u14 dest15 imageSet16 c18 c19 c20 (List.map elS c23) cov24) λp'0=>k0 (dA p'0) (dR p'0) (dU p'0) 0 [(bU u0 u1 u2 u3 u4 u5 u6 u7 u8 u9 u10 u11 u12 u13 u14),(bCx c17 c18 c19 c20 c_z21 c_t22 c23),(bCv cov24 cov25 cov26),(bDQ p'0)]) none) none) none) none) none) none))) none) none) none) none
theorem By3 (d:Nat) (u0 u1 u2 u3 u4 u5 u6 u7 u8 u9 u10 u11 u12 u13 u14 dest15 imageSet16 c17 c18 c19 c20 c_z21 c_t22 c23 cov24 cov25 cov26):evC (WM lf) (d+1) σ yh 16 [(gU u0 u1 u2 u3 u4 u5 u6 u7 u8 u9 u10 u11 u12 u13 u14),pI dest15,pB imageSet16,(gCx c17 c18 c19 c20 c_z21 c_t22 c23),(gCv cov24 cov25 cov26)] [] s=By2 lf u0 u1 u2 u3 u4 u5 u6 u7 u8 u9 u10 u11 u12 u13 u14 dest15 imageSet16 c17 c18 c19 c20 c_z21 c_t22 c23 cov24 cov25 cov26 (λr0 r1 r2 r3 H4=>some (.tup [.agg [pI r0,pI r1,pS r2],pI r3],H4,s)):=by
 refine (evE (fn:=Tryz.f16) (by kernel_rfl)).trans ?_
 generalize evC (WM lf) d=cl
 unfold By2;kernel_rfl
end
theorem PN {R:Type} {k0:Bool->Option R} (n:Int):KM LF n k0=k0 (Hw n):=by
 unfold KM Hw
 cases ltI n 1<;>rfl
theorem Ar4 {R:Type} {k0:Int->Option R} (n:Int) (im:Bool):Bs0 LF n im k0=k0 (Aq7 n im):=by
 unfold Bs0 Aq7
 cases n==4<;>cases n==2<;>cases n==20<;>cases n==9<;>cases im<;>cases Hw n<;>rfl
theorem Ad9 {R:Type} (z t:Bool) (l:List By) (v:By) (k0:Int->Option R) (k1:Unit->Option R) (hl:l.length<=1000000000):∀ (r i m:Nat),i+r=l.length->r<m->
  Dx LF m z t (C5 l) v (l.length:Int) (i:Int) k0 k1=match (l.drop i).findIdx? (· == v) with | some j=>k0 ((i+j:Nat):Int) | none=>k1 ():=by
 intro r
 induction r with
 | zero=>
  intro i m hi hm
  obtain ⟨m,rfl⟩:∃ q,m=q+1:=⟨m-1,by omega⟩
  rw [Dx,A6,List.drop_of_length_le (by omega)]
  rfl
 | succ r ih=>
  intro i m hi hm
  obtain ⟨m,rfl⟩:∃ q,m=q+1:=⟨m-1,by omega⟩
  have e1:A4 ((i:Int)+1)=((i+1:Nat):Int):=by rw [A8];rfl
  have hd:l.drop i=l.getD i []::l.drop (i+1):=by
   rw [List.getD_eq_getElem?_getD,List.getElem?_eq_getElem (by omega),Option.getD_some,List.getElem_cons_drop]
  rw [Dx,B4,O6 (by omega) (by rw [E1];omega),Int.toNat_natCast,U2 (by omega),Ak,e1,hd,List.findIdx?_cons]
  simp only [cond_true]
  by_cases h:l.getD i []=v
  ·rw [h,beq_self_eq_true]
   simp
  ·rw [show (v==l.getD i [])=false by simpa using λq=>h q.symm,show (l.getD i []==v)=false by simpa using h,cond_false,ih (i+1) m (by omega) (by omega)]
   cases (l.drop (i+1)).findIdx? (· == v) with
   | none=>rfl
   | some j=>simp [Nat.add_assoc,Nat.add_comm 1 j]
theorem Ae0 {R:Type} {k0:Int->Option R} (z t:Bool) (l:LL) (v:By) (h0:l.all isS=true) (h1:A2 l.length=true):Ao5 LF z t l v k0=k0 (Au8 (l.map elS) v):=by
 have hLF:=F6
 have hl:=N5 h1
 rw [Qo h0] at hl ⊢
 generalize l.map elS=q at hl ⊢
 rw [E1] at hl
 have e:List.map elS (C5 q)=q:=by
  unfold C5
  rw [List.map_map]
  exact List.map_id'' (λ_=>rfl) q
 unfold Ao5 Au8
 rw [E1,e]
 refine (Ad9 z t q v _ _ hl q.length 0 LF (by omega) (by omega)).trans ?_
 rw [List.drop_zero]
 cases q.findIdx? (· == v) with
 | none=>rfl
 | some j=>
  show k0 ((0+j:Nat):Int)=k0 (j:Int)
  rw [Nat.zero_add]
theorem Bw3 (l:List By) (v:By):(!ltI (Au8 l v) 0)=At4 l v:=by
 unfold Au8 At4
 cases h:l.findIdx? (· == v) with
 | none=>
  rw [List.findIdx?_eq_none_iff] at h
  show (!ltI (-1) 0)=_
  rw [B4]
  exact (List.any_eq_false.2 λx hx=>by rw [h x hx];simp).symm
 | some j=>
  show (!ltI (j:Int) 0)=_
  rw [A6]
  exact (List.any_eq_true.2 (by
   obtain ⟨hj,hp,_⟩:=List.findIdx?_eq_some_iff_getElem.1 h
   exact ⟨_,List.getElem_mem hj,hp⟩)).symm
theorem Ad5 {R:Type} {k0:Bool->Option R} (z t:Bool) (l:LL) (v:By) (h0:l.all isS=true) (h1:A2 l.length=true):Ao4 LF z t l v k0=k0 (At4 (l.map elS) v):=by
 unfold Ao4
 rw [h0,h1,<-Bw3]
 rfl
theorem Br4 (se pr up ba z t:Bool) (l:LL) (kd:Int) (nm:By) (v4 a0 a1 a2 a3 a4 a5 a6 a7:Int) (h0:l.all isS=true) (h1:A2 l.length=true) (h2:A2 nm.length=true) (h3:ltN v4 4294967296=true) (h4:ok8 a0 a1 a2 a3 a4 a5 a6 a7=true) :
  ∃ r H,Br2 LF se pr up ba z t l kd nm v4 a0 a1 a2 a3 a4 a5 a6 a7 (λr0 H1=>rv (.s (.bool r0)) H1)=rv r H/\r.stab [] H = .s (.bool (ZO (l.map elS) (mkH kd nm v4 (n8 a0 a1 a2 a3 a4 a5 a6 a7)))):=by
 unfold Br2 ZO
 rw [h0,h1,h2,h3,h4]
 cases L1 (mkH kd nm v4 (n8 a0 a1 a2 a3 a4 a5 a6 a7))<;>exact ⟨_,_,rfl,rfl⟩
theorem Ce4 {sc us nm re:By} (h:smU sc us nm re=true):smU (upS sc) us nm re=true:=by
 obtain ⟨l1,l2,l3,l4⟩:=Lm h
 have:(upS sc).length<=100000000:=by
  cases hi:P6 sc with
  | false=>rw [(Ao8 hi 0).1];exact l1
  | true=>rcases Uu hi with rfl | rfl<;>decide
 simp only [smU,Bool.and_eq_true,Nat.ble_eq]
 exact ⟨⟨⟨this,l2⟩,l3⟩,l4⟩
theorem Bf3 (sc us:By) (kd:Int) (nm:By) (v4 a0 a1 a2 a3 a4 a5 a6 a7 po:Int) (re:By) (de:Int) (im se pr up ba z t:Bool) (l:LL) (so:Int) (cn:By) (ex:Bool) (h0:smU sc us nm re=true) (h1:ltN v4 4294967296=true) (h2:ok8 a0 a1 a2 a3 a4 a5 a6 a7=true) (h3:T7 po=true) (h4:l.all isS=true) (h5:A2 l.length=true) :
  ∃ r H,RN LF sc us kd nm v4 a0 a1 a2 a3 a4 a5 a6 a7 po re de im se pr up ba z t l so cn ex (λr0 r1 r2 H3=>rv (.agg [.s (.int .i64 r0),.s (.int .i64 r1),.s (.str r2)]) H3)=rv r H/\r.stab [] H = .agg [.s (.int .i64 (dA (Qb sc us kd nm v4 a0 a1 a2 a3 a4 a5 a6 a7 po re de im pr up ba (l.map elS) so))),.s (.int .i64 (dR (Qb sc us kd nm v4 a0 a1 a2 a3 a4 a5 a6 a7 po re de im pr up ba (l.map elS) so))),.s (.str (dU (Qb sc us kd nm v4 a0 a1 a2 a3 a4 a5 a6 a7 po re de im pr up ba (l.map elS) so)))]:=by
 obtain ⟨l1,l2,l3,l4⟩:=Lm h0
 have sn:A2 nm.length=true:=G2
 have g0:=Ce4 h0
 have g3:=Cf2 (s:=sc) h3
 unfold RN Js Gd Pn Qb
 simp only [vl,h0,h1,h2,h3,h4,h5,sn,g0,g3,cond_true,show (sc==([100,97,116,97]:List UInt8))=(sc==A73) from rfl,bne]
 generalize Vz (mkU sc us kd nm v4 (n8 a0 a1 a2 a3 a4 a5 a6 a7) po re)=F
 generalize Vz (mkU (upS sc) us kd nm v4 (n8 a0 a1 a2 a3 a4 a5 a6 a7) (upP sc po) re)=G
 generalize Tv sc us kd nm v4 a0 a1 a2 a3 a4 a5 a6 a7 po re=T
 generalize ZO (l.map elS) (mkH kd nm v4 (n8 a0 a1 a2 a3 a4 a5 a6 a7))=nv
 generalize P6 sc=i
 generalize (sc==A73)=d
 generalize (so==0)=x
 generalize (de==4)=D
 generalize (Aq7 de im==2)=c
 generalize (kd==1)=K
 cases i<;>cases x<;>cases T<;>cases d<;>first | exact ⟨_,_,rfl,rfl⟩ | (cases up<;>cases D<;>cases pr<;>first | exact ⟨_,_,rfl,rfl⟩ | (cases nv<;>cases c<;>cases K<;>cases ba<;>exact ⟨_,_,rfl,rfl⟩))
theorem By4 (sc us:By) (kd:Int) (nm:By) (v4 a0 a1 a2 a3 a4 a5 a6 a7 po:Int) (re:By) (de:Int) (im se pr up ba z t:Bool) (l:LL) (so:Int) (cn:By) (ex:Bool) (h0:smU sc us nm re=true) (h1:ltN v4 4294967296=true) (h2:ok8 a0 a1 a2 a3 a4 a5 a6 a7=true) (h3:T7 po=true) (h4:l.all isS=true) (h5:A2 l.length=true) :
  ∃ r H,By2 LF sc us kd nm v4 a0 a1 a2 a3 a4 a5 a6 a7 po re de im se pr up ba z t l so cn ex (λr0 r1 r2 r3 H4=>rv (.tup [.agg [.s (.int .i64 r0),.s (.int .i64 r1),.s (.str r2)],.s (.int .i64 r3)]) H4)=rv r H/\r.stab [0,0] H = .tup [.agg [.s (.int .i64 (dA (Zt sc us kd nm v4 a0 a1 a2 a3 a4 a5 a6 a7 po re de im pr up ba (l.map elS) so))),.s (.int .i64 (dR (Zt sc us kd nm v4 a0 a1 a2 a3 a4 a5 a6 a7 po re de im pr up ba (l.map elS) so))),.s (.str (dU (Zt sc us kd nm v4 a0 a1 a2 a3 a4 a5 a6 a7 po re de im pr up ba (l.map elS) so)))],.s (.int .i64 (dE (Zt sc us kd nm v4 a0 a1 a2 a3 a4 a5 a6 a7 po re de im pr up ba (l.map elS) so)))]:=by
 unfold By2 Zt
 simp only [vl,h0,h1,h2,h3,h4,h5,cond_true]
 cases Ah (mkU sc us kd nm v4 (n8 a0 a1 a2 a3 a4 a5 a6 a7) po re)<;>cases Hw de<;>exact ⟨_,_,rfl,rfl⟩
section
theorem UC:A7 Tryz.prog GX 20 Xi:=xf [] (Zh LF) Rc rfl trivial rfl (by kernel_rfl) follows λargs=>by
 unfold Rc;split
 ·rename_i n;exact ⟨rfl,rfl,rfl,_,_,(As3 LF noY () 0 n).trans (PN n ),rfl⟩
 ·trivial
theorem Ch0:A7 Tryz.prog GX 39 A49:=xf [] (VZ LF) GQ rfl ⟨UC,trivial⟩ rfl (by kernel_rfl) follows λargs=>by
 unfold GQ;split
 ·rename_i n im;exact ⟨rfl,rfl,rfl,_,_,(Bs1 LF noY () 0 n im).trans (Ar4 n im ),rfl⟩
 ·trivial
theorem B66:A7 Tryz.prog GX 87 Ai8:=xf [] (Gv LF) Ym rfl trivial rfl (by kernel_rfl) follows λargs=>by
 unfold Ym;split
 ·rename_i l_z l_t l s;exact λh0=>λh1=>⟨rfl,rfl,rfl,_,_,(Bi6 LF noY () 0 l_z l_t l s).trans (Ae0 l_z l_t l s h0 h1),rfl⟩
 ·trivial
theorem B65:A7 Tryz.prog GX 61 Ai7:=xf [] (KA LF) Yl rfl ⟨B66,trivial⟩ rfl (by kernel_rfl) follows λargs=>by
 unfold Yl;split
 ·rename_i l_z l_t l s;exact λh0=>λh1=>⟨rfl,rfl,rfl,_,_,(Bi4 LF noY () 0 l_z l_t l s).trans (Ad5 l_z l_t l s h0 h1),rfl⟩
 ·trivial
theorem Cg9:A7 Tryz.prog GX 38 A48:=xf [] (VX LF) GO rfl ⟨NM,Bm6,B65,trivial⟩ rfl (by kernel_rfl) follows λargs=>by
 unfold GO;split
 ·rename_i se pr up ba l_z l_t l kd nm v4 a0 a1 a2 a3 a4 a5 a6 a7;exact λh0=>λh1=>λh2=>λh3=>λh4=>(let ⟨rr,hH,ee,qq⟩:=Br4 se pr up ba l_z l_t l kd nm v4 a0 a1 a2 a3 a4 a5 a6 a7 h0 h1 h2 h3 h4;⟨rfl,rfl,rfl,rr,hH,(Br3 LF noY () 0 se pr up ba l_z l_t l kd nm v4 a0 a1 a2 a3 a4 a5 a6 a7).trans ee,qq⟩)
 ·trivial
theorem B62:A7 Tryz.prog GX 21 Ai5:=xf [] (X4 LF) Ya rfl ⟨Bo5,Ci9,Cm7,Bn5,Cg9,Ch0,trivial⟩ rfl (by kernel_rfl) follows λargs=>by
 unfold Ya;split
 ·rename_i sc us kd nm v4 a0 a1 a2 a3 a4 a5 a6 a7 po re de im se pr up ba l_z l_t l so cn ex;exact λh0=>λh1=>λh2=>λh3=>λh4=>λh5=>(let ⟨rr,hH,ee,qq⟩:=Bf3 sc us kd nm v4 a0 a1 a2 a3 a4 a5 a6 a7 po re de im se pr up ba l_z l_t l so cn ex h0 h1 h2 h3 h4 h5;⟨rfl,rfl,rfl,rr,hH,(Bf2 LF noY () 0 sc us kd nm v4 a0 a1 a2 a3 a4 a5 a6 a7 po re de im se pr up ba l_z l_t l so cn ex).trans ee,qq⟩)
 ·trivial
theorem Ci0:A7 Tryz.prog GX 16 A57:=xf [0,0] (WM LF) IB rfl ⟨Ub,UC,B62,trivial⟩ rfl (by kernel_rfl) follows λargs=>by
 unfold IB;split
 ·rename_i sc us kd nm v4 a0 a1 a2 a3 a4 a5 a6 a7 po re de im se pr up ba l_z l_t l so cn ex;exact λh0=>λh1=>λh2=>λh3=>λh4=>λh5=>(let ⟨rr,hH,ee,qq⟩:=By4 sc us kd nm v4 a0 a1 a2 a3 a4 a5 a6 a7 po re de im se pr up ba l_z l_t l so cn ex h0 h1 h2 h3 h4 h5;⟨rfl,rfl,rfl,rr,hH,(By3 LF noY () 0 sc us kd nm v4 a0 a1 a2 a3 a4 a5 a6 a7 po re de im se pr up ba l_z l_t l so cn ex).trans ee,qq⟩)
 ·trivial
end
section
theorem B67:A7 Tryz.prog GX 65 Ai9:=xf [0,0] (KC LF) Yn rfl trivial rfl (by kernel_rfl) follows λargs=>by
 unfold Yn;split
 ·rename_i q;exact ⟨rfl,rfl,rfl,_,_,(Bj4 LF noY () 0 q).trans (Ae6 q ),rfl⟩
 ·trivial
theorem B68:A7 Tryz.prog GX 41 Aj0:=xf [0,0] (KD LF) Yo rfl ⟨B67,trivial⟩ rfl (by kernel_rfl) follows λargs=>by
 unfold Yo;split
 ·rename_i q;exact ⟨rfl,rfl,rfl,_,_,(Bj6 LF noY () 0 q).trans (Ae7 q ),rfl⟩
 ·trivial
theorem B56:A7 Tryz.prog GX 43 Ai1:=xf [0,0] (JS LF) Xu rfl trivial rfl (by kernel_rfl) follows λargs=>by
 unfold Xu;split
 ·rename_i q;exact ⟨rfl,rfl,rfl,_,_,(Bd6 LF noY () 0 q).trans (YZ q ),rfl⟩
 ·trivial
theorem Cg7:A7 Tryz.prog GX 23 UI:=xf [0,0] (VW LF) GM rfl ⟨B68,B56,trivial⟩ rfl (by kernel_rfl) follows λargs=>by
 unfold GM;split
 ·rename_i now u ex;exact ⟨rfl,rfl,rfl,_,_,(Bq8 LF noY () 0 now u ex).trans (Aq8 now u ex ),rfl⟩
 ·trivial
theorem Cg8:A7 Tryz.prog GX 17 A47:=by
 refine A7.fix (pf:=GN) _ (F5 [] (C₀:=Cs LF) (Fo (lx:=[(22,Rg),(23,UI),(24,UM)]) (ly:=[]) (ls:=[(44,Wh)]) rfl rfl rfl ⟨NM,Cg7,Ch7,trivial⟩ trivial ⟨B73,trivial⟩) (D4 rfl (by kernel_rfl)) follows ?_)
 intro args ret Hc h
 unfold GN at h
 split at h
 ·rename_i now kd nm v4 a0 a1 a2 a3 a4 a5 a6 a7
  obtain ⟨h0,h⟩:=B6 h
  obtain ⟨h1,h⟩:=B6 h
  obtain ⟨h2,h⟩:=B6 h
  obtain ⟨rfl,rfl⟩:=E6 h
  obtain ⟨rr,hH,ee,qq⟩:=Br1 now kd nm v4 a0 a1 a2 a3 a4 a5 a6 a7 h0 h1 h2
  exact ⟨rfl,rfl,rfl,1,rr,hH,(Br0 LF noY () 0 now kd nm v4 a0 a1 a2 a3 a4 a5 a6 a7).trans ee,qq⟩
 ·cases h
theorem Ci1:A7 Tryz.prog GX 13 US:=xf [0,0] (WN LF) IC rfl ⟨Bo6,Cg8,Ci0,trivial⟩ rfl (by kernel_rfl) follows λargs=>by
 unfold IC;split
 ·rename_i q de im se pr up ba l_z l_t l now;exact λh0=>λh1=>λh2=>(let ⟨rr,hH,ee,qq⟩:=By7 q de im se pr up ba l_z l_t l now h0 h1 h2;⟨rfl,rfl,rfl,rr,hH,(By6 LF noY () 0 q de im se pr up ba l_z l_t l now).trans ee,qq⟩)
 ·trivial
theorem Cj5:Ls Tryz.prog GX 12 GW:=by
 refine T2 (C₀:=WA LF) (G8.ok (l:=[(13,US)]) rfl ⟨Ci1,trivial⟩) (D4 rfl (by kernel_rfl)) follows ?_
 intro args H ret Hc h
 unfold GW at h
 split at h
 ·rename_i q de im se pr up ba l_z l_t l now
  obtain ⟨h0,h⟩:=B6 h
  obtain ⟨h1,h⟩:=B6 h
  obtain ⟨h2,h⟩:=B6 h
  obtain ⟨rfl,rfl⟩:=E6 h
  refine ⟨rfl,rfl,λσ yh s=>?_⟩
  have e:=(Bt2 LF yh s 0 q de im se pr up ba l_z l_t l now).trans (At1 q de im se pr up ba l_z l_t l now h0 h1 h2)
  exact ⟨1,_,e,rfl⟩
 ·cases h
theorem B72:Ls Tryz.prog GX 11 Wl:=by
 refine T2 (C₀:=KB LF) (G8.ok (l:=[]) rfl trivial) (D4 rfl (by kernel_rfl)) follows ?_
 intro args H ret Hc h
 unfold Wl at h
 split at h
 ·rename_i u_z u_t u de im se pr up ba l_z l_t l now
  obtain ⟨rfl,rfl⟩:=E6 h
  refine ⟨rfl,rfl,λσ yh s=>?_⟩
  have e:=(Bi8 LF yh s 0 u_z u_t u de im se pr up ba l_z l_t l now).trans (Ae4 u_z u_t u de im se pr up ba l_z l_t l now )
  exact ⟨1,_,e,rfl⟩
 ·cases h
theorem B54:A7 Tryz.prog GX 8 HO:=xf [] (Gt LF) Xr rfl trivial rfl (by kernel_rfl) follows λargs=>by
 unfold Xr;split
 ·rename_i l_z l_t l m_z m_t m;exact λh0=>λh1=>λh2=>λh3=>⟨rfl,rfl,rfl,_,_,(Bd2 LF noY () 0 l_z l_t l m_z m_t m).trans (YN l_z l_t l m_z m_t m h0 h1 h2 h3),rfl⟩
 ·trivial
theorem Ci6:A7 Tryz.prog GX 10 UX:=xf [0,0] (WR LF) IL rfl trivial rfl (by kernel_rfl) follows λargs=>by
 unfold IL;split
 ·rename_i l_z l_t l;exact λh0=>λh1=>(let ⟨rr,hH,ee,qq⟩:=B16 l_z l_t l h0 h1;⟨rfl,rfl,rfl,rr,hH,(B15 LF noY () 0 l_z l_t l).trans ee,qq⟩)
 ·trivial
theorem B58:A7 Tryz.prog GX 4 HW:=xf [] (JT LF) Xw rfl ⟨Bn1,trivial⟩ rfl (by kernel_rfl) follows λargs=>by
 unfold Xw;split
 ·rename_i u_z u_t u se pr up ba l_z l_t l;exact λh0=>λh1=>(let ⟨rr,hH,ee,qq⟩:=Be0 u_z u_t u se pr up ba l_z l_t l h0 h1;⟨rfl,rfl,rfl,rr,hH,(Bd9 LF noY () 0 u_z u_t u se pr up ba l_z l_t l).trans ee,qq⟩)
 ·trivial
end
theorem B75:DO Tryz.prog GX 14 Wk:=by
 refine Kc (C₀:=Kv LF) (Fo (lx:=[]) (ly:=[(12,GW)]) (ls:=[]) rfl rfl rfl trivial ⟨Cj5,trivial⟩ trivial) (D4 rfl (by kernel_rfl)) follows ?_
 intro args H L h σ yh s s' hr
 unfold Wk at h
 split at h
 ·rename_i u_z u_t u de im se pr up ba l_z l_t l now
  simp only [Option.some.injEq,Prod.mk.injEq] at h
  obtain ⟨h1,rfl⟩:=h
  rcases Ae3 (R:=PV × List Blk × σ) yh u_z u_t u de im se pr up ba l_z l_t l now s s' h1 hr with f | ⟨a,r,v,f⟩
  ·exact ⟨1,_,(TL LF yh 0 u_z u_t u de im se pr up ba l_z l_t l now s).trans (f _ _)⟩
  ·exact ⟨1,_,(TL LF yh 0 u_z u_t u de im se pr up ba l_z l_t l now s).trans (f _ _)⟩
 ·cases h
theorem Bn8:A7 Tryz.prog GX 6 Ye:=by
 refine A7.fix (pf:=IM) _ (NP (C₀:=Cx LF) (Fo (lx:=[]) (ly:=[(11,Wl)]) (ls:=[(14,Wk)]) rfl rfl rfl trivial ⟨B72,trivial⟩ ⟨B75,trivial⟩) (D4 rfl (by kernel_rfl)) follows ?_)
 intro args ret Hc h
 unfold IM at h
 split at h
 ·rename_i u_z u_t u de im se pr up ba l_z l_t l now
  obtain ⟨h0,h⟩:=B6 h
  obtain ⟨h1,h⟩:=B6 h
  obtain ⟨h2,h⟩:=B6 h
  obtain ⟨h3,h⟩:=B6 h
  obtain ⟨h4,h⟩:=B6 h
  obtain ⟨rfl,rfl⟩:=E6 h
  obtain ⟨r,H,b,e,hor⟩:=B19 u_z u_t u de im se pr up ba l_z l_t l now h0 h1 h2 h3 h4
  refine ⟨rfl,1,r,H,b,true,_,_,_,(B18 LF noY () 0 u_z u_t u de im se pr up ba l_z l_t l now).trans e,?_,rfl⟩
  rcases hor with ⟨a1,a2,a3⟩ | ⟨a1,e0,s0,q,a2,a3,a4,a5⟩
  ·exact .inl ⟨a1,a2,a3⟩
  ·exact .inr ⟨rfl,a1,e0,s0,q,a2,a3,a4,a5⟩
 ·cases h
section
theorem JG:Xb (evC (Zg LF) 1 Unit noY 5 [] [] ())=true:=by kernel_rfl
theorem Ag6:A7 Tryz.prog GX 5 Mh:=
 A7.fix (pf:=Io) _ (by
  have h:=Ah2 (C₀:=Zg LF) (G8.ok (l:=[(6,Ye),(10,UX)]) rfl ⟨Bn8,Ci6,trivial⟩) (D4 rfl (by kernel_rfl)) follows JG
  have e:(λargs:List PV=>match args with | []=>Tr.ret (.s (.bool true)) [] | _=>.fail)=Io:=by
   funext args
   cases args<;>rfl
  rw [<-e]
  exact h)
end
end
section
open Go Go.ChangeAt Go.ChangeShapes Go.Proofs Go.RowKit Go.WideShapes
set_option maxRecDepth 100000
section
theorem ZG (os:Os) (started:os.Started) (H:Type) (enc:TypeId × Value->H) :
  ReturnsInHanded {} Tryz.checked os 3 .any (λw args=>(Rows.redirectsPrefixSpec.pre enc Tryz.prog Tryz.f3 Rows.redirectsPrefixRow.domain false w args/\laidMetH Tryz.prog Bk w)/\sizedMet enc Tryz.prog Tryz.f3 (OpenSpec.ofChange Rows.redirectsPrefixSpec) false w args) (Rows.redirectsPrefixSpec.post enc Tryz.prog Tryz.f3 false true false false):=
 YT started (C:=Cw LF) (tb:=4) rfl rfl (G8.ok (l:=[(4,HW),(5,Mh),(6,Ye),(7,UP),(8,HO)]) rfl ⟨B58,Ag6,Bn8,Ch8,B54,trivial⟩) (D4 rfl (by kernel_rfl)) (by kernel_rfl) Tryz.func3 (c:=D0 Tryz.f3) rfl (by kernel_rfl)
  (by
   intro t ht
   have:t=22\/t=24\/t=26\/t=3:=by simpa only [List.mem_cons,List.mem_nil_iff,or_false] using (show t∈[22,24,26,3] from ht)
   rcases this with rfl | rfl | rfl | rfl
   all_goals exact ⟨⟨by kernel_rfl,of_decide_eq_true (by kernel_rfl)⟩,by kernel_rfl⟩) rfl (by kernel_rfl) rfl
  (λds hds=>by
   match ds,hds with
   | [d0,d1,d2,d3],_=>rfl)
  #[(.slice none 0 0),(.agg #[(.string ⟨#[]⟩),(.int .i64 0),(.bool false)]),(.agg #[(.bool false),(.bool false),(.bool false),(.bool false),(.slice none 0 0)]),(.int .i64 0)] 8 (by kernel_rfl) (by kernel_rfl) (by kernel_rfl)
  (λargs h=>Bx7 args h)
set_option maxHeartbeats 4000000 in theorem Aw8:Rows.RedirectsPrefixSaid:=
 OpenClaim.holds_of_wide 3 Tryz.f3 rfl rfl rfl rfl rfl rfl rfl ⟨rfl,rfl,rfl,rfl,rfl⟩ rfl rfl rfl rfl rfl (by kernel_rfl) Tryz.func3 (by unfold joinedFacts;simp only [Bool.and_eq_true];(repeat' apply And.intro)<;>as_aux_lemma=>kernel_rfl)
  (of_decide_eq_true (by as_aux_lemma=>kernel_rfl)) (by unfold Func.isWrapper;first | (rw [if_pos (by decide +kernel)];kernel_rfl) | (rw [if_neg (by decide +kernel)];exact ⟨rfl,rfl⟩))
  (λos started H enc _=>ZG os started H enc)
theorem lrp_card:Rows.RedirectsPrefixCardSaid:=
 Claim7.holds_tied_plain_at .later [] [.data,.data,.data,.data,.pinned] true (true, "d28826af8c4b729f25680de6f07f9d5940ff044e26ab34d49f9eb0e810066ff5") false Aw8 (λ_ h=>by cases h) (by as_aux_lemma=>kernel_rfl) (λ_ h=>by cases h) redirectsPrefix_row_tie rfl ⟨rfl,rfl⟩ (by as_aux_lemma=>kernel_rfl) rfl
  (λf fn hf hfn=>by
   obtain rfl:f=3:=Option.some.inj ((show Tryz.prog.funcNamed "hstsstore/hstsstorelaw30.RedirectsPrefix" = some 3 by as_aux_lemma=>kernel_rfl).symm.trans hf) |>.symm
   obtain rfl:fn=Tryz.f3:=(Option.some.inj (Tryz.func3.symm.trans hfn)).symm
   exact ⟨by as_aux_lemma=>kernel_rfl,λj t ht=>by
    have hm:t∈[22,24,26,3]:=Array.mem_toList_iff.2 (Array.mem_of_getElem? ht)
    have hall:([22,24,26,3].all λu=>!Tryz.prog.wantsStandIn u)=true:=by as_aux_lemma=>kernel_rfl
    exact (show Tryz.prog.wantsStandIn t=false by simpa using List.all_eq_true.1 hall t hm)⟩)
  (by as_aux_lemma=>kernel_rfl)
end
end
#print axioms lrp_card
end Go.Proofs.YthcoijldbdfboaaGreatDoor.E
