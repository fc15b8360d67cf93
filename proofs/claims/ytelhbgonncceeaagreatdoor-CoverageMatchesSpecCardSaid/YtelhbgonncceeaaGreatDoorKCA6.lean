/-
  CoverageMatchesSpec, as its tied card says. Conditions: what the card itself names (the package-level variables that are listed, tied to the program's text).
-/
import Derived.Test.YtelhbgonncceeaaGreatDoorKCA5
import Derived.Test.YtelhbgonncceeaaGreatDoorCards
import Derived.Test.YtelhbgonncceeaaGreatDoorTie
namespace Go.Proofs.YtelhbgonncceeaaGreatDoor.E
set_option linter.all false
section
open Go Go.Proofs
set_option maxRecDepth 100000
section
theorem QI:B1 Tryz.prog GX 165 Xb:=xf [] (Xw LF) Qy rfl trivial rfl (by kernel_rfl) follows λargs=>by
 unfold Qy;split
 ·rename_i n;exact ⟨rfl,rfl,rfl,_,_,(An6 LF noY () 0 n).trans (PB n ),rfl⟩
 ·trivial
theorem QH:B1 Tryz.prog GX 168 Wt:=xf [] (R3 LF) Qw rfl trivial rfl (by kernel_rfl) follows λargs=>by
 unfold Qw;split
 ·rename_i d c f;exact λh0=>λh1=>λh2=>⟨rfl,rfl,rfl,_,_,(Am5 LF noY () 0 d c f).trans (OL d c f h0 h1 h2),rfl⟩
 ·trivial
theorem Ba5:B1 Tryz.prog GX 166 RD:=xf [] (SU LF) GZ rfl trivial rfl (by kernel_rfl) follows λargs=>by
 unfold GZ;split
 ·rename_i k b;exact λh0=>λh1=>⟨rfl,rfl,rfl,_,_,(Bo9 LF noY () 0 k b).trans (Ao2 k b h0 h1),rfl⟩
 ·trivial
theorem Bs0:B1 Tryz.prog GX 167 ZT:=xf [] (IQ LF) Wu rfl trivial rfl (by kernel_rfl) follows λargs=>by
 unfold Wu;split
 ·rename_i d;exact λh0=>⟨rfl,rfl,rfl,_,_,(A47 LF noY () 0 d).trans (WX d h0),rfl⟩
 ·trivial
theorem B27:B1 Tryz.prog GX 176 At3:=xf [] (Fd LF) HA rfl trivial rfl (by kernel_rfl) follows λargs=>by
 unfold HA;split
 ·rename_i b;exact λh0=>⟨rfl,rfl,rfl,_,_,(Bp1 LF noY () 0 b).trans (Ao3 b h0),rfl⟩
 ·trivial
theorem B23:B1 Tryz.prog GX 125 As9:=xf [0,0] (J5 LF) GR rfl ⟨QI,Ba5,Bs0,QH,trivial⟩ rfl (by kernel_rfl) follows λargs=>by
 unfold GR;split
 ·rename_i p_z p_t p;exact λh0=>(let ⟨rr,hH,ee,qq⟩:=Bn6 p_z p_t p h0;⟨rfl,rfl,rfl,rr,hH,(Bn4 LF noY () 0 p_z p_t p).trans ee,qq⟩)
 ·trivial
theorem Bs3:B1 Tryz.prog GX 146 ZW:=xf [1,0] (G5 LF) Xa rfl ⟨B27,Ba5,QH,QI,trivial⟩ rfl (by kernel_rfl) follows λargs=>by
 unfold Xa;split
 ·rename_i s;exact λh0=>(let ⟨rr,hH,ee,qq⟩:=A63 s h0;⟨rfl,rfl,rfl,rr,hH,(A62 LF noY () 0 s).trans ee,qq⟩)
 ·trivial
theorem Bs4:B1 Tryz.prog GX 103 ZX:=xf [] (Gw LF) Xc rfl ⟨Bs3,B23,trivial⟩ rfl (by kernel_rfl) follows λargs=>by
 unfold Xc;split
 ·rename_i s;exact λh0=>⟨rfl,rfl,rfl,_,_,(A64 LF noY () 0 s).trans (YJ s h0),rfl⟩
 ·trivial
theorem Bs2:B1 Tryz.prog GX 69 ZV:=xf [] (Gv LF) Wy rfl ⟨Bs4,trivial⟩ rfl (by kernel_rfl) follows λargs=>by
 unfold Wy;split
 ·rename_i s;exact λh0=>⟨rfl,rfl,rfl,_,_,(A59 LF noY () 0 s).trans (XS s h0),rfl⟩
 ·trivial
theorem LB:B1 Tryz.prog GX 32 Wx:=xf [] (Mh LF) GU rfl ⟨ZJ,QJ,Bs2,trivial⟩ rfl (by kernel_rfl) follows λargs=>by
 unfold GU;split
 ·rename_i s;exact λh0=>⟨rfl,rfl,rfl,_,_,(Bn8 LF noY () 0 s).trans (An1 s h0),rfl⟩
 ·trivial
theorem Bs1:B1 Tryz.prog GX 42 ZU:=xf [] (IS LF) Ww rfl ⟨LB,trivial⟩ rfl (by kernel_rfl) follows λargs=>by
 unfold Ww;split
 ·rename_i kd nm v4 a0 a1 a2 a3 a4 a5 a6 a7;exact λh0=>λh1=>λh2=>(let ⟨rr,hH,ee,qq⟩:=A56 kd nm v4 a0 a1 a2 a3 a4 a5 a6 a7 h0 h1 h2;⟨rfl,rfl,rfl,rr,hH,(A55 LF noY () 0 kd nm v4 a0 a1 a2 a3 a4 a5 a6 a7).trans ee,qq⟩)
 ·trivial
theorem Af8:B1 Tryz.prog GX 19 GS:=xf [] (IR LF) Wv rfl ⟨LB,trivial⟩ rfl (by kernel_rfl) follows λargs=>by
 unfold Wv;split
 ·rename_i p s;exact λh0=>λh1=>⟨rfl,rfl,rfl,_,_,(A53 LF noY () 0 p s).trans (XO p s h0 h1),rfl⟩
 ·trivial
end
section
theorem B24:B1 Tryz.prog GX 67 At0:=xf [] (SQ LF) GV rfl ⟨LB,Af8,trivial⟩ rfl (by kernel_rfl) follows λargs=>by
 unfold GV;split
 ·rename_i h b s;exact λh0=>λh1=>(let ⟨rr,hH,ee,qq⟩:=Bo1 h b s h0 h1;⟨rfl,rfl,rfl,rr,hH,(Bo0 LF noY () 0 h b s).trans ee,qq⟩)
 ·trivial
theorem B25:B1 Tryz.prog GX 31 At1:=xf [0,0] (Mi LF) GW rfl ⟨B24,trivial⟩ rfl (by kernel_rfl) follows λargs=>by
 unfold GW;split
 ·rename_i l_z l_t l s;exact λh0=>λh1=>λh2=>λh3=>(let ⟨rr,hH,ee,qq⟩:=Bo4 l_z l_t l s h0 h1 h2 h3;⟨rfl,rfl,rfl,rr,hH,(Bo3 LF noY () 0 l_z l_t l s).trans ee,qq⟩)
 ·trivial
theorem B20:B1 Tryz.prog GX 43 As7:=xf [] (SP LF) GO rfl ⟨LB,Af8,trivial⟩ rfl (by kernel_rfl) follows λargs=>by
 unfold GO;split
 ·rename_i h b e now s;exact λh0=>λh1=>(let ⟨rr,hH,ee,qq⟩:=Bm7 h b e now s h0 h1;⟨rfl,rfl,rfl,rr,hH,(Bm6 LF noY () 0 h b e now s).trans ee,qq⟩)
 ·trivial
theorem B21:B1 Tryz.prog GX 16 RC:=xf [] (X1 LF) GP rfl ⟨Bs1,B25,B20,trivial⟩ rfl (by kernel_rfl) follows λargs=>by
 unfold GP;split
 ·rename_i now t_z t_t t l_z l_t l kd nm v4 a0 a1 a2 a3 a4 a5 a6 a7;exact λh0=>λh1=>λh2=>λh3=>λh4=>λh5=>λh6=>λh7=>λh8=>(let ⟨rr,hH,ee,qq⟩:=Bn0 now t_z t_t t l_z l_t l kd nm v4 a0 a1 a2 a3 a4 a5 a6 a7 h0 h1 h2 h3 h4 h5 h6 h7 h8;⟨rfl,rfl,rfl,rr,hH,(Bm9 LF noY () 0 now t_z t_t t l_z l_t l kd nm v4 a0 a1 a2 a3 a4 a5 a6 a7).trans ee,qq⟩)
 ·trivial
theorem B08:B1 Tryz.prog GX 11 QQ:=xf [] (Ma LF) FO rfl trivial rfl (by kernel_rfl) follows λargs=>by
 unfold FO;split
 ·rename_i t_z t_t t n;exact λh0=>λh1=>⟨rfl,rfl,rfl,_,_,(Bh3 LF noY () 0 t_z t_t t n).trans (Aj1 t_z t_t t n h0 h1),rfl⟩
 ·trivial
theorem B07:B1 Tryz.prog GX 12 QP:=xf [] (Lz LF) FN rfl trivial rfl (by kernel_rfl) follows λargs=>by
 unfold FN;split
 ·rename_i l_z l_t l n;exact λh0=>λh1=>⟨rfl,rfl,rfl,_,_,(Bh1 LF noY () 0 l_z l_t l n).trans (Aj0 l_z l_t l n h0 h1),rfl⟩
 ·trivial
theorem B12:B1 Tryz.prog GX 14 QW:=by
 refine B1.fix (pf:=GA) _ (Dw [0,0,0] [] (C₀:=SJ LF) (K8.ok (l:=[(38,Wr),(26,QT)]) rfl ⟨Ba3,B10,trivial⟩) (F2 rfl (by kernel_rfl)) follows ?_)
 intro args ret Hc h
 unfold GA at h
 split at h
 ·rename_i t_z t_t t l_z l_t l
  obtain ⟨h0,h⟩:=B4 h
  obtain ⟨h1,h⟩:=B4 h
  obtain ⟨h2,h⟩:=B4 h
  obtain ⟨h3,h⟩:=B4 h
  obtain ⟨h4,h⟩:=B4 h
  obtain ⟨h5,h⟩:=B4 h
  obtain ⟨h6,h⟩:=B4 h
  obtain ⟨h7,h⟩:=B4 h
  rcases Gn h with ⟨h8,h⟩ | ⟨h8,h⟩
  ·skip
   rcases Gn h with ⟨h9,h⟩ | ⟨h9,h⟩
   ·skip
    obtain ⟨rfl,rfl⟩:=H5 h
    obtain ⟨rr,hH,ee,qq⟩:=Vt t_z t_t t l_z l_t l h0 h1 h2 h3 h4 h5 h6 h7 h8 h9
    exact ⟨rfl,rfl,rfl,1,rr,hH,(Vr LF noY () 0 t_z t_t t l_z l_t l).trans ee,qq⟩
   ·skip
    obtain ⟨rfl,rfl⟩:=H5 h
    obtain ⟨rr,hH,ee,qq⟩:=Vt t_z t_t t l_z l_t l h0 h1 h2 h3 h4 h5 h6 h7 h8 h9
    exact ⟨rfl,rfl,rfl,1,rr,hH,(Vr LF noY () 0 t_z t_t t l_z l_t l).trans ee,qq⟩
  ·skip
   rcases Gn h with ⟨h9,h⟩ | ⟨h9,h⟩
   ·skip
    obtain ⟨rfl,rfl⟩:=H5 h
    obtain ⟨rr,hH,ee,qq⟩:=Vt t_z t_t t l_z l_t l h0 h1 h2 h3 h4 h5 h6 h7 h8 h9
    exact ⟨rfl,rfl,rfl,1,rr,hH,(Vr LF noY () 0 t_z t_t t l_z l_t l).trans ee,qq⟩
   ·skip
    obtain ⟨rfl,rfl⟩:=H5 h
    obtain ⟨rr,hH,ee,qq⟩:=Vt t_z t_t t l_z l_t l h0 h1 h2 h3 h4 h5 h6 h7 h8 h9
    exact ⟨rfl,rfl,rfl,1,rr,hH,(Vr LF noY () 0 t_z t_t t l_z l_t l).trans ee,qq⟩
 ·cases h
end
noncomputable def RT:Cfg:=B8 100000 [13,38,73,26,15,17,40,20,44,28] (λ_=>none)
 [(45,GJ),(63,Qt),(75,HG),(57,FS),(60,FQ),(74,HQ),(65,QR),(77,RG),(39,Ex),(41,Ew)]
 (S:=[(76,W8)]) (lend:=[38,26]) (nt:=[(105,0,63,2),(87,0,48,3)]) (Z:=[(61,Qq)])
theorem Bb1:XOK RT:=Bu5 (ly:=[]) rfl rfl rfl rfl ⟨Ba1,LA,ZK,A99,A98,Ba9,A97,Ba8,AK,AJ,trivial⟩ trivial ⟨Qj,trivial⟩ ⟨Ag0,trivial⟩
theorem Au4:Vz (evC RT 8 Unit noY 13 [] [] ())=true:=by kernel_rfl
theorem Aq1:B1 Tryz.prog GX 13 Qm:=
 B1.fix (pf:=Ll) _ (by
  have h:=ZL (C₀:=RT) Bb1 (F2 rfl (by kernel_rfl)) follows Au4
  have e:(λargs:List PV=>match args with | []=>Tr.ret (.s (.bool true)) [] | _=>.fail)=Ll:=by
   funext args
   cases args<;>rfl
  rw [<-e]
  exact h)
end
section
open Go Go.ChangeAt Go.ChangeShapes Go.Proofs Go.RowKit Go.WideShapes
set_option maxRecDepth 100000
section
theorem UZ (os:Os) (started:os.Started) (H:Type) (enc:TypeId × Value->H) :
  ReturnsInHanded {} Tryz.checked os 3 .any (λw args=>(Rows.coverageMatchesSpecSpec.pre enc Tryz.prog Tryz.f3 Rows.coverageMatchesSpecRow.domain false w args/\laidMetH Tryz.prog Eg w)/\sizedMet enc Tryz.prog Tryz.f3 (OpenSpec.ofChange Rows.coverageMatchesSpecSpec) false w args) (Rows.coverageMatchesSpecSpec.post enc Tryz.prog Tryz.f3 false true false false):=
 UX started (C:=ME LF) (tb:=4) rfl rfl (K8.ok (l:=[(11,QQ),(12,QP),(13,Qm),(14,QW),(15,Wf),(16,RC),(17,Wg)]) rfl ⟨B08,B07,Aq1,B12,QD,B21,A92,trivial⟩) (F2 rfl (by kernel_rfl)) (by kernel_rfl) Tryz.func3 (c:=D3 Tryz.f3) rfl (by kernel_rfl)
  (by
   intro t ht
   have:t=3\/t=22\/t=23\/t=28:=by simpa only [List.mem_cons,List.mem_nil_iff,or_false] using (show t∈[3,22,23,28] from ht)
   rcases this with rfl | rfl | rfl | rfl
   all_goals exact ⟨⟨by kernel_rfl,of_decide_eq_true (by kernel_rfl)⟩,by kernel_rfl⟩) rfl (by kernel_rfl) rfl
  (λds hds=>by
   match ds,hds with
   | [d0,d1,d2,d3],_=>rfl)
  #[(.int .i64 0),(.slice none 0 0),(.slice none 0 0),(.agg #[(.int .i64 0),(.string ⟨#[]⟩),(.int .u32 0),(.int .u16 0),(.int .u16 0),(.int .u16 0),(.int .u16 0),(.int .u16 0),(.int .u16 0),(.int .u16 0),(.int .u16 0)])] 8 (by kernel_rfl) (by kernel_rfl) (by kernel_rfl)
  (λargs h=>Bh9 args h)
set_option maxHeartbeats 4000000 in theorem Aj4:Rows.CoverageMatchesSpecSaid:=
 OpenClaim.holds_of_wide 3 Tryz.f3 rfl rfl rfl rfl rfl rfl rfl ⟨rfl,rfl,rfl,rfl,rfl⟩ rfl rfl rfl rfl rfl (by kernel_rfl) Tryz.func3 (by unfold joinedFacts;simp only [Bool.and_eq_true];(repeat' apply And.intro)<;>as_aux_lemma=>kernel_rfl)
  (of_decide_eq_true (by as_aux_lemma=>kernel_rfl)) (by unfold Func.isWrapper;first | (rw [if_pos (by decide +kernel)];kernel_rfl) | (rw [if_neg (by decide +kernel)];exact ⟨rfl,rfl⟩))
  (λos started H enc _=>UZ os started H enc)
theorem lcm_card:Rows.CoverageMatchesSpecCardSaid:=
 Claim7.holds_tied_plain_at .later [] [.data,.pinned] true (true, "7afd958ced9ec1c0e92f7929c3d546df191af6d231ea740845f3a84d94481a7c") false Aj4 (λ_ h=>by cases h) (by as_aux_lemma=>kernel_rfl) (λ_ h=>by cases h) coverageMatchesSpec_row_tie rfl ⟨rfl,rfl⟩ (by as_aux_lemma=>kernel_rfl) rfl
  (λf fn hf hfn=>by
   obtain rfl:f=3:=Option.some.inj ((show Tryz.prog.funcNamed "hstsstore/hstsstorelaw26.CoverageMatchesSpec" = some 3 by as_aux_lemma=>kernel_rfl).symm.trans hf) |>.symm
   obtain rfl:fn=Tryz.f3:=(Option.some.inj (Tryz.func3.symm.trans hfn)).symm
   exact ⟨by as_aux_lemma=>kernel_rfl,λj t ht=>by
    have hm:t∈[3,22,23,28]:=Array.mem_toList_iff.2 (Array.mem_of_getElem? ht)
    have hall:([3,22,23,28].all λu=>!Tryz.prog.wantsStandIn u)=true:=by as_aux_lemma=>kernel_rfl
    exact (show Tryz.prog.wantsStandIn t=false by simpa using List.all_eq_true.1 hall t hm)⟩)
  (by as_aux_lemma=>kernel_rfl)
end
end
#print axioms lcm_card
end Go.Proofs.YtelhbgonncceeaaGreatDoor.E
