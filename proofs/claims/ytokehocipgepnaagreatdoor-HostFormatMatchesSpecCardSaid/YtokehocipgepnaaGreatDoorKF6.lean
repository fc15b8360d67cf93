/-
  Valid and Format are as specified, as its tied card says. Conditions: what the card itself names (the package-level variables that are listed, tied to the program's text).
-/
import Derived.Test.YtokehocipgepnaaGreatDoorKF5
import Derived.Test.YtokehocipgepnaaGreatDoorCards
import Derived.Test.YtokehocipgepnaaGreatDoorTie
namespace Go.Proofs.YtokehocipgepnaaGreatDoor.E
open Go Go.Proofs 
set_option linter.unusedVariables false
set_option maxRecDepth 100000
section
theorem x_rpoint:XFact Tryz.prog GX 147 X_rpoint:=by
 refine XFact.fix (pf:=X_rpoint0) _ (xfact_of_stab [] (C₀:=c_rpoint LF) (XFacts.ok (l:=[]) rfl trivial) (okFns_of rfl (by kernel_rfl)) follows ?_)
 intro args ret Hc h
 unfold X_rpoint0 at h
 split at h
 ·rename_i n
  obtain ⟨rfl,rfl⟩:=tr_ret h
  have e:=(rpoint_ev LF noY () 0 n).trans (rpoint_spec n )
  exact ⟨rfl,rfl,rfl,1,_,_,e,rfl⟩
 ·cases h
theorem x_radapt:XFact Tryz.prog GX 150 X_radapt:=by
 refine XFact.fix (pf:=X_radapt0) _ (xfact_of_stab [] (C₀:=c_radapt LF) (XFacts.ok (l:=[]) rfl trivial) (okFns_of rfl (by kernel_rfl)) follows ?_)
 intro args ret Hc h
 unfold X_radapt0 at h
 split at h
 ·rename_i d c f
  obtain ⟨h0,h⟩:=tr_need h
  obtain ⟨h1,h⟩:=tr_need h
  obtain ⟨h2,h⟩:=tr_need h
  obtain ⟨rfl,rfl⟩:=tr_ret h
  have e:=(radapt_ev LF noY () 0 d c f).trans (radapt_spec d c f h0 h1 h2)
  exact ⟨rfl,rfl,rfl,1,_,_,e,rfl⟩
 ·cases h
theorem x_rthr:XFact Tryz.prog GX 148 X_rthr:=by
 refine XFact.fix (pf:=X_rthr0) _ (xfact_of_stab [] (C₀:=c_rthr LF) (XFacts.ok (l:=[]) rfl trivial) (okFns_of rfl (by kernel_rfl)) follows ?_)
 intro args ret Hc h
 unfold X_rthr0 at h
 split at h
 ·rename_i k b
  obtain ⟨h0,h⟩:=tr_need h
  obtain ⟨h1,h⟩:=tr_need h
  obtain ⟨rfl,rfl⟩:=tr_ret h
  have e:=(rthr_ev LF noY () 0 k b).trans (rthr_spec k b h0 h1)
  exact ⟨rfl,rfl,rfl,1,_,_,e,rfl⟩
 ·cases h
theorem x_rdg36:XFact Tryz.prog GX 149 X_rdg36:=by
 refine XFact.fix (pf:=X_rdg360) _ (xfact_of_stab [] (C₀:=c_rdg36 LF) (XFacts.ok (l:=[]) rfl trivial) (okFns_of rfl (by kernel_rfl)) follows ?_)
 intro args ret Hc h
 unfold X_rdg360 at h
 split at h
 ·rename_i d
  obtain ⟨h0,h⟩:=tr_need h
  obtain ⟨rfl,rfl⟩:=tr_ret h
  have e:=(rdg36_ev LF noY () 0 d).trans (rdg36_spec d h0)
  exact ⟨rfl,rfl,rfl,1,_,_,e,rfl⟩
 ·cases h
theorem x_rval:XFact Tryz.prog GX 180 X_rval:=by
 refine XFact.fix (pf:=X_rval0) _ (xfact_of_stab [] (C₀:=c_rval LF) (XFacts.ok (l:=[]) rfl trivial) (okFns_of rfl (by kernel_rfl)) follows ?_)
 intro args ret Hc h
 unfold X_rval0 at h
 split at h
 ·rename_i b
  obtain ⟨h0,h⟩:=tr_need h
  obtain ⟨rfl,rfl⟩:=tr_ret h
  have e:=(rval_ev LF noY () 0 b).trans (rval_spec b h0)
  exact ⟨rfl,rfl,rfl,1,_,_,e,rfl⟩
 ·cases h
theorem x_renc:XFact Tryz.prog GX 110 X_renc:=by
 refine XFact.fix (pf:=X_renc0) _ (xfact_of_stab [0,0] (C₀:=c_renc LF) (XFacts.ok (l:=[(147,X_rpoint),(148,X_rthr),(149,X_rdg36),(150,X_radapt)]) rfl ⟨x_rpoint,x_rthr,x_rdg36,x_radapt,trivial⟩) (okFns_of rfl (by kernel_rfl)) follows ?_)
 intro args ret Hc h
 unfold X_renc0 at h
 split at h
 ·rename_i p_z p_t p
  obtain ⟨h0,h⟩:=tr_need h
  obtain ⟨rfl,rfl⟩:=tr_ret h
  obtain ⟨r,H,e,hs⟩:=renc_sp p_z p_t p h0
  exact ⟨rfl,rfl,rfl,1,r,H,(renc_ev LF noY () 0 p_z p_t p).trans e,hs⟩
 ·cases h
theorem x_rpdec:XFact Tryz.prog GX 151 X_rpdec:=by
 refine XFact.fix (pf:=X_rpdec0) _ (xfact_of_stab [1,0] (C₀:=c_rpdec LF) (XFacts.ok (l:=[(180,X_rval),(148,X_rthr),(150,X_radapt),(147,X_rpoint)]) rfl ⟨x_rval,x_rthr,x_radapt,x_rpoint,trivial⟩) (okFns_of rfl (by kernel_rfl)) follows ?_)
 intro args ret Hc h
 unfold X_rpdec0 at h
 split at h
 ·rename_i s
  obtain ⟨h0,h⟩:=tr_need h
  obtain ⟨rfl,rfl⟩:=tr_ret h
  obtain ⟨r,H,e,hs⟩:=rpdec_sp s h0
  exact ⟨rfl,rfl,rfl,1,r,H,(rpdec_ev LF noY () 0 s).trans e,hs⟩
 ·cases h
theorem x_rprop:XFact Tryz.prog GX 111 X_rprop:=by
 refine XFact.fix (pf:=X_rprop0) _ (xfact_of_stab [] (C₀:=c_rprop LF) (XFacts.ok (l:=[(151,X_rpdec),(110,X_renc)]) rfl ⟨x_rpdec,x_renc,trivial⟩) (okFns_of rfl (by kernel_rfl)) follows ?_)
 intro args ret Hc h
 unfold X_rprop0 at h
 split at h
 ·rename_i s
  obtain ⟨h0,h⟩:=tr_need h
  obtain ⟨rfl,rfl⟩:=tr_ret h
  have e:=(rprop_ev LF noY () 0 s).trans (rprop_spec s h0)
  exact ⟨rfl,rfl,rfl,1,_,_,e,rfl⟩
 ·cases h
theorem x_rlval:XFact Tryz.prog GX 59 X_rlval:=by
 refine XFact.fix (pf:=X_rlval0) _ (xfact_of_stab [] (C₀:=c_rlval LF) (XFacts.ok (l:=[(111,X_rprop)]) rfl ⟨x_rprop,trivial⟩) (okFns_of rfl (by kernel_rfl)) follows ?_)
 intro args ret Hc h
 unfold X_rlval0 at h
 split at h
 ·rename_i s
  obtain ⟨h0,h⟩:=tr_need h
  obtain ⟨rfl,rfl⟩:=tr_ret h
  have e:=(rlval_ev LF noY () 0 s).trans (rlval_spec s h0)
  exact ⟨rfl,rfl,rfl,1,_,_,e,rfl⟩
 ·cases h
theorem x_rhvn:XFact Tryz.prog GX 23 X_rhvn:=by
 refine XFact.fix (pf:=X_rhvn0) _ (xfact_of_stab [] (C₀:=c_rhvn LF) (XFacts.ok (l:=[(55,X_rnumeric),(57,X_rsplit),(59,X_rlval)]) rfl ⟨x_rnumeric,x_rsplit,x_rlval,trivial⟩) (okFns_of rfl (by kernel_rfl)) follows ?_)
 intro args ret Hc h
 unfold X_rhvn0 at h
 split at h
 ·rename_i s
  obtain ⟨h0,h⟩:=tr_need h
  obtain ⟨rfl,rfl⟩:=tr_ret h
  have e:=(rhvn_ev LF noY () 0 s).trans (rhvn_spec s h0)
  exact ⟨rfl,rfl,rfl,1,_,_,e,rfl⟩
 ·cases h
theorem x_rhval:XFact Tryz.prog GX 35 X_rhval:=by
 refine XFact.fix (pf:=X_rhval0) _ (xfact_of_stab [] (C₀:=c_rhval LF) (XFacts.ok (l:=[(23,X_rhvn)]) rfl ⟨x_rhvn,trivial⟩) (okFns_of rfl (by kernel_rfl)) follows ?_)
 intro args ret Hc h
 unfold X_rhval0 at h
 split at h
 ·rename_i kd nm v4 a0 a1 a2 a3 a4 a5 a6 a7
  obtain ⟨h0,h⟩:=tr_need h
  obtain ⟨h1,h⟩:=tr_need h
  obtain ⟨h2,h⟩:=tr_need h
  obtain ⟨rfl,rfl⟩:=tr_ret h
  obtain ⟨r,H,e,hs⟩:=rhval_sp kd nm v4 a0 a1 a2 a3 a4 a5 a6 a7 h0 h1 h2
  exact ⟨rfl,rfl,rfl,1,r,H,(rhval_ev LF noY () 0 kd nm v4 a0 a1 a2 a3 a4 a5 a6 a7).trans e,hs⟩
 ·cases h
theorem x_rhfmt:XFact Tryz.prog GX 37 X_rhfmt:=by
 refine XFact.fix (pf:=X_rhfmt0) _ (xfact_of_stab [] (C₀:=c_rhfmt LF) (XFacts.ok (l:=[(35,X_rhval),(71,X_rv4f),(72,X_rv6f)]) rfl ⟨x_rhval,x_rv4f,x_rv6f,trivial⟩) (okFns_of rfl (by kernel_rfl)) follows ?_)
 intro args ret Hc h
 unfold X_rhfmt0 at h
 split at h
 ·rename_i kd nm v4 a0 a1 a2 a3 a4 a5 a6 a7
  obtain ⟨h0,h⟩:=tr_need h
  obtain ⟨h1,h⟩:=tr_need h
  obtain ⟨h2,h⟩:=tr_need h
  obtain ⟨rfl,rfl⟩:=tr_ret h
  obtain ⟨r,H,e,hs⟩:=rhfmt_sp kd nm v4 a0 a1 a2 a3 a4 a5 a6 a7 h0 h1 h2
  exact ⟨rfl,rfl,rfl,1,r,H,(rhfmt_ev LF noY () 0 kd nm v4 a0 a1 a2 a3 a4 a5 a6 a7).trans e,hs⟩
 ·cases h
end
end Go.Proofs.YtokehocipgepnaaGreatDoor.E
namespace Go.Proofs.YtokehocipgepnaaGreatDoor.E
open Go Go.Proofs Go.ChangeShapes Go.WideShapes Go.ChangeAt Go.RowKit
set_option linter.unusedVariables false
set_option maxRecDepth 100000
section
theorem lfm_lifted (os:Os) (started:os.Started) (H:Type) (enc:TypeId × Value→H) :
  ReturnsInHanded {} Tryz.checked os 9 .any (fun w args=>(Rows.hostFormatMatchesSpecSpec.pre enc Tryz.prog Tryz.f9 Rows.hostFormatMatchesSpecRow.domain false w args∧laidMetH Tryz.prog laidH w)∧sizedMet enc Tryz.prog Tryz.f9 (OpenSpec.ofChange Rows.hostFormatMatchesSpecSpec) false w args) (Rows.hostFormatMatchesSpecSpec.post enc Tryz.prog Tryz.f9 false true false false):=
 law_handed started (C:=c_lfm LF) (tb:=4) rfl rfl (XFacts.ok (l:=[(20,X_awake),(34,X_hval),(35,X_rhval),(36,X_hfmt),(37,X_rhfmt)]) rfl ⟨x_awake,x_hval,x_rhval,x_hfmt,x_rhfmt,trivial⟩) (okFns_of rfl (by kernel_rfl)) (by kernel_rfl) Tryz.func9 (c:=bodyOf Tryz.f9) rfl (by kernel_rfl)
  (by
   intro t ht
   obtain rfl:t=28:=by simpa using (show t∈[28] from ht)
   exact ⟨⟨by kernel_rfl,of_decide_eq_true (by kernel_rfl)⟩,by kernel_rfl⟩) rfl (by kernel_rfl) rfl
  (fun ds hds=>by
   match ds,hds with
   | [d0],_=>rfl)
  #[(.agg #[(.int .i64 0),(.string ⟨#[]⟩),(.int .u32 0),(.int .u16 0),(.int .u16 0),(.int .u16 0),(.int .u16 0),(.int .u16 0),(.int .u16 0),(.int .u16 0),(.int .u16 0)])] 8 (by kernel_rfl) (by kernel_rfl) (by kernel_rfl)
  (fun args h=>lfm_law args h)
theorem lfm_holds:Rows.HostFormatMatchesSpecSaid:=
 OpenClaim.holds_of_wide 9 Tryz.f9 rfl rfl rfl rfl rfl rfl rfl ⟨rfl,rfl,rfl,rfl,rfl⟩ rfl rfl rfl rfl rfl (by kernel_rfl) Tryz.func9 (by kernel_rfl)
  (of_decide_eq_true (by kernel_rfl)) (by unfold Func.isWrapper;first | (rw [if_pos (by decide +kernel)];kernel_rfl) | (rw [if_neg (by decide +kernel)];exact ⟨rfl,rfl⟩))
  (fun os started H enc _=>lfm_lifted os started H enc)
theorem lfm_card:Rows.HostFormatMatchesSpecCardSaid:=
 Claim7.holds_tied_plain_at .later [] [.data,.data,.data,.data,.pinned] true (true, "2d4461915ea06489d68a60bf686921bd6071300f588936464676204155834289") false lfm_holds (fun _ h=>by cases h) (by kernel_rfl) (fun _ h=>by cases h) hostFormatMatchesSpec_row_tie rfl ⟨rfl,rfl⟩ (by kernel_rfl) rfl
  (fun f fn hf hfn=>by
   obtain rfl:f=9:=Option.some.inj ((show Tryz.prog.funcNamed "hstsstore/hstsstorelaw14.HostFormatMatchesSpec" = some 9 by kernel_rfl).symm.trans hf) |>.symm
   obtain rfl:fn=Tryz.f9:=(Option.some.inj (Tryz.func9.symm.trans hfn)).symm
   exact ⟨by kernel_rfl,fun j t ht=>by
    have hm:t∈[28]:=Array.mem_toList_iff.2 (Array.mem_of_getElem? ht)
    have hall:([28].all fun u=>!Tryz.prog.wantsStandIn u)=true:=by kernel_rfl
    exact (show Tryz.prog.wantsStandIn t=false by simpa using List.all_eq_true.1 hall t hm)⟩)
  (by kernel_rfl)
end
#print axioms lfm_card
end Go.Proofs.YtokehocipgepnaaGreatDoor.E
