/-
  Written by a program of the prover's own and checked by the kernel: functions of the program as plain functions of their data, and what is told of them.
-/
import Derived.Test.YtfioahjeanmfpaaS3
namespace Go.Proofs.Ytfioahjeanmfpaa.E
open Go Go.Proofs
set_option linter.unusedVariables false
set_option maxRecDepth 100000
section

theorem x_clone : XFact Try.prog G0 23 X_clone := by
  refine XFact.fix (pf := X_clone0) _ (xfact_of_run (C₀ := c_clone LF) (XFacts.ok (l := []) rfl trivial) (okFns_of rfl (by kernel_rfl)) follows ?_)
  intro args ret Hc h
  unfold X_clone0 at h
  split at h
  · rename_i b_z b_t b
    obtain ⟨h0, h⟩ := tr_need h
    obtain ⟨h1, h⟩ := tr_need h
    obtain ⟨rfl, rfl⟩ := tr_ret h
    have e := (clone_ev LF noY () 0 b_z b_t b).trans (clone_spec b_z b_t b h0 h1)
    exact ⟨rfl, 1, _, [], e, rfl, rfl⟩
  · cases h

theorem x_kbytes : XFact Try.prog G0 9 X_kbytes := by
  refine XFact.fix (pf := X_kbytes0) _ (xfact_of_run (C₀ := c_kbytes LF) (XFacts.ok (l := []) rfl trivial) (okFns_of rfl (by kernel_rfl)) follows ?_)
  intro args ret Hc h
  unfold X_kbytes0 at h
  split at h
  · rename_i a_z a_t a b_z b_t b
    obtain ⟨h0, h⟩ := tr_need h
    obtain ⟨h1, h⟩ := tr_need h
    obtain ⟨rfl, rfl⟩ := tr_ret h
    have e := (kbytes_ev LF noY () 0 a_z a_t a b_z b_t b).trans (kbytes_spec a_z a_t a b_z b_t b h0 h1)
    exact ⟨rfl, 1, _, [], e, rfl, rfl⟩
  · cases h

theorem x_app : XFact Try.prog G0 8 X_app := by
  refine XFact.fix (pf := X_app0) _ (xfact_of_run (C₀ := c_app LF) (XFacts.ok (l := [(23, X_clone)]) rfl ⟨x_clone, trivial⟩) (okFns_of rfl (by kernel_rfl)) follows ?_)
  intro args ret Hc h
  unfold X_app0 at h
  split at h
  · rename_i b_z b_t b v
    obtain ⟨h0, h⟩ := tr_need h
    obtain ⟨h1, h⟩ := tr_need h
    obtain ⟨h2, h⟩ := tr_need h
    obtain ⟨rfl, rfl⟩ := tr_ret h
    have e := (app_ev LF noY () 0 b_z b_t b v).trans (app_spec b_z b_t b v h0 h1 h2)
    exact ⟨rfl, 1, _, [], e, rfl, rfl⟩
  · cases h

theorem x_apptext : XFact Try.prog G0 12 X_apptext := by
  refine XFact.fix (pf := X_apptext0) _ (xfact_of_run (C₀ := c_apptext LF) (XFacts.ok (l := [(8, X_app)]) rfl ⟨x_app, trivial⟩) (okFns_of rfl (by kernel_rfl)) follows ?_)
  intro args ret Hc h
  unfold X_apptext0 at h
  split at h
  · rename_i b_z b_t b s
    obtain ⟨h0, h⟩ := tr_need h
    obtain ⟨h1, h⟩ := tr_need h
    obtain ⟨h2, h⟩ := tr_need h
    obtain ⟨rfl, rfl⟩ := tr_ret h
    have e := (apptext_ev LF noY () 0 b_z b_t b s).trans (apptext_spec b_z b_t b s h0 h1 h2)
    exact ⟨rfl, 1, _, [], e, rfl, rfl⟩
  · cases h

theorem x_wuint : XFact Try.prog G0 17 X_wuint := by
  refine XFact.fix (pf := X_wuint0) _ (xfact_of_run (C₀ := c_wuint LF) (XFacts.ok (l := []) rfl trivial) (okFns_of rfl (by kernel_rfl)) follows ?_)
  intro args ret Hc h
  unfold X_wuint0 at h
  split at h
  · rename_i b_z b_t b
    obtain ⟨h0, h⟩ := tr_need h
    obtain ⟨h1, h⟩ := tr_need h
    obtain ⟨rfl, rfl⟩ := tr_ret h
    have e := (wuint_ev LF noY () 0 b_z b_t b).trans (wuint_spec b_z b_t b h0 h1)
    exact ⟨rfl, 1, _, [], e, rfl, rfl⟩
  · cases h

theorem x_wtext : XFact Try.prog G0 18 X_wtext := by
  refine XFact.fix (pf := X_wtext0) _ (xfact_of_run (C₀ := c_wtext LF) (XFacts.ok (l := [(17, X_wuint)]) rfl ⟨x_wuint, trivial⟩) (okFns_of rfl (by kernel_rfl)) follows ?_)
  intro args ret Hc h
  unfold X_wtext0 at h
  split at h
  · rename_i b_z b_t b
    obtain ⟨h0, h⟩ := tr_need h
    obtain ⟨h1, h⟩ := tr_need h
    obtain ⟨rfl, rfl⟩ := tr_ret h
    have e := (wtext_ev LF noY () 0 b_z b_t b).trans (wtext_spec b_z b_t b h0 h1)
    exact ⟨rfl, 1, _, [], e, rfl, rfl⟩
  · cases h

end
end Go.Proofs.Ytfioahjeanmfpaa.E
