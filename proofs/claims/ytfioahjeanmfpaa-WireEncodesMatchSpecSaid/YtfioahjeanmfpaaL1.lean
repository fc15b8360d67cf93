/-
  Written by a program of the prover's own and checked by the kernel: functions of the program as plain functions of their data, and what is told of them.
-/
import Derived.Test.YtfioahjeanmfpaaX1
namespace Go.Proofs.Ytfioahjeanmfpaa.E
open Go Go.Proofs
set_option linter.unusedVariables false
set_option maxRecDepth 100000
section
variable {σ R : Type} (lf : Nat) (cl : CallT) (yh : Yh σ) (s : σ) (k : Out → St σ → Option R)

/-! slices.Clone[[]byte,byte] -/
noncomputable abbrev b_clone : Code := bodyOf Try.f23
noncomputable def c_clone (lf : Nat) : Cfg := mkCfg lf [23] (lookK []) []
  (lookK [(3, [2]), (2, [2]), (1, [0, 3]), (0, [0])]) [] (lookK []) (some [2])

noncomputable def clone_a0 {R : Type} (s_z0 : Bool) (s2 : LL) (k0 : Bool → LL → Option R) : Option R :=
  cond s_z0
  (k0 true [])
  (cond (roomy (0 + (List.length s2)))
   (k0 false s2)
   (none))

theorem clone_a0_eq (s_z0 s_t1 : Bool) (s2 : LL) : evCode (c_clone lf) cl yh (cd [] b_clone) ⟨[.s (.sl s_z0 s_t1 1 s2)] ++ tps 7, [], s⟩ k =
  clone_a0 s_z0 s2 (fun z0 l1 => k .ret ⟨gp [(2, .fl 0)] 5, [.arr z0 5 1 l1], s⟩) := by kernel_rfl

theorem clone_r1 (z0 : Bool) (l1 : LL) : retK (c_clone lf) Try.f23 .ret ⟨gp [(2, .fl 0)] 5, [.arr z0 5 1 l1], s⟩ = some (.fl 0, [.arr z0 5 1 l1], s) := by kernel_rfl

noncomputable def clone {R : Type} (lf : Nat) (s_z0 s_t1 : Bool) (s2 : LL) (k0 : Bool → LL → Option R) : Option R :=
  clone_a0 s_z0 s2 (fun z'0 l'1 => k0 z'0 l'1)

theorem clone_eq (s_z0 s_t1 : Bool) (s2 : LL) : evCode (c_clone lf) cl yh (cd [] b_clone) ⟨[.s (.sl s_z0 s_t1 1 s2)] ++ tps 7, [], s⟩ (retK (c_clone lf) Try.f23) = clone lf s_z0 s_t1 s2 (fun z0 l1 => some (.fl 0, [.arr z0 5 1 l1], s)) :=
  ((clone_a0_eq lf cl yh s _ s_z0 s_t1 s2).trans (congr rfl (funext fun z'0 => (funext fun l'1 => (clone_r1 lf s z'0 l'1)))))

theorem clone_ev (d : Nat) (s_z0 s_t1 : Bool) (s2 : LL) : evC (c_clone lf) (d + 1) σ yh 23 [.s (.sl s_z0 s_t1 1 s2)] [] s = clone lf s_z0 s_t1 s2 (fun z0 l1 => some (.fl 0, [.arr z0 5 1 l1], s)) :=
  (evC_eq (fn := Try.f23) (by kernel_rfl) (by kernel_rfl) (by kernel_rfl)).trans (clone_eq lf (evC (c_clone lf) d) yh s s_z0 s_t1 s2)

/-! hstsstore/hstsstorekeep.Bytes -/
noncomputable abbrev b_kbytes : Code := bodyOf Try.f9
noncomputable def c_kbytes (lf : Nat) : Cfg := mkCfg lf [9] (lookK []) []
  (lookK [(1, [4]), (0, [0, 0])]) [] (lookK []) (some [4])

noncomputable def kbytes_a0 {R : Type} (a2 b5 : LL) (k0 : Bool → Option R) : Option R :=
  cond (List.all a2 isU8)
  (cond (List.all b5 isU8)
   (k0 ((List.map elU8 a2) == (List.map elU8 b5)))
   (none))
  (none)

theorem kbytes_a0_eq (a_z0 a_t1 : Bool) (a2 : LL) (b_z3 b_t4 : Bool) (b5 : LL) : evCode (c_kbytes lf) cl yh (cd [] b_kbytes) ⟨[.s (.sl a_z0 a_t1 1 a2), .s (.sl b_z3 b_t4 1 b5)] ++ tps 8, [], s⟩ k =
  kbytes_a0 a2 b5 (fun b0 => k .ret ⟨gp [(4, .s (.bool b0))] 5, [], s⟩) := by kernel_rfl

theorem kbytes_r1 (b0 : Bool) : retK (c_kbytes lf) Try.f9 .ret ⟨gp [(4, .s (.bool b0))] 5, [], s⟩ = some (.s (.bool b0), [], s) := by kernel_rfl

noncomputable def kbytes {R : Type} (lf : Nat) (a_z0 a_t1 : Bool) (a2 : LL) (b_z3 b_t4 : Bool) (b5 : LL) (k0 : Bool → Option R) : Option R :=
  kbytes_a0 a2 b5 (fun b'0 => k0 b'0)

theorem kbytes_eq (a_z0 a_t1 : Bool) (a2 : LL) (b_z3 b_t4 : Bool) (b5 : LL) : evCode (c_kbytes lf) cl yh (cd [] b_kbytes) ⟨[.s (.sl a_z0 a_t1 1 a2), .s (.sl b_z3 b_t4 1 b5)] ++ tps 8, [], s⟩ (retK (c_kbytes lf) Try.f9) = kbytes lf a_z0 a_t1 a2 b_z3 b_t4 b5 (fun r0 => some (.s (.bool r0), [], s)) :=
  ((kbytes_a0_eq lf cl yh s _ a_z0 a_t1 a2 b_z3 b_t4 b5).trans (congr rfl (funext fun b'0 => (kbytes_r1 lf s b'0))))

theorem kbytes_ev (d : Nat) (a_z0 a_t1 : Bool) (a2 : LL) (b_z3 b_t4 : Bool) (b5 : LL) : evC (c_kbytes lf) (d + 1) σ yh 9 [.s (.sl a_z0 a_t1 1 a2), .s (.sl b_z3 b_t4 1 b5)] [] s = kbytes lf a_z0 a_t1 a2 b_z3 b_t4 b5 (fun r0 => some (.s (.bool r0), [], s)) :=
  (evC_eq (fn := Try.f9) (by kernel_rfl) (by kernel_rfl) (by kernel_rfl)).trans (kbytes_eq lf (evC (c_kbytes lf) d) yh s a_z0 a_t1 a2 b_z3 b_t4 b5)

/-! hstsstore/hstsstorekeep.OwnBytes -/
noncomputable abbrev b_kown : Code := bodyOf Try.f11
noncomputable def c_kown (lf : Nat) : Cfg := mkCfg lf [11] (lookK []) []
  (lookK [(1, [2]), (0, [0])]) [] (lookK []) (some [2])

theorem kown_a0 (b_z0 b_t1 : Bool) (b2 : LL) : evCode (c_kown lf) cl yh (cd [] b_kown) ⟨[.s (.sl b_z0 b_t1 1 b2)] ++ tps 5, [], s⟩ k =
  cond (roomy (0 + (List.length b2)))
  (k .ret ⟨gp [(2, .fl 0)] 3, [.arr false 5 1 b2], s⟩)
  (none) := by kernel_rfl

theorem kown_r1 (l0 : LL) : retK (c_kown lf) Try.f11 .ret ⟨gp [(2, .fl 0)] 3, [.arr false 5 1 l0], s⟩ = some (.fl 0, [.arr false 5 1 l0], s) := by kernel_rfl

noncomputable def kown {R : Type} (lf : Nat) (b_z0 b_t1 : Bool) (b2 : LL) (k0 : LL → Option R) : Option R :=
  cond (roomy (0 + (List.length b2)))
  (k0 b2)
  (none)

theorem kown_eq (b_z0 b_t1 : Bool) (b2 : LL) : evCode (c_kown lf) cl yh (cd [] b_kown) ⟨[.s (.sl b_z0 b_t1 1 b2)] ++ tps 5, [], s⟩ (retK (c_kown lf) Try.f11) = kown lf b_z0 b_t1 b2 (fun l0 => some (.fl 0, [.arr false 5 1 l0], s)) :=
  ((kown_a0 lf cl yh s _ b_z0 b_t1 b2).trans (cond_congr (kown_r1 lf s b2) rfl))

theorem kown_ev (d : Nat) (b_z0 b_t1 : Bool) (b2 : LL) : evC (c_kown lf) (d + 1) σ yh 11 [.s (.sl b_z0 b_t1 1 b2)] [] s = kown lf b_z0 b_t1 b2 (fun l0 => some (.fl 0, [.arr false 5 1 l0], s)) :=
  (evC_eq (fn := Try.f11) (by kernel_rfl) (by kernel_rfl) (by kernel_rfl)).trans (kown_eq lf (evC (c_kown lf) d) yh s b_z0 b_t1 b2)

/-! hstsstore/wire.AppendUint -/
noncomputable abbrev b_app : Code := bodyOf Try.f8
noncomputable def c_app (lf : Nat) : Cfg := mkCfg lf [8] (lookK [(2, [1, 2, 0])]) [(23, X_clone)]
  (lookK [(5, [4]), (3, [1, 3]), (4, [1, 3]), (2, [1, 3, 3]), (1, [1, 3]), (0, [0, 0])]) [] (lookK [(0, [1, 3]), (1, [1, 3])]) (some [4])

theorem app_a0 (b_z0 b_t1 : Bool) (b2 : LL) (v3 : Int) : evCode (c_app lf) cl yh (cd [0] b_app) ⟨[.s (.sl b_z0 b_t1 1 b2), .s (.int .u64 v3)] ++ tps 21, [], s⟩ k =
  k .normal ⟨gp [(0, .s (.sl b_z0 b_t1 1 b2)), (0, .s (.int .u64 v3))] 21, [], s⟩ := by kernel_rfl

noncomputable def app_a1 {R : Type} (b_z0 : Bool) (b2 : LL) (v3 : Int) (k0 : Int → Bool → LL → Option R) : Option R :=
  cond ((List.isEmpty b2) || (not b_z0))
  (cond (roomy (List.length b2))
   (k0 v3 b_z0 b2)
   (none))
  (none)

theorem app_a1_eq (b_z0 b_t1 : Bool) (b2 : LL) (v3 : Int) : evCode (c_app lf) cl yh (cd [1, 0] b_app) ⟨gp [(0, .s (.sl b_z0 b_t1 1 b2)), (0, .s (.int .u64 v3))] 21, [], s⟩ k =
  app_a1 b_z0 b2 v3 (fun v0 z1 l2 => k .normal ⟨gp [(1, .s (.int .u64 v0)), (3, .fl 0)] 17, [.arr z1 5 1 l2], s⟩) := by kernel_rfl

noncomputable def app_a2 {R : Type} (v0 : Int) (z1 : Bool) (l2 : LL) (k0 : Int → Bool → LL → Option R) (k1 : Int → Bool → LL → Option R) : Option R :=
  cond (not (ltI v0 (128 : Int)))
  (cond (roomy ((List.length l2) + 1))
   (k0 (shrI .u64 v0 (7 : Int)) z1 (l2 ++ [[(SV.int .u8 (bOr .u8 (wu8 v0) (128 : Int)))]]))
   (none))
  (k1 v0 z1 l2)

theorem app_a2_eq (v0 : Int) (z1 : Bool) (l2 : LL) : evCode (c_app lf) cl yh (cd [1, 1, 0, 0, 0] b_app) ⟨gp [(1, .s (.int .u64 v0)), (3, .fl 0)] 17, [.arr z1 5 1 l2], s⟩ k =
  app_a2 v0 z1 l2 (fun v0 z1 l2 => k .normal ⟨gp [(1, .s (.int .u64 v0)), (3, .fl 0)] 17, [.arr z1 5 1 l2], s⟩) (fun v0 z1 l2 => k (.exit 0) ⟨gp [(1, .s (.int .u64 v0)), (3, .fl 0)] 17, [.arr z1 5 1 l2], s⟩) := by kernel_rfl

theorem app_p4 (n : Nat) (v0 : Int) (z1 : Bool) (l2 : LL) : lpK 1 ((c_app lf).keep 2) (bd (c_app lf) cl yh (cd [1, 1, 0, 0, 0] b_app)) n k .normal ⟨gp [(1, .s (.int .u64 v0)), (3, .fl 0)] 17, [.arr z1 5 1 l2], s⟩ = loopK 1 ((c_app lf).keep 2) (bd (c_app lf) cl yh (cd [1, 1, 0, 0, 0] b_app)) n ⟨gp [(1, .s (.int .u64 v0)), (3, .fl 0)] 17, [.arr z1 5 1 l2], s⟩ k := by kernel_rfl

theorem app_p5 (n : Nat) (v0 : Int) (z1 : Bool) (l2 : LL) : lpK 1 ((c_app lf).keep 2) (bd (c_app lf) cl yh (cd [1, 1, 0, 0, 0] b_app)) n k (.exit 0) ⟨gp [(1, .s (.int .u64 v0)), (3, .fl 0)] 17, [.arr z1 5 1 l2], s⟩ = k (.exit 0) ⟨gp [(1, .s (.int .u64 v0)), (3, .fl 0)] 17, [.arr z1 5 1 l2], s⟩ := by kernel_rfl

noncomputable def app_l3f {R : Type} (lf n : Nat) (self : Int → Bool → LL → Option R) (v0 : Int) (z1 : Bool) (l2 : LL) (k0 : Int → Bool → LL → Option R) : Option R :=
  app_a2 v0 z1 l2 (fun v'3 z'4 l'5 => self v'3 z'4 l'5) (fun v'6 z'7 l'8 => k0 v'6 z'7 l'8)

noncomputable def app_l3 {R : Type} (lf n : Nat) (v0 : Int) (z1 : Bool) (l2 : LL) (k0 : Int → Bool → LL → Option R) : Option R :=
  recN (α := Int → Bool → LL → Option R) (fun _ _ _ => none) (fun n self v0 z1 l2 => app_l3f lf n self v0 z1 l2 k0) n v0 z1 l2

theorem app_l3_s {R : Type} (lf n : Nat) (v0 : Int) (z1 : Bool) (l2 : LL) (k0 : Int → Bool → LL → Option R) : app_l3 lf (n + 1) v0 z1 l2 k0 = app_l3f lf n (fun v0 z1 l2 => app_l3 lf n v0 z1 l2 k0) v0 z1 l2 k0 := rfl

theorem app_l3_eq (n : Nat) (v0 : Int) (z1 : Bool) (l2 : LL) : loopK 1 ((c_app lf).keep 2) (bd (c_app lf) cl yh (cd [1, 1, 0, 0, 0] b_app)) n ⟨gp [(1, .s (.int .u64 v0)), (3, .fl 0)] 17, [.arr z1 5 1 l2], s⟩ k =
  app_l3 lf n v0 z1 l2 (fun v0 z1 l2 => k (.exit 0) ⟨gp [(1, .s (.int .u64 v0)), (3, .fl 0)] 17, [.arr z1 5 1 l2], s⟩) := by
  induction n generalizing v0 z1 l2 with
  | zero => rfl
  | succ n ih => exact (lp_s.trans (bd_s.trans ((app_a2_eq lf cl yh s _ v0 z1 l2).trans (congr (congr rfl (funext fun v'3 => (funext fun z'4 => (funext fun l'5 => ((app_p4 lf cl yh s k n v'3 z'4 l'5).trans (ih v'3 z'4 l'5)))))) (funext fun v'6 => (funext fun z'7 => (funext fun l'8 => (app_p5 lf cl yh s k n v'6 z'7 l'8)))))))).trans (app_l3_s lf n v0 z1 l2 (fun v0 z1 l2 => k (.exit 0) ⟨gp [(1, .s (.int .u64 v0)), (3, .fl 0)] 17, [.arr z1 5 1 l2], s⟩)).symm

theorem app_a6 (v0 : Int) (z1 : Bool) (l2 : LL) : evCode (c_app lf) cl yh (cd [1, 1, 1] b_app) ⟨gp [(1, .s (.int .u64 v0)), (3, .fl 0)] 17, [.arr z1 5 1 l2], s⟩ k =
  cond (roomy ((List.length l2) + 1))
  (k .ret ⟨gp [(4, .fl 0)] 18, [.arr z1 5 1 (l2 ++ [[(SV.int .u8 (wu8 v0))]])], s⟩)
  (none) := by kernel_rfl

theorem app_r7 (z0 : Bool) (l1 : LL) : retK (c_app lf) Try.f8 .ret ⟨gp [(4, .fl 0)] 18, [.arr z0 5 1 l1], s⟩ = some (.fl 0, [.arr z0 5 1 l1], s) := by kernel_rfl

noncomputable def app {R : Type} (lf : Nat) (b_z0 b_t1 : Bool) (b2 : LL) (v3 : Int) (k0 : Bool → LL → Option R) : Option R :=
  app_a1 b_z0 b2 v3 (fun v'0 z'1 l'2 => app_l3 lf lf v'0 z'1 l'2 (fun v'9 z'10 l'11 => cond (roomy ((List.length l'11) + 1))
  (k0 z'10 (l'11 ++ [[(SV.int .u8 (wu8 v'9))]]))
  (none)))

theorem app_eq (b_z0 b_t1 : Bool) (b2 : LL) (v3 : Int) : evCode (c_app lf) cl yh (cd [] b_app) ⟨[.s (.sl b_z0 b_t1 1 b2), .s (.int .u64 v3)] ++ tps 21, [], s⟩ (retK (c_app lf) Try.f8) = app lf b_z0 b_t1 b2 v3 (fun z0 l1 => some (.fl 0, [.arr z0 5 1 l1], s)) :=
  ((ev_sq [] (by kernel_rfl)).trans ((app_a0 lf cl yh s _ b_z0 b_t1 b2 v3).trans (seqK_n.trans ((ev_sq [1] (by kernel_rfl)).trans ((app_a1_eq lf cl yh s _ b_z0 b_t1 b2 v3).trans (congr rfl (funext fun v'0 => (funext fun z'1 => (funext fun l'2 => (seqK_n.trans ((ev_sq [1, 1] (by kernel_rfl)).trans ((ev_bk [1, 1, 0] 0 (by kernel_rfl)).trans ((ev_lp [1, 1, 0, 0] (by kernel_rfl)).trans ((app_l3_eq lf cl yh s _ lf v'0 z'1 l'2).trans (congr rfl (funext fun v'9 => (funext fun z'10 => (funext fun l'11 => (blkK_e.trans (seqK_n.trans ((app_a6 lf cl yh s _ v'9 z'10 l'11).trans (cond_congr (app_r7 lf s z'10 (l'11 ++ [[(SV.int .u8 (wu8 v'9))]])) rfl))))))))))))))))))))))

theorem app_ev (d : Nat) (b_z0 b_t1 : Bool) (b2 : LL) (v3 : Int) : evC (c_app lf) (d + 1) σ yh 8 [.s (.sl b_z0 b_t1 1 b2), .s (.int .u64 v3)] [] s = app lf b_z0 b_t1 b2 v3 (fun z0 l1 => some (.fl 0, [.arr z0 5 1 l1], s)) :=
  (evC_eq (fn := Try.f8) (by kernel_rfl) (by kernel_rfl) (by kernel_rfl)).trans (app_eq lf (evC (c_app lf) d) yh s b_z0 b_t1 b2 v3)

/-! hstsstore/wire.AppendText -/
noncomputable abbrev b_apptext : Code := bodyOf Try.f12
noncomputable def c_apptext (lf : Nat) : Cfg := mkCfg lf [12] (lookK []) [(8, X_app)]
  (lookK [(1, [4]), (0, [0, 0])]) [] (lookK []) (some [4])

noncomputable def apptext_a0 {R : Type} (b_z0 : Bool) (b2 : LL) (s3 : By) (k0 : Bool → LL → Option R) : Option R :=
  cond ((List.isEmpty b2) || (not b_z0))
  (cond (small (List.length b2))
   (cond (u64ok (wu64 (↑(List.length s3) : Int)))
    (cond (roomy ((List.length (b2 ++ (encB (Int.toNat (wu64 (↑(List.length s3) : Int)))))) + (List.length (List.map u8el s3))))
     (k0 b_z0 ((b2 ++ (encB (Int.toNat (wu64 (↑(List.length s3) : Int))))) ++ (List.map u8el s3)))
     (none))
    (none))
   (none))
  (none)

theorem apptext_a0_eq (b_z0 b_t1 : Bool) (b2 : LL) (s3 : By) : evCode (c_apptext lf) cl yh (cd [] b_apptext) ⟨[.s (.sl b_z0 b_t1 1 b2), .s (.str s3)] ++ tps 10, [], s⟩ k =
  apptext_a0 b_z0 b2 s3 (fun z0 l1 => k .ret ⟨gp [(4, .fl 0)] 7, [.arr z0 5 1 l1], s⟩) := by kernel_rfl

theorem apptext_r1 (z0 : Bool) (l1 : LL) : retK (c_apptext lf) Try.f12 .ret ⟨gp [(4, .fl 0)] 7, [.arr z0 5 1 l1], s⟩ = some (.fl 0, [.arr z0 5 1 l1], s) := by kernel_rfl

noncomputable def apptext {R : Type} (lf : Nat) (b_z0 b_t1 : Bool) (b2 : LL) (s3 : By) (k0 : Bool → LL → Option R) : Option R :=
  apptext_a0 b_z0 b2 s3 (fun z'0 l'1 => k0 z'0 l'1)

theorem apptext_eq (b_z0 b_t1 : Bool) (b2 : LL) (s3 : By) : evCode (c_apptext lf) cl yh (cd [] b_apptext) ⟨[.s (.sl b_z0 b_t1 1 b2), .s (.str s3)] ++ tps 10, [], s⟩ (retK (c_apptext lf) Try.f12) = apptext lf b_z0 b_t1 b2 s3 (fun z0 l1 => some (.fl 0, [.arr z0 5 1 l1], s)) :=
  ((apptext_a0_eq lf cl yh s _ b_z0 b_t1 b2 s3).trans (congr rfl (funext fun z'0 => (funext fun l'1 => (apptext_r1 lf s z'0 l'1)))))

theorem apptext_ev (d : Nat) (b_z0 b_t1 : Bool) (b2 : LL) (s3 : By) : evC (c_apptext lf) (d + 1) σ yh 12 [.s (.sl b_z0 b_t1 1 b2), .s (.str s3)] [] s = apptext lf b_z0 b_t1 b2 s3 (fun z0 l1 => some (.fl 0, [.arr z0 5 1 l1], s)) :=
  (evC_eq (fn := Try.f12) (by kernel_rfl) (by kernel_rfl) (by kernel_rfl)).trans (apptext_eq lf (evC (c_apptext lf) d) yh s b_z0 b_t1 b2 s3)

/-! hstsstore/wire.AppendFixed -/
noncomputable abbrev b_appfix : Code := bodyOf Try.f13
noncomputable def c_appfix (lf : Nat) : Cfg := mkCfg lf [13] (lookK []) [(23, X_clone)]
  (lookK [(1, [4]), (0, [0, 0])]) [] (lookK []) (some [4])

noncomputable def appfix_a0 {R : Type} (b_z0 : Bool) (b2 : LL) (v3 : Int) (k0 : Bool → LL → Option R) : Option R :=
  cond ((List.isEmpty b2) || (not b_z0))
  (cond (roomy (List.length b2))
   (cond (roomy ((List.length b2) + 4))
    (k0 b_z0 (b2 ++ [[(SV.int .u8 (wu8 v3))], [(SV.int .u8 (wu8 (shrI .u32 v3 (8 : Int))))], [(SV.int .u8 (wu8 (shrI .u32 v3 (16 : Int))))], [(SV.int .u8 (wu8 (shrI .u32 v3 (24 : Int))))]]))
    (none))
   (none))
  (none)

theorem appfix_a0_eq (b_z0 b_t1 : Bool) (b2 : LL) (v3 : Int) : evCode (c_appfix lf) cl yh (cd [] b_appfix) ⟨[.s (.sl b_z0 b_t1 1 b2), .s (.int .u32 v3)] ++ tps 18, [], s⟩ k =
  appfix_a0 b_z0 b2 v3 (fun z0 l1 => k .ret ⟨gp [(4, .fl 0)] 15, [.arr z0 5 1 l1], s⟩) := by kernel_rfl

theorem appfix_r1 (z0 : Bool) (l1 : LL) : retK (c_appfix lf) Try.f13 .ret ⟨gp [(4, .fl 0)] 15, [.arr z0 5 1 l1], s⟩ = some (.fl 0, [.arr z0 5 1 l1], s) := by kernel_rfl

noncomputable def appfix {R : Type} (lf : Nat) (b_z0 b_t1 : Bool) (b2 : LL) (v3 : Int) (k0 : Bool → LL → Option R) : Option R :=
  appfix_a0 b_z0 b2 v3 (fun z'0 l'1 => k0 z'0 l'1)

theorem appfix_eq (b_z0 b_t1 : Bool) (b2 : LL) (v3 : Int) : evCode (c_appfix lf) cl yh (cd [] b_appfix) ⟨[.s (.sl b_z0 b_t1 1 b2), .s (.int .u32 v3)] ++ tps 18, [], s⟩ (retK (c_appfix lf) Try.f13) = appfix lf b_z0 b_t1 b2 v3 (fun z0 l1 => some (.fl 0, [.arr z0 5 1 l1], s)) :=
  ((appfix_a0_eq lf cl yh s _ b_z0 b_t1 b2 v3).trans (congr rfl (funext fun z'0 => (funext fun l'1 => (appfix_r1 lf s z'0 l'1)))))

theorem appfix_ev (d : Nat) (b_z0 b_t1 : Bool) (b2 : LL) (v3 : Int) : evC (c_appfix lf) (d + 1) σ yh 13 [.s (.sl b_z0 b_t1 1 b2), .s (.int .u32 v3)] [] s = appfix lf b_z0 b_t1 b2 v3 (fun z0 l1 => some (.fl 0, [.arr z0 5 1 l1], s)) :=
  (evC_eq (fn := Try.f13) (by kernel_rfl) (by kernel_rfl) (by kernel_rfl)).trans (appfix_eq lf (evC (c_appfix lf) d) yh s b_z0 b_t1 b2 v3)

/-! hstsstore/hstsstoreref03.Uint -/
noncomputable abbrev b_ruint : Code := bodyOf Try.f14
noncomputable def c_ruint (lf : Nat) : Cfg := mkCfg lf [14] (lookK [(2, [0, 1, 0])]) []
  (lookK [(5, [2]), (4, [0, 2]), (3, [0, 2]), (2, [0, 2, 1]), (1, [0, 2]), (0, [0])]) [] (lookK [(0, [0, 2]), (1, [0, 2])]) (some [2])

theorem ruint_a0 (v0 : Int) : evCode (c_ruint lf) cl yh (cd [0] b_ruint) ⟨[.s (.int .u64 v0)] ++ tps 19, [], s⟩ k =
  k .normal ⟨gp [(0, .s (.int .u64 v0))] 19, [], s⟩ := by kernel_rfl

theorem ruint_a1 (v0 : Int) : evCode (c_ruint lf) cl yh (cd [1, 0] b_ruint) ⟨gp [(0, .s (.int .u64 v0))] 19, [], s⟩ k =
  k .normal ⟨gp [(0, .s (.int .u64 v0)), (2, .fl 0)] 16, [.arr true 5 1 []], s⟩ := by kernel_rfl

noncomputable def ruint_a2 {R : Type} (v0 : Int) (l1 : LL) (k0 : Int → LL → Option R) (k1 : Int → LL → Option R) : Option R :=
  cond (not (ltI v0 (128 : Int)))
  (cond (roomy ((List.length l1) + 1))
   (k0 (wu64 (Int.tdiv v0 (128 : Int))) (l1 ++ [[(SV.int .u8 (wu8 (wu64 ((Int.tmod v0 (128 : Int)) + (128 : Int)))))]]))
   (none))
  (k1 v0 l1)

theorem ruint_a2_eq (v0 : Int) (l1 : LL) : evCode (c_ruint lf) cl yh (cd [1, 1, 0, 0, 0] b_ruint) ⟨gp [(0, .s (.int .u64 v0)), (2, .fl 0)] 16, [.arr true 5 1 l1], s⟩ k =
  ruint_a2 v0 l1 (fun v0 l1 => k .normal ⟨gp [(0, .s (.int .u64 v0)), (2, .fl 0)] 16, [.arr true 5 1 l1], s⟩) (fun v0 l1 => k (.exit 0) ⟨gp [(0, .s (.int .u64 v0)), (2, .fl 0)] 16, [.arr true 5 1 l1], s⟩) := by kernel_rfl

theorem ruint_p4 (n : Nat) (v0 : Int) (l1 : LL) : lpK 1 ((c_ruint lf).keep 2) (bd (c_ruint lf) cl yh (cd [1, 1, 0, 0, 0] b_ruint)) n k .normal ⟨gp [(0, .s (.int .u64 v0)), (2, .fl 0)] 16, [.arr true 5 1 l1], s⟩ = loopK 1 ((c_ruint lf).keep 2) (bd (c_ruint lf) cl yh (cd [1, 1, 0, 0, 0] b_ruint)) n ⟨gp [(0, .s (.int .u64 v0)), (2, .fl 0)] 16, [.arr true 5 1 l1], s⟩ k := by kernel_rfl

theorem ruint_p5 (n : Nat) (v0 : Int) (l1 : LL) : lpK 1 ((c_ruint lf).keep 2) (bd (c_ruint lf) cl yh (cd [1, 1, 0, 0, 0] b_ruint)) n k (.exit 0) ⟨gp [(0, .s (.int .u64 v0)), (2, .fl 0)] 16, [.arr true 5 1 l1], s⟩ = k (.exit 0) ⟨gp [(0, .s (.int .u64 v0)), (2, .fl 0)] 16, [.arr true 5 1 l1], s⟩ := by kernel_rfl

noncomputable def ruint_l3f {R : Type} (lf n : Nat) (self : Int → LL → Option R) (v0 : Int) (l1 : LL) (k0 : Int → LL → Option R) : Option R :=
  ruint_a2 v0 l1 (fun v'0 l'1 => self v'0 l'1) (fun v'2 l'3 => k0 v'2 l'3)

noncomputable def ruint_l3 {R : Type} (lf n : Nat) (v0 : Int) (l1 : LL) (k0 : Int → LL → Option R) : Option R :=
  recN (α := Int → LL → Option R) (fun _ _ => none) (fun n self v0 l1 => ruint_l3f lf n self v0 l1 k0) n v0 l1

theorem ruint_l3_s {R : Type} (lf n : Nat) (v0 : Int) (l1 : LL) (k0 : Int → LL → Option R) : ruint_l3 lf (n + 1) v0 l1 k0 = ruint_l3f lf n (fun v0 l1 => ruint_l3 lf n v0 l1 k0) v0 l1 k0 := rfl

theorem ruint_l3_eq (n : Nat) (v0 : Int) (l1 : LL) : loopK 1 ((c_ruint lf).keep 2) (bd (c_ruint lf) cl yh (cd [1, 1, 0, 0, 0] b_ruint)) n ⟨gp [(0, .s (.int .u64 v0)), (2, .fl 0)] 16, [.arr true 5 1 l1], s⟩ k =
  ruint_l3 lf n v0 l1 (fun v0 l1 => k (.exit 0) ⟨gp [(0, .s (.int .u64 v0)), (2, .fl 0)] 16, [.arr true 5 1 l1], s⟩) := by
  induction n generalizing v0 l1 with
  | zero => rfl
  | succ n ih => exact (lp_s.trans (bd_s.trans ((ruint_a2_eq lf cl yh s _ v0 l1).trans (congr (congr rfl (funext fun v'0 => (funext fun l'1 => ((ruint_p4 lf cl yh s k n v'0 l'1).trans (ih v'0 l'1))))) (funext fun v'2 => (funext fun l'3 => (ruint_p5 lf cl yh s k n v'2 l'3))))))).trans (ruint_l3_s lf n v0 l1 (fun v0 l1 => k (.exit 0) ⟨gp [(0, .s (.int .u64 v0)), (2, .fl 0)] 16, [.arr true 5 1 l1], s⟩)).symm

theorem ruint_a6 (v0 : Int) (l1 : LL) : evCode (c_ruint lf) cl yh (cd [1, 1, 1] b_ruint) ⟨gp [(0, .s (.int .u64 v0)), (2, .fl 0)] 16, [.arr true 5 1 l1], s⟩ k =
  cond (roomy ((List.length l1) + 1))
  (k .ret ⟨gp [(2, .fl 0)] 17, [.arr true 5 1 (l1 ++ [[(SV.int .u8 (wu8 v0))]])], s⟩)
  (none) := by kernel_rfl

theorem ruint_r7 (l0 : LL) : retK (c_ruint lf) Try.f14 .ret ⟨gp [(2, .fl 0)] 17, [.arr true 5 1 l0], s⟩ = some (.fl 0, [.arr true 5 1 l0], s) := by kernel_rfl

noncomputable def ruint {R : Type} (lf : Nat) (v0 : Int) (k0 : LL → Option R) : Option R :=
  ruint_l3 lf lf v0 [] (fun v'4 l'5 => cond (roomy ((List.length l'5) + 1))
  (k0 (l'5 ++ [[(SV.int .u8 (wu8 v'4))]]))
  (none))

theorem ruint_eq (v0 : Int) : evCode (c_ruint lf) cl yh (cd [] b_ruint) ⟨[.s (.int .u64 v0)] ++ tps 19, [], s⟩ (retK (c_ruint lf) Try.f14) = ruint lf v0 (fun l0 => some (.fl 0, [.arr true 5 1 l0], s)) :=
  ((ev_sq [] (by kernel_rfl)).trans ((ruint_a0 lf cl yh s _ v0).trans (seqK_n.trans ((ev_sq [1] (by kernel_rfl)).trans ((ruint_a1 lf cl yh s _ v0).trans (seqK_n.trans ((ev_sq [1, 1] (by kernel_rfl)).trans ((ev_bk [1, 1, 0] 0 (by kernel_rfl)).trans ((ev_lp [1, 1, 0, 0] (by kernel_rfl)).trans ((ruint_l3_eq lf cl yh s _ lf v0 []).trans (congr rfl (funext fun v'4 => (funext fun l'5 => (blkK_e.trans (seqK_n.trans ((ruint_a6 lf cl yh s _ v'4 l'5).trans (cond_congr (ruint_r7 lf s (l'5 ++ [[(SV.int .u8 (wu8 v'4))]])) rfl)))))))))))))))))

theorem ruint_ev (d : Nat) (v0 : Int) : evC (c_ruint lf) (d + 1) σ yh 14 [.s (.int .u64 v0)] [] s = ruint lf v0 (fun l0 => some (.fl 0, [.arr true 5 1 l0], s)) :=
  (evC_eq (fn := Try.f14) (by kernel_rfl) (by kernel_rfl) (by kernel_rfl)).trans (ruint_eq lf (evC (c_ruint lf) d) yh s v0)

/-! hstsstore/hstsstoreref03.Text -/
noncomputable abbrev b_rtext : Code := bodyOf Try.f15
noncomputable def c_rtext (lf : Nat) : Cfg := mkCfg lf [15] (lookK []) [(14, X_ruint)]
  (lookK [(1, [2]), (0, [0])]) [] (lookK []) (some [2])

noncomputable def rtext_a0 {R : Type} (s0 : By) (k0 : LL → Option R) : Option R :=
  cond (u64ok (wu64 (↑(List.length s0) : Int)))
  (cond (roomy ((List.length (encB (Int.toNat (wu64 (↑(List.length s0) : Int))))) + (List.length (List.map u8el s0))))
   (k0 ((encB (Int.toNat (wu64 (↑(List.length s0) : Int)))) ++ (List.map u8el s0)))
   (none))
  (none)

theorem rtext_a0_eq (s0 : By) : evCode (c_rtext lf) cl yh (cd [] b_rtext) ⟨[.s (.str s0)] ++ tps 8, [], s⟩ k =
  rtext_a0 s0 (fun l0 => k .ret ⟨gp [(2, .fl 0)] 6, [.arr true 5 1 l0], s⟩) := by kernel_rfl

theorem rtext_r1 (l0 : LL) : retK (c_rtext lf) Try.f15 .ret ⟨gp [(2, .fl 0)] 6, [.arr true 5 1 l0], s⟩ = some (.fl 0, [.arr true 5 1 l0], s) := by kernel_rfl

noncomputable def rtext {R : Type} (lf : Nat) (s0 : By) (k0 : LL → Option R) : Option R :=
  rtext_a0 s0 (fun l'0 => k0 l'0)

theorem rtext_eq (s0 : By) : evCode (c_rtext lf) cl yh (cd [] b_rtext) ⟨[.s (.str s0)] ++ tps 8, [], s⟩ (retK (c_rtext lf) Try.f15) = rtext lf s0 (fun l0 => some (.fl 0, [.arr true 5 1 l0], s)) :=
  ((rtext_a0_eq lf cl yh s _ s0).trans (congr rfl (funext fun l'0 => (rtext_r1 lf s l'0))))

theorem rtext_ev (d : Nat) (s0 : By) : evC (c_rtext lf) (d + 1) σ yh 15 [.s (.str s0)] [] s = rtext lf s0 (fun l0 => some (.fl 0, [.arr true 5 1 l0], s)) :=
  (evC_eq (fn := Try.f15) (by kernel_rfl) (by kernel_rfl) (by kernel_rfl)).trans (rtext_eq lf (evC (c_rtext lf) d) yh s s0)

/-! hstsstore/hstsstoreref03.Fixed -/
noncomputable abbrev b_rfix : Code := bodyOf Try.f16
noncomputable def c_rfix (lf : Nat) : Cfg := mkCfg lf [16] (lookK []) []
  (lookK [(1, [2]), (0, [0])]) [] (lookK []) (some [2])

theorem rfix_a0 (v0 : Int) : evCode (c_rfix lf) cl yh (cd [] b_rfix) ⟨[.s (.int .u32 v0)] ++ tps 14, [], s⟩ k =
  k .ret ⟨gp [(2, .fl 0)] 12, [.arr false 5 1 [[.int .u8 (wu8 v0)], [.int .u8 (wu8 (shrI .u32 v0 (8 : Int)))], [.int .u8 (wu8 (shrI .u32 v0 (16 : Int)))], [.int .u8 (wu8 (shrI .u32 v0 (24 : Int)))]]], s⟩ := by kernel_rfl

theorem rfix_r1 (n0 n1 n2 n3 : Int) : retK (c_rfix lf) Try.f16 .ret ⟨gp [(2, .fl 0)] 12, [.arr false 5 1 [[.int .u8 n0], [.int .u8 n1], [.int .u8 n2], [.int .u8 n3]]], s⟩ = some (.fl 0, [.arr false 5 1 [[.int .u8 n0], [.int .u8 n1], [.int .u8 n2], [.int .u8 n3]]], s) := by kernel_rfl

noncomputable def rfix {R : Type} (lf : Nat) (v0 : Int) (k0 : Int → Int → Int → Int → Option R) : Option R :=
  k0 (wu8 v0) (wu8 (shrI .u32 v0 (8 : Int))) (wu8 (shrI .u32 v0 (16 : Int))) (wu8 (shrI .u32 v0 (24 : Int)))

theorem rfix_eq (v0 : Int) : evCode (c_rfix lf) cl yh (cd [] b_rfix) ⟨[.s (.int .u32 v0)] ++ tps 14, [], s⟩ (retK (c_rfix lf) Try.f16) = rfix lf v0 (fun n0 n1 n2 n3 => some (.fl 0, [.arr false 5 1 [[.int .u8 n0], [.int .u8 n1], [.int .u8 n2], [.int .u8 n3]]], s)) :=
  ((rfix_a0 lf cl yh s _ v0).trans (rfix_r1 lf s (wu8 v0) (wu8 (shrI .u32 v0 (8 : Int))) (wu8 (shrI .u32 v0 (16 : Int))) (wu8 (shrI .u32 v0 (24 : Int)))))

theorem rfix_ev (d : Nat) (v0 : Int) : evC (c_rfix lf) (d + 1) σ yh 16 [.s (.int .u32 v0)] [] s = rfix lf v0 (fun n0 n1 n2 n3 => some (.fl 0, [.arr false 5 1 [[.int .u8 n0], [.int .u8 n1], [.int .u8 n2], [.int .u8 n3]]], s)) :=
  (evC_eq (fn := Try.f16) (by kernel_rfl) (by kernel_rfl) (by kernel_rfl)).trans (rfix_eq lf (evC (c_rfix lf) d) yh s v0)

/-! hstsstore/hstsstorelaw03.WireEncodesMatchSpec -/
noncomputable abbrev b_lawE : Code := bodyOf Try.f4
noncomputable def c_lawE (lf : Nat) : Cfg := mkCfg lf [4] (lookK [(9, [0, 5, 0, 0, 3])]) [(10, X_awake), (11, X_kown), (8, X_app), (12, X_apptext), (13, X_appfix), (14, X_ruint), (9, X_kbytes), (15, X_rtext), (16, X_rfix)]
  (lookK [(13, [6]), (10, [0, 6, 0, 3]), (12, [6]), (11, [0, 6, 0, 3, 68]), (9, [0, 6, 0, 3, 61]), (8, [0, 6, 0, 3]), (7, [6]), (6, [0, 6, 0, 59]), (5, [0, 0, 0, 4, 0, 0, 0, 0]), (4, [0, 0, 0, 4, 0]), (3, [0, 0, 0, 4]), (2, [6]), (1, [0, 0, 0, 17]), (0, [0, 0, 0])]) [10, 9] (lookK [(0, [0, 7]), (1, [0, 6, 0, 3])]) (some [6])

theorem lawE_a0 (b_z0 b_t1 : Bool) (b2 : LL) (v3 : Int) (s4 : By) : evCode (c_lawE lf) cl yh (cd [0] b_lawE) ⟨[.s (.sl b_z0 b_t1 1 b2), .s (.int .u64 v3), .s (.str s4)] ++ tps 85, [], s⟩ k =
  k .normal ⟨gp [(0, .s (.sl b_z0 b_t1 1 b2)), (0, .s (.int .u64 v3)), (0, .s (.str s4))] 85, [], s⟩ := by kernel_rfl

noncomputable def lawE_a1 {R : Type} (b_z0 b_t1 : Bool) (b2 : LL) (v3 : Int) (s4 : By) (k0 : Unit → Option R) (k1 : Bool → Bool → LL → Int → By → Bool → Option R) : Option R :=
  cond (ltI (2000 : Int) (↑(List.length b2) : Int))
  (k0 ())
  (cond (ltI (5000 : Int) (↑(List.length s4) : Int))
   (k0 ())
   (k1 b_z0 b_t1 b2 v3 s4 (ltI (5000 : Int) (↑(List.length s4) : Int))))

theorem lawE_a1_eq (b_z0 b_t1 : Bool) (b2 : LL) (v3 : Int) (s4 : By) : evCode (c_lawE lf) cl yh (cd [1, 0] b_lawE) ⟨gp [(0, .s (.sl b_z0 b_t1 1 b2)), (0, .s (.int .u64 v3)), (0, .s (.str s4))] 85, [], s⟩ k =
  lawE_a1 b_z0 b_t1 b2 v3 s4 (fun _ => k .ret ⟨gp [(6, .s (.bool true))] 81, [], s⟩) (fun b_z0 b_t1 b2 v3 s4 b5 => k .normal ⟨gp [(0, .s (.sl b_z0 b_t1 1 b2)), (0, .s (.int .u64 v3)), (0, .s (.str s4)), (17, .s (.bool b5))] 67, [], s⟩) := by kernel_rfl

noncomputable def lawE_a2 {R : Type} (b_z0 b_t1 : Bool) (b2 : LL) (v3 : Int) (s4 : By) (k0 : Bool → Bool → LL → Int → By → LL → Option R) : Option R :=
  cond (roomy (List.length b2))
  (cond (roomy ((List.length b2) + 11))
   (k0 b_z0 b_t1 b2 v3 s4 (b2 ++ [[(SV.int .u8 (7 : Int))], [(SV.int .u8 (7 : Int))], [(SV.int .u8 (7 : Int))], [(SV.int .u8 (7 : Int))], [(SV.int .u8 (7 : Int))], [(SV.int .u8 (7 : Int))], [(SV.int .u8 (7 : Int))], [(SV.int .u8 (7 : Int))], [(SV.int .u8 (7 : Int))], [(SV.int .u8 (7 : Int))], [(SV.int .u8 (7 : Int))]]))
   (none))
  (none)

theorem lawE_a2_eq (b_z0 b_t1 : Bool) (b2 : LL) (v3 : Int) (s4 : By) (b5 : Bool) : evCode (c_lawE lf) cl yh (cd [1, 1, 0] b_lawE) ⟨gp [(0, .s (.sl b_z0 b_t1 1 b2)), (0, .s (.int .u64 v3)), (0, .s (.str s4)), (17, .s (.bool b5))] 67, [], s⟩ k =
  lawE_a2 b_z0 b_t1 b2 v3 s4 (fun b_z0 b_t1 b2 v3 s4 l5 => k .normal ⟨gp [(0, .s (.sl b_z0 b_t1 1 b2)), (0, .s (.int .u64 v3)), (0, .s (.str s4)), (4, .fl 0)] 80, [.arr false 5 1 l5], s⟩) := by kernel_rfl

theorem lawE_a3 (b_z0 b_t1 : Bool) (b2 : LL) (v3 : Int) (s4 : By) (l5 : LL) : evCode (c_lawE lf) cl yh (cd [1, 1, 1, 0] b_lawE) ⟨gp [(0, .s (.sl b_z0 b_t1 1 b2)), (0, .s (.int .u64 v3)), (0, .s (.str s4)), (4, .fl 0)] 80, [.arr false 5 1 l5], s⟩ k =
  cond (sub3 (0 : Int) (↑(List.length b2) : Int) (List.length l5))
  (k .normal ⟨gp [(0, .s (.sl b_z0 b_t1 1 b2)), (0, .s (.int .u64 v3)), (0, .s (.str s4)), (4, .fl 0), (0, .vw 0 0 ((Int.toNat (↑(List.length b2) : Int)) - 0))] 79, [.arr false 5 1 l5], s⟩)
  (none) := by kernel_rfl

noncomputable def lawE_a4 {R : Type} (b_z0 b_t1 : Bool) (b2 : LL) (v3 : Int) (s4 : By) (in_m5 : Nat) (l6 : LL) (k0 : Bool → Bool → LL → Int → By → Nat → LL → LL → LL → LL → Option R) : Option R :=
  cond ((List.isEmpty (List.take in_m5 (List.drop 0 l6))) || (not false))
  (cond (small (List.length (List.take in_m5 (List.drop 0 l6))))
   (cond (u64ok v3)
    (cond ((plE ((List.take in_m5 (List.drop 0 l6)) ++ (encB (Int.toNat v3)))) && true)
     (cond ((List.isEmpty (List.take in_m5 (List.drop 0 l6))) || (not false))
      (cond (small (List.length (List.take in_m5 (List.drop 0 l6))))
       (cond (small (List.length s4))
        (cond ((plE (((List.take in_m5 (List.drop 0 l6)) ++ (encB (List.length s4))) ++ (List.map u8el s4))) && true)
         (cond ((List.isEmpty (List.take in_m5 (List.drop 0 l6))) || (not false))
          (cond (small (List.length (List.take in_m5 (List.drop 0 l6))))
           (cond ((plE ((List.take in_m5 (List.drop 0 l6)) ++ (fix4L (wu32 v3)))) && true)
            (k0 b_z0 b_t1 b2 v3 s4 in_m5 l6 ((List.take in_m5 (List.drop 0 l6)) ++ (encB (Int.toNat v3))) (((List.take in_m5 (List.drop 0 l6)) ++ (encB (List.length s4))) ++ (List.map u8el s4)) ((List.take in_m5 (List.drop 0 l6)) ++ (fix4L (wu32 v3))))
            (none))
           (none))
          (none))
         (none))
        (none))
       (none))
      (none))
     (none))
    (none))
   (none))
  (none)

theorem lawE_a4_eq (b_z0 b_t1 : Bool) (b2 : LL) (v3 : Int) (s4 : By) (in_m5 : Nat) (l6 : LL) : evCode (c_lawE lf) cl yh (cd [1, 1, 1, 1, 0] b_lawE) ⟨gp [(0, .s (.sl b_z0 b_t1 1 b2)), (0, .s (.int .u64 v3)), (0, .s (.str s4)), (4, .fl 0), (0, .vw 0 0 in_m5)] 79, [.arr false 5 1 l6], s⟩ k =
  lawE_a4 b_z0 b_t1 b2 v3 s4 in_m5 l6 (fun b_z0 b_t1 b2 v3 s4 in_m5 l6 l7 l8 l9 => k .normal ⟨gp [(0, .s (.sl b_z0 b_t1 1 b2)), (0, .s (.int .u64 v3)), (0, .s (.str s4)), (4, .fl 0), (0, .vw 0 0 in_m5), (0, .fl 1), (0, .fl 2), (0, .fl 3)] 76, [.arr false 5 1 l6, .arr false 5 1 l7, .arr false 5 1 l8, .arr false 5 1 l9], s⟩) := by kernel_rfl

noncomputable def lawE_a5 {R : Type} (b_z0 b_t1 : Bool) (b2 : LL) (v3 : Int) (s4 : By) (in_m5 : Nat) (l6 l7 l8 l9 : LL) (k0 : LL → LL → LL → LL → Option R) (k1 : Bool → Bool → LL → Nat → Bool → LL → LL → LL → LL → Option R) : Option R :=
  cond (roomy (List.length b2))
  (cond (u64ok v3)
   (cond (roomy ((List.length b2) + (List.length (encB (Int.toNat v3)))))
    (cond (List.all l7 isU8)
     (cond (List.all (b2 ++ (encB (Int.toNat v3))) isU8)
      (cond (not ((List.map elU8 l7) == (List.map elU8 (b2 ++ (encB (Int.toNat v3))))))
       (k0 l6 l7 l8 l9)
       (cond (roomy (List.length b2))
        (cond (small (List.length s4))
         (cond (roomy ((List.length b2) + (List.length ((encB (List.length s4)) ++ (List.map u8el s4)))))
          (cond (List.all l8 isU8)
           (cond (List.all (b2 ++ ((encB (List.length s4)) ++ (List.map u8el s4))) isU8)
            (cond (not ((List.map elU8 l8) == (List.map elU8 (b2 ++ ((encB (List.length s4)) ++ (List.map u8el s4))))))
             (k0 l6 l7 l8 l9)
             (cond (roomy (List.length b2))
              (cond (roomy ((List.length b2) + (List.length (fix4L (wu32 v3)))))
               (cond (List.all l9 isU8)
                (cond (List.all (b2 ++ (fix4L (wu32 v3))) isU8)
                 (cond (not ((List.map elU8 l9) == (List.map elU8 (b2 ++ (fix4L (wu32 v3))))))
                  (k0 l6 l7 l8 l9)
                  (k1 b_z0 b_t1 b2 in_m5 (not ((List.map elU8 l9) == (List.map elU8 (b2 ++ (fix4L (wu32 v3)))))) l6 l7 l8 l9))
                 (none))
                (none))
               (none))
              (none)))
            (none))
           (none))
          (none))
         (none))
        (none)))
      (none))
     (none))
    (none))
   (none))
  (none)

theorem lawE_a5_eq (b_z0 b_t1 : Bool) (b2 : LL) (v3 : Int) (s4 : By) (in_m5 : Nat) (l6 l7 l8 l9 : LL) : evCode (c_lawE lf) cl yh (cd [1, 1, 1, 1, 1, 0] b_lawE) ⟨gp [(0, .s (.sl b_z0 b_t1 1 b2)), (0, .s (.int .u64 v3)), (0, .s (.str s4)), (4, .fl 0), (0, .vw 0 0 in_m5), (0, .fl 1), (0, .fl 2), (0, .fl 3)] 76, [.arr false 5 1 l6, .arr false 5 1 l7, .arr false 5 1 l8, .arr false 5 1 l9], s⟩ k =
  lawE_a5 b_z0 b_t1 b2 v3 s4 in_m5 l6 l7 l8 l9 (fun l0 l1 l2 l3 => k .ret ⟨gp [(6, .s (.bool false))] 81, [.arr false 5 1 l0, .arr false 5 1 l1, .arr false 5 1 l2, .arr false 5 1 l3], s⟩) (fun b_z0 b_t1 b2 in_m3 b4 l5 l6 l7 l8 => k .normal ⟨gp [(0, .s (.sl b_z0 b_t1 1 b2)), (6, .fl 0), (0, .vw 0 0 in_m3), (59, .s (.bool b4))] 19, [.arr false 5 1 l5, .arr false 5 1 l6, .arr false 5 1 l7, .arr false 5 1 l8], s⟩) := by kernel_rfl

theorem lawE_a6 (b_z0 b_t1 : Bool) (b2 : LL) (in_m3 : Nat) (b4 : Bool) (l5 l6 l7 l8 : LL) : evCode (c_lawE lf) cl yh (cd [1, 1, 1, 1, 1, 1, 0, 0] b_lawE) ⟨gp [(0, .s (.sl b_z0 b_t1 1 b2)), (6, .fl 0), (0, .vw 0 0 in_m3), (59, .s (.bool b4))] 19, [.arr false 5 1 l5, .arr false 5 1 l6, .arr false 5 1 l7, .arr false 5 1 l8], s⟩ k =
  k .normal ⟨gp [(0, .s (.sl b_z0 b_t1 1 b2)), (6, .fl 0), (0, .vw 0 0 in_m3), (3, .s (.int .i64 (↑(List.length b2) : Int)))] 75, [.arr false 5 1 l5, .arr false 5 1 l6, .arr false 5 1 l7, .arr false 5 1 l8], s⟩ := by kernel_rfl

noncomputable def lawE_a7 {R : Type} (b_z0 b_t1 : Bool) (b2 : LL) (in_m3 : Nat) (i4 : Int) (l5 l6 l7 l8 : LL) (k0 : LL → LL → LL → LL → Option R) (k1 : Bool → Bool → LL → Nat → Int → LL → LL → LL → LL → Option R) (k2 : Bool → Bool → LL → Nat → LL → LL → LL → LL → Option R) : Option R :=
  cond (ltI i4 (↑(List.length l5) : Int))
  (cond (inR i4 (List.length l5))
   (cond (okE tU8 l5 (Int.toNat i4) 0)
    (cond ((gE l5 (Int.toNat i4) 0) != (7 : Int))
     (k0 l5 l6 l7 l8)
     (k1 b_z0 b_t1 b2 in_m3 (wi64 (i4 + (1 : Int))) l5 l6 l7 l8))
    (none))
   (none))
  (k2 b_z0 b_t1 b2 in_m3 l5 l6 l7 l8)

theorem lawE_a7_eq (b_z0 b_t1 : Bool) (b2 : LL) (in_m3 : Nat) (i4 : Int) (l5 l6 l7 l8 : LL) : evCode (c_lawE lf) cl yh (cd [1, 1, 1, 1, 1, 1, 0, 1, 0, 0] b_lawE) ⟨gp [(0, .s (.sl b_z0 b_t1 1 b2)), (6, .fl 0), (0, .vw 0 0 in_m3), (3, .s (.int .i64 i4))] 75, [.arr false 5 1 l5, .arr false 5 1 l6, .arr false 5 1 l7, .arr false 5 1 l8], s⟩ k =
  lawE_a7 b_z0 b_t1 b2 in_m3 i4 l5 l6 l7 l8 (fun l0 l1 l2 l3 => k .ret ⟨gp [(6, .s (.bool false))] 81, [.arr false 5 1 l0, .arr false 5 1 l1, .arr false 5 1 l2, .arr false 5 1 l3], s⟩) (fun b_z0 b_t1 b2 in_m3 i4 l5 l6 l7 l8 => k .normal ⟨gp [(0, .s (.sl b_z0 b_t1 1 b2)), (6, .fl 0), (0, .vw 0 0 in_m3), (3, .s (.int .i64 i4))] 75, [.arr false 5 1 l5, .arr false 5 1 l6, .arr false 5 1 l7, .arr false 5 1 l8], s⟩) (fun b_z0 b_t1 b2 in_m3 l4 l5 l6 l7 => k (.exit 0) ⟨gp [(0, .s (.sl b_z0 b_t1 1 b2)), (7, .vw 0 0 in_m3)] 79, [.arr false 5 1 l4, .arr false 5 1 l5, .arr false 5 1 l6, .arr false 5 1 l7], s⟩) := by kernel_rfl

theorem lawE_p9 (n : Nat) (l0 l1 l2 l3 : LL) : lpK 4 ((c_lawE lf).keep 9) (bd (c_lawE lf) cl yh (cd [1, 1, 1, 1, 1, 1, 0, 1, 0, 0] b_lawE)) n k .ret ⟨gp [(6, .s (.bool false))] 81, [.arr false 5 1 l0, .arr false 5 1 l1, .arr false 5 1 l2, .arr false 5 1 l3], s⟩ = k .ret ⟨gp [(6, .s (.bool false))] 81, [.arr false 5 1 l0, .arr false 5 1 l1, .arr false 5 1 l2, .arr false 5 1 l3], s⟩ := by kernel_rfl

theorem lawE_p10 (n : Nat) (b_z0 b_t1 : Bool) (b2 : LL) (in_m3 : Nat) (i4 : Int) (l5 l6 l7 l8 : LL) : lpK 4 ((c_lawE lf).keep 9) (bd (c_lawE lf) cl yh (cd [1, 1, 1, 1, 1, 1, 0, 1, 0, 0] b_lawE)) n k .normal ⟨gp [(0, .s (.sl b_z0 b_t1 1 b2)), (6, .fl 0), (0, .vw 0 0 in_m3), (3, .s (.int .i64 i4))] 75, [.arr false 5 1 l5, .arr false 5 1 l6, .arr false 5 1 l7, .arr false 5 1 l8], s⟩ = loopK 4 ((c_lawE lf).keep 9) (bd (c_lawE lf) cl yh (cd [1, 1, 1, 1, 1, 1, 0, 1, 0, 0] b_lawE)) n ⟨gp [(0, .s (.sl b_z0 b_t1 1 b2)), (6, .fl 0), (0, .vw 0 0 in_m3), (3, .s (.int .i64 i4))] 75, [.arr false 5 1 l5, .arr false 5 1 l6, .arr false 5 1 l7, .arr false 5 1 l8], s⟩ k := by kernel_rfl

theorem lawE_p11 (n : Nat) (b_z0 b_t1 : Bool) (b2 : LL) (in_m3 : Nat) (l4 l5 l6 l7 : LL) : lpK 4 ((c_lawE lf).keep 9) (bd (c_lawE lf) cl yh (cd [1, 1, 1, 1, 1, 1, 0, 1, 0, 0] b_lawE)) n k (.exit 0) ⟨gp [(0, .s (.sl b_z0 b_t1 1 b2)), (7, .vw 0 0 in_m3)] 79, [.arr false 5 1 l4, .arr false 5 1 l5, .arr false 5 1 l6, .arr false 5 1 l7], s⟩ = k (.exit 0) ⟨gp [(0, .s (.sl b_z0 b_t1 1 b2)), (7, .vw 0 0 in_m3)] 79, [.arr false 5 1 l4, .arr false 5 1 l5, .arr false 5 1 l6, .arr false 5 1 l7], s⟩ := by kernel_rfl

noncomputable def lawE_l8f {R : Type} (lf n : Nat) (self : Bool → Bool → LL → Nat → Int → LL → LL → LL → LL → Option R) (b_z0 b_t1 : Bool) (b2 : LL) (in_m3 : Nat) (i4 : Int) (l5 l6 l7 l8 : LL) (k0 : LL → LL → LL → LL → Option R) (k1 : Bool → Bool → LL → Nat → LL → LL → LL → LL → Option R) : Option R :=
  lawE_a7 b_z0 b_t1 b2 in_m3 i4 l5 l6 l7 l8 (fun l'35 l'36 l'37 l'38 => k0 l'35 l'36 l'37 l'38) (fun b_z'39 b_t'40 b'41 in_m'42 i'43 l'44 l'45 l'46 l'47 => self b_z'39 b_t'40 b'41 in_m'42 i'43 l'44 l'45 l'46 l'47) (fun b_z'48 b_t'49 b'50 in_m'51 l'52 l'53 l'54 l'55 => k1 b_z'48 b_t'49 b'50 in_m'51 l'52 l'53 l'54 l'55)

noncomputable def lawE_l8 {R : Type} (lf n : Nat) (b_z0 b_t1 : Bool) (b2 : LL) (in_m3 : Nat) (i4 : Int) (l5 l6 l7 l8 : LL) (k0 : LL → LL → LL → LL → Option R) (k1 : Bool → Bool → LL → Nat → LL → LL → LL → LL → Option R) : Option R :=
  recN (α := Bool → Bool → LL → Nat → Int → LL → LL → LL → LL → Option R) (fun _ _ _ _ _ _ _ _ _ => none) (fun n self b_z0 b_t1 b2 in_m3 i4 l5 l6 l7 l8 => lawE_l8f lf n self b_z0 b_t1 b2 in_m3 i4 l5 l6 l7 l8 k0 k1) n b_z0 b_t1 b2 in_m3 i4 l5 l6 l7 l8

theorem lawE_l8_s {R : Type} (lf n : Nat) (b_z0 b_t1 : Bool) (b2 : LL) (in_m3 : Nat) (i4 : Int) (l5 l6 l7 l8 : LL) (k0 : LL → LL → LL → LL → Option R) (k1 : Bool → Bool → LL → Nat → LL → LL → LL → LL → Option R) : lawE_l8 lf (n + 1) b_z0 b_t1 b2 in_m3 i4 l5 l6 l7 l8 k0 k1 = lawE_l8f lf n (fun b_z0 b_t1 b2 in_m3 i4 l5 l6 l7 l8 => lawE_l8 lf n b_z0 b_t1 b2 in_m3 i4 l5 l6 l7 l8 k0 k1) b_z0 b_t1 b2 in_m3 i4 l5 l6 l7 l8 k0 k1 := rfl

theorem lawE_l8_eq (n : Nat) (b_z0 b_t1 : Bool) (b2 : LL) (in_m3 : Nat) (i4 : Int) (l5 l6 l7 l8 : LL) : loopK 4 ((c_lawE lf).keep 9) (bd (c_lawE lf) cl yh (cd [1, 1, 1, 1, 1, 1, 0, 1, 0, 0] b_lawE)) n ⟨gp [(0, .s (.sl b_z0 b_t1 1 b2)), (6, .fl 0), (0, .vw 0 0 in_m3), (3, .s (.int .i64 i4))] 75, [.arr false 5 1 l5, .arr false 5 1 l6, .arr false 5 1 l7, .arr false 5 1 l8], s⟩ k =
  lawE_l8 lf n b_z0 b_t1 b2 in_m3 i4 l5 l6 l7 l8 (fun l0 l1 l2 l3 => k .ret ⟨gp [(6, .s (.bool false))] 81, [.arr false 5 1 l0, .arr false 5 1 l1, .arr false 5 1 l2, .arr false 5 1 l3], s⟩) (fun b_z0 b_t1 b2 in_m3 l4 l5 l6 l7 => k (.exit 0) ⟨gp [(0, .s (.sl b_z0 b_t1 1 b2)), (7, .vw 0 0 in_m3)] 79, [.arr false 5 1 l4, .arr false 5 1 l5, .arr false 5 1 l6, .arr false 5 1 l7], s⟩) := by
  induction n generalizing b_z0 b_t1 b2 in_m3 i4 l5 l6 l7 l8 with
  | zero => rfl
  | succ n ih => exact (lp_s.trans (bd_s.trans ((lawE_a7_eq lf cl yh s _ b_z0 b_t1 b2 in_m3 i4 l5 l6 l7 l8).trans (congr (congr (congr rfl (funext fun l'35 => (funext fun l'36 => (funext fun l'37 => (funext fun l'38 => (lawE_p9 lf cl yh s k n l'35 l'36 l'37 l'38)))))) (funext fun b_z'39 => (funext fun b_t'40 => (funext fun b'41 => (funext fun in_m'42 => (funext fun i'43 => (funext fun l'44 => (funext fun l'45 => (funext fun l'46 => (funext fun l'47 => ((lawE_p10 lf cl yh s k n b_z'39 b_t'40 b'41 in_m'42 i'43 l'44 l'45 l'46 l'47).trans (ih b_z'39 b_t'40 b'41 in_m'42 i'43 l'44 l'45 l'46 l'47)))))))))))) (funext fun b_z'48 => (funext fun b_t'49 => (funext fun b'50 => (funext fun in_m'51 => (funext fun l'52 => (funext fun l'53 => (funext fun l'54 => (funext fun l'55 => (lawE_p11 lf cl yh s k n b_z'48 b_t'49 b'50 in_m'51 l'52 l'53 l'54 l'55))))))))))))).trans (lawE_l8_s lf n b_z0 b_t1 b2 in_m3 i4 l5 l6 l7 l8 (fun l0 l1 l2 l3 => k .ret ⟨gp [(6, .s (.bool false))] 81, [.arr false 5 1 l0, .arr false 5 1 l1, .arr false 5 1 l2, .arr false 5 1 l3], s⟩) (fun b_z0 b_t1 b2 in_m3 l4 l5 l6 l7 => k (.exit 0) ⟨gp [(0, .s (.sl b_z0 b_t1 1 b2)), (7, .vw 0 0 in_m3)] 79, [.arr false 5 1 l4, .arr false 5 1 l5, .arr false 5 1 l6, .arr false 5 1 l7], s⟩)).symm

noncomputable def lawE_a12 {R : Type} (b2 : LL) (in_m3 : Nat) (l4 l5 l6 l7 : LL) (k0 : Bool → LL → LL → LL → LL → Option R) : Option R :=
  cond (List.all (List.take in_m3 (List.drop 0 l4)) isU8)
  (cond (List.all b2 isU8)
   (cond ((List.map elU8 (List.take in_m3 (List.drop 0 l4))) == (List.map elU8 b2))
    (k0 true l4 l5 l6 l7)
    (k0 false l4 l5 l6 l7))
   (none))
  (none)

theorem lawE_a12_eq (b_z0 b_t1 : Bool) (b2 : LL) (in_m3 : Nat) (l4 l5 l6 l7 : LL) : evCode (c_lawE lf) cl yh (cd [1, 1, 1, 1, 1, 1, 1] b_lawE) ⟨gp [(0, .s (.sl b_z0 b_t1 1 b2)), (7, .vw 0 0 in_m3)] 79, [.arr false 5 1 l4, .arr false 5 1 l5, .arr false 5 1 l6, .arr false 5 1 l7], s⟩ k =
  lawE_a12 b2 in_m3 l4 l5 l6 l7 (fun b0 l1 l2 l3 l4 => k .ret ⟨gp [(6, .s (.bool b0))] 81, [.arr false 5 1 l1, .arr false 5 1 l2, .arr false 5 1 l3, .arr false 5 1 l4], s⟩) := by kernel_rfl

theorem lawE_r13 : retK (c_lawE lf) Try.f4 .ret ⟨gp [(6, .s (.bool true))] 81, [], s⟩ = some (.s (.bool true), [], s) := by kernel_rfl

theorem lawE_r14 (l0 l1 l2 l3 : LL) : retK (c_lawE lf) Try.f4 .ret ⟨gp [(6, .s (.bool false))] 81, [.arr false 5 1 l0, .arr false 5 1 l1, .arr false 5 1 l2, .arr false 5 1 l3], s⟩ = some (.s (.bool false), [.arr false 5 1 l0, .arr false 5 1 l1, .arr false 5 1 l2, .arr false 5 1 l3], s) := by kernel_rfl

theorem lawE_r15 (l0 l1 l2 l3 : LL) : retK (c_lawE lf) Try.f4 .ret ⟨gp [(6, .s (.bool false))] 81, [.arr false 5 1 l0, .arr false 5 1 l1, .arr false 5 1 l2, .arr false 5 1 l3], s⟩ = some (.s (.bool false), [.arr false 5 1 l0, .arr false 5 1 l1, .arr false 5 1 l2, .arr false 5 1 l3], s) := by kernel_rfl

theorem lawE_r16 (b0 : Bool) (l1 l2 l3 l4 : LL) : retK (c_lawE lf) Try.f4 .ret ⟨gp [(6, .s (.bool b0))] 81, [.arr false 5 1 l1, .arr false 5 1 l2, .arr false 5 1 l3, .arr false 5 1 l4], s⟩ = some (.s (.bool b0), [.arr false 5 1 l1, .arr false 5 1 l2, .arr false 5 1 l3, .arr false 5 1 l4], s) := by kernel_rfl

noncomputable def lawE {R : Type} (lf : Nat) (b_z0 b_t1 : Bool) (b2 : LL) (v3 : Int) (s4 : By) (k0 : Unit → Option R) (k1 : Bool → LL → LL → LL → LL → Option R) : Option R :=
  lawE_a1 b_z0 b_t1 b2 v3 s4 (fun _ => k0 ()) (fun b_z'0 b_t'1 b'2 v'3 s'4 b'5 => lawE_a2 b_z'0 b_t'1 b'2 v'3 s'4 (fun b_z'6 b_t'7 b'8 v'9 s'10 l'11 => cond (sub3 (0 : Int) (↑(List.length b'8) : Int) (List.length l'11))
  (lawE_a4 b_z'6 b_t'7 b'8 v'9 s'10 ((Int.toNat (↑(List.length b'8) : Int)) - 0) l'11 (fun b_z'12 b_t'13 b'14 v'15 s'16 in_m'17 l'18 l'19 l'20 l'21 => lawE_a5 b_z'12 b_t'13 b'14 v'15 s'16 in_m'17 l'18 l'19 l'20 l'21 (fun l'22 l'23 l'24 l'25 => k1 false l'22 l'23 l'24 l'25) (fun b_z'26 b_t'27 b'28 in_m'29 b'30 l'31 l'32 l'33 l'34 => lawE_l8 lf lf b_z'26 b_t'27 b'28 in_m'29 (↑(List.length b'28) : Int) l'31 l'32 l'33 l'34 (fun l'56 l'57 l'58 l'59 => k1 false l'56 l'57 l'58 l'59) (fun b_z'60 b_t'61 b'62 in_m'63 l'64 l'65 l'66 l'67 => lawE_a12 b'62 in_m'63 l'64 l'65 l'66 l'67 (fun b'68 l'69 l'70 l'71 l'72 => k1 b'68 l'69 l'70 l'71 l'72)))))
  (none)))

theorem lawE_eq (b_z0 b_t1 : Bool) (b2 : LL) (v3 : Int) (s4 : By) : evCode (c_lawE lf) cl yh (cd [] b_lawE) ⟨[.s (.sl b_z0 b_t1 1 b2), .s (.int .u64 v3), .s (.str s4)] ++ tps 85, [], s⟩ (retK (c_lawE lf) Try.f4) = lawE lf b_z0 b_t1 b2 v3 s4 (fun _ => some (.s (.bool true), [], s)) (fun r0 l1 l2 l3 l4 => some (.s (.bool r0), [.arr false 5 1 l1, .arr false 5 1 l2, .arr false 5 1 l3, .arr false 5 1 l4], s)) :=
  ((ev_sq [] (by kernel_rfl)).trans ((lawE_a0 lf cl yh s _ b_z0 b_t1 b2 v3 s4).trans (seqK_n.trans ((ev_sq [1] (by kernel_rfl)).trans ((lawE_a1_eq lf cl yh s _ b_z0 b_t1 b2 v3 s4).trans (congr (congr rfl (funext fun _ => (seqK_r.trans (lawE_r13 lf s )))) (funext fun b_z'0 => (funext fun b_t'1 => (funext fun b'2 => (funext fun v'3 => (funext fun s'4 => (funext fun b'5 => (seqK_n.trans ((ev_sq [1, 1] (by kernel_rfl)).trans ((lawE_a2_eq lf cl yh s _ b_z'0 b_t'1 b'2 v'3 s'4 b'5).trans (congr rfl (funext fun b_z'6 => (funext fun b_t'7 => (funext fun b'8 => (funext fun v'9 => (funext fun s'10 => (funext fun l'11 => (seqK_n.trans ((ev_sq [1, 1, 1] (by kernel_rfl)).trans ((lawE_a3 lf cl yh s _ b_z'6 b_t'7 b'8 v'9 s'10 l'11).trans (cond_congr (seqK_n.trans ((ev_sq [1, 1, 1, 1] (by kernel_rfl)).trans ((lawE_a4_eq lf cl yh s _ b_z'6 b_t'7 b'8 v'9 s'10 ((Int.toNat (↑(List.length b'8) : Int)) - 0) l'11).trans (congr rfl (funext fun b_z'12 => (funext fun b_t'13 => (funext fun b'14 => (funext fun v'15 => (funext fun s'16 => (funext fun in_m'17 => (funext fun l'18 => (funext fun l'19 => (funext fun l'20 => (funext fun l'21 => (seqK_n.trans ((ev_sq [1, 1, 1, 1, 1] (by kernel_rfl)).trans ((lawE_a5_eq lf cl yh s _ b_z'12 b_t'13 b'14 v'15 s'16 in_m'17 l'18 l'19 l'20 l'21).trans (congr (congr rfl (funext fun l'22 => (funext fun l'23 => (funext fun l'24 => (funext fun l'25 => (seqK_r.trans (lawE_r14 lf s l'22 l'23 l'24 l'25))))))) (funext fun b_z'26 => (funext fun b_t'27 => (funext fun b'28 => (funext fun in_m'29 => (funext fun b'30 => (funext fun l'31 => (funext fun l'32 => (funext fun l'33 => (funext fun l'34 => (seqK_n.trans ((ev_sq [1, 1, 1, 1, 1, 1] (by kernel_rfl)).trans ((ev_sq [1, 1, 1, 1, 1, 1, 0] (by kernel_rfl)).trans ((lawE_a6 lf cl yh s _ b_z'26 b_t'27 b'28 in_m'29 b'30 l'31 l'32 l'33 l'34).trans (seqK_n.trans ((ev_bk [1, 1, 1, 1, 1, 1, 0, 1] 0 (by kernel_rfl)).trans ((ev_lp [1, 1, 1, 1, 1, 1, 0, 1, 0] (by kernel_rfl)).trans ((lawE_l8_eq lf cl yh s _ lf b_z'26 b_t'27 b'28 in_m'29 (↑(List.length b'28) : Int) l'31 l'32 l'33 l'34).trans (congr (congr rfl (funext fun l'56 => (funext fun l'57 => (funext fun l'58 => (funext fun l'59 => (blkK_r.trans (seqK_r.trans (lawE_r15 lf s l'56 l'57 l'58 l'59)))))))) (funext fun b_z'60 => (funext fun b_t'61 => (funext fun b'62 => (funext fun in_m'63 => (funext fun l'64 => (funext fun l'65 => (funext fun l'66 => (funext fun l'67 => (blkK_e.trans (seqK_n.trans ((lawE_a12_eq lf cl yh s _ b_z'60 b_t'61 b'62 in_m'63 l'64 l'65 l'66 l'67).trans (congr rfl (funext fun b'68 => (funext fun l'69 => (funext fun l'70 => (funext fun l'71 => (funext fun l'72 => (lawE_r16 lf s b'68 l'69 l'70 l'71 l'72)))))))))))))))))))))))))))))))))))))))))))))))))))))) rfl))))))))))))))))))))))))))

theorem lawE_ev (d : Nat) (b_z0 b_t1 : Bool) (b2 : LL) (v3 : Int) (s4 : By) : evC (c_lawE lf) (d + 1) σ yh 4 [.s (.sl b_z0 b_t1 1 b2), .s (.int .u64 v3), .s (.str s4)] [] s = lawE lf b_z0 b_t1 b2 v3 s4 (fun _ => some (.s (.bool true), [], s)) (fun r0 l1 l2 l3 l4 => some (.s (.bool r0), [.arr false 5 1 l1, .arr false 5 1 l2, .arr false 5 1 l3, .arr false 5 1 l4], s)) :=
  (evC_eq (fn := Try.f4) (by kernel_rfl) (by kernel_rfl) (by kernel_rfl)).trans (lawE_eq lf (evC (c_lawE lf) d) yh s b_z0 b_t1 b2 v3 s4)

end
end Go.Proofs.Ytfioahjeanmfpaa.E
