/-
  Written by a program of the prover's own and checked by the kernel: functions of the program as plain functions of their data, and what is told of them.
-/
import Derived.Test.YtfioahjeanmfpaaX3
namespace Go.Proofs.Ytfioahjeanmfpaa.E
open Go Go.Proofs
set_option linter.unusedVariables false
set_option maxRecDepth 100000
section
variable {σ R : Type} (lf : Nat) (cl : CallT) (yh : Yh σ) (s : σ) (k : Out → St σ → Option R)

/-! slices.Clone[[]byte,byte] -/
noncomputable abbrev b_clone : Code := bodyOf Try.f23
noncomputable def c_clone (lf : Nat) : Cfg := mkCfg lf [23] (lookK []) []
  (lookK [(3, [2]), (2, [2]), (1, [0, 3]), (0, [0])]) [] (lookK []) (some [2]) [] [] []

noncomputable def clone_a0 {R : Type} (s_z0 : Bool) (s2 : LL) (k0 : Bool → LL → Option R) : Option R :=
  cond s_z0
  (k0 true [])
  (cond (roomy (0 + (List.length s2)))
   (k0 false s2)
   (none))

theorem clone_a0_eq (s_z0 s_t1 : Bool) (s2 : LL) : evCode (c_clone lf) cl yh (cd [] b_clone) ⟨[.s (.sl s_z0 s_t1 1 s2)] ++ tps 7, [], s⟩ k =
  clone_a0 s_z0 s2 (fun z0 l1 => k .ret ⟨gp [(2, .fl 0)] 5, [.arr z0 5 1 l1], s⟩) := by kernel_rfl

theorem clone_r1 (z0 : Bool) (l1 : LL) : retK (c_clone lf) Try.f23 .ret ⟨gp [(2, .fl 0)] 5, [.arr z0 5 1 l1], s⟩ = some (.fl 0, [.arr z0 5 1 l1], s) := by kernel_rfl

noncomputable def clone {R : Type} (lf : Nat) (s_z0 s_t1 : Bool) (s2 : LL) (k0 : Bool → LL → Option R) : Option R :=
  clone_a0 s_z0 s2 (fun z'0 l'1 => k0 z'0 l'1)

theorem clone_eq (s_z0 s_t1 : Bool) (s2 : LL) : evCode (c_clone lf) cl yh (cd [] b_clone) ⟨[.s (.sl s_z0 s_t1 1 s2)] ++ tps 7, [], s⟩ (retK (c_clone lf) Try.f23) = clone lf s_z0 s_t1 s2 (fun z0 l1 => some (.fl 0, [.arr z0 5 1 l1], s)) :=
  ((clone_a0_eq lf cl yh s _ s_z0 s_t1 s2).trans (congr rfl (funext fun z'0 => (funext fun l'1 => (clone_r1 lf s z'0 l'1)))))

theorem clone_ev (d : Nat) (s_z0 s_t1 : Bool) (s2 : LL) : evC (c_clone lf) (d + 1) σ yh 23 [.s (.sl s_z0 s_t1 1 s2)] [] s = clone lf s_z0 s_t1 s2 (fun z0 l1 => some (.fl 0, [.arr z0 5 1 l1], s)) :=
  (evC_eq (fn := Try.f23) (by kernel_rfl) (by kernel_rfl) (by kernel_rfl)).trans (clone_eq lf (evC (c_clone lf) d) yh s s_z0 s_t1 s2)

/-! hstsstore/hstsstorekeep.Bytes -/
noncomputable abbrev b_kbytes : Code := bodyOf Try.f9
noncomputable def c_kbytes (lf : Nat) : Cfg := mkCfg lf [9] (lookK []) []
  (lookK [(1, [4]), (0, [0, 0])]) [] (lookK []) (some [4]) [] [] []

noncomputable def kbytes_a0 {R : Type} (a2 b5 : LL) (k0 : Bool → Option R) : Option R :=
  cond (List.all a2 isU8)
  (cond (List.all b5 isU8)
   (k0 ((List.map elU8 a2) == (List.map elU8 b5)))
   (none))
  (none)

theorem kbytes_a0_eq (a_z0 a_t1 : Bool) (a2 : LL) (b_z3 b_t4 : Bool) (b5 : LL) : evCode (c_kbytes lf) cl yh (cd [] b_kbytes) ⟨[.s (.sl a_z0 a_t1 1 a2), .s (.sl b_z3 b_t4 1 b5)] ++ tps 8, [], s⟩ k =
  kbytes_a0 a2 b5 (fun b0 => k .ret ⟨gp [(4, .s (.bool b0))] 5, [], s⟩) := by kernel_rfl

theorem kbytes_r1 (b0 : Bool) : retK (c_kbytes lf) Try.f9 .ret ⟨gp [(4, .s (.bool b0))] 5, [], s⟩ = some (.s (.bool b0), [], s) := by kernel_rfl

noncomputable def kbytes {R : Type} (lf : Nat) (a_z0 a_t1 : Bool) (a2 : LL) (b_z3 b_t4 : Bool) (b5 : LL) (k0 : Bool → Option R) : Option R :=
  kbytes_a0 a2 b5 (fun b'0 => k0 b'0)

theorem kbytes_eq (a_z0 a_t1 : Bool) (a2 : LL) (b_z3 b_t4 : Bool) (b5 : LL) : evCode (c_kbytes lf) cl yh (cd [] b_kbytes) ⟨[.s (.sl a_z0 a_t1 1 a2), .s (.sl b_z3 b_t4 1 b5)] ++ tps 8, [], s⟩ (retK (c_kbytes lf) Try.f9) = kbytes lf a_z0 a_t1 a2 b_z3 b_t4 b5 (fun r0 => some (.s (.bool r0), [], s)) :=
  ((kbytes_a0_eq lf cl yh s _ a_z0 a_t1 a2 b_z3 b_t4 b5).trans (congr rfl (funext fun b'0 => (kbytes_r1 lf s b'0))))

theorem kbytes_ev (d : Nat) (a_z0 a_t1 : Bool) (a2 : LL) (b_z3 b_t4 : Bool) (b5 : LL) : evC (c_kbytes lf) (d + 1) σ yh 9 [.s (.sl a_z0 a_t1 1 a2), .s (.sl b_z3 b_t4 1 b5)] [] s = kbytes lf a_z0 a_t1 a2 b_z3 b_t4 b5 (fun r0 => some (.s (.bool r0), [], s)) :=
  (evC_eq (fn := Try.f9) (by kernel_rfl) (by kernel_rfl) (by kernel_rfl)).trans (kbytes_eq lf (evC (c_kbytes lf) d) yh s a_z0 a_t1 a2 b_z3 b_t4 b5)

/-! hstsstore/wire.AppendUint -/
noncomputable abbrev b_app : Code := bodyOf Try.f8
noncomputable def c_app (lf : Nat) : Cfg := mkCfg lf [8] (lookK [(2, [1, 2, 0])]) [(23, X_clone)]
  (lookK [(5, [4]), (3, [1, 3]), (4, [1, 3]), (2, [1, 3, 3]), (1, [1, 3]), (0, [0, 0])]) [] (lookK [(0, [1, 3]), (1, [1, 3])]) (some [4]) [] [] []

theorem app_a0 (b_z0 b_t1 : Bool) (b2 : LL) (v3 : Int) : evCode (c_app lf) cl yh (cd [0] b_app) ⟨[.s (.sl b_z0 b_t1 1 b2), .s (.int .u64 v3)] ++ tps 21, [], s⟩ k =
  k .normal ⟨gp [(0, .s (.sl b_z0 b_t1 1 b2)), (0, .s (.int .u64 v3))] 21, [], s⟩ := by kernel_rfl

noncomputable def app_a1 {R : Type} (b_z0 : Bool) (b2 : LL) (v3 : Int) (k0 : Int → Bool → LL → Option R) : Option R :=
  cond ((List.isEmpty b2) || (not b_z0))
  (cond (roomy (List.length b2))
   (k0 v3 b_z0 b2)
   (none))
  (none)

theorem app_a1_eq (b_z0 b_t1 : Bool) (b2 : LL) (v3 : Int) : evCode (c_app lf) cl yh (cd [1, 0] b_app) ⟨gp [(0, .s (.sl b_z0 b_t1 1 b2)), (0, .s (.int .u64 v3))] 21, [], s⟩ k =
  app_a1 b_z0 b2 v3 (fun v0 z1 l2 => k .normal ⟨gp [(1, .s (.int .u64 v0)), (3, .fl 0)] 17, [.arr z1 5 1 l2], s⟩) := by kernel_rfl

noncomputable def app_a2 {R : Type} (v0 : Int) (z1 : Bool) (l2 : LL) (k0 : Int → Bool → LL → Option R) (k1 : Int → Bool → LL → Option R) : Option R :=
  cond (not (ltI v0 (128 : Int)))
  (cond (roomy ((List.length l2) + 1))
   (k0 (shrI .u64 v0 (7 : Int)) z1 (l2 ++ [[(SV.int .u8 (bOr .u8 (wu8 v0) (128 : Int)))]]))
   (none))
  (k1 v0 z1 l2)

theorem app_a2_eq (v0 : Int) (z1 : Bool) (l2 : LL) : evCode (c_app lf) cl yh (cd [1, 1, 0, 0, 0] b_app) ⟨gp [(1, .s (.int .u64 v0)), (3, .fl 0)] 17, [.arr z1 5 1 l2], s⟩ k =
  app_a2 v0 z1 l2 (fun v0 z1 l2 => k .normal ⟨gp [(1, .s (.int .u64 v0)), (3, .fl 0)] 17, [.arr z1 5 1 l2], s⟩) (fun v0 z1 l2 => k (.exit 0) ⟨gp [(1, .s (.int .u64 v0)), (3, .fl 0)] 17, [.arr z1 5 1 l2], s⟩) := by kernel_rfl

theorem app_p4 (n : Nat) (v0 : Int) (z1 : Bool) (l2 : LL) : lpK 1 ((c_app lf).keep 2) (bd (c_app lf) cl yh (cd [1, 1, 0, 0, 0] b_app)) n k .normal ⟨gp [(1, .s (.int .u64 v0)), (3, .fl 0)] 17, [.arr z1 5 1 l2], s⟩ = loopK 1 ((c_app lf).keep 2) (bd (c_app lf) cl yh (cd [1, 1, 0, 0, 0] b_app)) n ⟨gp [(1, .s (.int .u64 v0)), (3, .fl 0)] 17, [.arr z1 5 1 l2], s⟩ k := by kernel_rfl

theorem app_p5 (n : Nat) (v0 : Int) (z1 : Bool) (l2 : LL) : lpK 1 ((c_app lf).keep 2) (bd (c_app lf) cl yh (cd [1, 1, 0, 0, 0] b_app)) n k (.exit 0) ⟨gp [(1, .s (.int .u64 v0)), (3, .fl 0)] 17, [.arr z1 5 1 l2], s⟩ = k (.exit 0) ⟨gp [(1, .s (.int .u64 v0)), (3, .fl 0)] 17, [.arr z1 5 1 l2], s⟩ := by kernel_rfl

noncomputable def app_l3f {R : Type} (lf n : Nat) (self : Int → Bool → LL → Option R) (v0 : Int) (z1 : Bool) (l2 : LL) (k0 : Int → Bool → LL → Option R) : Option R :=
  app_a2 v0 z1 l2 (fun v'3 z'4 l'5 => self v'3 z'4 l'5) (fun v'6 z'7 l'8 => k0 v'6 z'7 l'8)

noncomputable def app_l3 {R : Type} (lf n : Nat) (v0 : Int) (z1 : Bool) (l2 : LL) (k0 : Int → Bool → LL → Option R) : Option R :=
  recN (α := Int → Bool → LL → Option R) (fun _ _ _ => none) (fun n self v0 z1 l2 => app_l3f lf n self v0 z1 l2 k0) n v0 z1 l2

theorem app_l3_s {R : Type} (lf n : Nat) (v0 : Int) (z1 : Bool) (l2 : LL) (k0 : Int → Bool → LL → Option R) : app_l3 lf (n + 1) v0 z1 l2 k0 = app_l3f lf n (fun v0 z1 l2 => app_l3 lf n v0 z1 l2 k0) v0 z1 l2 k0 := rfl

theorem app_l3_eq (n : Nat) (v0 : Int) (z1 : Bool) (l2 : LL) : loopK 1 ((c_app lf).keep 2) (bd (c_app lf) cl yh (cd [1, 1, 0, 0, 0] b_app)) n ⟨gp [(1, .s (.int .u64 v0)), (3, .fl 0)] 17, [.arr z1 5 1 l2], s⟩ k =
  app_l3 lf n v0 z1 l2 (fun v0 z1 l2 => k (.exit 0) ⟨gp [(1, .s (.int .u64 v0)), (3, .fl 0)] 17, [.arr z1 5 1 l2], s⟩) := by
  induction n generalizing v0 z1 l2 with
  | zero => rfl
  | succ n ih => exact (lp_s.trans (bd_s.trans ((app_a2_eq lf cl yh s _ v0 z1 l2).trans (congr (congr rfl (funext fun v'3 => (funext fun z'4 => (funext fun l'5 => ((app_p4 lf cl yh s k n v'3 z'4 l'5).trans (ih v'3 z'4 l'5)))))) (funext fun v'6 => (funext fun z'7 => (funext fun l'8 => (app_p5 lf cl yh s k n v'6 z'7 l'8)))))))).trans (app_l3_s lf n v0 z1 l2 (fun v0 z1 l2 => k (.exit 0) ⟨gp [(1, .s (.int .u64 v0)), (3, .fl 0)] 17, [.arr z1 5 1 l2], s⟩)).symm

theorem app_a6 (v0 : Int) (z1 : Bool) (l2 : LL) : evCode (c_app lf) cl yh (cd [1, 1, 1] b_app) ⟨gp [(1, .s (.int .u64 v0)), (3, .fl 0)] 17, [.arr z1 5 1 l2], s⟩ k =
  cond (roomy ((List.length l2) + 1))
  (k .ret ⟨gp [(4, .fl 0)] 18, [.arr z1 5 1 (l2 ++ [[(SV.int .u8 (wu8 v0))]])], s⟩)
  (none) := by kernel_rfl

theorem app_r7 (z0 : Bool) (l1 : LL) : retK (c_app lf) Try.f8 .ret ⟨gp [(4, .fl 0)] 18, [.arr z0 5 1 l1], s⟩ = some (.fl 0, [.arr z0 5 1 l1], s) := by kernel_rfl

noncomputable def app {R : Type} (lf : Nat) (b_z0 b_t1 : Bool) (b2 : LL) (v3 : Int) (k0 : Bool → LL → Option R) : Option R :=
  app_a1 b_z0 b2 v3 (fun v'0 z'1 l'2 => app_l3 lf lf v'0 z'1 l'2 (fun v'9 z'10 l'11 => cond (roomy ((List.length l'11) + 1))
  (k0 z'10 (l'11 ++ [[(SV.int .u8 (wu8 v'9))]]))
  (none)))

theorem app_eq (b_z0 b_t1 : Bool) (b2 : LL) (v3 : Int) : evCode (c_app lf) cl yh (cd [] b_app) ⟨[.s (.sl b_z0 b_t1 1 b2), .s (.int .u64 v3)] ++ tps 21, [], s⟩ (retK (c_app lf) Try.f8) = app lf b_z0 b_t1 b2 v3 (fun z0 l1 => some (.fl 0, [.arr z0 5 1 l1], s)) :=
  ((ev_sq [] (by kernel_rfl)).trans ((app_a0 lf cl yh s _ b_z0 b_t1 b2 v3).trans (seqK_n.trans ((ev_sq [1] (by kernel_rfl)).trans ((app_a1_eq lf cl yh s _ b_z0 b_t1 b2 v3).trans (congr rfl (funext fun v'0 => (funext fun z'1 => (funext fun l'2 => (seqK_n.trans ((ev_sq [1, 1] (by kernel_rfl)).trans ((ev_bk [1, 1, 0] 0 (by kernel_rfl)).trans ((ev_lp [1, 1, 0, 0] (by kernel_rfl)).trans ((app_l3_eq lf cl yh s _ lf v'0 z'1 l'2).trans (congr rfl (funext fun v'9 => (funext fun z'10 => (funext fun l'11 => (blkK_e.trans (seqK_n.trans ((app_a6 lf cl yh s _ v'9 z'10 l'11).trans (cond_congr (app_r7 lf s z'10 (l'11 ++ [[(SV.int .u8 (wu8 v'9))]])) rfl))))))))))))))))))))))

theorem app_ev (d : Nat) (b_z0 b_t1 : Bool) (b2 : LL) (v3 : Int) : evC (c_app lf) (d + 1) σ yh 8 [.s (.sl b_z0 b_t1 1 b2), .s (.int .u64 v3)] [] s = app lf b_z0 b_t1 b2 v3 (fun z0 l1 => some (.fl 0, [.arr z0 5 1 l1], s)) :=
  (evC_eq (fn := Try.f8) (by kernel_rfl) (by kernel_rfl) (by kernel_rfl)).trans (app_eq lf (evC (c_app lf) d) yh s b_z0 b_t1 b2 v3)

/-! hstsstore/wire.AppendText -/
noncomputable abbrev b_apptext : Code := bodyOf Try.f12
noncomputable def c_apptext (lf : Nat) : Cfg := mkCfg lf [12] (lookK []) [(8, X_app)]
  (lookK [(1, [4]), (0, [0, 0])]) [] (lookK []) (some [4]) [] [] []

noncomputable def apptext_a0 {R : Type} (b_z0 : Bool) (b2 : LL) (s3 : By) (k0 : Bool → LL → Option R) : Option R :=
  cond ((List.isEmpty b2) || (not b_z0))
  (cond (small (List.length b2))
   (cond (u64ok (wu64 (↑(List.length s3) : Int)))
    (cond (roomy ((List.length (b2 ++ (encB (Int.toNat (wu64 (↑(List.length s3) : Int)))))) + (List.length (List.map u8el s3))))
     (k0 b_z0 ((b2 ++ (encB (Int.toNat (wu64 (↑(List.length s3) : Int))))) ++ (List.map u8el s3)))
     (none))
    (none))
   (none))
  (none)

theorem apptext_a0_eq (b_z0 b_t1 : Bool) (b2 : LL) (s3 : By) : evCode (c_apptext lf) cl yh (cd [] b_apptext) ⟨[.s (.sl b_z0 b_t1 1 b2), .s (.str s3)] ++ tps 10, [], s⟩ k =
  apptext_a0 b_z0 b2 s3 (fun z0 l1 => k .ret ⟨gp [(4, .fl 0)] 7, [.arr z0 5 1 l1], s⟩) := by kernel_rfl

theorem apptext_r1 (z0 : Bool) (l1 : LL) : retK (c_apptext lf) Try.f12 .ret ⟨gp [(4, .fl 0)] 7, [.arr z0 5 1 l1], s⟩ = some (.fl 0, [.arr z0 5 1 l1], s) := by kernel_rfl

noncomputable def apptext {R : Type} (lf : Nat) (b_z0 b_t1 : Bool) (b2 : LL) (s3 : By) (k0 : Bool → LL → Option R) : Option R :=
  apptext_a0 b_z0 b2 s3 (fun z'0 l'1 => k0 z'0 l'1)

theorem apptext_eq (b_z0 b_t1 : Bool) (b2 : LL) (s3 : By) : evCode (c_apptext lf) cl yh (cd [] b_apptext) ⟨[.s (.sl b_z0 b_t1 1 b2), .s (.str s3)] ++ tps 10, [], s⟩ (retK (c_apptext lf) Try.f12) = apptext lf b_z0 b_t1 b2 s3 (fun z0 l1 => some (.fl 0, [.arr z0 5 1 l1], s)) :=
  ((apptext_a0_eq lf cl yh s _ b_z0 b_t1 b2 s3).trans (congr rfl (funext fun z'0 => (funext fun l'1 => (apptext_r1 lf s z'0 l'1)))))

theorem apptext_ev (d : Nat) (b_z0 b_t1 : Bool) (b2 : LL) (s3 : By) : evC (c_apptext lf) (d + 1) σ yh 12 [.s (.sl b_z0 b_t1 1 b2), .s (.str s3)] [] s = apptext lf b_z0 b_t1 b2 s3 (fun z0 l1 => some (.fl 0, [.arr z0 5 1 l1], s)) :=
  (evC_eq (fn := Try.f12) (by kernel_rfl) (by kernel_rfl) (by kernel_rfl)).trans (apptext_eq lf (evC (c_apptext lf) d) yh s b_z0 b_t1 b2 s3)

/-! hstsstore/wire.Uint -/
noncomputable abbrev b_wuint : Code := bodyOf Try.f17
noncomputable def c_wuint (lf : Nat) : Cfg := mkCfg lf [17] (lookK [(3, [0, 1, 0, 0, 0, 2])]) []
  (lookK [(15, [2, 0, 0]), (14, [0, 4, 2]), (13, [2, 0, 0]), (12, [2, 0, 0]), (11, [5, 0, 46]), (10, [0, 4, 0, 1, 35]), (9, [0, 4, 0, 1]), (8, [0, 4, 0, 0, 0, 24]), (7, [0, 4, 0, 0, 0]), (6, [2, 0, 0]), (5, [0, 4, 0, 1, 5]), (4, [0, 4, 0, 1]), (3, [0, 4, 2, 0]), (2, [0, 4, 2]), (1, [0, 4]), (0, [0])]) [] (lookK [(0, []), (1, [0, 4, 2])]) (some [2, 0, 0]) [] [] []

theorem wuint_a0 (b_z0 b_t1 : Bool) (b2 : LL) : evCode (c_wuint lf) cl yh (cd [0] b_wuint) ⟨[.s (.sl b_z0 b_t1 1 b2)] ++ tps 57, [], s⟩ k =
  k .normal ⟨gp [(0, .s (.sl b_z0 b_t1 1 b2))] 57, [], s⟩ := by kernel_rfl

theorem wuint_a1 (b_z0 b_t1 : Bool) (b2 : LL) : evCode (c_wuint lf) cl yh (cd [1, 0] b_wuint) ⟨gp [(0, .s (.sl b_z0 b_t1 1 b2))] 57, [], s⟩ k =
  k .normal ⟨gp [(0, .s (.sl b_z0 b_t1 1 b2)), (4, .s (.int .u64 (0 : Int)))] 52, [], s⟩ := by kernel_rfl

theorem wuint_a2 (b_z0 b_t1 : Bool) (b2 : LL) : evCode (c_wuint lf) cl yh (cd [1, 1, 0, 0] b_wuint) ⟨gp [(0, .s (.sl b_z0 b_t1 1 b2)), (4, .s (.int .u64 (0 : Int)))] 52, [], s⟩ k =
  k .normal ⟨gp [(0, .s (.sl b_z0 b_t1 1 b2)), (4, .s (.int .u64 (0 : Int))), (2, .s (.int .i64 (0 : Int)))] 49, [], s⟩ := by kernel_rfl

theorem wuint_a3 (b_z0 b_t1 : Bool) (b2 : LL) (v3 n4 : Int) : evCode (c_wuint lf) cl yh (cd [1, 1, 0, 1, 0, 0, 0] b_wuint) ⟨gp [(0, .s (.sl b_z0 b_t1 1 b2)), (4, .s (.int .u64 v3)), (2, .s (.int .i64 n4))] 49, [], s⟩ k =
  k .normal ⟨gp [(0, .s (.sl b_z0 b_t1 1 b2)), (4, .s (.int .u64 v3)), (2, .s (.int .i64 n4)), (0, .s (.bool (ltI n4 (10 : Int))))] 48, [], s⟩ := by kernel_rfl

theorem wuint_a4 (b_z0 b_t1 : Bool) (b2 : LL) (v3 n4 : Int) (b5 : Bool) : evCode (c_wuint lf) cl yh (cd [1, 1, 0, 1, 0, 0, 1, 0] b_wuint) ⟨gp [(0, .s (.sl b_z0 b_t1 1 b2)), (4, .s (.int .u64 v3)), (2, .s (.int .i64 n4)), (0, .s (.bool b5))] 48, [], s⟩ k =
  cond b5
  (k .normal ⟨gp [(0, .s (.sl b_z0 b_t1 1 b2)), (4, .s (.int .u64 v3)), (2, .s (.int .i64 n4)), (0, .s (.bool b5))] 48, [], s⟩)
  (k (.exit 0) ⟨gp [] 58, [], s⟩) := by kernel_rfl

theorem wuint_a5 (b_z0 b_t1 : Bool) (b2 : LL) (v3 n4 : Int) (b5 : Bool) : evCode (c_wuint lf) cl yh (cd [1, 1, 0, 1, 0, 0, 1, 1, 0, 0, 0] b_wuint) ⟨gp [(0, .s (.sl b_z0 b_t1 1 b2)), (4, .s (.int .u64 v3)), (2, .s (.int .i64 n4)), (0, .s (.bool b5))] 48, [], s⟩ k =
  k .normal ⟨gp [(0, .s (.sl b_z0 b_t1 1 b2)), (4, .s (.int .u64 v3)), (0, .s (.int .i64 n4)), (1, .s (.int .i64 n4))] 49, [], s⟩ := by kernel_rfl

theorem wuint_a6 (b_z0 b_t1 : Bool) (b2 : LL) (v3 i4 : Int) : evCode (c_wuint lf) cl yh (cd [1, 1, 0, 1, 0, 0, 1, 1, 0, 0, 1, 0] b_wuint) ⟨gp [(0, .s (.sl b_z0 b_t1 1 b2)), (4, .s (.int .u64 v3)), (0, .s (.int .i64 i4)), (1, .s (.int .i64 i4))] 49, [], s⟩ k =
  cond (i4 == (↑(List.length b2) : Int))
  (k .ret ⟨gp [(2, .s (.int .u64 (0 : Int))), (0, .s (.int .i64 (0 : Int))), (0, .s (.int .i64 (5 : Int)))] 53, [], s⟩)
  (k .normal ⟨gp [(0, .s (.sl b_z0 b_t1 1 b2)), (4, .s (.int .u64 v3)), (0, .s (.int .i64 i4)), (1, .s (.int .i64 i4)), (5, .s (.bool (i4 == (↑(List.length b2) : Int))))] 43, [], s⟩) := by kernel_rfl

noncomputable def wuint_a7 {R : Type} (b_z0 b_t1 : Bool) (b2 : LL) (v3 i4 : Int) (k0 : Bool → Bool → LL → Int → Int → Int → Option R) : Option R :=
  cond (inR i4 (List.length b2))
  (cond (okE tU8 b2 (Int.toNat i4) 0)
   (k0 b_z0 b_t1 b2 v3 i4 (wu64 (bAnd .u8 (gE b2 (Int.toNat i4) 0) (127 : Int))))
   (none))
  (none)

theorem wuint_a7_eq (b_z0 b_t1 : Bool) (b2 : LL) (v3 i4 : Int) (b5 : Bool) : evCode (c_wuint lf) cl yh (cd [1, 1, 0, 1, 0, 0, 1, 1, 0, 0, 1, 1, 0] b_wuint) ⟨gp [(0, .s (.sl b_z0 b_t1 1 b2)), (4, .s (.int .u64 v3)), (0, .s (.int .i64 i4)), (1, .s (.int .i64 i4)), (5, .s (.bool b5))] 43, [], s⟩ k =
  wuint_a7 b_z0 b_t1 b2 v3 i4 (fun b_z0 b_t1 b2 v3 i4 part5 => k .normal ⟨gp [(0, .s (.sl b_z0 b_t1 1 b2)), (4, .s (.int .u64 v3)), (0, .s (.int .i64 i4)), (0, .s (.int .u64 part5)), (0, .s (.int .i64 i4))] 49, [], s⟩) := by kernel_rfl

noncomputable def wuint_a8 {R : Type} (b_z0 b_t1 : Bool) (b2 : LL) (v3 i4 part5 : Int) (k0 : Unit → Option R) (k1 : Bool → Bool → LL → Int → Int → Int → Bool → Option R) : Option R :=
  cond (i4 == (9 : Int))
  (cond (inR i4 (List.length b2))
   (cond (okE tU8 b2 (Int.toNat i4) 0)
    (cond (not (ltI (gE b2 (Int.toNat i4) 0) (128 : Int)))
     (k0 ())
     (cond (ltI (1 : Int) part5)
      (k0 ())
      (k1 b_z0 b_t1 b2 v3 i4 part5 (ltI (1 : Int) part5))))
    (none))
   (none))
  (k1 b_z0 b_t1 b2 v3 i4 part5 false)

theorem wuint_a8_eq (b_z0 b_t1 : Bool) (b2 : LL) (v3 i4 part5 : Int) : evCode (c_wuint lf) cl yh (cd [1, 1, 0, 1, 0, 0, 1, 1, 0, 0, 1, 1, 1, 0] b_wuint) ⟨gp [(0, .s (.sl b_z0 b_t1 1 b2)), (4, .s (.int .u64 v3)), (0, .s (.int .i64 i4)), (0, .s (.int .u64 part5)), (0, .s (.int .i64 i4))] 49, [], s⟩ k =
  wuint_a8 b_z0 b_t1 b2 v3 i4 part5 (fun _ => k (.exit 0) ⟨gp [] 58, [], s⟩) (fun b_z0 b_t1 b2 v3 i4 part5 b6 => k .normal ⟨gp [(0, .s (.sl b_z0 b_t1 1 b2)), (4, .s (.int .u64 v3)), (0, .s (.int .i64 i4)), (0, .s (.int .u64 part5)), (0, .s (.int .i64 i4)), (24, .s (.bool b6))] 24, [], s⟩) := by kernel_rfl

noncomputable def wuint_a9 {R : Type} (b_z0 b_t1 : Bool) (b2 : LL) (v3 i4 part5 : Int) (k0 : Int → Int → Int → Option R) (k1 : Bool → Bool → LL → Int → Int → Bool → Option R) : Option R :=
  cond (decide ((0 : Int) ≤ (wi64 ((7 : Int) * i4))))
  (cond (inR i4 (List.length b2))
   (cond (okE tU8 b2 (Int.toNat i4) 0)
    (cond (ltI (gE b2 (Int.toNat i4) 0) (128 : Int))
     (cond (ltI (0 : Int) i4)
      (cond (inR i4 (List.length b2))
       (cond (okE tU8 b2 (Int.toNat i4) 0)
        (cond ((gE b2 (Int.toNat i4) 0) == (0 : Int))
         (k0 0 0 6)
         (k0 (bOr .u64 v3 (shlI .u64 part5 (wi64 ((7 : Int) * i4)))) (wi64 (i4 + (1 : Int))) 0))
        (none))
       (none))
      (k0 (bOr .u64 v3 (shlI .u64 part5 (wi64 ((7 : Int) * i4)))) (wi64 (i4 + (1 : Int))) 0))
     (k1 b_z0 b_t1 b2 (bOr .u64 v3 (shlI .u64 part5 (wi64 ((7 : Int) * i4)))) i4 (ltI (gE b2 (Int.toNat i4) 0) (128 : Int))))
    (none))
   (none))
  (none)

theorem wuint_a9_eq (b_z0 b_t1 : Bool) (b2 : LL) (v3 i4 part5 : Int) (b6 : Bool) : evCode (c_wuint lf) cl yh (cd [1, 1, 0, 1, 0, 0, 1, 1, 0, 0, 1, 1, 1, 1] b_wuint) ⟨gp [(0, .s (.sl b_z0 b_t1 1 b2)), (4, .s (.int .u64 v3)), (0, .s (.int .i64 i4)), (0, .s (.int .u64 part5)), (0, .s (.int .i64 i4)), (24, .s (.bool b6))] 24, [], s⟩ k =
  wuint_a9 b_z0 b_t1 b2 v3 i4 part5 (fun n0 n1 n2 => k .ret ⟨gp [(2, .s (.int .u64 n0)), (0, .s (.int .i64 n1)), (0, .s (.int .i64 n2))] 53, [], s⟩) (fun b_z0 b_t1 b2 v3 i4 b5 => k .normal ⟨gp [(0, .s (.sl b_z0 b_t1 1 b2)), (4, .s (.int .u64 v3)), (0, .s (.int .i64 i4)), (1, .s (.int .i64 i4)), (35, .s (.bool b5))] 13, [], s⟩) := by kernel_rfl

theorem wuint_a10 (b_z0 b_t1 : Bool) (b2 : LL) (v3 i4 : Int) (b5 : Bool) : evCode (c_wuint lf) cl yh (cd [1, 1, 0, 1, 0, 0, 1, 1, 1] b_wuint) ⟨gp [(0, .s (.sl b_z0 b_t1 1 b2)), (4, .s (.int .u64 v3)), (0, .s (.int .i64 i4)), (1, .s (.int .i64 i4)), (35, .s (.bool b5))] 13, [], s⟩ k =
  k .normal ⟨gp [(0, .s (.sl b_z0 b_t1 1 b2)), (4, .s (.int .u64 v3)), (2, .s (.int .i64 (wi64 (i4 + (1 : Int)))))] 49, [], s⟩ := by kernel_rfl

theorem wuint_p12 (n : Nat) : lpK 0 ((c_wuint lf).keep 3) (bd (c_wuint lf) cl yh (cd [1, 1, 0, 1, 0, 0] b_wuint)) n k .ret ⟨gp [(2, .s (.int .u64 (0 : Int))), (0, .s (.int .i64 (0 : Int))), (0, .s (.int .i64 (5 : Int)))] 53, [], s⟩ = k .ret ⟨gp [(2, .s (.int .u64 (0 : Int))), (0, .s (.int .i64 (0 : Int))), (0, .s (.int .i64 (5 : Int)))] 53, [], s⟩ := by kernel_rfl

theorem wuint_p13 (n : Nat) : lpK 0 ((c_wuint lf).keep 3) (bd (c_wuint lf) cl yh (cd [1, 1, 0, 1, 0, 0] b_wuint)) n k (.exit 0) ⟨gp [] 58, [], s⟩ = k (.exit 0) ⟨gp [] 58, [], s⟩ := by kernel_rfl

theorem wuint_p14 (n : Nat) (n0 n1 n2 : Int) : lpK 0 ((c_wuint lf).keep 3) (bd (c_wuint lf) cl yh (cd [1, 1, 0, 1, 0, 0] b_wuint)) n k .ret ⟨gp [(2, .s (.int .u64 n0)), (0, .s (.int .i64 n1)), (0, .s (.int .i64 n2))] 53, [], s⟩ = k .ret ⟨gp [(2, .s (.int .u64 n0)), (0, .s (.int .i64 n1)), (0, .s (.int .i64 n2))] 53, [], s⟩ := by kernel_rfl

theorem wuint_p15 (n : Nat) (b_z0 b_t1 : Bool) (b2 : LL) (v3 n4 : Int) : lpK 0 ((c_wuint lf).keep 3) (bd (c_wuint lf) cl yh (cd [1, 1, 0, 1, 0, 0] b_wuint)) n k .normal ⟨gp [(0, .s (.sl b_z0 b_t1 1 b2)), (4, .s (.int .u64 v3)), (2, .s (.int .i64 n4))] 49, [], s⟩ = loopK 0 ((c_wuint lf).keep 3) (bd (c_wuint lf) cl yh (cd [1, 1, 0, 1, 0, 0] b_wuint)) n ⟨gp [(0, .s (.sl b_z0 b_t1 1 b2)), (4, .s (.int .u64 v3)), (2, .s (.int .i64 n4))] 49, [], s⟩ k := by kernel_rfl

theorem wuint_p16 (n : Nat) : lpK 0 ((c_wuint lf).keep 3) (bd (c_wuint lf) cl yh (cd [1, 1, 0, 1, 0, 0] b_wuint)) n k (.exit 0) ⟨gp [] 58, [], s⟩ = k (.exit 0) ⟨gp [] 58, [], s⟩ := by kernel_rfl

noncomputable def wuint_l11f {R : Type} (lf n : Nat) (self : Bool → Bool → LL → Int → Int → Option R) (b_z0 b_t1 : Bool) (b2 : LL) (v3 n4 : Int) (k0 : Int → Int → Int → Option R) (k1 : Unit → Option R) : Option R :=
  cond (ltI n4 (10 : Int))
  (cond (n4 == (↑(List.length b2) : Int))
  (k0 0 0 5)
  (wuint_a7 b_z0 b_t1 b2 v3 n4 (fun b_z'0 b_t'1 b'2 v'3 i'4 part'5 => wuint_a8 b_z'0 b_t'1 b'2 v'3 i'4 part'5 (fun _ => k1 ()) (fun b_z'6 b_t'7 b'8 v'9 i'10 part'11 b'12 => wuint_a9 b_z'6 b_t'7 b'8 v'9 i'10 part'11 (fun n'13 n'14 n'15 => k0 n'13 n'14 n'15) (fun b_z'16 b_t'17 b'18 v'19 i'20 b'21 => self b_z'16 b_t'17 b'18 v'19 (wi64 (i'20 + (1 : Int))))))))
  (k1 ())

noncomputable def wuint_l11 {R : Type} (lf n : Nat) (b_z0 b_t1 : Bool) (b2 : LL) (v3 n4 : Int) (k0 : Int → Int → Int → Option R) (k1 : Unit → Option R) : Option R :=
  recN (α := Bool → Bool → LL → Int → Int → Option R) (fun _ _ _ _ _ => none) (fun n self b_z0 b_t1 b2 v3 n4 => wuint_l11f lf n self b_z0 b_t1 b2 v3 n4 k0 k1) n b_z0 b_t1 b2 v3 n4

theorem wuint_l11_s {R : Type} (lf n : Nat) (b_z0 b_t1 : Bool) (b2 : LL) (v3 n4 : Int) (k0 : Int → Int → Int → Option R) (k1 : Unit → Option R) : wuint_l11 lf (n + 1) b_z0 b_t1 b2 v3 n4 k0 k1 = wuint_l11f lf n (fun b_z0 b_t1 b2 v3 n4 => wuint_l11 lf n b_z0 b_t1 b2 v3 n4 k0 k1) b_z0 b_t1 b2 v3 n4 k0 k1 := rfl

theorem wuint_l11_eq (n : Nat) (b_z0 b_t1 : Bool) (b2 : LL) (v3 n4 : Int) : loopK 0 ((c_wuint lf).keep 3) (bd (c_wuint lf) cl yh (cd [1, 1, 0, 1, 0, 0] b_wuint)) n ⟨gp [(0, .s (.sl b_z0 b_t1 1 b2)), (4, .s (.int .u64 v3)), (2, .s (.int .i64 n4))] 49, [], s⟩ k =
  wuint_l11 lf n b_z0 b_t1 b2 v3 n4 (fun n0 n1 n2 => k .ret ⟨gp [(2, .s (.int .u64 n0)), (0, .s (.int .i64 n1)), (0, .s (.int .i64 n2))] 53, [], s⟩) (fun _ => k (.exit 0) ⟨gp [] 58, [], s⟩) := by
  induction n generalizing b_z0 b_t1 b2 v3 n4 with
  | zero => rfl
  | succ n ih => exact (lp_s.trans (bd_s.trans ((ev_sq [1, 1, 0, 1, 0, 0] (by kernel_rfl)).trans ((wuint_a3 lf cl yh s _ b_z0 b_t1 b2 v3 n4).trans (seqK_n.trans ((ev_sq [1, 1, 0, 1, 0, 0, 1] (by kernel_rfl)).trans ((wuint_a4 lf cl yh s _ b_z0 b_t1 b2 v3 n4 (ltI n4 (10 : Int))).trans (cond_congr (seqK_n.trans ((ev_sq [1, 1, 0, 1, 0, 0, 1, 1] (by kernel_rfl)).trans ((ev_bk [1, 1, 0, 1, 0, 0, 1, 1, 0] 1 (by kernel_rfl)).trans ((ev_sq [1, 1, 0, 1, 0, 0, 1, 1, 0, 0] (by kernel_rfl)).trans ((wuint_a5 lf cl yh s _ b_z0 b_t1 b2 v3 n4 (ltI n4 (10 : Int))).trans (seqK_n.trans ((ev_sq [1, 1, 0, 1, 0, 0, 1, 1, 0, 0, 1] (by kernel_rfl)).trans ((wuint_a6 lf cl yh s _ b_z0 b_t1 b2 v3 n4).trans (cond_congr (seqK_r.trans (blkK_r.trans (seqK_r.trans (wuint_p12 lf cl yh s k n )))) (seqK_n.trans ((ev_sq [1, 1, 0, 1, 0, 0, 1, 1, 0, 0, 1, 1] (by kernel_rfl)).trans ((wuint_a7_eq lf cl yh s _ b_z0 b_t1 b2 v3 n4 (n4 == (↑(List.length b2) : Int))).trans (congr rfl (funext fun b_z'0 => (funext fun b_t'1 => (funext fun b'2 => (funext fun v'3 => (funext fun i'4 => (funext fun part'5 => (seqK_n.trans ((ev_sq [1, 1, 0, 1, 0, 0, 1, 1, 0, 0, 1, 1, 1] (by kernel_rfl)).trans ((wuint_a8_eq lf cl yh s _ b_z'0 b_t'1 b'2 v'3 i'4 part'5).trans (congr (congr rfl (funext fun _ => (seqK_e.trans ((blkK_y rfl).trans (seqK_e.trans (wuint_p13 lf cl yh s k n )))))) (funext fun b_z'6 => (funext fun b_t'7 => (funext fun b'8 => (funext fun v'9 => (funext fun i'10 => (funext fun part'11 => (funext fun b'12 => (seqK_n.trans ((wuint_a9_eq lf cl yh s _ b_z'6 b_t'7 b'8 v'9 i'10 part'11 b'12).trans (congr (congr rfl (funext fun n'13 => (funext fun n'14 => (funext fun n'15 => (blkK_r.trans (seqK_r.trans (wuint_p14 lf cl yh s k n n'13 n'14 n'15))))))) (funext fun b_z'16 => (funext fun b_t'17 => (funext fun b'18 => (funext fun v'19 => (funext fun i'20 => (funext fun b'21 => (blkK_n.trans (seqK_n.trans ((wuint_a10 lf cl yh s _ b_z'16 b_t'17 b'18 v'19 i'20 b'21).trans ((wuint_p15 lf cl yh s k n b_z'16 b_t'17 b'18 v'19 (wi64 (i'20 + (1 : Int)))).trans (ih b_z'16 b_t'17 b'18 v'19 (wi64 (i'20 + (1 : Int))))))))))))))))))))))))))))))))))))))))))))))) (seqK_e.trans (wuint_p16 lf cl yh s k n )))))))))).trans (wuint_l11_s lf n b_z0 b_t1 b2 v3 n4 (fun n0 n1 n2 => k .ret ⟨gp [(2, .s (.int .u64 n0)), (0, .s (.int .i64 n1)), (0, .s (.int .i64 n2))] 53, [], s⟩) (fun _ => k (.exit 0) ⟨gp [] 58, [], s⟩)).symm

theorem wuint_a17 : evCode (c_wuint lf) cl yh (cd [1, 1, 1] b_wuint) ⟨gp [] 58, [], s⟩ k =
  k .ret ⟨gp [(2, .s (.int .u64 (0 : Int))), (0, .s (.int .i64 (0 : Int))), (0, .s (.int .i64 (19 : Int)))] 53, [], s⟩ := by kernel_rfl

theorem wuint_r18 (n0 n1 n2 : Int) : retK (c_wuint lf) Try.f17 .ret ⟨gp [(2, .s (.int .u64 n0)), (0, .s (.int .i64 n1)), (0, .s (.int .i64 n2))] 53, [], s⟩ = some (.tup [.s (.int .u64 n0), .s (.int .i64 n1), .s (.int .i64 n2)], [], s) := by kernel_rfl

theorem wuint_r19 : retK (c_wuint lf) Try.f17 .ret ⟨gp [(2, .s (.int .u64 (0 : Int))), (0, .s (.int .i64 (0 : Int))), (0, .s (.int .i64 (19 : Int)))] 53, [], s⟩ = some (.tup [.s (.int .u64 (0 : Int)), .s (.int .i64 (0 : Int)), .s (.int .i64 (19 : Int))], [], s) := by kernel_rfl

noncomputable def wuint {R : Type} (lf : Nat) (b_z0 b_t1 : Bool) (b2 : LL) (k0 : Int → Int → Int → Option R) : Option R :=
  wuint_l11 lf lf b_z0 b_t1 b2 0 0 (fun n'22 n'23 n'24 => k0 n'22 n'23 n'24) (fun _ => k0 0 0 19)

theorem wuint_eq (b_z0 b_t1 : Bool) (b2 : LL) : evCode (c_wuint lf) cl yh (cd [] b_wuint) ⟨[.s (.sl b_z0 b_t1 1 b2)] ++ tps 57, [], s⟩ (retK (c_wuint lf) Try.f17) = wuint lf b_z0 b_t1 b2 (fun r0 r1 r2 => some (.tup [.s (.int .u64 r0), .s (.int .i64 r1), .s (.int .i64 r2)], [], s)) :=
  ((ev_sq [] (by kernel_rfl)).trans ((wuint_a0 lf cl yh s _ b_z0 b_t1 b2).trans (seqK_n.trans ((ev_sq [1] (by kernel_rfl)).trans ((wuint_a1 lf cl yh s _ b_z0 b_t1 b2).trans (seqK_n.trans ((ev_sq [1, 1] (by kernel_rfl)).trans ((ev_sq [1, 1, 0] (by kernel_rfl)).trans ((wuint_a2 lf cl yh s _ b_z0 b_t1 b2).trans (seqK_n.trans ((ev_bk [1, 1, 0, 1] 0 (by kernel_rfl)).trans ((ev_lp [1, 1, 0, 1, 0] (by kernel_rfl)).trans ((wuint_l11_eq lf cl yh s _ lf b_z0 b_t1 b2 0 0).trans (congr (congr rfl (funext fun n'22 => (funext fun n'23 => (funext fun n'24 => (blkK_r.trans (seqK_r.trans (wuint_r18 lf s n'22 n'23 n'24))))))) (funext fun _ => (blkK_e.trans (seqK_n.trans ((wuint_a17 lf cl yh s _ ).trans (wuint_r19 lf s )))))))))))))))))))

theorem wuint_ev (d : Nat) (b_z0 b_t1 : Bool) (b2 : LL) : evC (c_wuint lf) (d + 1) σ yh 17 [.s (.sl b_z0 b_t1 1 b2)] [] s = wuint lf b_z0 b_t1 b2 (fun r0 r1 r2 => some (.tup [.s (.int .u64 r0), .s (.int .i64 r1), .s (.int .i64 r2)], [], s)) :=
  (evC_eq (fn := Try.f17) (by kernel_rfl) (by kernel_rfl) (by kernel_rfl)).trans (wuint_eq lf (evC (c_wuint lf) d) yh s b_z0 b_t1 b2)

/-! hstsstore/wire.Text -/
noncomputable abbrev b_wtext : Code := bodyOf Try.f18
noncomputable def c_wtext (lf : Nat) : Cfg := mkCfg lf [18] (lookK []) [(17, X_wuint)]
  (lookK [(8, [2, 0, 0]), (3, [2, 0, 0]), (5, [2, 0, 0]), (7, [2, 0, 0]), (6, [0, 4, 0, 14]), (4, [0, 4, 0, 11]), (2, [0, 4, 0, 0, 6]), (1, [0, 4, 0, 0]), (0, [0])]) [17] (lookK [(0, [0, 4, 0])]) (some [2, 0, 0]) [] [] []

theorem wtext_a0 (b_z0 b_t1 : Bool) (b2 : LL) : evCode (c_wtext lf) cl yh (cd [0] b_wtext) ⟨[.s (.sl b_z0 b_t1 1 b2)] ++ tps 40, [], s⟩ k =
  k .normal ⟨gp [(0, .s (.sl b_z0 b_t1 1 b2))] 40, [], s⟩ := by kernel_rfl

noncomputable def wtext_a1 {R : Type} (b_z0 b_t1 : Bool) (b2 : LL) (k0 : Bool → Bool → LL → Int → Int → Int → Option R) : Option R :=
  cond (List.all b2 isU8)
  (cond (small (List.length b2))
   (k0 b_z0 b_t1 b2 (↑((decU (List.map elU8 b2))).1 : Int) (↑(((decU (List.map elU8 b2))).2).1 : Int) (↑(((decU (List.map elU8 b2))).2).2 : Int))
   (none))
  (none)

theorem wtext_a1_eq (b_z0 b_t1 : Bool) (b2 : LL) : evCode (c_wtext lf) cl yh (cd [1, 0] b_wtext) ⟨gp [(0, .s (.sl b_z0 b_t1 1 b2))] 40, [], s⟩ k =
  wtext_a1 b_z0 b_t1 b2 (fun b_z0 b_t1 b2 v3 n4 e5 => k .normal ⟨gp [(0, .s (.sl b_z0 b_t1 1 b2)), (4, .s (.int .u64 v3)), (0, .s (.int .i64 n4)), (0, .s (.int .i64 e5))] 33, [], s⟩) := by kernel_rfl

noncomputable def wtext_a2 {R : Type} (b_z0 b_t1 : Bool) (b2 : LL) (v3 n4 e5 : Int) (k0 : Int → Option R) (k1 : Bool → Bool → LL → Int → Int → Bool → Option R) : Option R :=
  cond (e5 != (0 : Int))
  (k0 e5)
  (cond (ltI (4096 : Int) v3)
   (k0 3)
   (cond (ltI (wi64 ((↑(List.length b2) : Int) - n4)) (wi64 v3))
    (k0 5)
    (k1 b_z0 b_t1 b2 v3 n4 (ltI (wi64 ((↑(List.length b2) : Int) - n4)) (wi64 v3)))))

theorem wtext_a2_eq (b_z0 b_t1 : Bool) (b2 : LL) (v3 n4 e5 : Int) : evCode (c_wtext lf) cl yh (cd [1, 1, 0] b_wtext) ⟨gp [(0, .s (.sl b_z0 b_t1 1 b2)), (4, .s (.int .u64 v3)), (0, .s (.int .i64 n4)), (0, .s (.int .i64 e5))] 33, [], s⟩ k =
  wtext_a2 b_z0 b_t1 b2 v3 n4 e5 (fun n0 => k .ret ⟨gp [(2, .s (.str ([] : List UInt8))), (0, .s (.int .i64 (0 : Int))), (0, .s (.int .i64 n0))] 36, [], s⟩) (fun b_z0 b_t1 b2 v3 n4 b5 => k .normal ⟨gp [(0, .s (.sl b_z0 b_t1 1 b2)), (4, .s (.int .u64 v3)), (0, .s (.int .i64 n4)), (14, .s (.bool b5))] 19, [], s⟩) := by kernel_rfl

noncomputable def wtext_a3 {R : Type} (b2 : LL) (v3 n4 : Int) (k0 : By → Int → Option R) : Option R :=
  cond (sub3 n4 (wi64 (n4 + (wi64 v3))) (List.length b2))
  (cond (List.all (cut b2 n4 (wi64 (n4 + (wi64 v3)))) isU8)
   (k0 (List.map elU8 (cut b2 n4 (wi64 (n4 + (wi64 v3))))) (wi64 (n4 + (wi64 v3))))
   (none))
  (none)

theorem wtext_a3_eq (b_z0 b_t1 : Bool) (b2 : LL) (v3 n4 : Int) (b5 : Bool) : evCode (c_wtext lf) cl yh (cd [1, 1, 1] b_wtext) ⟨gp [(0, .s (.sl b_z0 b_t1 1 b2)), (4, .s (.int .u64 v3)), (0, .s (.int .i64 n4)), (14, .s (.bool b5))] 19, [], s⟩ k =
  wtext_a3 b2 v3 n4 (fun s0 n1 => k .ret ⟨gp [(2, .s (.str s0)), (0, .s (.int .i64 n1)), (0, .s (.int .i64 (0 : Int)))] 36, [], s⟩) := by kernel_rfl

theorem wtext_r4 (n0 : Int) : retK (c_wtext lf) Try.f18 .ret ⟨gp [(2, .s (.str ([] : List UInt8))), (0, .s (.int .i64 (0 : Int))), (0, .s (.int .i64 n0))] 36, [], s⟩ = some (.tup [.s (.str ([] : List UInt8)), .s (.int .i64 (0 : Int)), .s (.int .i64 n0)], [], s) := by kernel_rfl

theorem wtext_r5 (s0 : By) (n1 : Int) : retK (c_wtext lf) Try.f18 .ret ⟨gp [(2, .s (.str s0)), (0, .s (.int .i64 n1)), (0, .s (.int .i64 (0 : Int)))] 36, [], s⟩ = some (.tup [.s (.str s0), .s (.int .i64 n1), .s (.int .i64 (0 : Int))], [], s) := by kernel_rfl

noncomputable def wtext {R : Type} (lf : Nat) (b_z0 b_t1 : Bool) (b2 : LL) (k0 : By → Int → Int → Option R) : Option R :=
  wtext_a1 b_z0 b_t1 b2 (fun b_z'0 b_t'1 b'2 v'3 n'4 e'5 => wtext_a2 b_z'0 b_t'1 b'2 v'3 n'4 e'5 (fun n'6 => k0 ([] : List UInt8) 0 n'6) (fun b_z'7 b_t'8 b'9 v'10 n'11 b'12 => wtext_a3 b'9 v'10 n'11 (fun s'13 n'14 => k0 s'13 n'14 0)))

theorem wtext_eq (b_z0 b_t1 : Bool) (b2 : LL) : evCode (c_wtext lf) cl yh (cd [] b_wtext) ⟨[.s (.sl b_z0 b_t1 1 b2)] ++ tps 40, [], s⟩ (retK (c_wtext lf) Try.f18) = wtext lf b_z0 b_t1 b2 (fun r0 r1 r2 => some (.tup [.s (.str r0), .s (.int .i64 r1), .s (.int .i64 r2)], [], s)) :=
  ((ev_sq [] (by kernel_rfl)).trans ((wtext_a0 lf cl yh s _ b_z0 b_t1 b2).trans (seqK_n.trans ((ev_sq [1] (by kernel_rfl)).trans ((wtext_a1_eq lf cl yh s _ b_z0 b_t1 b2).trans (congr rfl (funext fun b_z'0 => (funext fun b_t'1 => (funext fun b'2 => (funext fun v'3 => (funext fun n'4 => (funext fun e'5 => (seqK_n.trans ((ev_sq [1, 1] (by kernel_rfl)).trans ((wtext_a2_eq lf cl yh s _ b_z'0 b_t'1 b'2 v'3 n'4 e'5).trans (congr (congr rfl (funext fun n'6 => (seqK_r.trans (wtext_r4 lf s n'6)))) (funext fun b_z'7 => (funext fun b_t'8 => (funext fun b'9 => (funext fun v'10 => (funext fun n'11 => (funext fun b'12 => (seqK_n.trans ((wtext_a3_eq lf cl yh s _ b_z'7 b_t'8 b'9 v'10 n'11 b'12).trans (congr rfl (funext fun s'13 => (funext fun n'14 => (wtext_r5 lf s s'13 n'14))))))))))))))))))))))))))))

theorem wtext_ev (d : Nat) (b_z0 b_t1 : Bool) (b2 : LL) : evC (c_wtext lf) (d + 1) σ yh 18 [.s (.sl b_z0 b_t1 1 b2)] [] s = wtext lf b_z0 b_t1 b2 (fun r0 r1 r2 => some (.tup [.s (.str r0), .s (.int .i64 r1), .s (.int .i64 r2)], [], s)) :=
  (evC_eq (fn := Try.f18) (by kernel_rfl) (by kernel_rfl) (by kernel_rfl)).trans (wtext_eq lf (evC (c_wtext lf) d) yh s b_z0 b_t1 b2)

/-! hstsstore/hstsstorelaw03.WireCanonical -/
noncomputable abbrev b_lawC : Code := bodyOf Try.f5
noncomputable def c_lawC (lf : Nat) : Cfg := mkCfg lf [5] (lookK []) [(10, X_awake), (17, X_wuint), (8, X_app), (9, X_kbytes), (18, X_wtext), (12, X_apptext)]
  (lookK [(9, [2]), (8, [2]), (7, [66]), (6, [0, 5, 0, 0]), (5, [2]), (4, [0, 38]), (3, [0, 2, 0, 0]), (2, [2]), (1, [0, 10]), (0, [0])]) [10, 17, 9, 18] (lookK []) (some [2]) [] [] []

theorem lawC_a0 (b_z0 b_t1 : Bool) (b2 : LL) : evCode (c_lawC lf) cl yh (cd [0] b_lawC) ⟨[.s (.sl b_z0 b_t1 1 b2)] ++ tps 67, [], s⟩ k =
  k .normal ⟨gp [(0, .s (.sl b_z0 b_t1 1 b2))] 67, [], s⟩ := by kernel_rfl

theorem lawC_a1 (b_z0 b_t1 : Bool) (b2 : LL) : evCode (c_lawC lf) cl yh (cd [1, 0] b_lawC) ⟨gp [(0, .s (.sl b_z0 b_t1 1 b2))] 67, [], s⟩ k =
  cond (ltI (6000 : Int) (↑(List.length b2) : Int))
  (k .ret ⟨gp [(2, .s (.bool true))] 65, [], s⟩)
  (k .normal ⟨gp [(0, .s (.sl b_z0 b_t1 1 b2)), (10, .s (.bool (ltI (6000 : Int) (↑(List.length b2) : Int))))] 56, [], s⟩) := by kernel_rfl

noncomputable def lawC_a2 {R : Type} (b_z0 b_t1 : Bool) (b2 : LL) (k0 : Bool → Bool → LL → Int → Int → Int → Option R) : Option R :=
  cond (List.all b2 isU8)
  (cond (small (List.length b2))
   (k0 b_z0 b_t1 b2 (↑((decU (List.map elU8 b2))).1 : Int) (↑(((decU (List.map elU8 b2))).2).1 : Int) (↑(((decU (List.map elU8 b2))).2).2 : Int))
   (none))
  (none)

theorem lawC_a2_eq (b_z0 b_t1 : Bool) (b2 : LL) (b3 : Bool) : evCode (c_lawC lf) cl yh (cd [1, 1, 0, 0] b_lawC) ⟨gp [(0, .s (.sl b_z0 b_t1 1 b2)), (10, .s (.bool b3))] 56, [], s⟩ k =
  lawC_a2 b_z0 b_t1 b2 (fun b_z0 b_t1 b2 v3 n4 e5 => k .normal ⟨gp [(0, .s (.sl b_z0 b_t1 1 b2)), (2, .s (.int .u64 v3)), (0, .s (.int .i64 n4)), (0, .s (.int .i64 e5))] 62, [], s⟩) := by kernel_rfl

noncomputable def lawC_a3 {R : Type} (b_z0 b_t1 : Bool) (b2 : LL) (v3 n4 e5 : Int) (k0 : Bool → Bool → LL → Bool → Option R) : Option R :=
  cond (e5 == (0 : Int))
  (cond (ltI n4 (1 : Int))
   (k0 b_z0 b_t1 b2 true)
   (cond (ltI (↑(List.length b2) : Int) n4)
    (k0 b_z0 b_t1 b2 true)
    (cond (sub3 (0 : Int) n4 (List.length b2))
     (cond (u64ok v3)
      (cond (List.all (encB (Int.toNat v3)) isU8)
       (cond (List.all (cut b2 (0 : Int) n4) isU8)
        (k0 b_z0 b_t1 b2 (not ((List.map elU8 (encB (Int.toNat v3))) == (List.map elU8 (cut b2 (0 : Int) n4)))))
        (none))
       (none))
      (none))
     (none))))
  (k0 b_z0 b_t1 b2 false)

theorem lawC_a3_eq (b_z0 b_t1 : Bool) (b2 : LL) (v3 n4 e5 : Int) : evCode (c_lawC lf) cl yh (cd [1, 1, 0, 1, 0] b_lawC) ⟨gp [(0, .s (.sl b_z0 b_t1 1 b2)), (2, .s (.int .u64 v3)), (0, .s (.int .i64 n4)), (0, .s (.int .i64 e5))] 62, [], s⟩ k =
  lawC_a3 b_z0 b_t1 b2 v3 n4 e5 (fun b_z0 b_t1 b2 b3 => k .normal ⟨gp [(0, .s (.sl b_z0 b_t1 1 b2)), (38, .s (.bool b3))] 28, [], s⟩) := by kernel_rfl

theorem lawC_a4 (b_z0 b_t1 : Bool) (b2 : LL) (b3 : Bool) : evCode (c_lawC lf) cl yh (cd [1, 1, 0, 1, 1] b_lawC) ⟨gp [(0, .s (.sl b_z0 b_t1 1 b2)), (38, .s (.bool b3))] 28, [], s⟩ k =
  cond b3
  (k .ret ⟨gp [(2, .s (.bool false))] 65, [], s⟩)
  (k .normal ⟨gp [(0, .s (.sl b_z0 b_t1 1 b2)), (38, .s (.bool b3))] 28, [], s⟩) := by kernel_rfl

noncomputable def lawC_a5 {R : Type} (b_z0 b_t1 : Bool) (b2 : LL) (k0 : Bool → Bool → LL → By → Int → Int → Option R) : Option R :=
  cond (List.all b2 isU8)
  (cond (small (List.length b2))
   (k0 b_z0 b_t1 b2 ((decT (List.map elU8 b2))).1 (↑(((decT (List.map elU8 b2))).2).1 : Int) (↑(((decT (List.map elU8 b2))).2).2 : Int))
   (none))
  (none)

theorem lawC_a5_eq (b_z0 b_t1 : Bool) (b2 : LL) (b3 : Bool) : evCode (c_lawC lf) cl yh (cd [1, 1, 1, 0, 0] b_lawC) ⟨gp [(0, .s (.sl b_z0 b_t1 1 b2)), (38, .s (.bool b3))] 28, [], s⟩ k =
  lawC_a5 b_z0 b_t1 b2 (fun b_z0 b_t1 b2 s3 n4 e5 => k .normal ⟨gp [(0, .s (.sl b_z0 b_t1 1 b2)), (5, .s (.str s3)), (0, .s (.int .i64 n4)), (0, .s (.int .i64 e5))] 59, [], s⟩) := by kernel_rfl

noncomputable def lawC_a6 {R : Type} (b2 : LL) (s3 : By) (n4 e5 : Int) (k0 : Bool → Option R) : Option R :=
  cond (e5 == (0 : Int))
  (cond (ltI n4 (1 : Int))
   (k0 true)
   (cond (ltI (↑(List.length b2) : Int) n4)
    (k0 true)
    (cond (sub3 (0 : Int) n4 (List.length b2))
     (cond (small (List.length s3))
      (cond (List.all ((encB (List.length s3)) ++ (List.map u8el s3)) isU8)
       (cond (List.all (cut b2 (0 : Int) n4) isU8)
        (k0 (not ((List.map elU8 ((encB (List.length s3)) ++ (List.map u8el s3))) == (List.map elU8 (cut b2 (0 : Int) n4)))))
        (none))
       (none))
      (none))
     (none))))
  (k0 false)

theorem lawC_a6_eq (b_z0 b_t1 : Bool) (b2 : LL) (s3 : By) (n4 e5 : Int) : evCode (c_lawC lf) cl yh (cd [1, 1, 1, 0, 1, 0] b_lawC) ⟨gp [(0, .s (.sl b_z0 b_t1 1 b2)), (5, .s (.str s3)), (0, .s (.int .i64 n4)), (0, .s (.int .i64 e5))] 59, [], s⟩ k =
  lawC_a6 b2 s3 n4 e5 (fun b0 => k .normal ⟨gp [(66, .s (.bool b0))] 1, [], s⟩) := by kernel_rfl

theorem lawC_a7 (b0 : Bool) : evCode (c_lawC lf) cl yh (cd [1, 1, 1, 0, 1, 1] b_lawC) ⟨gp [(66, .s (.bool b0))] 1, [], s⟩ k =
  cond b0
  (k .ret ⟨gp [(2, .s (.bool false))] 65, [], s⟩)
  (k .normal ⟨gp [(66, .s (.bool b0))] 1, [], s⟩) := by kernel_rfl

theorem lawC_a8 (b0 : Bool) : evCode (c_lawC lf) cl yh (cd [1, 1, 1, 1] b_lawC) ⟨gp [(66, .s (.bool b0))] 1, [], s⟩ k =
  k .ret ⟨gp [(2, .s (.bool true))] 65, [], s⟩ := by kernel_rfl

theorem lawC_r9 : retK (c_lawC lf) Try.f5 .ret ⟨gp [(2, .s (.bool true))] 65, [], s⟩ = some (.s (.bool true), [], s) := by kernel_rfl

theorem lawC_r10 : retK (c_lawC lf) Try.f5 .ret ⟨gp [(2, .s (.bool false))] 65, [], s⟩ = some (.s (.bool false), [], s) := by kernel_rfl

theorem lawC_r11 : retK (c_lawC lf) Try.f5 .ret ⟨gp [(2, .s (.bool false))] 65, [], s⟩ = some (.s (.bool false), [], s) := by kernel_rfl

theorem lawC_r12 : retK (c_lawC lf) Try.f5 .ret ⟨gp [(2, .s (.bool true))] 65, [], s⟩ = some (.s (.bool true), [], s) := by kernel_rfl

noncomputable def lawC {R : Type} (lf : Nat) (b_z0 b_t1 : Bool) (b2 : LL) (k0 : Bool → Option R) : Option R :=
  cond (ltI (6000 : Int) (↑(List.length b2) : Int))
  (k0 true)
  (lawC_a2 b_z0 b_t1 b2 (fun b_z'0 b_t'1 b'2 v'3 n'4 e'5 => lawC_a3 b_z'0 b_t'1 b'2 v'3 n'4 e'5 (fun b_z'6 b_t'7 b'8 b'9 => cond b'9
  (k0 false)
  (lawC_a5 b_z'6 b_t'7 b'8 (fun b_z'10 b_t'11 b'12 s'13 n'14 e'15 => lawC_a6 b'12 s'13 n'14 e'15 (fun b'16 => cond b'16
  (k0 false)
  (k0 true)))))))

theorem lawC_eq (b_z0 b_t1 : Bool) (b2 : LL) : evCode (c_lawC lf) cl yh (cd [] b_lawC) ⟨[.s (.sl b_z0 b_t1 1 b2)] ++ tps 67, [], s⟩ (retK (c_lawC lf) Try.f5) = lawC lf b_z0 b_t1 b2 (fun r0 => some (.s (.bool r0), [], s)) :=
  ((ev_sq [] (by kernel_rfl)).trans ((lawC_a0 lf cl yh s _ b_z0 b_t1 b2).trans (seqK_n.trans ((ev_sq [1] (by kernel_rfl)).trans ((lawC_a1 lf cl yh s _ b_z0 b_t1 b2).trans (cond_congr (seqK_r.trans (lawC_r9 lf s )) (seqK_n.trans ((ev_sq [1, 1] (by kernel_rfl)).trans ((ev_sq [1, 1, 0] (by kernel_rfl)).trans ((lawC_a2_eq lf cl yh s _ b_z0 b_t1 b2 (ltI (6000 : Int) (↑(List.length b2) : Int))).trans (congr rfl (funext fun b_z'0 => (funext fun b_t'1 => (funext fun b'2 => (funext fun v'3 => (funext fun n'4 => (funext fun e'5 => (seqK_n.trans ((ev_sq [1, 1, 0, 1] (by kernel_rfl)).trans ((lawC_a3_eq lf cl yh s _ b_z'0 b_t'1 b'2 v'3 n'4 e'5).trans (congr rfl (funext fun b_z'6 => (funext fun b_t'7 => (funext fun b'8 => (funext fun b'9 => (seqK_n.trans ((lawC_a4 lf cl yh s _ b_z'6 b_t'7 b'8 b'9).trans (cond_congr (seqK_r.trans (lawC_r10 lf s )) (seqK_n.trans ((ev_sq [1, 1, 1] (by kernel_rfl)).trans ((ev_sq [1, 1, 1, 0] (by kernel_rfl)).trans ((lawC_a5_eq lf cl yh s _ b_z'6 b_t'7 b'8 b'9).trans (congr rfl (funext fun b_z'10 => (funext fun b_t'11 => (funext fun b'12 => (funext fun s'13 => (funext fun n'14 => (funext fun e'15 => (seqK_n.trans ((ev_sq [1, 1, 1, 0, 1] (by kernel_rfl)).trans ((lawC_a6_eq lf cl yh s _ b_z'10 b_t'11 b'12 s'13 n'14 e'15).trans (congr rfl (funext fun b'16 => (seqK_n.trans ((lawC_a7 lf cl yh s _ b'16).trans (cond_congr (seqK_r.trans (lawC_r11 lf s )) (seqK_n.trans ((lawC_a8 lf cl yh s _ b'16).trans (lawC_r12 lf s ))))))))))))))))))))))))))))))))))))))))))))))))))

theorem lawC_ev (d : Nat) (b_z0 b_t1 : Bool) (b2 : LL) : evC (c_lawC lf) (d + 1) σ yh 5 [.s (.sl b_z0 b_t1 1 b2)] [] s = lawC lf b_z0 b_t1 b2 (fun r0 => some (.s (.bool r0), [], s)) :=
  (evC_eq (fn := Try.f5) (by kernel_rfl) (by kernel_rfl) (by kernel_rfl)).trans (lawC_eq lf (evC (c_lawC lf) d) yh s b_z0 b_t1 b2)

end
end Go.Proofs.Ytfioahjeanmfpaa.E
