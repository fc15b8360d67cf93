/-
  The superdomains are yielded from the longest one on, each covers the name and the ones before it: the law HostSupersCover holds, as its tied card says. Conditions: what the card itself names (the package-level variables that are listed, tied to the program's text).
-/
import Derived.Test.YtokehocipgepnaaDoorKS4
import Derived.Test.YtokehocipgepnaaDoorCards
import Derived.Test.YtokehocipgepnaaDoorTie
namespace Go.Proofs.YtokehocipgepnaaDoor.E
open Go Go.Proofs
set_option linter.unusedVariables false
set_option maxRecDepth 100000
section
variable {σ R : Type} (lf : Nat) (cl : CallT) (yh : Yh σ) (s : σ) (k : Out → St σ → Option R)
noncomputable def c_awake (lf : Nat) : Cfg := mkCfg lf [6] (lookK []) [(13, X_hparse), (10, X_hlab), (7, X_hcov)]
  (lookK [(4, [0]), (3, [1, 0, 0, 0, 1]), (2, [1, 0, 0, 0]), (1, [1, 0]), (0, [])]) [10, 7] (lookK []) (some [0]) [] [] []
noncomputable abbrev b_lsc : Code := bodyOf Tryd.f4
noncomputable def c_lsc (lf : Nat) : Cfg := mkCfg lf [4] (lookK [(8, [0, 0, 2, 0, 0, 0])]) [(6, X_awake), (9, X_lsupers), (10, X_hlab), (7, X_hcov), (11, X_kmod), (12, X_hsup)]
  (lookK [(23, [4]), (22, [4, 0, 2, 0]), (21, [4]), (20, [4, 0, 2, 0, 74]), (19, [4, 0, 2, 0, 1, 60]), (18, [4, 0, 2, 0, 1]), (17, [4, 0, 2, 0, 58]), (16, [4]), (15, [4, 0, 2, 0, 0, 56]), (14, [4, 0, 2, 0, 0]), (13, [0, 3, 0, 2, 0]), (9, [0, 0, 2, 0, 0, 0]), (12, [0, 0, 2, 0, 0, 0]), (11, [4]), (10, [0, 0, 2, 0, 1, 49]), (8, [0, 0, 2, 0, 0, 0, 21]), (7, [0, 0, 2, 0, 0, 0]), (6, [0, 0, 2, 0, 0]), (5, [4]), (4, [0, 0, 2, 0, 18]), (3, [0, 0, 2, 0]), (2, [4]), (1, [0, 0, 2, 9]), (0, [0, 0, 2])]) [6, 10, 7, 11] (lookK [(2, [4, 0, 2, 0]), (3, [4, 0, 2, 0]), (0, [0, 0, 2, 0]), (1, [0, 0, 2, 0, 0, 0])]) (some [4]) [] [(19, X_hsupf)] [] (nt := [(27, 0, 9, 1)])
noncomputable def lsc_l0f {R : Type} (lf n : Nat) (self : By → Int → By → Int → Bool → LL → Option R) (name0 : By) (stop1 : Int) (last2 : By) (i3 : Int) (z4 : Bool) (l5 : LL) (k0 : Bool → LL → Option R) (k1 : By → Int → Bool → LL → Option R) : Option R :=
  cond (ltI i3 (↑(List.length l5) : Int))
  (cond (inR i3 (List.length l5))
   (cond (okE tStr l5 (Int.toNat i3) 0)
    (cond (small (List.length (gX l5 (Int.toNat i3) 0)))
     (cond (small (List.length name0))
      (cond (not (coversN (gX l5 (Int.toNat i3) 0) name0))
       (k0 z4 l5)
       (cond (inR i3 (List.length l5))
        (cond (okE tStr l5 (Int.toNat i3) 0)
         (cond (small (List.length (gX l5 (Int.toNat i3) 0)))
          (cond (small (List.length last2))
           (cond (not (coversN (gX l5 (Int.toNat i3) 0) last2))
            (k0 z4 l5)
            (cond (inR i3 (List.length l5))
             (cond (okE tStr l5 (Int.toNat i3) 0)
              (cond (not (ltI (↑(List.length (gX l5 (Int.toNat i3) 0)) : Int) (↑(List.length last2) : Int)))
               (k0 z4 l5)
               (cond (inR i3 (List.length l5))
                (cond (okE tStr l5 (Int.toNat i3) 0)
                 (self name0 stop1 (gX l5 (Int.toNat i3) 0) (wi64 (i3 + (1 : Int))) z4 l5)
                 (none))
                (none)))
              (none))
             (none)))
           (none))
          (none))
         (none))
        (none)))
      (none))
     (none))
    (none))
   (none))
  (k1 name0 stop1 z4 l5)
noncomputable def lsc_l0 {R : Type} (lf n : Nat) (name0 : By) (stop1 : Int) (last2 : By) (i3 : Int) (z4 : Bool) (l5 : LL) (k0 : Bool → LL → Option R) (k1 : By → Int → Bool → LL → Option R) : Option R :=
  recN (α := By → Int → By → Int → Bool → LL → Option R) (fun _ _ _ _ _ _ => none) (fun n self name0 stop1 last2 i3 z4 l5 => lsc_l0f lf n self name0 stop1 last2 i3 z4 l5 k0 k1) n name0 stop1 last2 i3 z4 l5
theorem lsc_l0_s {R : Type} (lf n : Nat) (name0 : By) (stop1 : Int) (last2 : By) (i3 : Int) (z4 : Bool) (l5 : LL) (k0 : Bool → LL → Option R) (k1 : By → Int → Bool → LL → Option R) : lsc_l0 lf (n + 1) name0 stop1 last2 i3 z4 l5 k0 k1 = lsc_l0f lf n (fun name0 stop1 last2 i3 z4 l5 => lsc_l0 lf n name0 stop1 last2 i3 z4 l5 k0 k1) name0 stop1 last2 i3 z4 l5 k0 k1 := rfl
theorem lsc_l0_eq (n : Nat) (name0 : By) (stop1 : Int) (last2 : By) (i3 : Int) (z4 : Bool) (l5 : LL) : loopK 3 ((c_lsc lf).keep 8) (bd (c_lsc lf) cl yh (cd [1,1,1,1,1,0,1,0,0] b_lsc)) n ⟨gp [(0, .s (.str name0)), (0, .s (.int .i64 stop1)), (2, .ptr 0 0 0), (0, .ptr 2 0 0), (0, .s (.str last2)), (0, .s (.int .i64 i3))] 88, [.box [.s (.bool false)], .arr true 9 1 [], .box [.s (.sl z4 z4 1 l5)]], s⟩ k =
  lsc_l0 lf n name0 stop1 last2 i3 z4 l5 (fun z0 l1 => k .ret ⟨gp [(4, .ptr 0 0 0)] 91, [.box [.s (.bool false)], .arr true 9 1 [], .box [.s (.sl z0 z0 1 l1)]], s⟩) (fun name0 stop1 z2 l3 => k (.exit 0) ⟨gp [(0, .s (.str name0)), (0, .s (.int .i64 stop1)), (2, .ptr 0 0 0), (0, .ptr 2 0 0)] 90, [.box [.s (.bool false)], .arr true 9 1 [], .box [.s (.sl z2 z2 1 l3)]], s⟩) := by
  induction n generalizing name0 stop1 last2 i3 z4 l5 with
  | zero => rfl
  | succ n ih => rw [lsc_l0_s]; unfold lsc_l0f; exact (Eq.trans (by kernel_rfl) (cond_congr (cond_congr (cond_congr (cond_congr (cond_congr (cond_congr rfl (cond_congr (cond_congr (cond_congr (cond_congr (cond_congr rfl (cond_congr (cond_congr (cond_congr rfl (cond_congr (cond_congr (ih name0 stop1 (gX l5 (Int.toNat i3) 0) (wi64 (i3 + (1 : Int))) z4 l5) rfl) rfl)) rfl) rfl)) rfl) rfl) rfl) rfl)) rfl) rfl) rfl) rfl) rfl))
noncomputable def lsc_g0f {R : Type} (lf : Nat) (x'10 : By) (xs : List By) (self : Bool → LL → Int → Int → Option R) (z0 : Bool) (l1 : LL) (n2 n3 : Int) (k0 : Bool → LL → Int → Int → Option R) (k1 : Bool → LL → Int → Int → Option R) (k2 : Bool → LL → Int → Int → Option R) : Option R :=
  cond (n3 == n2)
  (k1 z0 l1 n2 n3)
  (cond (not (ltI n3 (↑(List.length l1) : Int)))
   (k2 z0 l1 n2 n3)
   (cond (inR n3 (List.length l1))
    (cond (okE tStr l1 (Int.toNat n3) 0)
     (cond (not ((gX l1 (Int.toNat n3) 0) == x'10))
      (k2 z0 l1 n2 n3)
      (self z0 l1 n2 (wi64 (n3 + (1 : Int)))))
     (none))
    (none)))
noncomputable def lsc_g0 {R : Type} (lf : Nat) (L : List By) (z0 : Bool) (l1 : LL) (n2 n3 : Int) (k0 : Bool → LL → Int → Int → Option R) (k1 : Bool → LL → Int → Int → Option R) (k2 : Bool → LL → Int → Int → Option R) : Option R :=
  recS (α := Bool → LL → Int → Int → Option R) (fun z0 l1 n2 n3 => k0 z0 l1 n2 n3) (fun x'10 xs self z0 l1 n2 n3 => lsc_g0f lf x'10 xs self z0 l1 n2 n3 k0 k1 k2) L z0 l1 n2 n3
theorem lsc_g0_s {R : Type} (lf : Nat) (x'10 : By) (xs : List By) (z0 : Bool) (l1 : LL) (n2 n3 : Int) (k0 : Bool → LL → Int → Int → Option R) (k1 : Bool → LL → Int → Int → Option R) (k2 : Bool → LL → Int → Int → Option R) : lsc_g0 lf (x'10 :: xs) z0 l1 n2 n3 k0 k1 k2 = lsc_g0f lf x'10 xs (fun z0 l1 n2 n3 => lsc_g0 lf xs z0 l1 n2 n3 k0 k1 k2) z0 l1 n2 n3 k0 k1 k2 := rfl
theorem lsc_g0_eq (L : List By) (z0 : Bool) (l1 : LL) (n2 n3 : Int) : roundsK #[69] (gp [(4, .ptr 0 0 0), (0, .ptr 2 0 0), (2, .ptr 3 0 0), (0, .ptr 4 0 0), (58, .fnr (Fn.func 19) [] [.bad])] 27) (bd (c_lsc lf) cl yh (cd [1,1,1,1,1,1,1,1,1,0,1,0,0] b_lsc)) (bd (c_lsc lf) cl yh (cd [1,1,1,1,1,1,1,1,1,0,1,0,1] b_lsc)) (L.map (fun (x'10 : By) => ([.s (.str x'10)] : List PV))) [.box [.s (.bool false)], .arr true 9 1 [], .box [.s (.sl z0 z0 1 l1)], .box [.s (.int .i64 n2)], .box [.s (.int .i64 n3)], .dead] s (rgK (gp [(4, .ptr 0 0 0), (0, .ptr 2 0 0), (2, .ptr 3 0 0), (0, .ptr 4 0 0), (58, .fnr (Fn.func 19) [] [.bad])] 27) (fun H => setAll H [5] [.box [.bad]]) k) =
  lsc_g0 lf L z0 l1 n2 n3 (fun z0 l1 n2 n3 => k .normal ⟨gp [(4, .ptr 0 0 0), (0, .ptr 2 0 0), (2, .ptr 3 0 0), (0, .ptr 4 0 0), (58, .fnr (Fn.func 19) [] [.bad])] 27, [.box [.s (.bool false)], .arr true 9 1 [], .box [.s (.sl z0 z0 1 l1)], .box [.s (.int .i64 n2)], .box [.s (.int .i64 n3)], .box [.bad]], s⟩) (fun z0 l1 n2 n3 => k (.exit 2) ⟨gp [(4, .ptr 0 0 0), (0, .ptr 2 0 0), (2, .ptr 3 0 0), (0, .ptr 4 0 0), (58, .fnr (Fn.func 19) [] [.bad])] 27, [.box [.s (.bool false)], .arr true 9 1 [], .box [.s (.sl z0 z0 1 l1)], .box [.s (.int .i64 n2)], .box [.s (.int .i64 n3)], .box [.bad]], s⟩) (fun z0 l1 n2 n3 => k .ret ⟨gp [(4, .ptr 0 0 0), (0, .ptr 2 0 0), (2, .ptr 3 0 0), (0, .ptr 4 0 0), (58, .fnr (Fn.func 19) [] [.bad])] 27, [.box [.s (.bool false)], .arr true 9 1 [], .box [.s (.sl z0 z0 1 l1)], .box [.s (.int .i64 n2)], .box [.s (.int .i64 n3)], .box [.bad]], s⟩) := by
  induction L generalizing z0 l1 n2 n3 with
  | nil => rfl
  | cons x'10 xs ih => rw [lsc_g0_s]; unfold lsc_g0f; exact (Eq.trans (by kernel_rfl) (cond_congr rfl (cond_congr rfl (cond_congr (cond_congr (cond_congr rfl (ih z0 l1 n2 (wi64 (n3 + (1 : Int))))) rfl) rfl))))
noncomputable def lsc_e1 {R : Type} (lf : Nat) (z0 : Bool) (l1 : LL) (n2 : Int) (s3 : By) (k0 : Bool → LL → Int → Int → Option R) (k1 : Bool → LL → Int → Int → Option R) (k2 : Bool → LL → Int → Int → Option R) : Option R :=
  cond (small (List.length s3)) (lsc_g0 lf (supersN s3) z0 l1 n2 0 k0 k1 k2) none
abbrev lsc_e1_P (b : Code) : Prop := ∀ (k : Out → St σ → Option R) (z0 : Bool) (l1 : LL) (n2 : Int) (s3 : By), evCode (c_lsc lf) cl yh b ⟨gp [(4, .ptr 0 0 0), (0, .ptr 2 0 0), (2, .ptr 3 0 0), (0, .ptr 4 0 0), (58, .fnr (Fn.func 19) [] [.ptr 5 0 0])] 27, [.box [.s (.bool false)], .arr true 9 1 [], .box [.s (.sl z0 z0 1 l1)], .box [.s (.int .i64 n2)], .box [.s (.int .i64 (0 : Int))], .box [.s (.str s3)]], s⟩ k =
  lsc_e1 lf z0 l1 n2 s3 (fun z0 l1 n2 n3 => k .normal ⟨gp [(4, .ptr 0 0 0), (0, .ptr 2 0 0), (2, .ptr 3 0 0), (0, .ptr 4 0 0), (58, .fnr (Fn.func 19) [] [.bad])] 27, [.box [.s (.bool false)], .arr true 9 1 [], .box [.s (.sl z0 z0 1 l1)], .box [.s (.int .i64 n2)], .box [.s (.int .i64 n3)], .box [.bad]], s⟩) (fun z0 l1 n2 n3 => k (.exit 2) ⟨gp [(4, .ptr 0 0 0), (0, .ptr 2 0 0), (2, .ptr 3 0 0), (0, .ptr 4 0 0), (58, .fnr (Fn.func 19) [] [.bad])] 27, [.box [.s (.bool false)], .arr true 9 1 [], .box [.s (.sl z0 z0 1 l1)], .box [.s (.int .i64 n2)], .box [.s (.int .i64 n3)], .box [.bad]], s⟩) (fun z0 l1 n2 n3 => k .ret ⟨gp [(4, .ptr 0 0 0), (0, .ptr 2 0 0), (2, .ptr 3 0 0), (0, .ptr 4 0 0), (58, .fnr (Fn.func 19) [] [.bad])] 27, [.box [.s (.bool false)], .arr true 9 1 [], .box [.s (.sl z0 z0 1 l1)], .box [.s (.int .i64 n2)], .box [.s (.int .i64 n3)], .box [.bad]], s⟩)
theorem lsc_e1_eq : lsc_e1_P (R := R) lf cl yh s (cd [1,1,1,1,1,1,1,1,1,0,1,0] b_lsc) := by
  intro k z0 l1 n2 s3; unfold lsc_e1; exact ((ev_rg [1,1,1,1,1,1,1,1,1,0,1,0] (by kernel_rfl)).trans (by kernel_rfl)).trans (need_congr (lsc_g0_eq lf cl yh s k (supersN s3) z0 l1 n2 0))
noncomputable def lsc {R : Type} (lf : Nat) (name0 : By) (stop1 : Int) (k0 : Unit → Option R) (k1 : Bool → LL → Option R) (k2 : Bool → Bool → Bool → LL → Int → Int → Option R) : Option R :=
  cond (ltI (400 : Int) (↑(List.length name0) : Int))
  (k0 ())
  (cond (small (List.length name0))
   (cond (small (List.length name0))
    (vl (wi64 ((↑(labelsN name0) : Int) - (1 : Int))) fun n'1 =>
     cond ((↑(List.length (strE (supersN name0))) : Int) != (if (n'1 > (0 : Int)) then n'1 else (0 : Int)))
      (k1 (List.isEmpty (supersN name0)) (strE (supersN name0)))
      (lsc_l0 lf lf name0 stop1 name0 0 (List.isEmpty (supersN name0)) (strE (supersN name0)) (fun z'2 l'3 => k1 z'2 l'3) (fun name'4 stop'5 z'6 l'7 => cond (ltI (0 : Int) (5 : Int))
       (cond (ltN (5 : Int) 1000000000)
        (vl (Int.emod stop'5 (5 : Int)) fun n'9 =>
         lsc_e1 lf z'6 l'7 n'9 name'4 (fun z'11 l'12 n'13 n'14 => cond (n'14 == (if ((↑(List.length l'12) : Int) < n'13) then (↑(List.length l'12) : Int) else n'13))
          (k2 true true z'11 l'12 n'13 n'14)
          (k2 false false z'11 l'12 n'13 n'14)) (fun z'15 l'16 n'17 n'18 => cond (n'18 == (if ((↑(List.length l'16) : Int) < n'17) then (↑(List.length l'16) : Int) else n'17))
          (k2 true true z'15 l'16 n'17 n'18)
          (k2 false false z'15 l'16 n'17 n'18)) (fun z'19 l'20 n'21 n'22 => k2 false false z'19 l'20 n'21 n'22))
        (none))
       (none))))
    (none))
   (none))
theorem lsc_eq (b_111111111010 : Code) (h_lsc_e1 : lsc_e1_P (R := PV × List Blk × σ) lf cl yh s b_111111111010) (name0 : By) (stop1 : Int) : evCode (c_lsc lf) cl yh (cd [] (putC [1,1,1,1,1,1,1,1,1,0,1,0] b_111111111010 b_lsc)) ⟨[.s (.str name0), .s (.int .i64 stop1)] ++ tps 94, [], s⟩ (retK (c_lsc lf) Tryd.f4) = lsc lf name0 stop1 (fun _ => some (.s (.bool true), [.box [.s (.bool true)]], s)) (fun z0 l1 => some (.s (.bool false), [.box [.s (.bool false)], .arr true 9 1 [], .box [.s (.sl z0 z0 1 l1)]], s)) (fun r0 b1 z2 l3 n4 n5 => some (.s (.bool r0), [.box [.s (.bool b1)], .arr true 9 1 [], .box [.s (.sl z2 z2 1 l3)], .box [.s (.int .i64 n4)], .box [.s (.int .i64 n5)], .box [.bad]], s)) := by
  unfold lsc; exact (Eq.trans (by kernel_rfl) (cond_congr rfl (cond_congr (cond_congr (vl_congr fun n'1 => (cond_congr rfl ((lsc_l0_eq lf cl yh s (blkK 0 (seqK (c_lsc lf) cl yh (cd [1,1,1,1,1,1] (putC [1,1,1,1,1,1,1,1,1,0,1,0] b_111111111010 b_lsc)) (retK (c_lsc lf) Tryd.f4))) lf name0 stop1 name0 0 (List.isEmpty (supersN name0)) (strE (supersN name0))).trans (congr (congr rfl (funext fun z'2 => (funext fun l'3 => (by kernel_rfl)))) (funext fun name'4 => (funext fun stop'5 => (funext fun z'6 => (funext fun l'7 => (Eq.trans (by kernel_rfl) (cond_congr (cond_congr (vl_congr fun n'9 => ((h_lsc_e1 (blkK 2 (seqK (c_lsc lf) cl yh (cd [1,1,1,1,1,1,1,1,1,1] b_lsc) (retK (c_lsc lf) Tryd.f4))) z'6 l'7 n'9 name'4).trans (congr (congr (congr rfl (funext fun z'11 => (funext fun l'12 => (funext fun n'13 => (funext fun n'14 => (by kernel_rfl)))))) (funext fun z'15 => (funext fun l'16 => (funext fun n'17 => (funext fun n'18 => (by kernel_rfl)))))) (funext fun z'19 => (funext fun l'20 => (funext fun n'21 => (funext fun n'22 => (by kernel_rfl)))))))) rfl) rfl)))))))))) rfl) rfl)))
theorem lsc_ev (d : Nat) (name0 : By) (stop1 : Int) : evC (c_lsc lf) (d + 1) σ yh 4 [.s (.str name0), .s (.int .i64 stop1)] [] s = lsc lf name0 stop1 (fun _ => some (.s (.bool true), [.box [.s (.bool true)]], s)) (fun z0 l1 => some (.s (.bool false), [.box [.s (.bool false)], .arr true 9 1 [], .box [.s (.sl z0 z0 1 l1)]], s)) (fun r0 b1 z2 l3 n4 n5 => some (.s (.bool r0), [.box [.s (.bool b1)], .arr true 9 1 [], .box [.s (.sl z2 z2 1 l3)], .box [.s (.int .i64 n4)], .box [.s (.int .i64 n5)], .box [.bad]], s)) :=
  (evC_eq (fn := Tryd.f4) (by kernel_rfl) (by kernel_rfl) (by kernel_rfl)).trans (Eq.trans (by kernel_rfl) (lsc_eq lf (evC (c_lsc lf) d) yh s (cd [1,1,1,1,1,1,1,1,1,0,1,0] b_lsc) (lsc_e1_eq lf (evC (c_lsc lf) d) yh s) name0 stop1))
end
end Go.Proofs.YtokehocipgepnaaDoor.E
namespace Go.Proofs.YtokehocipgepnaaDoor.E
open Go Go.Proofs
set_option linter.unusedVariables false
set_option maxRecDepth 100000
section
variable {σ R : Type} (lf : Nat) (cl : CallT) (yh : Yh σ) (s : σ) (k : Out → St σ → Option R)
noncomputable def c_kmod (lf : Nat) : Cfg := mkCfg lf [11] (lookK []) []
  (lookK [(4, [4]), (3, [5]), (2, [1, 3, 4]), (1, [1, 3]), (0, [0, 0])]) [] (lookK []) (some [4]) [] [] []
noncomputable def kmod {R : Type} (lf : Nat) (n0 m1 : Int) (k0 : Int → Option R) : Option R :=
  cond (m1 != (0 : Int))
  (cond (ltI (Int.tmod n0 m1) (0 : Int))
   (vl (wi64 ((Int.tmod n0 m1) + m1)) fun n'0 =>
    k0 n'0)
   (k0 (Int.tmod n0 m1)))
  (none)
theorem kmod_ev (d : Nat) (n0 m1 : Int) : evC (c_kmod lf) (d + 1) σ yh 11 [.s (.int .i64 n0), .s (.int .i64 m1)] [] s = kmod lf n0 m1 (fun r0 => some (.s (.int .i64 r0), [], s)) := by
  refine (evC_eq (fn := Tryd.f11) (by kernel_rfl) (by kernel_rfl) (by kernel_rfl)).trans ?_
  generalize evC (c_kmod lf) d = cl
  unfold kmod; kernel_rfl
noncomputable abbrev b_lsupers : Code := bodyOf Tryd.f9
noncomputable def c_lsupers (lf : Nat) : Cfg := mkCfg lf [9] (lookK []) [(12, X_hsup)]
  (lookK [(9, [2]), (8, [3, 14]), (7, [3]), (6, [3, 1]), (5, [3, 6]), (4, [2]), (3, [3, 0, 4]), (2, [3, 0]), (1, [0, 2]), (0, [0])]) [] (lookK [(0, [3]), (1, [3])]) (some [2]) [] [(19, X_hsupf)] [] (nt := [(27, 0, 9, 1)])
noncomputable def lsupers_g0f {R : Type} (lf : Nat) (x'0 : By) (xs : List By) (self : LL → Option R) (l0 : LL) (k0 : LL → Option R) (k1 : LL → Option R) : Option R :=
  cond (roomy ((List.length l0) + 1))
  (cond (ltI (300 : Int) (↑(List.length (l0 ++ [[(SV.str x'0)]])) : Int))
   (k1 (l0 ++ [[(SV.str x'0)]]))
   (self (l0 ++ [[(SV.str x'0)]])))
  (none)
noncomputable def lsupers_g0 {R : Type} (lf : Nat) (L : List By) (l0 : LL) (k0 : LL → Option R) (k1 : LL → Option R) : Option R :=
  recS (α := LL → Option R) (fun l0 => k0 l0) (fun x'0 xs self l0 => lsupers_g0f lf x'0 xs self l0 k0 k1) L l0
theorem lsupers_g0_s {R : Type} (lf : Nat) (x'0 : By) (xs : List By) (l0 : LL) (k0 : LL → Option R) (k1 : LL → Option R) : lsupers_g0 lf (x'0 :: xs) l0 k0 k1 = lsupers_g0f lf x'0 xs (fun l0 => lsupers_g0 lf xs l0 k0 k1) l0 k0 k1 := rfl
theorem lsupers_g0_eq (L : List By) (l0 : LL) : roundsK #[11] (gp [(3, .ptr 1 0 0), (6, .fnr (Fn.func 19) [] [.bad])] 9) (bd (c_lsupers lf) cl yh (cd [1,1,1,1,0,1,0,0] b_lsupers)) (bd (c_lsupers lf) cl yh (cd [1,1,1,1,0,1,0,1] b_lsupers)) (L.map (fun (x'0 : By) => ([.s (.str x'0)] : List PV))) [.arr true 9 1 l0, .box [.fl 0], .dead] s (rgK (gp [(3, .ptr 1 0 0), (6, .fnr (Fn.func 19) [] [.bad])] 9) (fun H => setAll H [2] [.box [.bad]]) k) =
  lsupers_g0 lf L l0 (fun l0 => k .normal ⟨gp [(3, .ptr 1 0 0), (6, .fnr (Fn.func 19) [] [.bad])] 9, [.arr true 9 1 l0, .box [.fl 0], .box [.bad]], s⟩) (fun l0 => k (.exit 0) ⟨gp [(3, .ptr 1 0 0), (6, .fnr (Fn.func 19) [] [.bad])] 9, [.arr true 9 1 l0, .box [.fl 0], .box [.bad]], s⟩) := by
  induction L generalizing l0 with
  | nil => rfl
  | cons x'0 xs ih => rw [lsupers_g0_s]; unfold lsupers_g0f; exact (Eq.trans (by kernel_rfl) (cond_congr (cond_congr rfl (ih (l0 ++ [[(SV.str x'0)]]))) rfl))
noncomputable def lsupers_e1 {R : Type} (lf : Nat) (s0 : By) (k0 : LL → Option R) (k1 : LL → Option R) : Option R :=
  cond (small (List.length s0)) (lsupers_g0 lf (supersN s0) [] k0 k1) none
abbrev lsupers_e1_P (b : Code) : Prop := ∀ (k : Out → St σ → Option R) (s0 : By), evCode (c_lsupers lf) cl yh b ⟨gp [(3, .ptr 1 0 0), (6, .fnr (Fn.func 19) [] [.ptr 2 0 0])] 9, [.arr true 9 1 [], .box [.fl 0], .box [.s (.str s0)]], s⟩ k =
  lsupers_e1 lf s0 (fun l0 => k .normal ⟨gp [(3, .ptr 1 0 0), (6, .fnr (Fn.func 19) [] [.bad])] 9, [.arr true 9 1 l0, .box [.fl 0], .box [.bad]], s⟩) (fun l0 => k (.exit 0) ⟨gp [(3, .ptr 1 0 0), (6, .fnr (Fn.func 19) [] [.bad])] 9, [.arr true 9 1 l0, .box [.fl 0], .box [.bad]], s⟩)
theorem lsupers_e1_eq : lsupers_e1_P (R := R) lf cl yh s (cd [1,1,1,1,0,1,0] b_lsupers) := by
  intro k s0; unfold lsupers_e1; exact ((ev_rg [1,1,1,1,0,1,0] (by kernel_rfl)).trans (by kernel_rfl)).trans (need_congr (lsupers_g0_eq lf cl yh s k (supersN s0) []))
noncomputable def lsupers {R : Type} (lf : Nat) (name0 : By) (k0 : LL → Option R) : Option R :=
  lsupers_e1 lf name0 (fun l'1 => k0 l'1) (fun l'2 => k0 l'2)
theorem lsupers_eq (b_1111010 : Code) (h_lsupers_e1 : lsupers_e1_P (R := PV × List Blk × σ) lf cl yh s b_1111010) (name0 : By) : evCode (c_lsupers lf) cl yh (cd [] (putC [1,1,1,1,0,1,0] b_1111010 b_lsupers)) ⟨[.s (.str name0)] ++ tps 19, [], s⟩ (retK (c_lsupers lf) Tryd.f9) = lsupers lf name0 (fun l0 => some (.fl 0, [.arr true 9 1 l0, .box [.fl 0], .box [.bad]], s)) := by
  unfold lsupers; exact (Eq.trans (by kernel_rfl) ((h_lsupers_e1 (blkK 0 (seqK (c_lsupers lf) cl yh (cd [1,1,1,1,1] b_lsupers) (retK (c_lsupers lf) Tryd.f9))) name0).trans (congr (congr rfl (funext fun l'1 => (by kernel_rfl))) (funext fun l'2 => (by kernel_rfl)))))
theorem lsupers_ev (d : Nat) (name0 : By) : evC (c_lsupers lf) (d + 1) σ yh 9 [.s (.str name0)] [] s = lsupers lf name0 (fun l0 => some (.fl 0, [.arr true 9 1 l0, .box [.fl 0], .box [.bad]], s)) :=
  (evC_eq (fn := Tryd.f9) (by kernel_rfl) (by kernel_rfl) (by kernel_rfl)).trans (Eq.trans (by kernel_rfl) (lsupers_eq lf (evC (c_lsupers lf) d) yh s (cd [1,1,1,1,0,1,0] b_lsupers) (lsupers_e1_eq lf (evC (c_lsupers lf) d) yh s) name0))
end
end Go.Proofs.YtokehocipgepnaaDoor.E
namespace Go.Proofs.YtokehocipgepnaaDoor.E
open Go Go.Proofs
set_option linter.unusedVariables false
set_option linter.unusedSimpArgs false
set_option maxRecDepth 100000
def Tru (x : Option (PV × List Blk × Unit)) : Prop := ∃ H, x = some (.s (.bool true), H, ())
end Go.Proofs.YtokehocipgepnaaDoor.E
namespace Go.Proofs.YtokehocipgepnaaDoor.E
open Go Go.Proofs
set_option linter.unusedVariables false
set_option maxRecDepth 100000
section
theorem x_explode : XFact Tryd.prog GX 58 X_explode := fun args ret Hc h => by
  have : trRes (X_explode args) = none := by unfold X_explode X_explode0; split <;> rfl
  rw [this] at h; cases h
theorem x_lpre : XFact Tryd.prog GX 41 X_lpre := by
  refine XFact.fix (pf := X_lpre0) _ (xfact_of_stab [] (C₀ := c_lpre LF) (XFacts.ok (l := []) rfl trivial) (okFns_of rfl (by kernel_rfl)) follows ?_)
  intro args ret Hc h
  unfold X_lpre0 at h
  split at h
  · rename_i s p
    obtain ⟨h0, h⟩ := tr_need h
    obtain ⟨rfl, rfl⟩ := tr_ret h
    have e := (lpre_ev LF noY () 0 s p).trans (lpre_spec s p h0)
    exact ⟨rfl, rfl, rfl, 1, _, _, e, rfl⟩
  · cases h
theorem x_hpre : XFact Tryd.prog GX 21 X_hpre := by
  refine XFact.fix (pf := X_hpre0) _ (xfact_of_stab [] (C₀ := c_hpre LF) (XFacts.ok (l := [(41, X_lpre)]) rfl ⟨x_lpre, trivial⟩) (okFns_of rfl (by kernel_rfl)) follows ?_)
  intro args ret Hc h
  unfold X_hpre0 at h
  split at h
  · rename_i s p
    obtain ⟨h0, h⟩ := tr_need h
    obtain ⟨rfl, rfl⟩ := tr_ret h
    have e := (hpre_ev LF noY () 0 s p).trans (hpre_spec s p h0)
    exact ⟨rfl, rfl, rfl, 1, _, _, e, rfl⟩
  · cases h
theorem x_lsuf : XFact Tryd.prog GX 29 X_lsuf := by
  refine XFact.fix (pf := X_lsuf0) _ (xfact_of_stab [] (C₀ := c_lsuf LF) (XFacts.ok (l := []) rfl trivial) (okFns_of rfl (by kernel_rfl)) follows ?_)
  intro args ret Hc h
  unfold X_lsuf0 at h
  split at h
  · rename_i s p
    obtain ⟨h0, h⟩ := tr_need h
    obtain ⟨rfl, rfl⟩ := tr_ret h
    have e := (lsuf_ev LF noY () 0 s p).trans (lsuf_spec s p h0)
    exact ⟨rfl, rfl, rfl, 1, _, _, e, rfl⟩
  · cases h
theorem x_hsuf : XFact Tryd.prog GX 14 X_hsuf := by
  refine XFact.fix (pf := X_hsuf0) _ (xfact_of_stab [] (C₀ := c_hsuf LF) (XFacts.ok (l := [(29, X_lsuf)]) rfl ⟨x_lsuf, trivial⟩) (okFns_of rfl (by kernel_rfl)) follows ?_)
  intro args ret Hc h
  unfold X_hsuf0 at h
  split at h
  · rename_i s p
    obtain ⟨h0, h⟩ := tr_need h
    obtain ⟨rfl, rfl⟩ := tr_ret h
    have e := (hsuf_ev LF noY () 0 s p).trans (hsuf_spec s p h0)
    exact ⟨rfl, rfl, rfl, 1, _, _, e, rfl⟩
  · cases h
theorem x_ltsuf : XFact Tryd.prog GX 44 X_ltsuf := by
  refine XFact.fix (pf := X_ltsuf0) _ (xfact_of_stab [] (C₀ := c_ltsuf LF) (XFacts.ok (l := [(29, X_lsuf)]) rfl ⟨x_lsuf, trivial⟩) (okFns_of rfl (by kernel_rfl)) follows ?_)
  intro args ret Hc h
  unfold X_ltsuf0 at h
  split at h
  · rename_i s p
    obtain ⟨h0, h⟩ := tr_need h
    obtain ⟨rfl, rfl⟩ := tr_ret h
    have e := (ltsuf_ev LF noY () 0 s p).trans (ltsuf_spec s p h0)
    exact ⟨rfl, rfl, rfl, 1, _, _, e, rfl⟩
  · cases h
theorem x_tsufc : XFact Tryd.prog GX 24 X_tsufc := by
  refine XFact.fix (pf := X_tsufc0) _ (xfact_of_stab [] (C₀ := c_tsufc LF) (XFacts.ok (l := [(44, X_ltsuf)]) rfl ⟨x_ltsuf, trivial⟩) (okFns_of rfl (by kernel_rfl)) follows ?_)
  intro args ret Hc h
  unfold X_tsufc0 at h
  split at h
  · rename_i s p
    obtain ⟨h0, h⟩ := tr_need h
    obtain ⟨rfl, rfl⟩ := tr_ret h
    have e := (tsufc_ev LF noY () 0 s p).trans (tsufc_spec s p h0)
    exact ⟨rfl, rfl, rfl, 1, _, _, e, rfl⟩
  · cases h
theorem x_lcpre : XFact Tryd.prog GX 54 X_lcpre := by
  refine XFact.fix (pf := X_lcpre0) _ (xfact_of_stab [0, 0] (C₀ := c_lcpre LF) (XFacts.ok (l := [(41, X_lpre)]) rfl ⟨x_lpre, trivial⟩) (okFns_of rfl (by kernel_rfl)) follows ?_)
  intro args ret Hc h
  unfold X_lcpre0 at h
  split at h
  · rename_i s p
    obtain ⟨h0, h⟩ := tr_need h
    obtain ⟨rfl, rfl⟩ := tr_ret h
    have e := (lcpre_ev LF noY () 0 s p).trans (lcpre_spec s p h0)
    exact ⟨rfl, rfl, rfl, 1, _, _, e, rfl⟩
  · cases h
theorem x_cpre : XFact Tryd.prog GX 35 X_cpre := by
  refine XFact.fix (pf := X_cpre0) _ (xfact_of_stab [0, 0] (C₀ := c_cpre LF) (XFacts.ok (l := [(54, X_lcpre)]) rfl ⟨x_lcpre, trivial⟩) (okFns_of rfl (by kernel_rfl)) follows ?_)
  intro args ret Hc h
  unfold X_cpre0 at h
  split at h
  · rename_i s p
    obtain ⟨h0, h⟩ := tr_need h
    obtain ⟨rfl, rfl⟩ := tr_ret h
    have e := (cpre_ev LF noY () 0 s p).trans (cpre_spec s p h0)
    exact ⟨rfl, rfl, rfl, 1, _, _, e, rfl⟩
  · cases h
theorem x_gsplit : XFact Tryd.prog GX 45 X_gsplit := by
  refine XFact.fix (pf := X_gsplit0) _ (xfact_of_stab [1] (C₀ := c_gsplit LF) (XFacts.ok (l := [(58, X_explode), (18, X_scnt), (39, X_sidx)]) rfl ⟨x_explode, x_scnt, x_sidx, trivial⟩) (okFns_of rfl (by kernel_rfl)) follows ?_)
  intro args ret Hc h
  unfold X_gsplit0 at h
  split at h
  · rename_i s p v n
    obtain ⟨h0, h⟩ := tr_need h
    obtain ⟨h1, h⟩ := tr_need h
    obtain ⟨h2, h⟩ := tr_need h
    obtain ⟨h3, h⟩ := tr_need h
    obtain ⟨rfl, rfl⟩ := tr_ret h
    obtain ⟨r, H, e, hs⟩ := gsplit_spec s p v n h0 h1 h2 h3
    exact ⟨rfl, rfl, rfl, 1, r, H, (gsplit_ev LF noY () 0 s p v n).trans e, hs⟩
  · cases h
theorem x_ssplit : XFact Tryd.prog GX 26 X_ssplit := by
  refine XFact.fix (pf := X_ssplit0) _ (xfact_of_stab [1] (C₀ := c_ssplit LF) (XFacts.ok (l := [(45, X_gsplit)]) rfl ⟨x_gsplit, trivial⟩) (okFns_of rfl (by kernel_rfl)) follows ?_)
  intro args ret Hc h
  unfold X_ssplit0 at h
  split at h
  · rename_i s p
    obtain ⟨h0, h⟩ := tr_need h
    obtain ⟨h1, h⟩ := tr_need h
    obtain ⟨rfl, rfl⟩ := tr_ret h
    have e := (ssplit_ev LF noY () 0 s p).trans (ssplit_spec s p h0 h1)
    exact ⟨rfl, rfl, rfl, 1, _, _, e, rfl⟩
  · cases h
theorem x_lowc : XFact Tryd.prog GX 47 X_lowc := by
  refine XFact.fix (pf := X_lowc0) _ (xfact_of_stab [] (C₀ := c_lowc LF) (XFacts.ok (l := []) rfl trivial) (okFns_of rfl (by kernel_rfl)) follows ?_)
  intro args ret Hc h
  unfold X_lowc0 at h
  split at h
  · rename_i s
    obtain ⟨h0, h⟩ := tr_need h
    obtain ⟨rfl, rfl⟩ := tr_ret h
    have e := (lowc_ev LF noY () 0 s).trans (lowc_spec s h0)
    exact ⟨rfl, rfl, rfl, 1, _, _, e, rfl⟩
  · cases h
theorem x_hexc : XFact Tryd.prog GX 31 X_hexc := by
  refine XFact.fix (pf := X_hexc0) _ (xfact_of_stab [] (C₀ := c_hexc LF) (XFacts.ok (l := [(21, X_hpre)]) rfl ⟨x_hpre, trivial⟩) (okFns_of rfl (by kernel_rfl)) follows ?_)
  intro args ret Hc h
  unfold X_hexc0 at h
  split at h
  · rename_i s
    obtain ⟨h0, h⟩ := tr_need h
    obtain ⟨rfl, rfl⟩ := tr_ret h
    have e := (hexc_ev LF noY () 0 s).trans (hexc_spec s h0)
    exact ⟨rfl, rfl, rfl, 1, _, _, e, rfl⟩
  · cases h
theorem x_digs : XFact Tryd.prog GX 33 X_digs := by
  refine XFact.fix (pf := X_digs0) _ (xfact_of_stab [0, 0] (C₀ := c_digs LF) (XFacts.ok (l := []) rfl trivial) (okFns_of rfl (by kernel_rfl)) follows ?_)
  intro args ret Hc h
  unfold X_digs0 at h
  split at h
  · rename_i s base
    obtain ⟨h0, h⟩ := tr_need h
    obtain ⟨h1, h⟩ := tr_need h
    obtain ⟨rfl, rfl⟩ := tr_ret h
    have e := (digs_ev LF noY () 0 s base).trans (digs_spec s base h0 h1)
    exact ⟨rfl, rfl, rfl, 1, _, _, e, rfl⟩
  · cases h
theorem x_num : XFact Tryd.prog GX 32 X_num := by
  refine XFact.fix (pf := X_num0) _ (xfact_of_stab [0, 0] (C₀ := c_num LF) (XFacts.ok (l := [(31, X_hexc), (33, X_digs)]) rfl ⟨x_hexc, x_digs, trivial⟩) (okFns_of rfl (by kernel_rfl)) follows ?_)
  intro args ret Hc h
  unfold X_num0 at h
  split at h
  · rename_i s
    obtain ⟨h0, h⟩ := tr_need h
    obtain ⟨rfl, rfl⟩ := tr_ret h
    have e := (num_ev LF noY () 0 s).trans (num_spec s h0)
    exact ⟨rfl, rfl, rfl, 1, _, _, e, rfl⟩
  · cases h
theorem x_parts : XFact Tryd.prog GX 30 X_parts := by
  refine XFact.fix (pf := X_parts0) _ (xfact_of_stab [1] (C₀ := c_parts LF) (XFacts.ok (l := [(26, X_ssplit)]) rfl ⟨x_ssplit, trivial⟩) (okFns_of rfl (by kernel_rfl)) follows ?_)
  intro args ret Hc h
  unfold X_parts0 at h
  split at h
  · rename_i s
    obtain ⟨h0, h⟩ := tr_need h
    obtain ⟨rfl, rfl⟩ := tr_ret h
    have e := (parts_ev LF noY () 0 s).trans (parts_spec s h0)
    exact ⟨rfl, rfl, rfl, 1, _, _, e, rfl⟩
  · cases h
theorem x_numeric : XFact Tryd.prog GX 15 X_numeric := by
  refine XFact.fix (pf := X_numeric0) _ (xfact_of_stab [] (C₀ := c_numeric LF) (XFacts.ok (l := [(30, X_parts), (31, X_hexc), (32, X_num), (33, X_digs)]) rfl ⟨x_parts, x_hexc, x_num, x_digs, trivial⟩) (okFns_of rfl (by kernel_rfl)) follows ?_)
  intro args ret Hc h
  unfold X_numeric0 at h
  split at h
  · rename_i s
    obtain ⟨h0, h⟩ := tr_need h
    obtain ⟨rfl, rfl⟩ := tr_ret h
    have e := (numeric_ev LF noY () 0 s).trans (numeric_spec s h0)
    exact ⟨rfl, rfl, rfl, 1, _, _, e, rfl⟩
  · cases h
theorem x_pnum : XFact Tryd.prog GX 25 X_pnum := by
  refine XFact.fix (pf := X_pnum0) _ (xfact_of_stab [0, 0] (C₀ := c_pnum LF) (XFacts.ok (l := [(30, X_parts), (32, X_num)]) rfl ⟨x_parts, x_num, trivial⟩) (okFns_of rfl (by kernel_rfl)) follows ?_)
  intro args ret Hc h
  unfold X_pnum0 at h
  split at h
  · rename_i s
    obtain ⟨h0, h⟩ := tr_need h
    obtain ⟨rfl, rfl⟩ := tr_ret h
    have e := (pnum_ev LF noY () 0 s).trans (pnum_spec s h0)
    exact ⟨rfl, rfl, rfl, 1, _, _, e, rfl⟩
  · cases h
theorem x_v4p : XFact Tryd.prog GX 73 X_v4p := by
  refine XFact.fix (pf := X_v4p0) _ (xfact_of_stab [0, 0] (C₀ := c_v4p LF) (XFacts.ok (l := [(26, X_ssplit), (33, X_digs), (83, X_itoa)]) rfl ⟨x_ssplit, x_digs, x_itoa, trivial⟩) (okFns_of rfl (by kernel_rfl)) follows ?_)
  intro args ret Hc h
  unfold X_v4p0 at h
  split at h
  · rename_i s
    obtain ⟨h0, h⟩ := tr_need h
    obtain ⟨rfl, rfl⟩ := tr_ret h
    have e := (v4p_ev LF noY () 0 s).trans (v4p_spec s h0)
    exact ⟨rfl, rfl, rfl, 1, _, _, e, rfl⟩
  · cases h
theorem x_gsplitM : XFact Tryd.prog GX 45 X_gsplitM := by
  refine XFact.fix (pf := X_gsplitM0) _ (xfact_of_run (C₀ := c_gsplit LF) (XFacts.ok (l := [(58, X_explode), (18, X_scnt), (39, X_sidx)]) rfl ⟨x_explode, x_scnt, x_sidx, trivial⟩) (okFns_of rfl (by kernel_rfl)) follows ?_)
  intro args ret Hc h
  unfold X_gsplitM0 at h
  split at h
  · rename_i s p v n
    obtain ⟨h0, h⟩ := tr_need h
    obtain ⟨h1, h⟩ := tr_need h
    obtain ⟨h2, h⟩ := tr_need h
    obtain ⟨h3, h⟩ := tr_need h
    obtain ⟨rfl, rfl⟩ := tr_ret h
    have e := (gsplit_ev LF noY () 0 s p v n).trans (gsplit_run s p v n h0 h1 h2 h3)
    exact ⟨rfl, 1, _, [], e, rfl, rfl⟩
  · cases h
theorem x_ssplitM : XFact Tryd.prog GX 26 X_ssplitM := by
  refine XFact.fix (pf := X_ssplitM0) _ (xfact_of_run (C₀ := c_ssplitM LF) (XFacts.ok (l := [(45, X_gsplitM)]) rfl ⟨x_gsplitM, trivial⟩) (okFns_of rfl (by kernel_rfl)) follows ?_)
  intro args ret Hc h
  unfold X_ssplitM0 at h
  split at h
  · rename_i s p
    obtain ⟨h0, h⟩ := tr_need h
    obtain ⟨h1, h⟩ := tr_need h
    obtain ⟨rfl, rfl⟩ := tr_ret h
    have e := (ssplitM_ev LF noY () 0 s p).trans (ssplitM_spec s p h0 h1)
    exact ⟨rfl, 1, _, [], e, rfl, rfl⟩
  · cases h
end
end Go.Proofs.YtokehocipgepnaaDoor.E
namespace Go.Proofs.YtokehocipgepnaaDoor.E
open Go Go.Proofs
set_option linter.unusedVariables false
set_option maxRecDepth 100000
section
theorem x_grpc : XFact Tryd.prog GX 72 X_grpc := by
  refine XFact.fix (pf := X_grpc0) _ (xfact_of_stab [0, 0] (C₀ := c_grpc LF) (XFacts.ok (l := []) rfl trivial) (okFns_of rfl (by kernel_rfl)) follows ?_)
  intro args ret Hc h
  unfold X_grpc0 at h
  split at h
  · rename_i s
    obtain ⟨h0, h⟩ := tr_need h
    obtain ⟨rfl, rfl⟩ := tr_ret h
    have e := (grpc_ev LF noY () 0 s).trans (grpc_spec s h0)
    exact ⟨rfl, rfl, rfl, 1, _, _, e, rfl⟩
  · cases h
theorem x_grpsc : XFact Tryd.prog GX 57 X_grpsc := by
  refine XFact.fix (pf := X_grpsc0) _ (xfact_of_stab [1, 0] (C₀ := c_grpsc LF) (XFacts.ok (l := [(26, X_ssplit), (72, X_grpc), (73, X_v4p)]) rfl ⟨x_ssplit, x_grpc, x_v4p, trivial⟩) (okFns_of rfl (by kernel_rfl)) follows ?_)
  intro args ret Hc h
  unfold X_grpsc0 at h
  split at h
  · rename_i s last
    obtain ⟨h0, h⟩ := tr_need h
    obtain ⟨rfl, rfl⟩ := tr_ret h
    obtain ⟨r, H, e, hs⟩ := grpsc_spec s last h0
    exact ⟨rfl, rfl, rfl, 1, r, H, (grpsc_ev LF noY () 0 s last).trans e, hs⟩
  · cases h
theorem x_v6p : XFact Tryd.prog GX 42 X_v6p := by
  refine XFact.fix (pf := X_v6p0) _ (xfact_of_stab [0, 0] (C₀ := c_v6p LF) (XFacts.ok (l := [(20, X_scut), (57, X_grpsc)]) rfl ⟨x_scut, x_grpsc, trivial⟩) (okFns_of rfl (by kernel_rfl)) follows ?_)
  intro args ret Hc h
  unfold X_v6p0 at h
  split at h
  · rename_i s
    obtain ⟨h0, h⟩ := tr_need h
    obtain ⟨rfl, rfl⟩ := tr_ret h
    obtain ⟨r, H, e, hs⟩ := v6p_sp s h0
    exact ⟨rfl, rfl, rfl, 1, r, H, (v6p_ev LF noY () 0 s).trans e, hs⟩
  · cases h
theorem x_ppoint : XFact Tryd.prog GX 60 X_ppoint := by
  refine XFact.fix (pf := X_ppoint0) _ (xfact_of_stab [] (C₀ := c_ppoint LF) (XFacts.ok (l := []) rfl trivial) (okFns_of rfl (by kernel_rfl)) follows ?_)
  intro args ret Hc h
  unfold X_ppoint0 at h
  split at h
  · rename_i n
    obtain ⟨rfl, rfl⟩ := tr_ret h
    have e := (ppoint_ev LF noY () 0 n).trans (ppoint_spec n )
    exact ⟨rfl, rfl, rfl, 1, _, _, e, rfl⟩
  · cases h
theorem x_padapt : XFact Tryd.prog GX 62 X_padapt := by
  refine XFact.fix (pf := X_padapt0) _ (xfact_of_stab [] (C₀ := c_padapt LF) (XFacts.ok (l := []) rfl trivial) (okFns_of rfl (by kernel_rfl)) follows ?_)
  intro args ret Hc h
  unfold X_padapt0 at h
  split at h
  · rename_i d c f
    obtain ⟨h0, h⟩ := tr_need h
    obtain ⟨h1, h⟩ := tr_need h
    obtain ⟨h2, h⟩ := tr_need h
    obtain ⟨rfl, rfl⟩ := tr_ret h
    have e := (padapt_ev LF noY () 0 d c f).trans (padapt_spec d c f h0 h1 h2)
    exact ⟨rfl, rfl, rfl, 1, _, _, e, rfl⟩
  · cases h
theorem x_pdig : XFact Tryd.prog GX 75 X_pdig := by
  refine XFact.fix (pf := X_pdig0) _ (xfact_of_stab [] (C₀ := c_pdig LF) (XFacts.ok (l := []) rfl trivial) (okFns_of rfl (by kernel_rfl)) follows ?_)
  intro args ret Hc h
  unfold X_pdig0 at h
  split at h
  · rename_i d
    obtain ⟨h0, h⟩ := tr_need h
    obtain ⟨rfl, rfl⟩ := tr_ret h
    have e := (pdig_ev LF noY () 0 d).trans (pdig_spec d h0)
    exact ⟨rfl, rfl, rfl, 1, _, _, e, rfl⟩
  · cases h
theorem x_pval : XFact Tryd.prog GX 85 X_pval := by
  refine XFact.fix (pf := X_pval0) _ (xfact_of_stab [] (C₀ := c_pval LF) (XFacts.ok (l := []) rfl trivial) (okFns_of rfl (by kernel_rfl)) follows ?_)
  intro args ret Hc h
  unfold X_pval0 at h
  split at h
  · rename_i b
    obtain ⟨h0, h⟩ := tr_need h
    obtain ⟨rfl, rfl⟩ := tr_ret h
    have e := (pval_ev LF noY () 0 b).trans (pval_spec b h0)
    exact ⟨rfl, rfl, rfl, 1, _, _, e, rfl⟩
  · cases h
end
end Go.Proofs.YtokehocipgepnaaDoor.E
namespace Go.Proofs.YtokehocipgepnaaDoor.E
open Go Go.Proofs
set_option linter.unusedVariables false
set_option maxRecDepth 100000
section
theorem x_pthr : XFact Tryd.prog GX 74 X_pthr := by
  refine XFact.fix (pf := X_pthr0) _ (xfact_of_run (C₀ := c_pthr LF) (XFacts.ok (l := []) rfl trivial) (okFns_of rfl (by kernel_rfl)) follows ?_)
  intro args ret Hc h
  unfold X_pthr0 at h
  split at h
  · rename_i b
    obtain ⟨rfl, rfl⟩ := tr_ret h
    have e := (pthr_ev LF noY () 0 b).trans (pthr_spec b )
    exact ⟨rfl, 1, _, [], e, rfl, rfl⟩
  · cases h
theorem y_pnext : YFact Tryd.prog GX 84 X_pnext := by
  refine yfact_of_run (C₀ := c_pnext LF) (XFacts.ok (l := []) rfl trivial) (okFns_of rfl (by kernel_rfl)) follows ?_
  intro args H ret Hc h
  unfold X_pnext at h
  split at h
  · rename_i k b
    obtain ⟨h0, h⟩ := tr_need h
    obtain ⟨h1, h⟩ := tr_need h
    obtain ⟨rfl, rfl⟩ := tr_ret h
    refine ⟨rfl, rfl, fun σ yh s => ?_⟩
    have e := (pnext_ev LF yh s 0 k b).trans (pnext_spec k b h0 h1)
    exact ⟨1, _, e, rfl⟩
  · cases h
theorem y_papp : YFact Tryd.prog GX 61 X_papp := by
  refine yfact_of_run (C₀ := c_papp LF) (xok_of (lx := [(74, X_pthr), (75, X_pdig)]) (ly := [(84, X_pnext)]) (ls := []) rfl rfl rfl ⟨x_pthr, x_pdig, trivial⟩ ⟨y_pnext, trivial⟩ trivial) (okFns_of rfl (by kernel_rfl)) follows ?_
  intro args H ret Hc h
  unfold X_papp at h
  split at h
  · rename_i q b z l
    obtain ⟨h0, h⟩ := tr_need h
    obtain ⟨h1, h⟩ := tr_need h
    obtain ⟨h2, h⟩ := tr_need h
    obtain ⟨rfl, rfl⟩ := tr_ret h
    obtain ⟨x0, x1, e0⟩ := papp_spec q b z l h0 h1 h2
    exact ⟨rfl, rfl, fun σ yh s => ⟨1, _, (papp_ev LF yh s 0 q b z l).trans (e0 _ _), rfl⟩⟩
  · cases h
theorem x_penc : XFact Tryd.prog GX 48 X_penc := by
  refine XFact.fix (pf := X_penc0) _ (xfact_of_stab [0, 0] (C₀ := c_penc LF) (xok_of (lx := [(60, X_ppoint), (62, X_padapt)]) (ly := [(61, X_papp)]) (ls := []) rfl rfl rfl ⟨x_ppoint, x_padapt, trivial⟩ ⟨y_papp, trivial⟩ trivial) (okFns_of rfl (by kernel_rfl)) follows ?_)
  intro args ret Hc h
  unfold X_penc0 at h
  split at h
  · rename_i p_z p_t p
    obtain ⟨h0, h⟩ := tr_need h
    obtain ⟨rfl, rfl⟩ := tr_ret h
    obtain ⟨r, H, e, hs⟩ := penc_sp p_z p_t p h0
    exact ⟨rfl, rfl, rfl, 1, r, H, (penc_ev LF noY () 0 p_z p_t p).trans e, hs⟩
  · cases h
end
end Go.Proofs.YtokehocipgepnaaDoor.E
namespace Go.Proofs.YtokehocipgepnaaDoor.E
open Go Go.Proofs
set_option linter.unusedVariables false
set_option maxRecDepth 100000
section
theorem y_dnum : YFact Tryd.prog GX 79 X_dnum := by
  refine yfact_of_run (C₀ := c_dnum LF) (xok_of (lx := [(74, X_pthr), (85, X_pval)]) (ly := [(84, X_pnext)]) (ls := []) rfl rfl rfl ⟨x_pthr, x_pval, trivial⟩ ⟨y_pnext, trivial⟩ trivial) (okFns_of rfl (by kernel_rfl)) follows ?_
  intro args H ret Hc h
  unfold X_dnum at h
  split at h
  · rename_i rest n i b st z l
    obtain ⟨h0, h⟩ := tr_need h
    obtain ⟨h1, h⟩ := tr_need h
    obtain ⟨h2, h⟩ := tr_need h
    obtain ⟨rfl, rfl⟩ := tr_ret h
    obtain ⟨x0, e0⟩ := dnum_spec rest n i b st z l h0 h1 h2
    exact ⟨rfl, rfl, fun σ yh s => ⟨1, _, (dnum_ev LF yh s 0 rest n i b st z l).trans (e0 _ _), rfl⟩⟩
  · cases h
theorem x_ilastb : XFact Tryd.prog GX 78 X_ilastb := by
  refine XFact.fix (pf := X_ilastb0) _ (xfact_of_stab [] (C₀ := c_ilastb LF) (XFacts.ok (l := []) rfl trivial) (okFns_of rfl (by kernel_rfl)) follows ?_)
  intro args ret Hc h
  unfold X_ilastb0 at h
  split at h
  · rename_i s c
    obtain ⟨h0, h⟩ := tr_need h
    obtain ⟨h1, h⟩ := tr_need h
    obtain ⟨rfl, rfl⟩ := tr_ret h
    have e := (ilastb_ev LF noY () 0 s c).trans (ilastb_spec s c h0 h1)
    exact ⟨rfl, rfl, rfl, 1, _, _, e, rfl⟩
  · cases h
theorem x_lastb : XFact Tryd.prog GX 66 X_lastb := by
  refine XFact.fix (pf := X_lastb0) _ (xfact_of_stab [] (C₀ := c_lastb LF) (XFacts.ok (l := [(78, X_ilastb)]) rfl ⟨x_ilastb, trivial⟩) (okFns_of rfl (by kernel_rfl)) follows ?_)
  intro args ret Hc h
  unfold X_lastb0 at h
  split at h
  · rename_i s c
    obtain ⟨h0, h⟩ := tr_need h
    obtain ⟨h1, h⟩ := tr_need h
    obtain ⟨rfl, rfl⟩ := tr_ret h
    have e := (lastb_ev LF noY () 0 s c).trans (lastb_spec s c h0 h1)
    exact ⟨rfl, rfl, rfl, 1, _, _, e, rfl⟩
  · cases h
end
end Go.Proofs.YtokehocipgepnaaDoor.E
namespace Go.Proofs.YtokehocipgepnaaDoor.E
open Go Go.Proofs Go.Sort
set_option linter.unusedVariables false
set_option linter.unusedSimpArgs false
set_option maxRecDepth 100000
theorem sins_res {C : Cfg} {σ : Type} {I : σ → (Nat → Prop) → (Nat → Prop) → World → Prop} (hI : HI I) {Γ : Ctx} {Φ : Nat → Prop} {w w' : World} {z v1 : Bool} {E e1 s1 : Nat} {l l' m : LL} {s : σ} (g cap : Nat) (Vs : List Value) (cur : Array Value)
    (hnf : fixedT C E = false) (hH : HR Γ [.arr z E 1 l, .arr v1 e1 s1 m] w) (hi : I s Γ.St Φ w) (hd : ∀ b g, Γ.nm b = some g → ¬ Φ g)
    (hown : Γ.nm 0 = some g ∨ g = w.heap.size) (hgl : g < w'.heap.size) (hoth : ∀ k, k < w.heap.size → Γ.nm 0 ≠ some k → w'.heap[k]? = w.heap[k]?) (hsz : w.heap.size ≤ w'.heap.size) (h1 : w'.os = w.os) (h2 : w'.tape = w.tape) (h3 : w'.output = w.output)
    (hrow : w'.heap[g]? = some (.cells cur E (0, 0))) (hE : Els Γ.St w' 1 l' Vs) (hl' : l' ≠ []) (hc : ∀ q, q < Vs.length → cur[q]? = Vs[q]?) (hl : Vs.length ≤ cur.size) (hcap : l'.length ≤ cap) (hm : cap ≤ maxLen) (hcs : cur.size = cap) :
    CRes C I Γ [.arr z E 1 l, .arr v1 e1 s1 m] w Φ (.fl 0) [.arr z E 1 l', .arr v1 e1 s1 m] s (.slice (some ⟨g, 0, none⟩) l'.length cap) w' := by
  have hblt : 0 < [Blk.arr z E 1 l, .arr v1 e1 s1 m].length := by simp
  have hng : (Γ.re 0 (some g)).nm 0 = some g := by simp [Ctx.re]
  have hnf' : ¬ fixS C (shpOf [Blk.arr z E 1 l, .arr v1 e1 s1 m] 0) := by simp [shpOf, Blk.shp, fixS, hnf]
  have hk : ([Blk.arr z E 1 l, .arr v1 e1 s1 m].map (Blk.kill 0)).set 0 (.arr z E 1 l') = [.arr z E 1 l', .arr v1 e1 s1 m] := rfl
  have hgS : ¬ Γ.St g := by
    rcases hown with h | h
    · exact (hH.lt 0 g h).2.2
    · intro hs
      have := hH.stlt g hs
      omega
  obtain ⟨q1, q2, q3⟩ := rebind (C := C) (y := .arr z E 1 l') (ng := some g) (w' := w') hH hblt hnf' (fun k hk => by
      simp only [Option.some.injEq] at hk; subst hk
      refine ⟨hgl, hgS, fun c hc hc2 => ?_⟩
      rcases hown with h | h
      · exact hc (hH.inj c 0 _ hc2 h)
      · have := (hH.lt c _ hc2).2.1
        omega)
    (fun k hk => by
      simp only [Option.some.injEq] at hk; subst hk
      rcases hown with h | h
      · exact .inl h
      · exact .inr (by omega)) hoth hsz h1 h2 h3
    (BR.els hng hrow hE (by rintro ⟨_, h⟩; exact hl' h) hc hl) rfl
  rw [hk] at q1 q2
  refine ⟨_, Φ, q1.lift Φ, q2, ?_, fun c hc => ?_, ?_, fun b g' hb => ?_⟩
  · refine .fl 0 g z E 1 l'.length cap rfl (fun _ h => hl' (List.length_eq_zero_iff.1 h)) hng hcap hm ?_
    simp only [World.shape?, hrow, hcs, Nat.mul_one]
  · simp only [PV.nms, List.mem_singleton] at hc
    subst hc
    simp
  · refine hI.mono s Γ.St Φ w Γ.St w' hi (fun _ h => h) (fun k hk hp => (hI.foot _ _ _ _ hi k hp).2 hk) (fun k hk => Nat.lt_of_lt_of_le (hH.stlt k hk) hsz) (fun k hk => ?_) hsz h1 h2 h3
    rcases hk with hk | hk
    · exact hoth k (hH.stlt k hk) (fun h => (hH.lt 0 k h).2.2 hk)
    · exact hoth k (hI.foot _ _ _ _ hi k hk).1 (fun h => hd 0 k h hk)
  · simp only [Ctx.re] at hb
    split at hb
    · simp only [Option.some.injEq] at hb
      subst hb
      rcases hown with h | h
      · exact hd 0 _ h
      · intro hp
        have := (hI.foot _ _ _ _ hi _ hp).1
        omega
    · exact hd b g' hb
theorem setCells_row {w : World} {g o e : Nat} {vs : List Value} {cur : Array Value} (hg : w.heap[g]? = some (.cells cur e (0, 0))) (hle : o + vs.length ≤ cur.size) (h1 : ∀ v ∈ vs, v.oneCell' = true) :
    (w.setCells g o vs).heap[g]? = some (.cells (putAt cur.toList o vs).toArray e (0, 0)) ∧ (∀ k, k ≠ g → (w.setCells g o vs).heap[k]? = w.heap[k]?) ∧ (w.setCells g o vs).heap.size = w.heap.size ∧ (w.setCells g o vs).os = w.os ∧ (w.setCells g o vs).tape = w.tape ∧ (w.setCells g o vs).output = w.output := by
  obtain ⟨w', r1, r2, r3, r4, r5, r6, r7, _⟩ := run_storeCells_put (P := Tryd.prog) (o := o) hg hle h1
  have hcell : ∀ j, j < vs.length → ∃ v, w.cell? ⟨g, o + 0 + j, none⟩ = some v := fun j hj => by
    refine ⟨cur[o + j]'(by omega), ?_⟩
    simp [World.cell?, hg, Array.getElem?_eq_getElem (show o + j < cur.size by omega)]
  have r := run_storeCells_cells (P := Tryd.prog) g o vs 0 w (fun j hj => by obtain ⟨v, h⟩ := hcell j hj; rw [h]; rfl) (fun j hj => by simp [World.frozen?, hg]) h1
  rw [r] at r1
  simp only [Nat.add_zero, Result.ok.injEq, true_and] at r1
  rw [r1]
  exact ⟨r2, r3, r4, r5, r6, r7⟩
theorem insR_els {St : Nat → Prop} {w : World} {l : LL} {cs : List Value} {i : Nat} {n : Int} (h : Els St w 1 l cs) (hi : i ≤ l.length) : Els St w 1 (insR l i n) (cs.take i ++ Value.int .i64 n :: cs.drop i) := by
  have hlen := h.1
  rw [Nat.mul_one] at hlen
  have h1 : Els St w 1 (l.take i) (cs.take i) := by
    refine ⟨by rw [List.length_take, List.length_take, hlen, Nat.mul_one], fun j hj => ?_⟩
    rw [List.length_take] at hj
    rw [List.getElem_take]
    obtain ⟨a, b⟩ := h.2 j (by omega)
    refine ⟨a, fun k hk => ?_⟩
    obtain ⟨U, e, v⟩ := b k hk
    exact ⟨U, by rw [List.getElem?_take_of_lt (by omega)]; exact e, v⟩
  have h2 : Els St w 1 [[SV.int .i64 n]] [Value.int .i64 n] := by
    refine ⟨rfl, fun j hj => ?_⟩
    have : j = 0 := by simpa using hj
    subst this
    refine ⟨rfl, fun k hk => ?_⟩
    have : k = 0 := by simpa using hk
    subst this
    exact ⟨_, rfl, .int _ _⟩
  have h3 : Els St w 1 (l.drop i) (cs.drop i) := by
    refine ⟨by rw [List.length_drop, List.length_drop, hlen, Nat.mul_one], fun j hj => ?_⟩
    rw [List.length_drop] at hj
    rw [List.getElem_drop]
    obtain ⟨a, b⟩ := h.2 (i + j) (by omega)
    refine ⟨a, fun k hk => ?_⟩
    obtain ⟨U, e, v⟩ := b k hk
    exact ⟨U, by rw [List.getElem?_drop]; rw [show i + (j * 1 + k) = (i + j) * 1 + k by omega]; exact e, v⟩
  have := (h1.append h2).append h3
  unfold insR
  simpa using this
theorem insR_len (l : LL) (i : Nat) (n : Int) (h : i ≤ l.length) : (insR l i n).length = l.length + 1 := by
  unfold insR
  rw [List.length_append, List.length_cons, List.length_take, List.length_drop]
  omega
theorem insR_ne (l : LL) (i : Nat) (n : Int) : insR l i n ≠ [] := by
  unfold insR
  simp
theorem y_sins : YFact Tryd.prog GX 80 X_sins := by
  intro C hP hG σ I yh yv hI hy args H s ret Hc hpf Γ Φ w Vs hyv hH hg hi hd hc hn
  unfold X_sins at hpf
  split at hpf
  · rename_i i z l nn
    obtain ⟨h0, hpf⟩ := tr_need hpf
    obtain ⟨h1, hpf⟩ := tr_need hpf
    obtain ⟨rfl, rfl⟩ := tr_ret hpf
    obtain ⟨i0, i1⟩ := ltN_iff.1 h0
    obtain ⟨i, rfl⟩ := Int.eq_ofNat_of_zero_le i0
    have hl := Nat.le_of_ble_eq_true h1
    have hil : i ≤ l.length := by
      have : (i : Int) < ((l.length + 1 : Nat) : Int) := i1
      omega
    obtain ⟨S, X0, V, rfl, hs, hx, hv⟩ := hc.arr3
    obtain rfl := hx.inv_int
    have hnf : fixedT C 3 = false := by
      unfold fixedT Cfg.sh
      rw [hP]
      kernel_rfl
    obtain ⟨g1, cur1, n1, n2, n3, n4, n5⟩ := hH.arr' (b := 1) rfl (by simp)
    have hvs : ∃ cap, V = .slice (some ⟨g1, 0, none⟩) 1 cap := by
      cases hv with
      | flv _ e sz h => simp [shpOf, Blk.shp] at h
      | fl _ g v e sz n cap h hv' hg' hcap hm hs' =>
        rw [n1] at hg'
        simp only [Option.some.injEq] at hg'
        subst hg'
        simp only [shpOf, List.getElem?_cons_succ, List.getElem?_cons_zero, Option.map_some, Blk.shp, Option.some.injEq, Shp.arr.injEq] at h
        obtain ⟨_, _, _, h4⟩ := h
        subst h4
        exact ⟨cap, rfl⟩
    obtain ⟨cap1, rfl⟩ := hvs
    obtain ⟨V1, p1, p2⟩ := n5 0 (by simp) 0 (by simp)
    have p3 : V1 = .int .i64 nn := by cases p2; rfl
    subst p3
    have hvcell : ∀ j v, [Value.int .i64 nn][j]? = some v → w.cell? ⟨g1, 0 + j, none⟩ = some v := by
      intro j v hj
      have : j = 0 := by
        have := (List.getElem?_eq_some_iff.1 hj).1
        simpa using this
      subst this
      simp only [List.getElem?_cons_zero, Option.some.injEq] at hj
      subst hj
      simpa [World.cell?, n2] using p1
    have hv1 : ∀ v ∈ [Value.int .i64 nn], v.oneCell' = true := by simp [Value.oneCell']
    rw [Int.toNat_natCast]
    refine upon_of_calls (fn := Tryd.f80) (by kernel_rfl) (by kernel_rfl) (by kernel_rfl) ?_
    have grownEnd : ∀ (base : Option Addr) (c : Nat) (cs : List Value), l.length ≤ c → c < l.length + 1 → cs.length = l.length → (base = none → l.length = 0) → (∀ a, base = some a → ∀ j v, cs[j]? = some v → w.cell? (a.add j) = some v) → Els Γ.St w 1 l cs →
        Calls Tryd.prog 80 #[.slice base l.length c, .int .i64 (l.length : Int), .slice (some ⟨g1, 0, none⟩) 1 cap1] w fun e w' => ∃ V, e = .returned V ∧ CRes C I Γ [.arr z 3 1 l, .arr false 3 1 [[SV.int .i64 nn]]] w Φ (.fl 0) [.arr z 3 1 (insR l l.length nn), .arr false 3 1 [[SV.int .i64 nn]]] s V w' := by
      intro base c cs a1 a2 a3 a4 a5 a6
      refine (Any2.slices_Insert_int_end_grow Tryd.lays2_21 base l.length c g1 0 1 cap1 cs [.int .i64 nn] w (by omega) a1 a2 (by omega) a3 rfl a4 a5 hvcell hv1).mono ?_
      rintro e w' ⟨rfl, rfl⟩
      refine ⟨_, rfl, ?_⟩
      obtain ⟨hge, hle⟩ := grown_facts (w := w) (need := l.length + 1) (cap := c) (e := 3) (by omega)
      have hE := insR_els (n := nn) a6 (Nat.le_refl l.length)
      have hcsl : cs.take l.length ++ Value.int .i64 nn :: cs.drop l.length = cs ++ [Value.int .i64 nn] := by
        rw [List.take_of_length_le (by omega), List.drop_of_length_le (by omega)]
      rw [hcsl] at hE
      have hlen := insR_len l l.length nn (Nat.le_refl _)
      obtain ⟨r1, r2⟩ := grown_row (olds := cs) (Vs := [Value.int .i64 nn]) (z := (Value.int .i64 0).cells) (k := grownCap w (l.length + 1) c 3) (n := l.length) (m := 1) (size := 1) rfl (by omega) rfl hge
      have hrowE : (cs.toArray ++ [Value.int .i64 nn].toArray) = (cs ++ [Value.int .i64 nn]).toArray := by simp
      rw [hrowE] at r1 r2
      have key : ∀ (row : Array Value) (kc : Nat), row.size = kc → (∀ q, q < (cs ++ [Value.int .i64 nn]).length → row[q]? = (cs ++ [Value.int .i64 nn])[q]?) → l.length + 1 ≤ kc → kc ≤ maxLen →
          CRes C I Γ [.arr z 3 1 l, .arr false 3 1 [[SV.int .i64 nn]]] w Φ (.fl 0) [.arr z 3 1 (insR l l.length nn), .arr false 3 1 [[SV.int .i64 nn]]] s (.slice (some ⟨w.heap.size, 0, none⟩) (l.length + 1) kc) (w.drew.alloc (.cells row 3)) := by
        intro row kc b1 b2 b3 b4
        have hwh : (w.drew.alloc (.cells row 3)).heap = w.heap.push (.cells row 3) := rfl
        have := sins_res (C := C) (w' := w.drew.alloc (.cells row 3)) (l' := insR l l.length nn) hI w.heap.size kc (cs ++ [Value.int .i64 nn]) row hnf hH hi hd (.inr rfl) (by rw [hwh]; simp) (fun k hk _ => heap_push_lt hwh hk) (by rw [hwh]; simp) rfl rfl rfl (heap_push_eq hwh) (hE.mono (fun g hg => heap_push_lt hwh (hH.stlt g hg)) (fun _ h => h)) (insR_ne _ _ _) b2 (by rw [b1, List.length_append, List.length_singleton]; omega) (by rw [hlen]; exact b3) b4 b1
        rw [hlen] at this
        exact this
      exact key _ _ (r1.trans (Nat.mul_one _)) r2 hge hle
    -- the row behind two writes
    have two : ∀ (row : Array Value) (cs : List Value), cs.length = l.length → i < l.length → l.length + 1 ≤ row.size → (∀ q, q < i → row[q]? = cs[q]?) →
        ∀ q, q < (cs.take i ++ Value.int .i64 nn :: cs.drop i).length → (putAt (putAt row.toList i [Value.int .i64 nn]) (i + 1) (cs.drop i)).toArray[q]? = (cs.take i ++ Value.int .i64 nn :: cs.drop i)[q]? := by
      intro row cs a1 a2 a3 a4 q hq
      have hq' : q < l.length + 1 := by
        rw [List.length_append, List.length_cons, List.length_take, List.length_drop] at hq
        omega
      have ht : (cs.take i).length = i := by rw [List.length_take]; omega
      have hrl : row.toList.length = row.size := Array.length_toList
      simp only [List.getElem?_toArray]
      rw [putAt_get _ _ _ (by rw [putAt_length, List.length_drop, hrl]; omega), putAt_get _ _ _ (by rw [List.length_singleton, hrl]; omega)]
      by_cases h1 : q < i
      · rw [if_neg (by omega), if_neg (by omega), List.getElem?_append_left (by omega), List.getElem?_take_of_lt h1]
        simpa using a4 q h1
      · by_cases h2 : q = i
        · subst h2
          rw [if_neg (by omega), if_pos (by rw [List.length_singleton]; omega), List.getElem?_append_right (by omega), ht, Nat.sub_self]
          rfl
        · rw [if_pos (by rw [List.length_drop]; omega), List.getElem?_append_right (by omega), ht, show q - i = (q - (i + 1)) + 1 by omega, List.getElem?_cons_succ]
    have grownMid : ∀ (g c : Nat) (cs : List Value), i < l.length → l.length ≤ c → c < l.length + 1 → cs.length = l.length → (∀ j v, cs[j]? = some v → w.cell? ⟨g, 0 + j, none⟩ = some v) → (∀ v ∈ cs, v.oneCell' = true) → Els Γ.St w 1 l cs →
        Calls Tryd.prog 80 #[.slice (some ⟨g, 0, none⟩) l.length c, .int .i64 (i : Int), .slice (some ⟨g1, 0, none⟩) 1 cap1] w fun e w' => ∃ V, e = .returned V ∧ CRes C I Γ [.arr z 3 1 l, .arr false 3 1 [[SV.int .i64 nn]]] w Φ (.fl 0) [.arr z 3 1 (insR l i nn), .arr false 3 1 [[SV.int .i64 nn]]] s V w' := by
      intro g c cs hi' a1 a2 a3 a4 a5 a6
      refine (Any2.slices_Insert_int_grow Tryd.lays2_21 g 0 l.length c i g1 0 1 cap1 cs [.int .i64 nn] w hi' (by omega) a1 a2 (by omega) a3 rfl a4 hvcell a5 hv1).mono ?_
      rintro e w' ⟨rfl, rfl⟩
      refine ⟨_, rfl, ?_⟩
      obtain ⟨hge, hle⟩ := grown_facts (w := w) (need := l.length + 1) (cap := c) (e := 3) (by omega)
      have hE := insR_els (n := nn) a6 hil
      have hlen := insR_len l i nn hil
      have key : ∀ (row : Array Value) (kc : Nat), row.size = kc → (∀ q, q < i → row[q]? = cs[q]?) → l.length + 1 ≤ kc → kc ≤ maxLen →
          CRes C I Γ [.arr z 3 1 l, .arr false 3 1 [[SV.int .i64 nn]]] w Φ (.fl 0) [.arr z 3 1 (insR l i nn), .arr false 3 1 [[SV.int .i64 nn]]] s (.slice (some ⟨w.heap.size, 0, none⟩) (l.length + 1) kc) (((w.alloc (.cells row 3)).drew.setCells w.heap.size i [Value.int .i64 nn]).drew.setCells w.heap.size (i + 1) (cs.drop i)) := by
        intro row kc b1 b2 b3 b4
        have hwh : (w.alloc (.cells row 3)).drew.heap = w.heap.push (.cells row 3) := rfl
        obtain ⟨c1, c2, c3, c4, c5, c6⟩ := setCells_row (w := (w.alloc (.cells row 3)).drew) (o := i) (vs := [Value.int .i64 nn]) (heap_push_eq hwh) (by rw [List.length_singleton]; omega) hv1
        generalize hw1 : (w.alloc (.cells row 3)).drew.setCells w.heap.size i [Value.int .i64 nn] = w1 at *
        have hs1 : (putAt row.toList i [Value.int .i64 nn]).toArray.size = kc := by rw [List.size_toArray, putAt_length]; simpa using b1
        obtain ⟨d1, d2, d3, d4, d5, d6⟩ := setCells_row (w := w1.drew) (o := i + 1) (vs := cs.drop i) c1 (by rw [hs1, List.length_drop]; omega) (fun v hv => a5 v (List.mem_of_mem_drop hv))
        have hoth : ∀ k, k < w.heap.size → (w1.drew.setCells w.heap.size (i + 1) (cs.drop i)).heap[k]? = w.heap[k]? := fun k hk => by
          rw [d2 k (by omega)]
          exact (c2 k (by omega)).trans (heap_push_lt hwh hk)
        have hsz : (w1.drew.setCells w.heap.size (i + 1) (cs.drop i)).heap.size = w.heap.size + 1 := by
          rw [d3]
          show w1.heap.size = _
          rw [c3, hwh]
          simp
        have := sins_res (C := C) (w' := w1.drew.setCells w.heap.size (i + 1) (cs.drop i)) (l' := insR l i nn) hI w.heap.size kc (cs.take i ++ Value.int .i64 nn :: cs.drop i) _ hnf hH hi hd (.inr rfl) (by rw [hsz]; omega) (fun k hk _ => hoth k hk) (by rw [hsz]; omega) (d4.trans c4) (d5.trans c5) (d6.trans c6) d1 (hE.mono (fun g hg => hoth g (hH.stlt g hg)) (fun _ h => h)) (insR_ne _ _ _) (two row cs a3 hi' (by omega) b2) (by rw [List.size_toArray, putAt_length, List.length_append, List.length_cons, List.length_take, List.length_drop]; simp only [List.size_toArray, putAt_length] at hs1 ⊢; omega) (by rw [hlen]; exact b3) b4 (by rw [List.size_toArray, putAt_length]; simpa using hs1)
        rw [hlen] at this
        exact this
      have hz1 : (Value.int .i64 0).cells.size = 1 := rfl
      have ht : (cs.take i).length = i := by rw [List.length_take]; omega
      refine key _ _ ?_ (fun q hq => ?_) hge hle
      · simp only [Array.size_append, List.size_toArray, size_zeroCells, hz1, Nat.mul_one, ht]
        have : l.length + 1 ≤ grownCap w (l.length + 1) c 3 := hge
        show i + (l.length + 1 - i) + (grownCap w (l.length + 1) c 3 - (l.length + 1)) = grownCap w (l.length + 1) c 3
        omega
      · rw [Array.getElem?_append_left (by simp only [Array.size_append, List.size_toArray, ht]; omega), Array.getElem?_append_left (by simp only [List.size_toArray, ht]; omega), List.getElem?_toArray, List.getElem?_take_of_lt hq]
    -- the row behind two writes, the later part first
    have two' : ∀ (row : Array Value) (cs : List Value), cs.length = l.length → i < l.length → l.length + 1 ≤ row.size → (∀ q, q < i → row[q]? = cs[q]?) →
        ∀ q, q < (cs.take i ++ Value.int .i64 nn :: cs.drop i).length → (putAt (putAt row.toList (i + 1) (cs.drop i)) i [Value.int .i64 nn]).toArray[q]? = (cs.take i ++ Value.int .i64 nn :: cs.drop i)[q]? := by
      intro row cs a1 a2 a3 a4 q hq
      have hq' : q < l.length + 1 := by
        rw [List.length_append, List.length_cons, List.length_take, List.length_drop] at hq
        omega
      have ht : (cs.take i).length = i := by rw [List.length_take]; omega
      have hrl : row.toList.length = row.size := Array.length_toList
      simp only [List.getElem?_toArray]
      rw [putAt_get _ _ _ (by rw [putAt_length, List.length_singleton, hrl]; omega), putAt_get _ _ _ (by rw [List.length_drop, hrl]; omega)]
      by_cases h1 : q < i
      · rw [if_neg (by omega), if_neg (by omega), List.getElem?_append_left (by omega), List.getElem?_take_of_lt h1]
        simpa using a4 q h1
      · by_cases h2 : q = i
        · subst h2
          rw [if_pos (by rw [List.length_singleton]; omega), List.getElem?_append_right (by omega), ht, Nat.sub_self]
          rfl
        · rw [if_neg (by rw [List.length_singleton]; omega), if_pos (by rw [List.length_drop]; omega), List.getElem?_append_right (by omega), ht, show q - i = (q - (i + 1)) + 1 by omega, List.getElem?_cons_succ]
    cases hs with
    | flv _ e2 sz2 h' =>
      simp only [shpOf, List.getElem?_cons_zero, Option.map_some, Blk.shp, Option.some.injEq, Shp.arr.injEq] at h'
      obtain ⟨q1, q2, q3, h4⟩ := h'
      obtain rfl := List.length_eq_zero_iff.1 h4
      obtain rfl : i = 0 := by simpa using hil
      exact grownEnd none 0 [] (by simp) (by simp) rfl (fun _ => rfl) (fun a h => by cases h) ⟨rfl, fun j hj => by simp at hj⟩
    | fl _ g z' e2 sz2 n' cap h' hv' hg' hcap hm hs' =>
      simp only [shpOf, List.getElem?_cons_zero, Option.map_some, Blk.shp, Option.some.injEq, Shp.arr.injEq] at h'
      obtain ⟨rfl, rfl, rfl, rfl⟩ := h'
      have hne : ¬ (z = true ∧ l = []) := by rintro ⟨q1, q2⟩; exact hv' q1 (by rw [q2]; rfl)
      obtain ⟨g', cur, hg2, hh, hsize, hlens, hels⟩ := hH.arr' (b := 0) rfl hne
      obtain rfl : g = g' := by
        rw [hg'] at hg2
        exact Option.some.inj hg2
      have hcs : cur.size = cap := by
        have := hs'
        simp only [World.shape?, hh, Option.some.injEq, Prod.mk.injEq, true_and, Nat.mul_one] at this
        exact this
      rw [Nat.mul_one] at hsize
      have hO : Els Γ.St w 1 l (cur.toList.take l.length) := by
        refine ⟨by rw [List.length_take, Array.length_toList (xs := cur)]; omega, fun j hj => ⟨hlens j hj, fun k hk => ?_⟩⟩
        obtain ⟨U, e1, u⟩ := hels j hj k hk
        refine ⟨U, ?_, u⟩
        have hk' : k < 1 := by rw [← hlens j hj]; exact hk
        rw [List.getElem?_take, if_pos (by omega)]
        simpa using e1
      have hol : (cur.toList.take l.length).length = l.length := by rw [List.length_take, Array.length_toList (xs := cur)]; omega
      have hcell : ∀ j v, (cur.toList.take l.length)[j]? = some v → w.cell? ⟨g, 0 + j, none⟩ = some v := by
        intro j v hj
        have hj' : j < l.length := by
          have := (List.getElem?_eq_some_iff.1 hj).1
          omega
        rw [List.getElem?_take, if_pos hj'] at hj
        simpa [World.cell?, hh] using hj
      have h1c : ∀ v ∈ cur.toList.take l.length, v.oneCell' = true := by
        intro v hv
        obtain ⟨j, hj, rfl⟩ := List.getElem_of_mem hv
        have hj' : j < l.length := by omega
        obtain ⟨_, u⟩ := hO.2 j hj'
        obtain ⟨U, e1, u2⟩ := u 0 (by rw [hlens j hj']; exact Nat.one_pos)
        rw [Nat.mul_one, Nat.add_zero, List.getElem?_eq_getElem hj] at e1
        cases e1
        exact u2.oneCell
      have hlen := insR_len l i nn hil
      have hE := insR_els (n := nn) hO hil
      have hsome : ∀ j, j < cap → (w.cell? ⟨g, j, none⟩).isSome = true := by
        intro j hj
        simp only [World.cell?, hh]
        rw [Array.getElem?_eq_getElem (by omega)]
        rfl
      have hfrz : ∀ j, w.frozen? ⟨g, j, none⟩ = false := fun j => by simp [World.frozen?, hh]
      have hng1 : g1 ≠ g := fun e => by
        have := hH.inj 1 0 g (by rw [← e]; exact n1) hg'
        omega
      have hmx : cap ≤ 9223372036854775807 := by
        simp only [maxLen] at hm
        omega
      by_cases hroom : l.length + 1 ≤ cap
      · have key : ∀ (w' : World) (row : List Value), w'.heap[g]? = some (.cells row.toArray 3 (0, 0)) → (∀ k, k ≠ g → w'.heap[k]? = w.heap[k]?) → w'.heap.size = w.heap.size → w'.os = w.os → w'.tape = w.tape → w'.output = w.output → row.length = cap →
            (∀ q, q < ((cur.toList.take l.length).take i ++ Value.int .i64 nn :: (cur.toList.take l.length).drop i).length → row.toArray[q]? = ((cur.toList.take l.length).take i ++ Value.int .i64 nn :: (cur.toList.take l.length).drop i)[q]?) →
            CRes C I Γ [.arr z 3 1 l, .arr false 3 1 [[SV.int .i64 nn]]] w Φ (.fl 0) [.arr z 3 1 (insR l i nn), .arr false 3 1 [[SV.int .i64 nn]]] s (.slice (some ⟨g, 0, none⟩) (l.length + 1) cap) w' := by
          intro w' row k1 k2 k3 k4 k5 k6 k7 k8
          have hgS : ¬ Γ.St g := (hH.lt 0 g hg').2.2
          have := sins_res (C := C) (w' := w') (l' := insR l i nn) hI g cap ((cur.toList.take l.length).take i ++ Value.int .i64 nn :: (cur.toList.take l.length).drop i) row.toArray hnf hH hi hd (.inl hg') (by rw [k3]; exact (hH.lt 0 g hg').2.1) (fun k hk hk2 => k2 k (fun e => hk2 (e ▸ hg'))) (by omega) k4 k5 k6 k1
            (hE.mono (fun k hk => k2 k (fun e => hgS (e ▸ hk))) (fun _ h => h)) (insR_ne _ _ _) k8
            (by rw [List.size_toArray, k7, List.length_append, List.length_cons, List.length_take, List.length_drop, hol]; omega) (by rw [hlen]; exact hroom) hm (by rw [List.size_toArray, k7])
          rw [hlen] at this
          exact this
        by_cases hie : i = l.length
        · subst hie
          refine (Any2.slices_Insert_int_end_room Tryd.lays2_21 g 0 l.length cap g1 0 1 cap1 [.int .i64 nn] w (by omega) hroom hmx rfl (fun j hj => hsome _ (by omega)) (fun j hj => hfrz _) hvcell hv1).mono ?_
          rintro e w' ⟨rfl, rfl⟩
          refine ⟨_, rfl, ?_⟩
          obtain ⟨c1, c2, c3, c4, c5, c6⟩ := setCells_row (w := w) (o := 0 + l.length) (vs := [Value.int .i64 nn]) hh (by rw [List.length_singleton]; omega) hv1
          refine key _ _ c1 c2 c3 c4 c5 c6 (by rw [putAt_length]; simpa using hcs) (fun q hq => ?_)
          rw [List.take_of_length_le (by omega), List.drop_of_length_le (by omega)] at hq ⊢
          rw [List.length_append, hol, List.length_singleton] at hq
          simp only [List.getElem?_toArray]
          rw [putAt_get _ _ _ (by rw [List.length_singleton, Array.length_toList (xs := cur)]; omega)]
          by_cases hq2 : q < l.length
          · rw [if_neg (by omega), List.getElem?_append_left (by omega), List.getElem?_take, if_pos hq2]
          · obtain rfl : q = l.length := by omega
            rw [if_pos (by rw [List.length_singleton]; omega), List.getElem?_append_right (by omega), hol]
            simp
        · have hi' : i < l.length := by omega
          refine (Any2.slices_Insert_int_shift Tryd.lays2_21 g 0 l.length cap i g1 0 1 cap1 (cur.toList.take l.length) [.int .i64 nn] w hi' (by omega) hroom hmx hng1 hol rfl hcell (fun j hj => hsome _ (by omega)) (fun j hj => hfrz _) hvcell h1c hv1 3 3 cur1.size cur.size (by simp [World.shape?, n2]) (by simp [World.shape?, hh]) (by omega) (by simp [World.frozen?, n2]) (by simp [World.frozen?, n2])).mono ?_
          rintro e w' ⟨rfl, rfl⟩
          refine ⟨_, rfl, ?_⟩
          obtain ⟨c1, c2, c3, c4, c5, c6⟩ := setCells_row (w := w.drew) (o := 0 + (i + 1)) (vs := (cur.toList.take l.length).drop i) hh (by rw [List.length_drop, hol]; omega) (fun v hv => h1c v (List.mem_of_mem_drop hv))
          generalize hw1 : w.drew.setCells g (0 + (i + 1)) ((cur.toList.take l.length).drop i) = w1 at *
          have hs1 : (putAt cur.toList (0 + (i + 1)) ((cur.toList.take l.length).drop i)).toArray.size = cap := by rw [List.size_toArray, putAt_length]; simpa using hcs
          obtain ⟨d1, d2, d3, d4, d5, d6⟩ := setCells_row (w := w1) (o := 0 + i) (vs := [Value.int .i64 nn]) c1 (by rw [hs1, List.length_singleton]; omega) hv1
          refine key _ _ d1 (fun k hk => (d2 k hk).trans (c2 k hk)) (d3.trans c3) (d4.trans c4) (d5.trans c5) (d6.trans c6) (by rw [putAt_length]; simpa using hs1) ?_
          rw [Nat.zero_add, Nat.zero_add]
          exact two' cur _ hol hi' (by omega) (fun q hq => by rw [List.getElem?_take, if_pos (by omega)]; simp)
      · by_cases hie : i = l.length
        · subst hie
          exact grownEnd (some ⟨g, 0, none⟩) cap (cur.toList.take l.length) hcap (by omega) hol (fun h => by cases h) (fun a h j v hj => by
            obtain rfl := Option.some.inj h
            rw [addr_add]
            exact hcell j v hj) hO
        · exact grownMid g cap _ (by omega) hcap (by omega) hol hcell h1c hO
  · cases hpf
end Go.Proofs.YtokehocipgepnaaDoor.E
namespace Go.Proofs.YtokehocipgepnaaDoor.E
open Go Go.Proofs
set_option linter.unusedVariables false
set_option maxRecDepth 100000
section
theorem y_dstep : YFact Tryd.prog GX 67 X_dstep := by
  refine yfact_of_run (C₀ := c_dstep LF) (xok_of (lx := [(62, X_padapt), (60, X_ppoint)]) (ly := [(79, X_dnum), (80, X_sins)]) (ls := []) rfl rfl rfl ⟨x_padapt, x_ppoint, trivial⟩ ⟨y_dnum, y_sins, trivial⟩ trivial) (okFns_of rfl (by kernel_rfl)) follows ?_
  intro args H ret Hc h
  unfold X_dstep at h
  split at h
  · rename_i rest n i b st z l
    obtain ⟨h0, h⟩ := tr_need h
    obtain ⟨h1, h⟩ := tr_need h
    obtain ⟨h2, h⟩ := tr_need h
    obtain ⟨h3, h⟩ := tr_need h
    obtain ⟨h4, h⟩ := tr_need h
    obtain ⟨rfl, rfl⟩ := tr_ret h
    refine ⟨rfl, rfl, fun σ yh s => ?_⟩
    have e := (dstep_ev LF yh s 0 rest n i b st z l).trans (dstep_spec rest n i b st z l h0 h1 h2 h3 h4)
    exact ⟨1, _, e, rfl⟩
  · cases h
theorem x_pdec : XFact Tryd.prog GX 55 X_pdec := by
  refine XFact.fix (pf := X_pdec0) _ (xfact_of_stab [1, 0] (C₀ := c_pdec LF) (xok_of (lx := [(66, X_lastb)]) (ly := [(67, X_dstep)]) (ls := []) rfl rfl rfl ⟨x_lastb, trivial⟩ ⟨y_dstep, trivial⟩ trivial) (okFns_of rfl (by kernel_rfl)) follows ?_)
  intro args ret Hc h
  unfold X_pdec0 at h
  split at h
  · rename_i s
    obtain ⟨h0, h⟩ := tr_need h
    obtain ⟨rfl, rfl⟩ := tr_ret h
    obtain ⟨r, H, e, hs⟩ := pdec_sp s h0
    exact ⟨rfl, rfl, rfl, 1, r, H, (pdec_ev LF noY () 0 s).trans e, hs⟩
  · cases h
end
end Go.Proofs.YtokehocipgepnaaDoor.E
namespace Go.Proofs.YtokehocipgepnaaDoor.E
open Go Go.Proofs Go.Sort
set_option linter.unusedVariables false
set_option linter.unusedSimpArgs false
set_option maxRecDepth 100000
theorem x_uvalid : XFact Tryd.prog GX 46 X_uvalid := by
  refine XFact.fix (pf := X_uvalid0) _ (xfact_of_calls (fn := Tryd.f46) (by kernel_rfl) (by kernel_rfl) (by kernel_rfl) ?_)
  intro args ret Hc h
  unfold X_uvalid0 at h
  split at h
  · rename_i s
    obtain ⟨h0, h⟩ := tr_need h
    obtain ⟨rfl, rfl⟩ := tr_ret h
    refine ⟨rfl, rfl, fun C hP hCG Γ w Vs hG hlt hc => ?_⟩
    obtain ⟨U, rfl, hu⟩ := hc.arr1
    obtain ⟨s', rfl, rfl⟩ := hu.inv_str
    have hs := maxL h0
    refine (Any.utf8_ValidString Tryd.lays196 s' w (by simp at hs; omega) (gk_utf8 hG hCG)).mono ?_
    rintro e w' ⟨rfl, hb⟩
    rw [← validD_pts]
    exact ⟨_, rfl, hb, VP.mk_bool _⟩
  · cases h
theorem x_ucount : XFact Tryd.prog GX 37 X_ucount := by
  refine XFact.fix (pf := X_ucount0) _ (xfact_of_calls (fn := Tryd.f37) (by kernel_rfl) (by kernel_rfl) (by kernel_rfl) ?_)
  intro args ret Hc h
  unfold X_ucount0 at h
  split at h
  · rename_i s
    obtain ⟨h0, h⟩ := tr_need h
    obtain ⟨rfl, rfl⟩ := tr_ret h
    refine ⟨rfl, rfl, fun C hP hCG Γ w Vs hG hlt hc => ?_⟩
    obtain ⟨U, rfl, hu⟩ := hc.arr1
    obtain ⟨s', rfl, rfl⟩ := hu.inv_str
    have hs := maxL h0
    refine (Any.utf8_RuneCountInString Tryd.lays195 s' w (by simp at hs; omega)).mono ?_
    rintro e w' ⟨rfl, pos, rfl⟩
    rw [Lib.runeCountL_eq]
    exact ⟨_, rfl, below_iter _ _ _, VP.mk_int _ _⟩
  · cases h
theorem x_drune : XFact Tryd.prog GX 53 X_drune := fun args ret Hc h => by
  have : trRes (X_drune args) = none := by unfold X_drune X_drune0; split <;> rfl
  rw [this] at h; cases h
theorem z_sseqf : SFact Tryd.prog GX 52 X_sseqf := by
  refine sfact_of_ev (C₀ := c_sseqf LF) ((XFacts.ok (l := [(53, X_drune), (39, X_sidx)]) rfl ⟨x_drune, x_sidx, trivial⟩)) (okFns_of rfl (by kernel_rfl)) follows ?_
  intro args H L h σ yh s s' hr
  unfold X_sseqf at h
  split at h
  · rename_i p t n
    simp only [Option.some.injEq, Prod.mk.injEq] at h
    obtain ⟨h1, rfl⟩ := h
    obtain ⟨t', f⟩ := sseqf_spec (R := PV × List Blk × σ) yh p t n s s' h1 hr
    exact ⟨1, _, (sseqf_ev LF yh 0 p t n s).trans (f _)⟩
  · cases h
end Go.Proofs.YtokehocipgepnaaDoor.E
namespace Go.Proofs.YtokehocipgepnaaDoor.E
open Go Go.Proofs
set_option linter.unusedVariables false
set_option maxRecDepth 100000
section
theorem x_lprop : XFact Tryd.prog GX 36 X_lprop := by
  refine XFact.fix (pf := X_lprop0) _ (xfact_of_stab [] (C₀ := c_lprop LF) (XFacts.ok (l := [(55, X_pdec), (48, X_penc)]) rfl ⟨x_pdec, x_penc, trivial⟩) (okFns_of rfl (by kernel_rfl)) follows ?_)
  intro args ret Hc h
  unfold X_lprop0 at h
  split at h
  · rename_i s
    obtain ⟨h0, h⟩ := tr_need h
    obtain ⟨rfl, rfl⟩ := tr_ret h
    have e := (lprop_ev LF noY () 0 s).trans (lprop_spec s h0)
    exact ⟨rfl, rfl, rfl, 1, _, _, e, rfl⟩
  · cases h
theorem x_lval : XFact Tryd.prog GX 17 X_lval := by
  refine XFact.fix (pf := X_lval0) _ (xfact_of_stab [] (C₀ := c_lval LF) (XFacts.ok (l := [(35, X_cpre), (36, X_lprop)]) rfl ⟨x_cpre, x_lprop, trivial⟩) (okFns_of rfl (by kernel_rfl)) follows ?_)
  intro args ret Hc h
  unfold X_lval0 at h
  split at h
  · rename_i s
    obtain ⟨h0, h⟩ := tr_need h
    obtain ⟨rfl, rfl⟩ := tr_ret h
    have e := (lval_ev LF noY () 0 s).trans (lval_spec s h0)
    exact ⟨rfl, rfl, rfl, 1, _, _, e, rfl⟩
  · cases h
theorem x_lasc : XFact Tryd.prog GX 27 X_lasc := by
  refine XFact.fix (pf := X_lasc0) _ (xfact_of_stab [0, 0] (C₀ := c_lasc LF) (XFacts.ok (l := [(46, X_uvalid), (37, X_ucount), (47, X_lowc), (48, X_penc), (17, X_lval)]) rfl ⟨x_uvalid, x_ucount, x_lowc, x_penc, x_lval, trivial⟩) (okFns_of rfl (by kernel_rfl)) follows ?_)
  intro args ret Hc h
  unfold X_lasc0 at h
  split at h
  · rename_i s
    obtain ⟨h0, h⟩ := tr_need h
    obtain ⟨rfl, rfl⟩ := tr_ret h
    obtain ⟨r, H, e, hs⟩ := lasc_sp s h0
    exact ⟨rfl, rfl, rfl, 1, r, H, (lasc_ev LF noY () 0 s).trans e, hs⟩
  · cases h
theorem x_hdig : XFact Tryd.prog GX 43 X_hdig := by
  refine XFact.fix (pf := X_hdig0) _ (xfact_of_stab [] (C₀ := c_hdig LF) (XFacts.ok (l := []) rfl trivial) (okFns_of rfl (by kernel_rfl)) follows ?_)
  intro args ret Hc h
  unfold X_hdig0 at h
  split at h
  · rename_i b
    obtain ⟨h0, h⟩ := tr_need h
    obtain ⟨rfl, rfl⟩ := tr_ret h
    have e := (hdig_ev LF noY () 0 b).trans (hdig_spec b h0)
    exact ⟨rfl, rfl, rfl, 1, _, _, e, rfl⟩
  · cases h
theorem x_hdec : XFact Tryd.prog GX 23 X_hdec := by
  refine XFact.fix (pf := X_hdec0) _ (xfact_of_stab [0, 0] (C₀ := c_hdec LF) (XFacts.ok (l := [(43, X_hdig)]) rfl ⟨x_hdig, trivial⟩) (okFns_of rfl (by kernel_rfl)) follows ?_)
  intro args ret Hc h
  unfold X_hdec0 at h
  split at h
  · rename_i s
    obtain ⟨h0, h⟩ := tr_need h
    obtain ⟨rfl, rfl⟩ := tr_ret h
    obtain ⟨r, H, e, hs⟩ := hdec_sp s h0
    exact ⟨rfl, rfl, rfl, 1, r, H, (hdec_ev LF noY () 0 s).trans e, hs⟩
  · cases h
theorem x_haddr : XFact Tryd.prog GX 22 X_haddr := by
  refine XFact.fix (pf := X_haddr0) _ (xfact_of_stab [0, 0] (C₀ := c_haddr LF) (XFacts.ok (l := [(42, X_v6p)]) rfl ⟨x_v6p, trivial⟩) (okFns_of rfl (by kernel_rfl)) follows ?_)
  intro args ret Hc h
  unfold X_haddr0 at h
  split at h
  · rename_i s
    obtain ⟨h0, h⟩ := tr_need h
    obtain ⟨h1, h⟩ := tr_need h
    obtain ⟨rfl, rfl⟩ := tr_ret h
    obtain ⟨r, H, e, hs⟩ := haddr_sp s h0 h1
    exact ⟨rfl, rfl, rfl, 1, r, H, (haddr_ev LF noY () 0 s).trans e, hs⟩
  · cases h
theorem x_hparse : XFact Tryd.prog GX 13 X_hparse := by
  refine XFact.fix (pf := X_hparse0) _ (xfact_of_stab [0, 0] (C₀ := c_hparse LF) (XFacts.ok (l := [(21, X_hpre), (22, X_haddr), (23, X_hdec), (24, X_tsufc), (15, X_numeric), (25, X_pnum), (26, X_ssplitM), (27, X_lasc), (28, X_sjoin)]) rfl ⟨x_hpre, x_haddr, x_hdec, x_tsufc, x_numeric, x_pnum, x_ssplitM, x_lasc, x_sjoin, trivial⟩) (okFns_of rfl (by kernel_rfl)) follows ?_)
  intro args ret Hc h
  unfold X_hparse0 at h
  split at h
  · rename_i s
    obtain ⟨h0, h⟩ := tr_need h
    obtain ⟨rfl, rfl⟩ := tr_ret h
    obtain ⟨r, H, e, hs⟩ := hparse_sp s h0
    exact ⟨rfl, rfl, rfl, 1, r, H, (hparse_ev LF noY () 0 s).trans e, hs⟩
  · cases h
theorem x_lsseq : XFact Tryd.prog GX 34 X_lsseq := by
  refine XFact.fix (pf := X_lsseq0) _ (xfact_of_run (C₀ := c_lsseq LF) (XFacts.ok (l := []) rfl trivial) (okFns_of rfl (by kernel_rfl)) follows ?_)
  intro args ret Hc h
  unfold X_lsseq0 at h
  split at h
  · rename_i t p n
    obtain ⟨rfl, rfl⟩ := tr_ret h
    have e := (lsseq_ev LF noY () 0 t p n).trans (lsseq_spec t p n )
    exact ⟨rfl, 1, _, [], e, rfl, rfl⟩
  · cases h
theorem x_sseq : XFact Tryd.prog GX 16 X_sseq := by
  refine XFact.fix (pf := X_sseq0) _ (xfact_of_run (C₀ := c_sseq LF) (XFacts.ok (l := [(34, X_lsseq)]) rfl ⟨x_lsseq, trivial⟩) (okFns_of rfl (by kernel_rfl)) follows ?_)
  intro args ret Hc h
  unfold X_sseq0 at h
  split at h
  · rename_i t p
    obtain ⟨rfl, rfl⟩ := tr_ret h
    have e := (sseq_ev LF noY () 0 t p).trans (sseq_spec t p )
    exact ⟨rfl, 1, _, [], e, rfl, rfl⟩
  · cases h
theorem x_hvn : XFact Tryd.prog GX 8 X_hvn := by
  refine XFact.fix (pf := X_hvn0) _ (xfact_of_stab [] (C₀ := c_hvn LF) (xok_of (lx := [(15, X_numeric), (16, X_sseq), (17, X_lval)]) (ly := []) (ls := [(52, X_sseqf)]) rfl rfl rfl ⟨x_numeric, x_sseq, x_lval, trivial⟩ trivial ⟨z_sseqf, trivial⟩) (okFns_of rfl (by kernel_rfl)) follows ?_)
  intro args ret Hc h
  unfold X_hvn0 at h
  split at h
  · rename_i s
    obtain ⟨h0, h⟩ := tr_need h
    obtain ⟨rfl, rfl⟩ := tr_ret h
    obtain ⟨r, H, e, hs⟩ := hvn_sp s h0
    exact ⟨rfl, rfl, rfl, 1, r, H, (hvn_ev LF noY () 0 s).trans e, hs⟩
  · cases h
theorem x_hlab : XFact Tryd.prog GX 10 X_hlab := by
  refine XFact.fix (pf := X_hlab0) _ (xfact_of_stab [] (C₀ := c_hlab LF) (XFacts.ok (l := [(8, X_hvn), (18, X_scnt)]) rfl ⟨x_hvn, x_scnt, trivial⟩) (okFns_of rfl (by kernel_rfl)) follows ?_)
  intro args ret Hc h
  unfold X_hlab0 at h
  split at h
  · rename_i s
    obtain ⟨h0, h⟩ := tr_need h
    obtain ⟨rfl, rfl⟩ := tr_ret h
    have e := (hlab_ev LF noY () 0 s).trans (hlab_spec s h0)
    exact ⟨rfl, rfl, rfl, 1, _, _, e, rfl⟩
  · cases h
theorem x_hcov : XFact Tryd.prog GX 7 X_hcov := by
  refine XFact.fix (pf := X_hcov0) _ (xfact_of_stab [] (C₀ := c_hcov LF) (XFacts.ok (l := [(8, X_hvn), (14, X_hsuf)]) rfl ⟨x_hvn, x_hsuf, trivial⟩) (okFns_of rfl (by kernel_rfl)) follows ?_)
  intro args ret Hc h
  unfold X_hcov0 at h
  split at h
  · rename_i p s
    obtain ⟨h0, h⟩ := tr_need h
    obtain ⟨h1, h⟩ := tr_need h
    obtain ⟨rfl, rfl⟩ := tr_ret h
    have e := (hcov_ev LF noY () 0 p s).trans (hcov_spec p s h0 h1)
    exact ⟨rfl, rfl, rfl, 1, _, _, e, rfl⟩
  · cases h
theorem x_hsup : XFact Tryd.prog GX 12 X_hsup := by
  refine XFact.fix (pf := X_hsup0) _ (xfact_of_run (C₀ := c_hsup LF) (XFacts.ok (l := []) rfl trivial) (okFns_of rfl (by kernel_rfl)) follows ?_)
  intro args ret Hc h
  unfold X_hsup0 at h
  split at h
  · rename_i t
    obtain ⟨rfl, rfl⟩ := tr_ret h
    have e := (hsup_ev LF noY () 0 t).trans (hsup_spec t )
    exact ⟨rfl, 1, _, [], e, rfl, rfl⟩
  · cases h
end
end Go.Proofs.YtokehocipgepnaaDoor.E
namespace Go.Proofs.YtokehocipgepnaaDoor.E
open Go Go.Proofs Go.Sort
set_option linter.unusedVariables false
set_option linter.unusedSimpArgs false
set_option maxRecDepth 100000
theorem z_hsupf : SFact Tryd.prog GX 19 X_hsupf := by
  refine sfact_of_ev (C₀ := c_hsupf LF) ((XFacts.ok (l := [(8, X_hvn), (20, X_scut)]) rfl ⟨x_hvn, x_scut, trivial⟩)) (okFns_of rfl (by kernel_rfl)) follows ?_
  intro args H L h σ yh s s' hr
  unfold X_hsupf at h
  split at h
  · rename_i t
    simp only [Option.some.injEq, Prod.mk.injEq] at h
    obtain ⟨h1, rfl⟩ := h
    obtain ⟨t', f⟩ := hsupf_spec (R := PV × List Blk × σ) yh t s s' h1 hr
    exact ⟨1, _, (hsupf_ev LF yh 0 t s).trans (f _)⟩
  · cases h
theorem kmod_spec {R : Type} {k0 : Int → Option R} (n m : Int) (h0 : ltI 0 m = true) (h1 : ltN m 1000000000 = true) : kmod LF n m k0 = k0 (Int.emod n m) := by
  have hm := ltI_iff.1 h0
  have hm2 := (ltN_iff.1 h1).2
  unfold kmod
  rw [show (m != (0 : Int)) = true by rw [bne_iff_ne]; omega, cond_true]
  have q1 := Int.tmod_lt_of_pos n hm
  have q2 := Int.lt_tmod_of_pos n hm
  have q3 := Int.tmod_add_mul_tdiv n m
  by_cases h : Int.tmod n m < 0
  · rw [ltI_t h, cond_true]
    simp only [vl]
    rw [wi64_id (by omega) (by omega)]
    congr 1
    have q4 : Int.tmod n m + m + m * (n.tdiv m - 1) = n := by rw [Int.mul_sub]; omega
    exact ((Int.ediv_emod_unique (a := n) (q := n.tdiv m - 1) hm).2 ⟨q4, by omega, by omega⟩).2.symm
  · rw [ltI_f (by omega), cond_false]
    congr 1
    exact ((Int.ediv_emod_unique (a := n) (q := n.tdiv m) hm).2 ⟨q3, by omega, by omega⟩).2.symm
theorem lsupers_loop {R : Type} {k0 k1 : LL → Option R} : ∀ (L acc : List By), acc.length + L.length ≤ 300 → lsupers_g0 LF L (strE acc) k0 k1 = k0 (strE (acc ++ L))
  | [], acc, h => by rw [List.append_nil]; rfl
  | x :: r, acc, h => by
    rw [lsupers_g0_s]
    unfold lsupers_g0f
    have e : strE acc ++ [[SV.str x]] = strE (acc ++ [x]) := by rw [strE_app]; rfl
    simp only [List.length_cons] at h
    rw [roomy_of (by rw [strE_len]; omega), cond_true, e, ltI_f (by rw [strE_len, List.length_append, List.length_singleton]; omega), cond_false]
    refine (lsupers_loop r (acc ++ [x]) (by simp; omega)).trans ?_
    simp
theorem lsupers_sp (s : By) (h0 : small s.length = true) : ∃ r H, lsupers LF s (fun l0 => rv (.fl 0) [.arr true 9 1 l0, .box [.fl 0], .box [.bad]]) = rv r H ∧ r.stab [1] H = .s (.sl (supersN s).isEmpty (supersN s).isEmpty 1 (strE (supersN s))) := by
  have h1 := supersN_len s
  have h2 := labelsN_le s
  unfold lsupers lsupers_e1
  rw [h0, cond_true]
  have := lsupers_loop (R := PV × List Blk × Unit) (k0 := fun l0 => rv (.fl 0) [.arr true 9 1 l0, .box [.fl 0], .box [.bad]]) (k1 := fun l0 => rv (.fl 0) [.arr true 9 1 l0, .box [.fl 0], .box [.bad]]) (supersN s) [] (by simp; omega)
  refine ⟨_, _, this, ?_⟩
  rw [List.nil_append]
  cases supersN s <;> rfl
end Go.Proofs.YtokehocipgepnaaDoor.E
namespace Go.Proofs.YtokehocipgepnaaDoor.E
open Go Go.Proofs
set_option linter.unusedVariables false
set_option linter.unusedSimpArgs false
set_option maxRecDepth 100000
theorem dropc {α : Type} {l r : List α} {x d : α} {i : Nat} (h : l.drop i = x :: r) : i < l.length ∧ l.getD i d = x ∧ l.drop (i + 1) = r := by
  have hi : i < l.length := Decidable.byContradiction fun hge => by
    rw [List.drop_eq_nil_iff.2 (by omega)] at h
    cases h
  have := List.drop_eq_getElem_cons hi
  rw [h] at this
  refine ⟨hi, ?_, (List.cons.inj this).2.symm⟩
  rw [List.getD_eq_getElem?_getD, List.getElem?_eq_getElem hi]
  exact (List.cons.inj this).1.symm
theorem lsc_loop {R : Type} {k0 : Bool → LL → Option R} {k1 : By → Int → Bool → LL → Option R} (name : By) (stop : Int) (z : Bool) (l : List By) (hn : name.length ≤ 400) (hll : l.length ≤ 1000) : ∀ (r : List By) (last : By) (i m : Nat), l.drop i = r → chainOk name last r → last.length ≤ 400 → r.length < m →
    lsc_l0 LF m name stop last (i : Int) z (strE l) k0 k1 = k1 name stop z (strE l)
  | [], last, i, m, h, hc, hla, hm => by
    obtain ⟨m, rfl⟩ : ∃ q, m = q + 1 := ⟨m - 1, by simp at hm; omega⟩
    rw [lsc_l0_s]
    unfold lsc_l0f
    have : l.length ≤ i := List.drop_eq_nil_iff.1 h
    rw [ltI_f (by rw [strE_len]; omega)]
    rfl
  | x :: r, last, i, m, h, hc, hla, hm => by
    obtain ⟨m, rfl⟩ : ∃ q, m = q + 1 := ⟨m - 1, by simp at hm; omega⟩
    rw [lsc_l0_s]
    unfold lsc_l0f
    obtain ⟨hi, hx, hr⟩ := dropc (d := []) h
    obtain ⟨c1, c2, c3, c4⟩ := hc
    have sx : small x.length = true := small_t (by omega)
    have sn : small name.length = true := small_t (by omega)
    have sl : small last.length = true := small_t (by omega)
    have hin : inR (i : Int) (strE l).length = true := inR_t (by omega) (by rw [strE_len]; omega)
    rw [ltI_t (by rw [strE_len]; omega), cond_true]
    simp only [hin, Int.toNat_natCast, okE_strE hi, gX_strE, hx, sx, sn, sl, c1, c2, cond_true, Bool.not_true, cond_false]
    rw [ltI_t (by omega), wi64_id (by omega) (by omega)]
    exact lsc_loop name stop z l hn hll r x (i + 1) m hr c4 (by omega) (by simp at hm; omega)
theorem lsc_seq {R : Type} {k0 k1 k2 : Bool → LL → Int → Int → Option R} (z : Bool) (l : List By) (n : Nat) (hll : l.length ≤ 1000) : ∀ (r : List By) (i : Nat), l.drop i = r → i ≤ n → i ≤ l.length →
    lsc_g0 LF r z (strE l) (n : Int) (i : Int) k0 k1 k2 = if n < l.length then k1 z (strE l) n n else k0 z (strE l) n (l.length : Nat)
  | [], i, h, hn, hi => by
    have : l.length ≤ i := List.drop_eq_nil_iff.1 h
    have e : i = l.length := by omega
    subst e
    rw [if_neg (by omega)]
    rfl
  | x :: r, i, h, hn, hi => by
    obtain ⟨hi, hx, hr⟩ := dropc (d := []) h
    rw [lsc_g0_s]
    unfold lsc_g0f
    by_cases e : i = n
    · subst e
      rw [show (((i : Nat) : Int) == ((i : Nat) : Int)) = true from beq_self_eq_true _, cond_true, if_pos hi]
    · rw [show (((i : Nat) : Int) == ((n : Nat) : Int)) = false by rw [beq_eq_false_iff_ne]; omega, cond_false, ltI_t (by rw [strE_len]; omega), Bool.not_true, cond_false, inR_t (by omega) (by rw [strE_len]; omega), cond_true, Int.toNat_natCast, okE_strE hi, cond_true, gX_strE, hx]
      simp only [beq_self_eq_true, Bool.not_true, cond_false]
      rw [wi64_id (by omega) (by omega)]
      exact lsc_seq z l n hll r (i + 1) hr (by omega) (by omega)
theorem lsc_true (name : By) (stop : Int) : Tru (evC (c_lsc LF) 1 Unit noY 4 [.s (.str name), .s (.int .i64 stop)] [] ()) := by
  have hLF := LF_big
  refine Eq.subst (motive := Tru) (lsc_ev (σ := Unit) LF noY () 0 name stop).symm ?_
  unfold lsc
  by_cases c1 : (400 : Int) < name.length
  · rw [ltI_t c1]; exact ⟨_, rfl⟩
  have h1 := supersN_len name
  have h2 := labelsN_le name
  rw [ltI_f (by omega), cond_false, small_t (by omega), cond_true, cond_true]
  simp only [vl]
  rw [wi64_id (by omega) (by omega), strE_len]
  have e : (if ((labelsN name : Nat) : Int) - 1 > 0 then ((labelsN name : Nat) : Int) - 1 else 0) = (((supersN name).length : Nat) : Int) := by
    split <;> omega
  rw [e]
  simp only [bne_self_eq_false, cond_false]
  rw [show (0 : Int) = ((0 : Nat) : Int) from rfl, lsc_loop name stop _ (supersN name) (by omega) (by omega) (supersN name) name 0 LF rfl (supersN_chain name) (by omega) (by omega)]
  rw [show ltI ((0 : Nat) : Int) (5 : Int) = true from rfl, cond_true, show ltN (5 : Int) 1000000000 = true from rfl, cond_true]
  unfold lsc_e1
  rw [small_t (by omega), cond_true]
  obtain ⟨m, hm⟩ := Int.eq_ofNat_of_zero_le (Int.emod_nonneg stop (show (5 : Int) ≠ 0 by decide))
  rw [show Int.emod stop 5 = (m : Int) from hm, show (0 : Int) = ((0 : Nat) : Int) from rfl, lsc_seq _ (supersN name) m (by omega) (supersN name) 0 rfl (by omega) (by omega)]
  split
  · rename_i h
    rw [strE_len, if_neg (by omega)]
    simp only [beq_self_eq_true, cond_true]
    exact ⟨_, rfl⟩
  · rename_i h
    have e2 : (if (((supersN name).length : Nat) : Int) < (m : Int) then (((supersN name).length : Nat) : Int) else (m : Int)) = (((supersN name).length : Nat) : Int) := by
      split <;> omega
    rw [strE_len, e2]
    simp only [beq_self_eq_true, cond_true]
    exact ⟨_, rfl⟩
theorem lsc_law (args : List PV) (h : ArgsOf Tryd.prog [9, 3] args) : ∃ d Hc, evC (c_lsc LF) d Unit noY 4 args [] () = some (.s (.bool true), Hc, ()) := by
  obtain ⟨v1, q1, rfl, h1, v2, q2, rfl, h2, rfl⟩ := h
  obtain ⟨a, rfl, _⟩ := arg_str h1 (by kernel_rfl) (by kernel_rfl)
  obtain ⟨n, rfl, _⟩ := arg_int (k := .i64) h2 (by kernel_rfl) (by kernel_rfl)
  obtain ⟨H, e⟩ := lsc_true a n
  exact ⟨1, H, e⟩
end Go.Proofs.YtokehocipgepnaaDoor.E
namespace Go.Proofs.YtokehocipgepnaaDoor.E
open Go Go.Proofs
set_option linter.unusedVariables false
set_option maxRecDepth 100000
section
theorem x_kmod : XFact Tryd.prog GX 11 X_kmod := by
  refine XFact.fix (pf := X_kmod0) _ (xfact_of_stab [] (C₀ := c_kmod LF) (XFacts.ok (l := []) rfl trivial) (okFns_of rfl (by kernel_rfl)) follows ?_)
  intro args ret Hc h
  unfold X_kmod0 at h
  split at h
  · rename_i n m
    obtain ⟨h0, h⟩ := tr_need h
    obtain ⟨h1, h⟩ := tr_need h
    obtain ⟨rfl, rfl⟩ := tr_ret h
    have e := (kmod_ev LF noY () 0 n m).trans (kmod_spec n m h0 h1)
    exact ⟨rfl, rfl, rfl, 1, _, _, e, rfl⟩
  · cases h
theorem x_lsupers : XFact Tryd.prog GX 9 X_lsupers := by
  refine XFact.fix (pf := X_lsupers0) _ (xfact_of_stab [1] (C₀ := c_lsupers LF) (xok_of (lx := [(12, X_hsup)]) (ly := []) (ls := [(19, X_hsupf)]) rfl rfl rfl ⟨x_hsup, trivial⟩ trivial ⟨z_hsupf, trivial⟩) (okFns_of rfl (by kernel_rfl)) follows ?_)
  intro args ret Hc h
  unfold X_lsupers0 at h
  split at h
  · rename_i name
    obtain ⟨h0, h⟩ := tr_need h
    obtain ⟨rfl, rfl⟩ := tr_ret h
    obtain ⟨r, H, e, hs⟩ := lsupers_sp name h0
    exact ⟨rfl, rfl, rfl, 1, r, H, (lsupers_ev LF noY () 0 name).trans e, hs⟩
  · cases h
theorem awake_run : resTrue (evC (c_awake LF) 1 Unit noY 6 [] [] ()) = true := by kernel_rfl
theorem x_awake : XFact Tryd.prog GX 6 X_awake :=
  XFact.fix (pf := X_awake0) _ (by
    have h := xfact_true (C₀ := c_awake LF) (XFacts.ok (l := [(13, X_hparse), (10, X_hlab), (7, X_hcov)]) rfl ⟨x_hparse, x_hlab, x_hcov, trivial⟩) (okFns_of rfl (by kernel_rfl)) follows awake_run
    have e : (fun args : List PV => match args with | [] => Tr.ret (.s (.bool true)) [] | _ => .fail) = X_awake0 := by
      funext args
      cases args <;> rfl
    rw [← e]
    exact h)
end
end Go.Proofs.YtokehocipgepnaaDoor.E
namespace Go.Proofs.YtokehocipgepnaaDoor.E
open Go Go.Proofs Go.ChangeShapes Go.WideShapes Go.ChangeAt Go.RowKit
set_option linter.unusedVariables false
set_option maxRecDepth 100000
section
theorem lsc_lifted (os : Os) (started : os.Started) (H : Type) (enc : TypeId × Value → H) :
    ReturnsInHanded {} Tryd.checked os 4 .any (fun w args => (Rows.hostSupersCoverSpec.pre enc Tryd.prog Tryd.f4 Rows.hostSupersCoverRow.domain false w args ∧ laidMetH Tryd.prog laidH w) ∧ sizedMet enc Tryd.prog Tryd.f4 (OpenSpec.ofChange Rows.hostSupersCoverSpec) false w args) (Rows.hostSupersCoverSpec.post enc Tryd.prog Tryd.f4 false true false false) :=
  law_handed started (C := c_lsc LF) (tb := 4) rfl rfl (xok_of (lx := [(6, X_awake), (9, X_lsupers), (10, X_hlab), (7, X_hcov), (11, X_kmod), (12, X_hsup)]) (ly := []) (ls := [(19, X_hsupf)]) rfl rfl rfl ⟨x_awake, x_lsupers, x_hlab, x_hcov, x_kmod, x_hsup, trivial⟩ trivial ⟨z_hsupf, trivial⟩) (okFns_of rfl (by kernel_rfl)) (by kernel_rfl) Tryd.func4 (c := bodyOf Tryd.f4) rfl (by kernel_rfl)
    (by
      intro t ht
      have : t = 9 ∨ t = 3 := by simpa only [List.mem_cons, List.mem_nil_iff, or_false] using (show t ∈ [9, 3] from ht)
      rcases this with rfl | rfl
      all_goals exact ⟨⟨by kernel_rfl, of_decide_eq_true (by kernel_rfl)⟩, by kernel_rfl⟩) rfl (by kernel_rfl) rfl
    (fun ds hds => by
      match ds, hds with
      | [d0, d1], _ => rfl)
    #[(.string ⟨#[]⟩), (.int .i64 0)] 8 (by kernel_rfl) (by kernel_rfl) (by kernel_rfl)
    (fun args h => lsc_law args h)
theorem lsc_holds : Rows.HostSupersCoverSaid :=
  OpenClaim.holds_of_wide 4 Tryd.f4 rfl rfl rfl rfl rfl rfl rfl ⟨rfl, rfl, rfl, rfl, rfl⟩ rfl rfl rfl rfl rfl (by kernel_rfl) Tryd.func4 (by kernel_rfl)
    (of_decide_eq_true (by kernel_rfl)) (by unfold Func.isWrapper; first | (rw [if_pos (by decide +kernel)]; kernel_rfl) | (rw [if_neg (by decide +kernel)]; exact ⟨rfl, rfl⟩))
    (fun os started H enc _ => lsc_lifted os started H enc)
theorem lsc_card : Rows.HostSupersCoverCardSaid :=
  Claim7.holds_tied_plain_at .later [] [.data, .data, .data, .data, .pinned] true (true, "56613ab08fe662bb88c0a094ef60552bbbfa6a446726666ea5557727848e9f97") false lsc_holds (fun _ h => by cases h) (by kernel_rfl) (fun _ h => by cases h) hostSupersCover_row_tie rfl ⟨rfl, rfl⟩ (by kernel_rfl) rfl
    (fun f fn hf hfn => by
      obtain rfl : f = 4 := Option.some.inj ((show Tryd.prog.funcNamed "hstsstore/hstsstorelaw14.HostSupersCover" = some 4 by kernel_rfl).symm.trans hf) |>.symm
      obtain rfl : fn = Tryd.f4 := (Option.some.inj (Tryd.func4.symm.trans hfn)).symm
      exact ⟨by kernel_rfl, fun j t ht => by
        have hm : t ∈ [9, 3] := Array.mem_toList_iff.2 (Array.mem_of_getElem? ht)
        have hall : ([9, 3].all fun u => !Tryd.prog.wantsStandIn u) = true := by kernel_rfl
        exact (show Tryd.prog.wantsStandIn t = false by simpa using List.all_eq_true.1 hall t hm)⟩)
    (by kernel_rfl)
end
#print axioms lsc_card
end Go.Proofs.YtokehocipgepnaaDoor.E
