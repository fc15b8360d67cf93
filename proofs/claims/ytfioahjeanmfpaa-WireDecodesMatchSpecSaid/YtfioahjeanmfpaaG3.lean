/-
  Segments of the walk through the code, written by a program of the prover's own and checked by the kernel: each equation says what the evaluator gives on one stretch.
-/
import Derived.Test.YtfioahjeanmfpaaC1
namespace Go.Proofs.Ytfioahjeanmfpaa.E
open Go Go.Proofs
set_option linter.unusedVariables false
set_option maxRecDepth 100000

theorem l_decodes {σ : Type} (lf d : Nat) (yh : Yh σ) (s : σ) (z t : Bool) (b : List UInt8) : evCode (cfgL lf) (evC (cfgL lf) d) yh (bodyOf Try.f6) ⟨([.s (.sl z t 1 (b.map u8el))] : List PV) ++ List.replicate (Try.f6.ntmps - ([.s (.sl z t 1 (b.map u8el))] : List PV).length) (.tup []), [], s⟩ (retK (cfgL lf) Try.f6) =
  (cond (decide (Int.ofNat (List.length (List.map u8el b)) > 6000))
  (some (PV.s (SV.bool true), [], s))
  (cond (List.all (List.map u8el b) isU8)
    (cond (List.all (List.map u8el b) isU8)
      (cond (List.all (List.map u8el b) isU8 && decide (List.length (List.map u8el b) ≤ 1000000000))
        (cond (List.all (List.map u8el b) isU8 && decide (List.length (List.map u8el b) ≤ 1000000000))
          (cond (List.all (List.map u8el b) isU8)
            (cond (List.all (List.map u8el b) isU8)
              (cond (Int.ofNat (decU (List.map elU8 (List.map u8el b))).1 == Int.ofNat (decU (List.map elU8 (List.map u8el b))).1)
                (cond (Int.ofNat (Prod.snd (decU (List.map elU8 (List.map u8el b)))).1 == Int.ofNat (Prod.snd (decU (List.map elU8 (List.map u8el b)))).1)
                  (cond (Int.ofNat (Prod.snd (decU (List.map elU8 (List.map u8el b)))).2 == Int.ofNat (Prod.snd (decU (List.map elU8 (List.map u8el b)))).2)
                    (cond ((decT (List.map elU8 (List.map u8el b))).1 == (decT (List.map elU8 (List.map u8el b))).1)
                      (cond (Int.ofNat (Prod.snd (decT (List.map elU8 (List.map u8el b)))).1 == Int.ofNat (Prod.snd (decT (List.map elU8 (List.map u8el b)))).1)
                        (cond (Int.ofNat (Prod.snd (decT (List.map elU8 (List.map u8el b)))).2 == Int.ofNat (Prod.snd (decT (List.map elU8 (List.map u8el b)))).2)
                          (cond (Int.ofNat (decF (List.map elU8 (List.map u8el b))).1 == Int.ofNat (decF (List.map elU8 (List.map u8el b))).1)
                            (cond (Int.ofNat (decF (List.map elU8 (List.map u8el b))).2 == Int.ofNat (decF (List.map elU8 (List.map u8el b))).2)
                              (some (PV.s (SV.bool true), [], s))
                              (some (PV.s (SV.bool false), [], s)))
                            (some (PV.s (SV.bool false), [], s)))
                          (some (PV.s (SV.bool false), [], s)))
                        (some (PV.s (SV.bool false), [], s)))
                      (some (PV.s (SV.bool false), [], s)))
                    (some (PV.s (SV.bool false), [], s)))
                  (some (PV.s (SV.bool false), [], s)))
                (some (PV.s (SV.bool false), [], s)))
              (none))
            (none))
          (none))
        (none))
      (none))
    (none))) := by kernel_rfl

end Go.Proofs.Ytfioahjeanmfpaa.E
