/-
  Segments of the walk through the code, written by a program of the prover's own and checked by the kernel: each equation says what the evaluator gives on one stretch.
-/
import Derived.Test.YtfioahjeanmfpaaC1
namespace Go.Proofs.Ytfioahjeanmfpaa.E
open Go Go.Proofs
set_option linter.unusedVariables false
set_option maxRecDepth 100000

theorem clone_ev {σ : Type} (lf d : Nat) (yh : Yh σ) (s : σ) (z t : Bool) (k : Nat) (l : List (List SV)) : evCode (cfg0 lf) (evC (cfg0 lf) d) yh (bodyOf Try.f23) ⟨([.s (.sl z t k l)] : List PV) ++ List.replicate (Try.f23.ntmps - ([.s (.sl z t k l)] : List PV).length) (.tup []), [], s⟩ (retK (cfg0 lf) Try.f23) =
  (cond (z)
  (some (PV.fl 1, [Blk.arr true 0 0 [], Blk.arr true 0 0 []], s))
  (if srcOk 1 [Blk.arr true 0 0 [], Blk.arr false 5 1 []] (PV.s (SV.sl z t k l)) = true then
    (cond (decide (0 + List.length l ≤ 68719476736))
      (some (PV.fl 1, [Blk.arr true 0 0 [], Blk.arr false 5 1 l], s))
      (none))
    else (none))) := by kernel_rfl

theorem bytes_ev {σ : Type} (lf d : Nat) (yh : Yh σ) (s : σ) (z t z' t' : Bool) (k k' : Nat) (l m : List (List SV)) : evCode (cfg0 lf) (evC (cfg0 lf) d) yh (bodyOf Try.f9) ⟨([.s (.sl z t k l), .s (.sl z' t' k' m)] : List PV) ++ List.replicate (Try.f9.ntmps - ([.s (.sl z t k l), .s (.sl z' t' k' m)] : List PV).length) (.tup []), [], s⟩ (retK (cfg0 lf) Try.f9) =
  (cond (List.all l isU8)
  (cond (List.all m isU8)
    (some (PV.s (SV.bool (List.map elU8 l == List.map elU8 m)), [], s))
    (none))
  (none)) := by kernel_rfl

theorem own_ev {σ : Type} (lf d : Nat) (yh : Yh σ) (s : σ) (z t : Bool) (k : Nat) (l : List (List SV)) : evCode (cfg0 lf) (evC (cfg0 lf) d) yh (bodyOf Try.f11) ⟨([.s (.sl z t k l)] : List PV) ++ List.replicate (Try.f11.ntmps - ([.s (.sl z t k l)] : List PV).length) (.tup []), [], s⟩ (retK (cfg0 lf) Try.f11) =
  (if srcOk 1 [Blk.arr true 0 0 [], Blk.arr false 5 1 []] (PV.s (SV.sl z t k l)) = true then
  (cond (decide (0 + List.length l ≤ 68719476736))
    (some (PV.fl 1, [Blk.arr true 0 0 [], Blk.arr false 5 1 l], s))
    (none))
  else (none)) := by kernel_rfl

theorem app_ev {σ : Type} (lf d : Nat) (yh : Yh σ) (s : σ) (t : Bool) (l : List (List SV)) (v : Nat) : evCode (cfgApp lf) (evC (cfgApp lf) d) yh (bodyOf Try.f8) ⟨([.s (.sl false t 1 l), .s (.int .u64 (v : Int))] : List PV) ++ List.replicate (Try.f8.ntmps - ([.s (.sl false t 1 l), .s (.int .u64 (v : Int))] : List PV).length) (.tup []), [], s⟩ (retK (cfgApp lf) Try.f8) =
  (cond (decide (List.length l ≤ 68719476736))
  (loopK 3 ((cfgApp lf).keep 2) (bd (cfgApp lf) (evC (cfgApp lf) d) yh (cd [1, 1, 0, 0, 0] (bodyOf Try.f8))) (cfgApp lf).lf ⟨([.bad, PV.s (SV.int IntKind.u64 (Int.ofNat v)), .bad, .bad, PV.fl 0, PV.fl 2] ++ bds 17), [Blk.arr true 0 0 [], Blk.dead, Blk.arr false 5 1 l], s⟩ (blkK 0 (seqK (cfgApp lf) (evC (cfgApp lf) d) yh (cd [1, 1, 1] (bodyOf Try.f8)) (retK (cfgApp lf) Try.f8))))
  (none)) := by kernel_rfl

theorem app_evn {σ : Type} (lf d : Nat) (yh : Yh σ) (s : σ) (t : Bool) (j : Nat) (l : List (List SV)) (v : Nat) : evCode (cfgApp lf) (evC (cfgApp lf) d) yh (bodyOf Try.f8) ⟨([.s (.sl true t j l), .s (.int .u64 (v : Int))] : List PV) ++ List.replicate (Try.f8.ntmps - ([.s (.sl true t j l), .s (.int .u64 (v : Int))] : List PV).length) (.tup []), [], s⟩ (retK (cfgApp lf) Try.f8) =
  (loopK 3 ((cfgApp lf).keep 2) (bd (cfgApp lf) (evC (cfgApp lf) d) yh (cd [1, 1, 0, 0, 0] (bodyOf Try.f8))) (cfgApp lf).lf ⟨([.bad, PV.s (SV.int IntKind.u64 (Int.ofNat v)), .bad, .bad, PV.fl 0, PV.fl 2] ++ bds 17), [Blk.arr true 0 0 [], Blk.dead, Blk.arr true 0 0 []], s⟩ (blkK 0 (seqK (cfgApp lf) (evC (cfgApp lf) d) yh (cd [1, 1, 1] (bodyOf Try.f8)) (retK (cfgApp lf) Try.f8)))) := by kernel_rfl

theorem app_step {σ R : Type} (lf : Nat) (cl : CallT) (yh : Yh σ) (s : σ) (fu : Nat) (k : Out → St σ → Option R) (z : Bool) (l : List (List SV)) (v : Nat) : loopK 3 ((cfgApp lf).keep 2) (bd (cfgApp lf) cl yh (cd [1, 1, 0, 0, 0] (bodyOf Try.f8))) (fu + 1) ⟨([.bad, PV.s (SV.int IntKind.u64 (Int.ofNat v)), .bad, .bad, PV.fl 0, PV.fl 2] ++ bds 17), [Blk.arr true 0 0 [], Blk.dead, Blk.arr z 5 1 l], s⟩ k =
  (cond (decide (Int.ofNat v ≥ 128))
  (cond (decide (List.length l + 1 ≤ 68719476736))
    (loopK 3 ((cfgApp lf).keep 2) (bd (cfgApp lf) cl yh (cd [1, 1, 0, 0, 0] (bodyOf Try.f8))) fu ⟨([.bad, PV.s (SV.int IntKind.u64 (Int.fdiv (Int.ofNat v) 128)), .bad, .bad, PV.fl 0, PV.fl 2] ++ bds 17), [Blk.arr true 0 0 [], Blk.dead, Blk.arr z 5 1 (l ++ [[SV.int IntKind.u8 (IntKind.wrap IntKind.u8 (Int.ofNat (BitVec.toNat (BitVec.ofInt 8 (IntKind.wrap IntKind.u8 (Int.ofNat v)) ||| BitVec.ofInt 8 128))))]])], s⟩ k)
    (none))
  (k (.exit 0) ⟨([.bad, PV.s (SV.int IntKind.u64 (Int.ofNat v)), .bad, .bad, PV.fl 0, PV.fl 2] ++ bds 17), [Blk.arr true 0 0 [], Blk.dead, Blk.arr z 5 1 l], s⟩)) := by kernel_rfl

theorem app_step0 {σ R : Type} (lf : Nat) (cl : CallT) (yh : Yh σ) (s : σ) (fu : Nat) (k : Out → St σ → Option R) (v : Nat) : loopK 3 ((cfgApp lf).keep 2) (bd (cfgApp lf) cl yh (cd [1, 1, 0, 0, 0] (bodyOf Try.f8))) (fu + 1) ⟨([.bad, PV.s (SV.int IntKind.u64 (Int.ofNat v)), .bad, .bad, PV.fl 0, PV.fl 2] ++ bds 17), [Blk.arr true 0 0 [], Blk.dead, Blk.arr true 0 0 []], s⟩ k =
  (cond (decide (Int.ofNat v ≥ 128))
  (loopK 3 ((cfgApp lf).keep 2) (bd (cfgApp lf) cl yh (cd [1, 1, 0, 0, 0] (bodyOf Try.f8))) fu ⟨([.bad, PV.s (SV.int IntKind.u64 (Int.fdiv (Int.ofNat v) 128)), .bad, .bad, PV.fl 0, PV.fl 2] ++ bds 17), [Blk.arr true 0 0 [], Blk.dead, Blk.arr true 5 1 [[SV.int IntKind.u8 (IntKind.wrap IntKind.u8 (Int.ofNat (BitVec.toNat (BitVec.ofInt 8 (IntKind.wrap IntKind.u8 (Int.ofNat v)) ||| BitVec.ofInt 8 128))))]]], s⟩ k)
  (k (.exit 0) ⟨([.bad, PV.s (SV.int IntKind.u64 (Int.ofNat v)), .bad, .bad, PV.fl 0, PV.fl 2] ++ bds 17), [Blk.arr true 0 0 [], Blk.dead, Blk.arr true 0 0 []], s⟩)) := by kernel_rfl

theorem app_aft {σ : Type} (lf : Nat) (cl : CallT) (yh : Yh σ) (s : σ) (z : Bool) (l : List (List SV)) (v : Nat) : (blkK 0 (seqK (cfgApp lf) cl yh (cd [1, 1, 1] (bodyOf Try.f8)) (retK (cfgApp lf) Try.f8))) (.exit 0) ⟨([.bad, PV.s (SV.int IntKind.u64 (Int.ofNat v)), .bad, .bad, PV.fl 0, PV.fl 2] ++ bds 17), [Blk.arr true 0 0 [], Blk.dead, Blk.arr z 5 1 l], s⟩ =
  (cond (decide (List.length l + 1 ≤ 68719476736))
  (some (PV.fl 2, [Blk.arr true 0 0 [], Blk.dead, Blk.arr z 5 1 (l ++ [[SV.int IntKind.u8 (IntKind.wrap IntKind.u8 (Int.ofNat v))]]), Blk.arr false 5 1 [[SV.int IntKind.u8 (IntKind.wrap IntKind.u8 (Int.ofNat v))]]], s))
  (none)) := by kernel_rfl

theorem app_aft0 {σ : Type} (lf : Nat) (cl : CallT) (yh : Yh σ) (s : σ) (v : Nat) : (blkK 0 (seqK (cfgApp lf) cl yh (cd [1, 1, 1] (bodyOf Try.f8)) (retK (cfgApp lf) Try.f8))) (.exit 0) ⟨([.bad, PV.s (SV.int IntKind.u64 (Int.ofNat v)), .bad, .bad, PV.fl 0, PV.fl 2] ++ bds 17), [Blk.arr true 0 0 [], Blk.dead, Blk.arr true 0 0 []], s⟩ =
  (some (PV.fl 2, [Blk.arr true 0 0 [], Blk.dead, Blk.arr true 5 1 [[SV.int IntKind.u8 (IntKind.wrap IntKind.u8 (Int.ofNat v))]], Blk.arr false 5 1 [[SV.int IntKind.u8 (IntKind.wrap IntKind.u8 (Int.ofNat v))]]], s)) := by kernel_rfl

theorem fix_ev {σ : Type} (lf d : Nat) (yh : Yh σ) (s : σ) (t : Bool) (l : List (List SV)) (v : Nat) : evCode (cfgApp lf) (evC (cfgApp lf) d) yh (bodyOf Try.f13) ⟨([.s (.sl false t 1 l), .s (.int .u32 (v : Int))] : List PV) ++ List.replicate (Try.f13.ntmps - ([.s (.sl false t 1 l), .s (.int .u32 (v : Int))] : List PV).length) (.tup []), [], s⟩ (retK (cfgApp lf) Try.f13) =
  (cond (decide (List.length l ≤ 68719476736))
  (cond (decide (List.length l + 4 ≤ 68719476736))
    (some (PV.fl 2, [Blk.arr true 0 0 [], Blk.dead, Blk.arr false 5 1 (l ++ [[SV.int IntKind.u8 (IntKind.wrap IntKind.u8 (Int.ofNat v))], [SV.int IntKind.u8 (IntKind.wrap IntKind.u8 (Int.fdiv (Int.ofNat v) 256))], [SV.int IntKind.u8 (IntKind.wrap IntKind.u8 (Int.fdiv (Int.ofNat v) 65536))], [SV.int IntKind.u8 (IntKind.wrap IntKind.u8 (Int.fdiv (Int.ofNat v) 16777216))]]), Blk.arr false 5 1 [[SV.int IntKind.u8 (IntKind.wrap IntKind.u8 (Int.ofNat v))], [SV.int IntKind.u8 (IntKind.wrap IntKind.u8 (Int.fdiv (Int.ofNat v) 256))], [SV.int IntKind.u8 (IntKind.wrap IntKind.u8 (Int.fdiv (Int.ofNat v) 65536))], [SV.int IntKind.u8 (IntKind.wrap IntKind.u8 (Int.fdiv (Int.ofNat v) 16777216))]]], s))
    (none))
  (none)) := by kernel_rfl

theorem fix_evn {σ : Type} (lf d : Nat) (yh : Yh σ) (s : σ) (t : Bool) (j : Nat) (l : List (List SV)) (v : Nat) : evCode (cfgApp lf) (evC (cfgApp lf) d) yh (bodyOf Try.f13) ⟨([.s (.sl true t j l), .s (.int .u32 (v : Int))] : List PV) ++ List.replicate (Try.f13.ntmps - ([.s (.sl true t j l), .s (.int .u32 (v : Int))] : List PV).length) (.tup []), [], s⟩ (retK (cfgApp lf) Try.f13) =
  (some (PV.fl 2, [Blk.arr true 0 0 [], Blk.dead, Blk.arr true 5 1 [[SV.int IntKind.u8 (IntKind.wrap IntKind.u8 (Int.ofNat v))], [SV.int IntKind.u8 (IntKind.wrap IntKind.u8 (Int.fdiv (Int.ofNat v) 256))], [SV.int IntKind.u8 (IntKind.wrap IntKind.u8 (Int.fdiv (Int.ofNat v) 65536))], [SV.int IntKind.u8 (IntKind.wrap IntKind.u8 (Int.fdiv (Int.ofNat v) 16777216))]], Blk.arr false 5 1 [[SV.int IntKind.u8 (IntKind.wrap IntKind.u8 (Int.ofNat v))], [SV.int IntKind.u8 (IntKind.wrap IntKind.u8 (Int.fdiv (Int.ofNat v) 256))], [SV.int IntKind.u8 (IntKind.wrap IntKind.u8 (Int.fdiv (Int.ofNat v) 65536))], [SV.int IntKind.u8 (IntKind.wrap IntKind.u8 (Int.fdiv (Int.ofNat v) 16777216))]]], s)) := by kernel_rfl

theorem ruint_ev {σ : Type} (lf d : Nat) (yh : Yh σ) (s : σ) (v : Nat) : evCode (cfgRU lf) (evC (cfgRU lf) d) yh (bodyOf Try.f14) ⟨([.s (.int .u64 (v : Int))] : List PV) ++ List.replicate (Try.f14.ntmps - ([.s (.int .u64 (v : Int))] : List PV).length) (.tup []), [], s⟩ (retK (cfgRU lf) Try.f14) =
  (loopK 2 ((cfgRU lf).keep 2) (bd (cfgRU lf) (evC (cfgRU lf) d) yh (cd [1, 1, 0, 0, 0] (bodyOf Try.f14))) (cfgRU lf).lf ⟨([PV.s (SV.int IntKind.u64 (Int.ofNat v)), .bad, PV.fl 0, PV.fl 1] ++ bds 16), [Blk.arr true 0 0 [], Blk.arr true 0 0 []], s⟩ (blkK 0 (seqK (cfgRU lf) (evC (cfgRU lf) d) yh (cd [1, 1, 1] (bodyOf Try.f14)) (retK (cfgRU lf) Try.f14)))) := by kernel_rfl

theorem ruint_step {σ R : Type} (lf : Nat) (cl : CallT) (yh : Yh σ) (s : σ) (fu : Nat) (k : Out → St σ → Option R) (v : Nat) (l : List (List SV)) : loopK 2 ((cfgRU lf).keep 2) (bd (cfgRU lf) cl yh (cd [1, 1, 0, 0, 0] (bodyOf Try.f14))) (fu + 1) ⟨([PV.s (SV.int IntKind.u64 (Int.ofNat v)), .bad, PV.fl 0, PV.fl 1] ++ bds 16), [Blk.arr true 0 0 [], Blk.arr true 5 1 l], s⟩ k =
  (cond (decide (Int.ofNat v ≥ 128))
  (cond (decide (List.length l + 1 ≤ 68719476736))
    (loopK 2 ((cfgRU lf).keep 2) (bd (cfgRU lf) cl yh (cd [1, 1, 0, 0, 0] (bodyOf Try.f14))) fu ⟨([PV.s (SV.int IntKind.u64 (IntKind.wrap IntKind.u64 (Int.tdiv (Int.ofNat v) 128))), .bad, PV.fl 0, PV.fl 1] ++ bds 16), [Blk.arr true 0 0 [], Blk.arr true 5 1 (l ++ [[SV.int IntKind.u8 (IntKind.wrap IntKind.u8 (IntKind.wrap IntKind.u64 (Int.tmod (Int.ofNat v) 128 + 128)))]])], s⟩ k)
    (none))
  (k (.exit 0) ⟨([PV.s (SV.int IntKind.u64 (Int.ofNat v)), .bad, PV.fl 0, PV.fl 1] ++ bds 16), [Blk.arr true 0 0 [], Blk.arr true 5 1 l], s⟩)) := by kernel_rfl

theorem ruint_step0 {σ R : Type} (lf : Nat) (cl : CallT) (yh : Yh σ) (s : σ) (fu : Nat) (k : Out → St σ → Option R) (v : Nat) : loopK 2 ((cfgRU lf).keep 2) (bd (cfgRU lf) cl yh (cd [1, 1, 0, 0, 0] (bodyOf Try.f14))) (fu + 1) ⟨([PV.s (SV.int IntKind.u64 (Int.ofNat v)), .bad, PV.fl 0, PV.fl 1] ++ bds 16), [Blk.arr true 0 0 [], Blk.arr true 0 0 []], s⟩ k =
  (cond (decide (Int.ofNat v ≥ 128))
  (loopK 2 ((cfgRU lf).keep 2) (bd (cfgRU lf) cl yh (cd [1, 1, 0, 0, 0] (bodyOf Try.f14))) fu ⟨([PV.s (SV.int IntKind.u64 (IntKind.wrap IntKind.u64 (Int.tdiv (Int.ofNat v) 128))), .bad, PV.fl 0, PV.fl 1] ++ bds 16), [Blk.arr true 0 0 [], Blk.arr true 5 1 [[SV.int IntKind.u8 (IntKind.wrap IntKind.u8 (IntKind.wrap IntKind.u64 (Int.tmod (Int.ofNat v) 128 + 128)))]]], s⟩ k)
  (k (.exit 0) ⟨([PV.s (SV.int IntKind.u64 (Int.ofNat v)), .bad, PV.fl 0, PV.fl 1] ++ bds 16), [Blk.arr true 0 0 [], Blk.arr true 0 0 []], s⟩)) := by kernel_rfl

theorem ruint_aft {σ : Type} (lf : Nat) (cl : CallT) (yh : Yh σ) (s : σ) (v : Nat) (l : List (List SV)) : (blkK 0 (seqK (cfgRU lf) cl yh (cd [1, 1, 1] (bodyOf Try.f14)) (retK (cfgRU lf) Try.f14))) (.exit 0) ⟨([PV.s (SV.int IntKind.u64 (Int.ofNat v)), .bad, PV.fl 0, PV.fl 1] ++ bds 16), [Blk.arr true 0 0 [], Blk.arr true 5 1 l], s⟩ =
  (cond (decide (List.length l + 1 ≤ 68719476736))
  (some (PV.fl 1, [Blk.arr true 0 0 [], Blk.arr true 5 1 (l ++ [[SV.int IntKind.u8 (IntKind.wrap IntKind.u8 (Int.ofNat v))]]), Blk.arr false 5 1 [[SV.int IntKind.u8 (IntKind.wrap IntKind.u8 (Int.ofNat v))]]], s))
  (none)) := by kernel_rfl

theorem ruint_aft0 {σ : Type} (lf : Nat) (cl : CallT) (yh : Yh σ) (s : σ) (v : Nat) : (blkK 0 (seqK (cfgRU lf) cl yh (cd [1, 1, 1] (bodyOf Try.f14)) (retK (cfgRU lf) Try.f14))) (.exit 0) ⟨([PV.s (SV.int IntKind.u64 (Int.ofNat v)), .bad, PV.fl 0, PV.fl 1] ++ bds 16), [Blk.arr true 0 0 [], Blk.arr true 0 0 []], s⟩ =
  (some (PV.fl 1, [Blk.arr true 0 0 [], Blk.arr true 5 1 [[SV.int IntKind.u8 (IntKind.wrap IntKind.u8 (Int.ofNat v))]], Blk.arr false 5 1 [[SV.int IntKind.u8 (IntKind.wrap IntKind.u8 (Int.ofNat v))]]], s)) := by kernel_rfl

theorem rfix_ev {σ : Type} (lf d : Nat) (yh : Yh σ) (s : σ) (v : Nat) : evCode (cfg0 lf) (evC (cfg0 lf) d) yh (bodyOf Try.f16) ⟨([.s (.int .u32 (v : Int))] : List PV) ++ List.replicate (Try.f16.ntmps - ([.s (.int .u32 (v : Int))] : List PV).length) (.tup []), [], s⟩ (retK (cfg0 lf) Try.f16) =
  (some (PV.fl 1, [Blk.arr true 0 0 [], Blk.arr false 5 1 [[SV.int IntKind.u8 (IntKind.wrap IntKind.u8 (Int.ofNat v))], [SV.int IntKind.u8 (IntKind.wrap IntKind.u8 (Int.fdiv (Int.ofNat v) 256))], [SV.int IntKind.u8 (IntKind.wrap IntKind.u8 (Int.fdiv (Int.ofNat v) 65536))], [SV.int IntKind.u8 (IntKind.wrap IntKind.u8 (Int.fdiv (Int.ofNat v) 16777216))]]], s)) := by kernel_rfl

theorem dec_ev {σ : Type} (lf d : Nat) (yh : Yh σ) (s : σ) (z t : Bool) (b : List UInt8) : evCode (cfgDU lf) (evC (cfgDU lf) d) yh (bodyOf Try.f17) ⟨([.s (.sl z t 1 (b.map u8el))] : List PV) ++ List.replicate (Try.f17.ntmps - ([.s (.sl z t 1 (b.map u8el))] : List PV).length) (.tup []), [], s⟩ (retK (cfgDU lf) Try.f17) =
  (loopK 0 ((cfgDU lf).keep 3) (bd (cfgDU lf) (evC (cfgDU lf) d) yh (cd [1, 1, 0, 1, 0, 0] (bodyOf Try.f17))) (cfgDU lf).lf ⟨([PV.s (SV.sl z t 1 (List.map u8el b)), .bad, PV.s (SV.int IntKind.u64 0), PV.s (SV.int IntKind.i64 0), PV.s (SV.int IntKind.i64 0), PV.s (SV.int IntKind.u64 0), .bad, .bad, PV.s (SV.int IntKind.i64 0)] ++ bds 49), [], s⟩ (blkK 0 (seqK (cfgDU lf) (evC (cfgDU lf) d) yh (cd [1, 1, 1] (bodyOf Try.f17)) (retK (cfgDU lf) Try.f17)))) := by kernel_rfl

theorem dec_step {σ R : Type} (lf : Nat) (cl : CallT) (yh : Yh σ) (s : σ) (fu : Nat) (k : Out → St σ → Option R) (z t : Bool) (b : List UInt8) (i v : Nat) : loopK 0 ((cfgDU lf).keep 3) (bd (cfgDU lf) cl yh (cd [1, 1, 0, 1, 0, 0] (bodyOf Try.f17))) (fu + 1) ⟨([PV.s (SV.sl z t 1 (List.map u8el b)), .bad, PV.s (SV.int IntKind.u64 0), PV.s (SV.int IntKind.i64 0), PV.s (SV.int IntKind.i64 0), PV.s (SV.int IntKind.u64 (Int.ofNat v)), .bad, .bad, PV.s (SV.int IntKind.i64 (Int.ofNat i))] ++ bds 49), [], s⟩ k =
  (cond (decide (Int.ofNat i < 10))
  (cond (Int.ofNat i == Int.ofNat (List.length (List.map u8el b)))
    (k .ret ⟨([PV.s (SV.sl z t 1 (List.map u8el b)), .bad, PV.s (SV.int IntKind.u64 0), PV.s (SV.int IntKind.i64 0), PV.s (SV.int IntKind.i64 5), PV.s (SV.int IntKind.u64 (Int.ofNat v)), .bad, .bad, PV.s (SV.int IntKind.i64 (Int.ofNat i))] ++ bds 49), [], s⟩)
    (cond (decide (0 ≤ Int.ofNat i) && decide (Int.ofNat i < Int.ofNat (List.length (List.map u8el b))))
      (cond (decide (Int.toNat (Int.ofNat i) < List.length (List.map u8el b)) && okS (TI.mk true false [CK.int IntKind.u8]) (List.getD (List.map u8el b) (Int.toNat (Int.ofNat i)) []) 0)
        (cond (Int.ofNat i == 9)
          (cond (decide (0 ≤ Int.ofNat i) && decide (Int.ofNat i < Int.ofNat (List.length (List.map u8el b))))
            (cond (decide (Int.toNat (Int.ofNat i) < List.length (List.map u8el b)) && okS (TI.mk true false [CK.int IntKind.u8]) (List.getD (List.map u8el b) (Int.toNat (Int.ofNat i)) []) 0)
              (cond (decide (SV.gI (List.getD (List.getD (List.map u8el b) (Int.toNat (Int.ofNat i)) []) 0 SV.nilp) ≥ 128))
                (k (.exit 0) ⟨([PV.s (SV.sl z t 1 (List.map u8el b)), .bad, PV.s (SV.int IntKind.u64 0), PV.s (SV.int IntKind.i64 0), PV.s (SV.int IntKind.i64 0), PV.s (SV.int IntKind.u64 (Int.ofNat v)), .bad, .bad, PV.s (SV.int IntKind.i64 (Int.ofNat i))] ++ bds 49), [], s⟩)
                (cond (decide (IntKind.wrap IntKind.u64 (IntKind.wrap IntKind.u8 (Int.ofNat (BitVec.toNat (BitVec.ofInt 8 (SV.gI (List.getD (List.getD (List.map u8el b) (Int.toNat (Int.ofNat i)) []) 0 SV.nilp)) &&& BitVec.ofInt 8 127)))) > 1))
                  (k (.exit 0) ⟨([PV.s (SV.sl z t 1 (List.map u8el b)), .bad, PV.s (SV.int IntKind.u64 0), PV.s (SV.int IntKind.i64 0), PV.s (SV.int IntKind.i64 0), PV.s (SV.int IntKind.u64 (Int.ofNat v)), .bad, .bad, PV.s (SV.int IntKind.i64 (Int.ofNat i))] ++ bds 49), [], s⟩)
                  (cond (decide (0 ≤ IntKind.wrap IntKind.i64 (7 * Int.ofNat i)))
                    (cond (decide (0 ≤ Int.ofNat i) && decide (Int.ofNat i < Int.ofNat (List.length (List.map u8el b))))
                      (cond (decide (Int.toNat (Int.ofNat i) < List.length (List.map u8el b)) && okS (TI.mk true false [CK.int IntKind.u8]) (List.getD (List.map u8el b) (Int.toNat (Int.ofNat i)) []) 0)
                        (cond (decide (SV.gI (List.getD (List.getD (List.map u8el b) (Int.toNat (Int.ofNat i)) []) 0 SV.nilp) < 128))
                          (cond (decide (Int.ofNat i > 0))
                            (cond (decide (0 ≤ Int.ofNat i) && decide (Int.ofNat i < Int.ofNat (List.length (List.map u8el b))))
                              (cond (decide (Int.toNat (Int.ofNat i) < List.length (List.map u8el b)) && okS (TI.mk true false [CK.int IntKind.u8]) (List.getD (List.map u8el b) (Int.toNat (Int.ofNat i)) []) 0)
                                (cond (SV.gI (List.getD (List.getD (List.map u8el b) (Int.toNat (Int.ofNat i)) []) 0 SV.nilp) == 0)
                                  (k .ret ⟨([PV.s (SV.sl z t 1 (List.map u8el b)), .bad, PV.s (SV.int IntKind.u64 0), PV.s (SV.int IntKind.i64 0), PV.s (SV.int IntKind.i64 6), PV.s (SV.int IntKind.u64 (IntKind.wrap IntKind.u64 (Int.ofNat (BitVec.toNat (BitVec.ofInt 64 (Int.ofNat v) ||| BitVec.ofInt 64 (IntKind.wrap IntKind.u64 (IntKind.wrap IntKind.u64 (IntKind.wrap IntKind.u8 (Int.ofNat (BitVec.toNat (BitVec.ofInt 8 (SV.gI (List.getD (List.getD (List.map u8el b) (Int.toNat (Int.ofNat i)) []) 0 SV.nilp)) &&& BitVec.ofInt 8 127)))) * 2 ^ min (Int.toNat (IntKind.wrap IntKind.i64 (7 * Int.ofNat i))) 64))))))), .bad, .bad, PV.s (SV.int IntKind.i64 (Int.ofNat i))] ++ bds 49), [], s⟩)
                                  (k .ret ⟨([PV.s (SV.sl z t 1 (List.map u8el b)), .bad, PV.s (SV.int IntKind.u64 (IntKind.wrap IntKind.u64 (Int.ofNat (BitVec.toNat (BitVec.ofInt 64 (Int.ofNat v) ||| BitVec.ofInt 64 (IntKind.wrap IntKind.u64 (IntKind.wrap IntKind.u64 (IntKind.wrap IntKind.u8 (Int.ofNat (BitVec.toNat (BitVec.ofInt 8 (SV.gI (List.getD (List.getD (List.map u8el b) (Int.toNat (Int.ofNat i)) []) 0 SV.nilp)) &&& BitVec.ofInt 8 127)))) * 2 ^ min (Int.toNat (IntKind.wrap IntKind.i64 (7 * Int.ofNat i))) 64))))))), PV.s (SV.int IntKind.i64 (IntKind.wrap IntKind.i64 (Int.ofNat i + 1))), PV.s (SV.int IntKind.i64 0), PV.s (SV.int IntKind.u64 (IntKind.wrap IntKind.u64 (Int.ofNat (BitVec.toNat (BitVec.ofInt 64 (Int.ofNat v) ||| BitVec.ofInt 64 (IntKind.wrap IntKind.u64 (IntKind.wrap IntKind.u64 (IntKind.wrap IntKind.u8 (Int.ofNat (BitVec.toNat (BitVec.ofInt 8 (SV.gI (List.getD (List.getD (List.map u8el b) (Int.toNat (Int.ofNat i)) []) 0 SV.nilp)) &&& BitVec.ofInt 8 127)))) * 2 ^ min (Int.toNat (IntKind.wrap IntKind.i64 (7 * Int.ofNat i))) 64))))))), .bad, .bad, PV.s (SV.int IntKind.i64 (Int.ofNat i))] ++ bds 49), [], s⟩))
                                (none))
                              (none))
                            (k .ret ⟨([PV.s (SV.sl z t 1 (List.map u8el b)), .bad, PV.s (SV.int IntKind.u64 (IntKind.wrap IntKind.u64 (Int.ofNat (BitVec.toNat (BitVec.ofInt 64 (Int.ofNat v) ||| BitVec.ofInt 64 (IntKind.wrap IntKind.u64 (IntKind.wrap IntKind.u64 (IntKind.wrap IntKind.u8 (Int.ofNat (BitVec.toNat (BitVec.ofInt 8 (SV.gI (List.getD (List.getD (List.map u8el b) (Int.toNat (Int.ofNat i)) []) 0 SV.nilp)) &&& BitVec.ofInt 8 127)))) * 2 ^ min (Int.toNat (IntKind.wrap IntKind.i64 (7 * Int.ofNat i))) 64))))))), PV.s (SV.int IntKind.i64 (IntKind.wrap IntKind.i64 (Int.ofNat i + 1))), PV.s (SV.int IntKind.i64 0), PV.s (SV.int IntKind.u64 (IntKind.wrap IntKind.u64 (Int.ofNat (BitVec.toNat (BitVec.ofInt 64 (Int.ofNat v) ||| BitVec.ofInt 64 (IntKind.wrap IntKind.u64 (IntKind.wrap IntKind.u64 (IntKind.wrap IntKind.u8 (Int.ofNat (BitVec.toNat (BitVec.ofInt 8 (SV.gI (List.getD (List.getD (List.map u8el b) (Int.toNat (Int.ofNat i)) []) 0 SV.nilp)) &&& BitVec.ofInt 8 127)))) * 2 ^ min (Int.toNat (IntKind.wrap IntKind.i64 (7 * Int.ofNat i))) 64))))))), .bad, .bad, PV.s (SV.int IntKind.i64 (Int.ofNat i))] ++ bds 49), [], s⟩))
                          (loopK 0 ((cfgDU lf).keep 3) (bd (cfgDU lf) cl yh (cd [1, 1, 0, 1, 0, 0] (bodyOf Try.f17))) fu ⟨([PV.s (SV.sl z t 1 (List.map u8el b)), .bad, PV.s (SV.int IntKind.u64 0), PV.s (SV.int IntKind.i64 0), PV.s (SV.int IntKind.i64 0), PV.s (SV.int IntKind.u64 (IntKind.wrap IntKind.u64 (Int.ofNat (BitVec.toNat (BitVec.ofInt 64 (Int.ofNat v) ||| BitVec.ofInt 64 (IntKind.wrap IntKind.u64 (IntKind.wrap IntKind.u64 (IntKind.wrap IntKind.u8 (Int.ofNat (BitVec.toNat (BitVec.ofInt 8 (SV.gI (List.getD (List.getD (List.map u8el b) (Int.toNat (Int.ofNat i)) []) 0 SV.nilp)) &&& BitVec.ofInt 8 127)))) * 2 ^ min (Int.toNat (IntKind.wrap IntKind.i64 (7 * Int.ofNat i))) 64))))))), .bad, .bad, PV.s (SV.int IntKind.i64 (IntKind.wrap IntKind.i64 (Int.ofNat i + 1)))] ++ bds 49), [], s⟩ k))
                        (none))
                      (none))
                    (none))))
              (none))
            (none))
          (cond (decide (0 ≤ IntKind.wrap IntKind.i64 (7 * Int.ofNat i)))
            (cond (decide (0 ≤ Int.ofNat i) && decide (Int.ofNat i < Int.ofNat (List.length (List.map u8el b))))
              (cond (decide (Int.toNat (Int.ofNat i) < List.length (List.map u8el b)) && okS (TI.mk true false [CK.int IntKind.u8]) (List.getD (List.map u8el b) (Int.toNat (Int.ofNat i)) []) 0)
                (cond (decide (SV.gI (List.getD (List.getD (List.map u8el b) (Int.toNat (Int.ofNat i)) []) 0 SV.nilp) < 128))
                  (cond (decide (Int.ofNat i > 0))
                    (cond (decide (0 ≤ Int.ofNat i) && decide (Int.ofNat i < Int.ofNat (List.length (List.map u8el b))))
                      (cond (decide (Int.toNat (Int.ofNat i) < List.length (List.map u8el b)) && okS (TI.mk true false [CK.int IntKind.u8]) (List.getD (List.map u8el b) (Int.toNat (Int.ofNat i)) []) 0)
                        (cond (SV.gI (List.getD (List.getD (List.map u8el b) (Int.toNat (Int.ofNat i)) []) 0 SV.nilp) == 0)
                          (k .ret ⟨([PV.s (SV.sl z t 1 (List.map u8el b)), .bad, PV.s (SV.int IntKind.u64 0), PV.s (SV.int IntKind.i64 0), PV.s (SV.int IntKind.i64 6), PV.s (SV.int IntKind.u64 (IntKind.wrap IntKind.u64 (Int.ofNat (BitVec.toNat (BitVec.ofInt 64 (Int.ofNat v) ||| BitVec.ofInt 64 (IntKind.wrap IntKind.u64 (IntKind.wrap IntKind.u64 (IntKind.wrap IntKind.u8 (Int.ofNat (BitVec.toNat (BitVec.ofInt 8 (SV.gI (List.getD (List.getD (List.map u8el b) (Int.toNat (Int.ofNat i)) []) 0 SV.nilp)) &&& BitVec.ofInt 8 127)))) * 2 ^ min (Int.toNat (IntKind.wrap IntKind.i64 (7 * Int.ofNat i))) 64))))))), .bad, .bad, PV.s (SV.int IntKind.i64 (Int.ofNat i))] ++ bds 49), [], s⟩)
                          (k .ret ⟨([PV.s (SV.sl z t 1 (List.map u8el b)), .bad, PV.s (SV.int IntKind.u64 (IntKind.wrap IntKind.u64 (Int.ofNat (BitVec.toNat (BitVec.ofInt 64 (Int.ofNat v) ||| BitVec.ofInt 64 (IntKind.wrap IntKind.u64 (IntKind.wrap IntKind.u64 (IntKind.wrap IntKind.u8 (Int.ofNat (BitVec.toNat (BitVec.ofInt 8 (SV.gI (List.getD (List.getD (List.map u8el b) (Int.toNat (Int.ofNat i)) []) 0 SV.nilp)) &&& BitVec.ofInt 8 127)))) * 2 ^ min (Int.toNat (IntKind.wrap IntKind.i64 (7 * Int.ofNat i))) 64))))))), PV.s (SV.int IntKind.i64 (IntKind.wrap IntKind.i64 (Int.ofNat i + 1))), PV.s (SV.int IntKind.i64 0), PV.s (SV.int IntKind.u64 (IntKind.wrap IntKind.u64 (Int.ofNat (BitVec.toNat (BitVec.ofInt 64 (Int.ofNat v) ||| BitVec.ofInt 64 (IntKind.wrap IntKind.u64 (IntKind.wrap IntKind.u64 (IntKind.wrap IntKind.u8 (Int.ofNat (BitVec.toNat (BitVec.ofInt 8 (SV.gI (List.getD (List.getD (List.map u8el b) (Int.toNat (Int.ofNat i)) []) 0 SV.nilp)) &&& BitVec.ofInt 8 127)))) * 2 ^ min (Int.toNat (IntKind.wrap IntKind.i64 (7 * Int.ofNat i))) 64))))))), .bad, .bad, PV.s (SV.int IntKind.i64 (Int.ofNat i))] ++ bds 49), [], s⟩))
                        (none))
                      (none))
                    (k .ret ⟨([PV.s (SV.sl z t 1 (List.map u8el b)), .bad, PV.s (SV.int IntKind.u64 (IntKind.wrap IntKind.u64 (Int.ofNat (BitVec.toNat (BitVec.ofInt 64 (Int.ofNat v) ||| BitVec.ofInt 64 (IntKind.wrap IntKind.u64 (IntKind.wrap IntKind.u64 (IntKind.wrap IntKind.u8 (Int.ofNat (BitVec.toNat (BitVec.ofInt 8 (SV.gI (List.getD (List.getD (List.map u8el b) (Int.toNat (Int.ofNat i)) []) 0 SV.nilp)) &&& BitVec.ofInt 8 127)))) * 2 ^ min (Int.toNat (IntKind.wrap IntKind.i64 (7 * Int.ofNat i))) 64))))))), PV.s (SV.int IntKind.i64 (IntKind.wrap IntKind.i64 (Int.ofNat i + 1))), PV.s (SV.int IntKind.i64 0), PV.s (SV.int IntKind.u64 (IntKind.wrap IntKind.u64 (Int.ofNat (BitVec.toNat (BitVec.ofInt 64 (Int.ofNat v) ||| BitVec.ofInt 64 (IntKind.wrap IntKind.u64 (IntKind.wrap IntKind.u64 (IntKind.wrap IntKind.u8 (Int.ofNat (BitVec.toNat (BitVec.ofInt 8 (SV.gI (List.getD (List.getD (List.map u8el b) (Int.toNat (Int.ofNat i)) []) 0 SV.nilp)) &&& BitVec.ofInt 8 127)))) * 2 ^ min (Int.toNat (IntKind.wrap IntKind.i64 (7 * Int.ofNat i))) 64))))))), .bad, .bad, PV.s (SV.int IntKind.i64 (Int.ofNat i))] ++ bds 49), [], s⟩))
                  (loopK 0 ((cfgDU lf).keep 3) (bd (cfgDU lf) cl yh (cd [1, 1, 0, 1, 0, 0] (bodyOf Try.f17))) fu ⟨([PV.s (SV.sl z t 1 (List.map u8el b)), .bad, PV.s (SV.int IntKind.u64 0), PV.s (SV.int IntKind.i64 0), PV.s (SV.int IntKind.i64 0), PV.s (SV.int IntKind.u64 (IntKind.wrap IntKind.u64 (Int.ofNat (BitVec.toNat (BitVec.ofInt 64 (Int.ofNat v) ||| BitVec.ofInt 64 (IntKind.wrap IntKind.u64 (IntKind.wrap IntKind.u64 (IntKind.wrap IntKind.u8 (Int.ofNat (BitVec.toNat (BitVec.ofInt 8 (SV.gI (List.getD (List.getD (List.map u8el b) (Int.toNat (Int.ofNat i)) []) 0 SV.nilp)) &&& BitVec.ofInt 8 127)))) * 2 ^ min (Int.toNat (IntKind.wrap IntKind.i64 (7 * Int.ofNat i))) 64))))))), .bad, .bad, PV.s (SV.int IntKind.i64 (IntKind.wrap IntKind.i64 (Int.ofNat i + 1)))] ++ bds 49), [], s⟩ k))
                (none))
              (none))
            (none)))
        (none))
      (none)))
  (k (.exit 0) ⟨([PV.s (SV.sl z t 1 (List.map u8el b)), .bad, PV.s (SV.int IntKind.u64 0), PV.s (SV.int IntKind.i64 0), PV.s (SV.int IntKind.i64 0), PV.s (SV.int IntKind.u64 (Int.ofNat v)), .bad, .bad, PV.s (SV.int IntKind.i64 (Int.ofNat i))] ++ bds 49), [], s⟩)) := by kernel_rfl

theorem dec_aft0 {σ : Type} (lf : Nat) (cl : CallT) (yh : Yh σ) (s : σ) (z t : Bool) (b : List UInt8) (i v : Nat) : (blkK 0 (seqK (cfgDU lf) cl yh (cd [1, 1, 1] (bodyOf Try.f17)) (retK (cfgDU lf) Try.f17))) (.exit 0) ⟨([PV.s (SV.sl z t 1 (List.map u8el b)), .bad, PV.s (SV.int IntKind.u64 0), PV.s (SV.int IntKind.i64 0), PV.s (SV.int IntKind.i64 0), PV.s (SV.int IntKind.u64 (Int.ofNat v)), .bad, .bad, PV.s (SV.int IntKind.i64 (Int.ofNat i))] ++ bds 49), [], s⟩ =
  (some (PV.tup [PV.s (SV.int IntKind.u64 0), PV.s (SV.int IntKind.i64 0), PV.s (SV.int IntKind.i64 19)], [], s)) := by kernel_rfl

theorem dec_aftr {σ : Type} (lf : Nat) (cl : CallT) (yh : Yh σ) (s : σ) (b : PV) (v2 v3 v4 v5 i : Int) : (blkK 0 (seqK (cfgDU lf) cl yh (cd [1, 1, 1] (bodyOf Try.f17)) (retK (cfgDU lf) Try.f17))) (.ret) ⟨([b, .bad, PV.s (SV.int IntKind.u64 v2), PV.s (SV.int IntKind.i64 v3), PV.s (SV.int IntKind.i64 v4), PV.s (SV.int IntKind.u64 v5), .bad, .bad, PV.s (SV.int IntKind.i64 i)] ++ bds 49), [], s⟩ =
  (some (PV.tup [PV.s (SV.int IntKind.u64 v2), PV.s (SV.int IntKind.i64 v3), PV.s (SV.int IntKind.i64 v4)], [], s)) := by kernel_rfl

theorem rdec_ev {σ : Type} (lf d : Nat) (yh : Yh σ) (s : σ) (z t : Bool) (b : List UInt8) : evCode (cfgRDU lf) (evC (cfgRDU lf) d) yh (bodyOf Try.f19) ⟨([.s (.sl z t 1 (b.map u8el))] : List PV) ++ List.replicate (Try.f19.ntmps - ([.s (.sl z t 1 (b.map u8el))] : List PV).length) (.tup []), [], s⟩ (retK (cfgRDU lf) Try.f19) =
  (loopK 0 ((cfgRDU lf).keep 3) (bd (cfgRDU lf) (evC (cfgRDU lf) d) yh (cd [1, 1, 1, 0, 0, 0] (bodyOf Try.f19))) (cfgRDU lf).lf ⟨([PV.s (SV.sl z t 1 (List.map u8el b)), .bad, PV.s (SV.int IntKind.u64 0), PV.s (SV.int IntKind.i64 0), PV.s (SV.int IntKind.i64 0), PV.s (SV.int IntKind.u64 0), PV.s (SV.int IntKind.i64 0)] ++ bds 58), [], s⟩ (blkK 0 (seqK (cfgRDU lf) (evC (cfgRDU lf) d) yh (cd [1, 1, 1, 1] (bodyOf Try.f19)) (retK (cfgRDU lf) Try.f19)))) := by kernel_rfl

theorem rdec_step {σ R : Type} (lf : Nat) (cl : CallT) (yh : Yh σ) (s : σ) (fu : Nat) (k : Out → St σ → Option R) (z t : Bool) (b : List UInt8) (i : Nat) : loopK 0 ((cfgRDU lf).keep 3) (bd (cfgRDU lf) cl yh (cd [1, 1, 1, 0, 0, 0] (bodyOf Try.f19))) (fu + 1) ⟨([PV.s (SV.sl z t 1 (List.map u8el b)), .bad, PV.s (SV.int IntKind.u64 0), PV.s (SV.int IntKind.i64 0), PV.s (SV.int IntKind.i64 0), PV.s (SV.int IntKind.u64 0), PV.s (SV.int IntKind.i64 (Int.ofNat i))] ++ bds 58), [], s⟩ k =
  (cond (decide (Int.ofNat i < 10))
  (cond (decide (Int.ofNat i < Int.ofNat (List.length (List.map u8el b))))
    (cond (decide (0 ≤ Int.ofNat i) && decide (Int.ofNat i < Int.ofNat (List.length (List.map u8el b))))
      (cond (decide (Int.toNat (Int.ofNat i) < List.length (List.map u8el b)) && okS (TI.mk true false [CK.int IntKind.u8]) (List.getD (List.map u8el b) (Int.toNat (Int.ofNat i)) []) 0)
        (cond (decide (SV.gI (List.getD (List.getD (List.map u8el b) (Int.toNat (Int.ofNat i)) []) 0 SV.nilp) ≥ 128))
          (loopK 0 ((cfgRDU lf).keep 3) (bd (cfgRDU lf) cl yh (cd [1, 1, 1, 0, 0, 0] (bodyOf Try.f19))) fu ⟨([PV.s (SV.sl z t 1 (List.map u8el b)), .bad, PV.s (SV.int IntKind.u64 0), PV.s (SV.int IntKind.i64 0), PV.s (SV.int IntKind.i64 0), PV.s (SV.int IntKind.u64 0), PV.s (SV.int IntKind.i64 (IntKind.wrap IntKind.i64 (Int.ofNat i + 1)))] ++ bds 58), [], s⟩ k)
          (k (.exit 0) ⟨([PV.s (SV.sl z t 1 (List.map u8el b)), .bad, PV.s (SV.int IntKind.u64 0), PV.s (SV.int IntKind.i64 0), PV.s (SV.int IntKind.i64 0), PV.s (SV.int IntKind.u64 0), PV.s (SV.int IntKind.i64 (Int.ofNat i))] ++ bds 58), [], s⟩))
        (none))
      (none))
    (k (.exit 0) ⟨([PV.s (SV.sl z t 1 (List.map u8el b)), .bad, PV.s (SV.int IntKind.u64 0), PV.s (SV.int IntKind.i64 0), PV.s (SV.int IntKind.i64 0), PV.s (SV.int IntKind.u64 0), PV.s (SV.int IntKind.i64 (Int.ofNat i))] ++ bds 58), [], s⟩))
  (k (.exit 0) ⟨([PV.s (SV.sl z t 1 (List.map u8el b)), .bad, PV.s (SV.int IntKind.u64 0), PV.s (SV.int IntKind.i64 0), PV.s (SV.int IntKind.i64 0), PV.s (SV.int IntKind.u64 0), PV.s (SV.int IntKind.i64 (Int.ofNat i))] ++ bds 58), [], s⟩)) := by kernel_rfl

theorem rdec_aft {σ : Type} (lf : Nat) (cl : CallT) (yh : Yh σ) (s : σ) (z t : Bool) (b : List UInt8) (i : Nat) : (blkK 0 (seqK (cfgRDU lf) cl yh (cd [1, 1, 1, 1] (bodyOf Try.f19)) (retK (cfgRDU lf) Try.f19))) (.exit 0) ⟨([PV.s (SV.sl z t 1 (List.map u8el b)), .bad, PV.s (SV.int IntKind.u64 0), PV.s (SV.int IntKind.i64 0), PV.s (SV.int IntKind.i64 0), PV.s (SV.int IntKind.u64 0), PV.s (SV.int IntKind.i64 (Int.ofNat i))] ++ bds 58), [], s⟩ =
  (cond (Int.ofNat i == 10)
  (some (PV.tup [PV.s (SV.int IntKind.u64 0), PV.s (SV.int IntKind.i64 0), PV.s (SV.int IntKind.i64 19)], [], s))
  (cond (Int.ofNat i == Int.ofNat (List.length (List.map u8el b)))
    (some (PV.tup [PV.s (SV.int IntKind.u64 0), PV.s (SV.int IntKind.i64 0), PV.s (SV.int IntKind.i64 5)], [], s))
    (cond (Int.ofNat i == 9)
      (cond (decide (9 < Int.ofNat (List.length (List.map u8el b))))
        (cond (decide (9 < List.length (List.map u8el b)) && okS (TI.mk true false [CK.int IntKind.u8]) (List.getD (List.map u8el b) 9 []) 0)
          (cond (decide (SV.gI (List.getD (List.getD (List.map u8el b) 9 []) 0 SV.nilp) > 1))
            (some (PV.tup [PV.s (SV.int IntKind.u64 0), PV.s (SV.int IntKind.i64 0), PV.s (SV.int IntKind.i64 19)], [], s))
            (cond (decide (Int.ofNat i > 0))
              (cond (decide (0 ≤ Int.ofNat i) && decide (Int.ofNat i < Int.ofNat (List.length (List.map u8el b))))
                (cond (decide (Int.toNat (Int.ofNat i) < List.length (List.map u8el b)) && okS (TI.mk true false [CK.int IntKind.u8]) (List.getD (List.map u8el b) (Int.toNat (Int.ofNat i)) []) 0)
                  (cond (SV.gI (List.getD (List.getD (List.map u8el b) (Int.toNat (Int.ofNat i)) []) 0 SV.nilp) == 0)
                    (some (PV.tup [PV.s (SV.int IntKind.u64 0), PV.s (SV.int IntKind.i64 0), PV.s (SV.int IntKind.i64 6)], [], s))
                    (loopK 0 ((cfgRDU lf).keep 14) (bd (cfgRDU lf) cl yh (cd [1, 1, 1, 1, 1, 1, 1, 1, 0, 1, 0, 0] (bodyOf Try.f19))) (cfgRDU lf).lf ⟨([PV.s (SV.sl z t 1 (List.map u8el b)), .bad, PV.s (SV.int IntKind.u64 0), PV.s (SV.int IntKind.i64 0), PV.s (SV.int IntKind.i64 0), PV.s (SV.int IntKind.u64 0), PV.s (SV.int IntKind.i64 (Int.ofNat i)), PV.s (SV.int IntKind.i64 (Int.ofNat i))] ++ bds 57), [], s⟩ (blkK 2 (seqK (cfgRDU lf) cl yh (cd [1, 1, 1, 1, 1, 1, 1, 1, 1] (bodyOf Try.f19)) (retK (cfgRDU lf) Try.f19)))))
                  (none))
                (none))
              (loopK 0 ((cfgRDU lf).keep 14) (bd (cfgRDU lf) cl yh (cd [1, 1, 1, 1, 1, 1, 1, 1, 0, 1, 0, 0] (bodyOf Try.f19))) (cfgRDU lf).lf ⟨([PV.s (SV.sl z t 1 (List.map u8el b)), .bad, PV.s (SV.int IntKind.u64 0), PV.s (SV.int IntKind.i64 0), PV.s (SV.int IntKind.i64 0), PV.s (SV.int IntKind.u64 0), PV.s (SV.int IntKind.i64 (Int.ofNat i)), PV.s (SV.int IntKind.i64 (Int.ofNat i))] ++ bds 57), [], s⟩ (blkK 2 (seqK (cfgRDU lf) cl yh (cd [1, 1, 1, 1, 1, 1, 1, 1, 1] (bodyOf Try.f19)) (retK (cfgRDU lf) Try.f19))))))
          (none))
        (none))
      (cond (decide (Int.ofNat i > 0))
        (cond (decide (0 ≤ Int.ofNat i) && decide (Int.ofNat i < Int.ofNat (List.length (List.map u8el b))))
          (cond (decide (Int.toNat (Int.ofNat i) < List.length (List.map u8el b)) && okS (TI.mk true false [CK.int IntKind.u8]) (List.getD (List.map u8el b) (Int.toNat (Int.ofNat i)) []) 0)
            (cond (SV.gI (List.getD (List.getD (List.map u8el b) (Int.toNat (Int.ofNat i)) []) 0 SV.nilp) == 0)
              (some (PV.tup [PV.s (SV.int IntKind.u64 0), PV.s (SV.int IntKind.i64 0), PV.s (SV.int IntKind.i64 6)], [], s))
              (loopK 0 ((cfgRDU lf).keep 14) (bd (cfgRDU lf) cl yh (cd [1, 1, 1, 1, 1, 1, 1, 1, 0, 1, 0, 0] (bodyOf Try.f19))) (cfgRDU lf).lf ⟨([PV.s (SV.sl z t 1 (List.map u8el b)), .bad, PV.s (SV.int IntKind.u64 0), PV.s (SV.int IntKind.i64 0), PV.s (SV.int IntKind.i64 0), PV.s (SV.int IntKind.u64 0), PV.s (SV.int IntKind.i64 (Int.ofNat i)), PV.s (SV.int IntKind.i64 (Int.ofNat i))] ++ bds 57), [], s⟩ (blkK 2 (seqK (cfgRDU lf) cl yh (cd [1, 1, 1, 1, 1, 1, 1, 1, 1] (bodyOf Try.f19)) (retK (cfgRDU lf) Try.f19)))))
            (none))
          (none))
        (loopK 0 ((cfgRDU lf).keep 14) (bd (cfgRDU lf) cl yh (cd [1, 1, 1, 1, 1, 1, 1, 1, 0, 1, 0, 0] (bodyOf Try.f19))) (cfgRDU lf).lf ⟨([PV.s (SV.sl z t 1 (List.map u8el b)), .bad, PV.s (SV.int IntKind.u64 0), PV.s (SV.int IntKind.i64 0), PV.s (SV.int IntKind.i64 0), PV.s (SV.int IntKind.u64 0), PV.s (SV.int IntKind.i64 (Int.ofNat i)), PV.s (SV.int IntKind.i64 (Int.ofNat i))] ++ bds 57), [], s⟩ (blkK 2 (seqK (cfgRDU lf) cl yh (cd [1, 1, 1, 1, 1, 1, 1, 1, 1] (bodyOf Try.f19)) (retK (cfgRDU lf) Try.f19)))))))) := by kernel_rfl

theorem rdec_step2 {σ R : Type} (lf : Nat) (cl : CallT) (yh : Yh σ) (s : σ) (fu : Nat) (k : Out → St σ → Option R) (z t : Bool) (b : List UInt8) (n v : Nat) (i : Int) : loopK 0 ((cfgRDU lf).keep 14) (bd (cfgRDU lf) cl yh (cd [1, 1, 1, 1, 1, 1, 1, 1, 0, 1, 0, 0] (bodyOf Try.f19))) (fu + 1) ⟨([PV.s (SV.sl z t 1 (List.map u8el b)), .bad, PV.s (SV.int IntKind.u64 0), PV.s (SV.int IntKind.i64 0), PV.s (SV.int IntKind.i64 0), PV.s (SV.int IntKind.u64 (Int.ofNat v)), PV.s (SV.int IntKind.i64 (Int.ofNat n)), PV.s (SV.int IntKind.i64 i)] ++ bds 57), [], s⟩ k =
  (cond (decide (i ≥ 0))
  (cond (decide (0 ≤ i) && decide (i < Int.ofNat (List.length (List.map u8el b))))
    (cond (decide (Int.toNat i < List.length (List.map u8el b)) && okS (TI.mk true false [CK.int IntKind.u8]) (List.getD (List.map u8el b) (Int.toNat i) []) 0)
      (loopK 0 ((cfgRDU lf).keep 14) (bd (cfgRDU lf) cl yh (cd [1, 1, 1, 1, 1, 1, 1, 1, 0, 1, 0, 0] (bodyOf Try.f19))) fu ⟨([PV.s (SV.sl z t 1 (List.map u8el b)), .bad, PV.s (SV.int IntKind.u64 0), PV.s (SV.int IntKind.i64 0), PV.s (SV.int IntKind.i64 0), PV.s (SV.int IntKind.u64 (IntKind.wrap IntKind.u64 (IntKind.wrap IntKind.u64 (Int.ofNat v * 128) + IntKind.wrap IntKind.u64 (Int.tmod (SV.gI (List.getD (List.getD (List.map u8el b) (Int.toNat i) []) 0 SV.nilp)) 128)))), PV.s (SV.int IntKind.i64 (Int.ofNat n)), PV.s (SV.int IntKind.i64 (IntKind.wrap IntKind.i64 (i - 1)))] ++ bds 57), [], s⟩ k)
      (none))
    (none))
  (k (.exit 2) ⟨([PV.s (SV.sl z t 1 (List.map u8el b)), .bad, PV.s (SV.int IntKind.u64 0), PV.s (SV.int IntKind.i64 0), PV.s (SV.int IntKind.i64 0), PV.s (SV.int IntKind.u64 (Int.ofNat v)), PV.s (SV.int IntKind.i64 (Int.ofNat n)), PV.s (SV.int IntKind.i64 i)] ++ bds 57), [], s⟩)) := by kernel_rfl

theorem rdec_aft2 {σ : Type} (lf : Nat) (cl : CallT) (yh : Yh σ) (s : σ) (b : PV) (n v : Nat) (i : Int) : (blkK 2 (seqK (cfgRDU lf) cl yh (cd [1, 1, 1, 1, 1, 1, 1, 1, 1] (bodyOf Try.f19)) (retK (cfgRDU lf) Try.f19))) (.exit 2) ⟨([b, .bad, PV.s (SV.int IntKind.u64 0), PV.s (SV.int IntKind.i64 0), PV.s (SV.int IntKind.i64 0), PV.s (SV.int IntKind.u64 (Int.ofNat v)), PV.s (SV.int IntKind.i64 (Int.ofNat n)), PV.s (SV.int IntKind.i64 i)] ++ bds 57), [], s⟩ =
  (some (PV.tup [PV.s (SV.int IntKind.u64 (Int.ofNat v)), PV.s (SV.int IntKind.i64 (IntKind.wrap IntKind.i64 (Int.ofNat n + 1))), PV.s (SV.int IntKind.i64 0)], [], s)) := by kernel_rfl

theorem decf_ev {σ : Type} (lf d : Nat) (yh : Yh σ) (s : σ) (z t : Bool) (b : List UInt8) : evCode (cfgDF lf) (evC (cfgDF lf) d) yh (bodyOf Try.f21) ⟨([.s (.sl z t 1 (b.map u8el))] : List PV) ++ List.replicate (Try.f21.ntmps - ([.s (.sl z t 1 (b.map u8el))] : List PV).length) (.tup []), [], s⟩ (retK (cfgDF lf) Try.f21) =
  (cond (decide (Int.ofNat (List.length (List.map u8el b)) < 4))
  (some (PV.tup [PV.s (SV.int IntKind.u32 0), PV.s (SV.int IntKind.i64 5)], [], s))
  (loopK 0 ((cfgDF lf).keep 5) (bd (cfgDF lf) (evC (cfgDF lf) d) yh (cd [1, 1, 1, 0, 1, 0, 0] (bodyOf Try.f21))) (cfgDF lf).lf ⟨([PV.s (SV.sl z t 1 (List.map u8el b)), .bad, PV.s (SV.int IntKind.u32 0), PV.s (SV.int IntKind.i64 0), PV.s (SV.int IntKind.u32 0)] ++ bds 4 ++ [PV.s (SV.int IntKind.i64 0)] ++ bds 14), [], s⟩ (blkK 0 (seqK (cfgDF lf) (evC (cfgDF lf) d) yh (cd [1, 1, 1, 1] (bodyOf Try.f21)) (retK (cfgDF lf) Try.f21))))) := by kernel_rfl

theorem decf_step {σ R : Type} (lf : Nat) (cl : CallT) (yh : Yh σ) (s : σ) (fu : Nat) (k : Out → St σ → Option R) (z t : Bool) (b : List UInt8) (v i : Nat) : loopK 0 ((cfgDF lf).keep 5) (bd (cfgDF lf) cl yh (cd [1, 1, 1, 0, 1, 0, 0] (bodyOf Try.f21))) (fu + 1) ⟨([PV.s (SV.sl z t 1 (List.map u8el b)), .bad, PV.s (SV.int IntKind.u32 0), PV.s (SV.int IntKind.i64 0), PV.s (SV.int IntKind.u32 (Int.ofNat v))] ++ bds 4 ++ [PV.s (SV.int IntKind.i64 (Int.ofNat i))] ++ bds 14), [], s⟩ k =
  (cond (decide (Int.ofNat i < 4))
  (cond (decide (0 ≤ Int.ofNat i) && decide (Int.ofNat i < Int.ofNat (List.length (List.map u8el b))))
    (cond (decide (Int.toNat (Int.ofNat i) < List.length (List.map u8el b)) && okS (TI.mk true false [CK.int IntKind.u8]) (List.getD (List.map u8el b) (Int.toNat (Int.ofNat i)) []) 0)
      (cond (decide (0 ≤ IntKind.wrap IntKind.i64 (8 * Int.ofNat i)))
        (loopK 0 ((cfgDF lf).keep 5) (bd (cfgDF lf) cl yh (cd [1, 1, 1, 0, 1, 0, 0] (bodyOf Try.f21))) fu ⟨([PV.s (SV.sl z t 1 (List.map u8el b)), .bad, PV.s (SV.int IntKind.u32 0), PV.s (SV.int IntKind.i64 0), PV.s (SV.int IntKind.u32 (IntKind.wrap IntKind.u32 (Int.ofNat (BitVec.toNat (BitVec.ofInt 32 (Int.ofNat v) ||| BitVec.ofInt 32 (IntKind.wrap IntKind.u32 (IntKind.wrap IntKind.u32 (SV.gI (List.getD (List.getD (List.map u8el b) (Int.toNat (Int.ofNat i)) []) 0 SV.nilp)) * 2 ^ min (Int.toNat (IntKind.wrap IntKind.i64 (8 * Int.ofNat i))) 32)))))))] ++ bds 4 ++ [PV.s (SV.int IntKind.i64 (IntKind.wrap IntKind.i64 (Int.ofNat i + 1)))] ++ bds 14), [], s⟩ k)
        (none))
      (none))
    (none))
  (k (.exit 0) ⟨([PV.s (SV.sl z t 1 (List.map u8el b)), .bad, PV.s (SV.int IntKind.u32 0), PV.s (SV.int IntKind.i64 0), PV.s (SV.int IntKind.u32 (Int.ofNat v))] ++ bds 4 ++ [PV.s (SV.int IntKind.i64 (Int.ofNat i))] ++ bds 14), [], s⟩)) := by kernel_rfl

theorem decf_aft {σ : Type} (lf : Nat) (cl : CallT) (yh : Yh σ) (s : σ) (b : PV) (v i : Nat) : (blkK 0 (seqK (cfgDF lf) cl yh (cd [1, 1, 1, 1] (bodyOf Try.f21)) (retK (cfgDF lf) Try.f21))) (.exit 0) ⟨([b, .bad, PV.s (SV.int IntKind.u32 0), PV.s (SV.int IntKind.i64 0), PV.s (SV.int IntKind.u32 (Int.ofNat v))] ++ bds 4 ++ [PV.s (SV.int IntKind.i64 (Int.ofNat i))] ++ bds 14), [], s⟩ =
  (some (PV.tup [PV.s (SV.int IntKind.u32 (Int.ofNat v)), PV.s (SV.int IntKind.i64 0)], [], s)) := by kernel_rfl

theorem rdecf_ev {σ : Type} (lf d : Nat) (yh : Yh σ) (s : σ) (z t : Bool) (b : List UInt8) : evCode (cfg0 lf) (evC (cfg0 lf) d) yh (bodyOf Try.f22) ⟨([.s (.sl z t 1 (b.map u8el))] : List PV) ++ List.replicate (Try.f22.ntmps - ([.s (.sl z t 1 (b.map u8el))] : List PV).length) (.tup []), [], s⟩ (retK (cfg0 lf) Try.f22) =
  (cond (decide (Int.ofNat (List.length (List.map u8el b)) < 4))
  (some (PV.tup [PV.s (SV.int IntKind.u32 0), PV.s (SV.int IntKind.i64 5)], [], s))
  (cond (decide (0 < Int.ofNat (List.length (List.map u8el b))))
    (cond (decide (0 < List.length (List.map u8el b)) && okS (TI.mk true false [CK.int IntKind.u8]) (List.getD (List.map u8el b) 0 []) 0)
      (cond (decide (1 < Int.ofNat (List.length (List.map u8el b))))
        (cond (decide (1 < List.length (List.map u8el b)) && okS (TI.mk true false [CK.int IntKind.u8]) (List.getD (List.map u8el b) 1 []) 0)
          (cond (decide (2 < Int.ofNat (List.length (List.map u8el b))))
            (cond (decide (2 < List.length (List.map u8el b)) && okS (TI.mk true false [CK.int IntKind.u8]) (List.getD (List.map u8el b) 2 []) 0)
              (cond (decide (3 < Int.ofNat (List.length (List.map u8el b))))
                (cond (decide (3 < List.length (List.map u8el b)) && okS (TI.mk true false [CK.int IntKind.u8]) (List.getD (List.map u8el b) 3 []) 0)
                  (some (PV.tup [PV.s (SV.int IntKind.u32 (IntKind.wrap IntKind.u32 (IntKind.wrap IntKind.u32 (IntKind.wrap IntKind.u32 (IntKind.wrap IntKind.u32 (SV.gI (List.getD (List.getD (List.map u8el b) 0 []) 0 SV.nilp)) + IntKind.wrap IntKind.u32 (IntKind.wrap IntKind.u32 (SV.gI (List.getD (List.getD (List.map u8el b) 1 []) 0 SV.nilp)) * 256)) + IntKind.wrap IntKind.u32 (IntKind.wrap IntKind.u32 (SV.gI (List.getD (List.getD (List.map u8el b) 2 []) 0 SV.nilp)) * 65536)) + IntKind.wrap IntKind.u32 (IntKind.wrap IntKind.u32 (SV.gI (List.getD (List.getD (List.map u8el b) 3 []) 0 SV.nilp)) * 16777216)))), PV.s (SV.int IntKind.i64 0)], [], s))
                  (none))
                (none))
              (none))
            (none))
          (none))
        (none))
      (none))
    (none))) := by kernel_rfl

end Go.Proofs.Ytfioahjeanmfpaa.E
