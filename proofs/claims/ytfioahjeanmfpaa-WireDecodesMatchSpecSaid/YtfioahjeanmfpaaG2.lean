/-
  Segments of the walk through the code, written by a program of the prover's own and checked by the kernel: each equation says what the evaluator gives on one stretch.
-/
import Derived.Test.YtfioahjeanmfpaaC1
namespace Go.Proofs.Ytfioahjeanmfpaa.E
open Go Go.Proofs
set_option linter.unusedVariables false
set_option maxRecDepth 100000

theorem text_ev {σ : Type} (lf d : Nat) (yh : Yh σ) (s : σ) (t : Bool) (l : List (List SV)) (x : List UInt8) : evCode (cfgT lf) (evC (cfgT lf) d) yh (bodyOf Try.f12) ⟨([.s (.sl false t 1 l), .s (.str x)] : List PV) ++ List.replicate (Try.f12.ntmps - ([.s (.sl false t 1 l), .s (.str x)] : List PV).length) (.tup []), [], s⟩ (retK (cfgT lf) Try.f12) =
  (cond (u64ok (IntKind.wrap IntKind.u64 (Int.ofNat (List.length x))) && decide (List.length l ≤ 1000000000))
  (cond (decide (List.length (l ++ List.map u8el (enc (Int.toNat (IntKind.wrap IntKind.u64 (Int.ofNat (List.length x)))))) + List.length (List.map u8el x) ≤ 68719476736))
    (some (PV.fl 3, [Blk.arr true 0 0 [], Blk.dead, Blk.dead, Blk.arr false 5 1 (l ++ List.map u8el (enc (Int.toNat (IntKind.wrap IntKind.u64 (Int.ofNat (List.length x))))) ++ List.map u8el x), Blk.dead], s))
    (none))
  (none)) := by kernel_rfl

theorem text_evn {σ : Type} (lf d : Nat) (yh : Yh σ) (s : σ) (t : Bool) (j : Nat) (l : List (List SV)) (x : List UInt8) : evCode (cfgT lf) (evC (cfgT lf) d) yh (bodyOf Try.f12) ⟨([.s (.sl true t j l), .s (.str x)] : List PV) ++ List.replicate (Try.f12.ntmps - ([.s (.sl true t j l), .s (.str x)] : List PV).length) (.tup []), [], s⟩ (retK (cfgT lf) Try.f12) =
  (cond (u64ok (IntKind.wrap IntKind.u64 (Int.ofNat (List.length x))))
  (cond (decide (List.length (List.map u8el (enc (Int.toNat (IntKind.wrap IntKind.u64 (Int.ofNat (List.length x)))))) + List.length (List.map u8el x) ≤ 68719476736))
    (some (PV.fl 3, [Blk.arr true 0 0 [], Blk.dead, Blk.dead, Blk.arr true 5 1 (List.map u8el (enc (Int.toNat (IntKind.wrap IntKind.u64 (Int.ofNat (List.length x))))) ++ List.map u8el x), Blk.dead], s))
    (none))
  (none)) := by kernel_rfl

theorem rtext_ev {σ : Type} (lf d : Nat) (yh : Yh σ) (s : σ) (x : List UInt8) : evCode (cfgT lf) (evC (cfgT lf) d) yh (bodyOf Try.f15) ⟨([.s (.str x)] : List PV) ++ List.replicate (Try.f15.ntmps - ([.s (.str x)] : List PV).length) (.tup []), [], s⟩ (retK (cfgT lf) Try.f15) =
  (cond (u64ok (IntKind.wrap IntKind.u64 (Int.ofNat (List.length x))))
  (cond (decide (List.length (List.map u8el (enc (Int.toNat (IntKind.wrap IntKind.u64 (Int.ofNat (List.length x)))))) + List.length (List.map u8el x) ≤ 68719476736))
    (some (PV.fl 2, [Blk.arr true 0 0 [], Blk.dead, Blk.arr true 5 1 (List.map u8el (enc (Int.toNat (IntKind.wrap IntKind.u64 (Int.ofNat (List.length x))))) ++ List.map u8el x), Blk.dead], s))
    (none))
  (none)) := by kernel_rfl

theorem dect_ev {σ : Type} (lf d : Nat) (yh : Yh σ) (s : σ) (z t : Bool) (b : List UInt8) : evCode (cfgT lf) (evC (cfgT lf) d) yh (bodyOf Try.f18) ⟨([.s (.sl z t 1 (b.map u8el))] : List PV) ++ List.replicate (Try.f18.ntmps - ([.s (.sl z t 1 (b.map u8el))] : List PV).length) (.tup []), [], s⟩ (retK (cfgT lf) Try.f18) =
  (cond (List.all (List.map u8el b) isU8)
  (cond (Int.ofNat (Prod.snd (decU (List.map elU8 (List.map u8el b)))).2 != 0)
    (some (PV.tup [PV.s (SV.str []), PV.s (SV.int IntKind.i64 0), PV.s (SV.int IntKind.i64 (Int.ofNat (Prod.snd (decU (List.map elU8 (List.map u8el b)))).2))], [], s))
    (cond (decide (Int.ofNat (decU (List.map elU8 (List.map u8el b))).1 > 4096))
      (some (PV.tup [PV.s (SV.str []), PV.s (SV.int IntKind.i64 0), PV.s (SV.int IntKind.i64 3)], [], s))
      (cond (decide (IntKind.wrap IntKind.i64 (Int.ofNat (List.length (List.map u8el b)) - Int.ofNat (Prod.snd (decU (List.map elU8 (List.map u8el b)))).1) < IntKind.wrap IntKind.i64 (Int.ofNat (decU (List.map elU8 (List.map u8el b))).1)))
        (some (PV.tup [PV.s (SV.str []), PV.s (SV.int IntKind.i64 0), PV.s (SV.int IntKind.i64 5)], [], s))
        (cond (decide (0 ≤ Int.ofNat (Prod.snd (decU (List.map elU8 (List.map u8el b)))).1) && decide (Int.ofNat (Prod.snd (decU (List.map elU8 (List.map u8el b)))).1 ≤ IntKind.wrap IntKind.i64 (Int.ofNat (Prod.snd (decU (List.map elU8 (List.map u8el b)))).1 + IntKind.wrap IntKind.i64 (Int.ofNat (decU (List.map elU8 (List.map u8el b))).1))) && decide (IntKind.wrap IntKind.i64 (Int.ofNat (Prod.snd (decU (List.map elU8 (List.map u8el b)))).1 + IntKind.wrap IntKind.i64 (Int.ofNat (decU (List.map elU8 (List.map u8el b))).1)) ≤ Int.ofNat (List.length (List.map u8el b))))
          (cond (List.all (List.drop (Int.toNat (Int.ofNat (Prod.snd (decU (List.map elU8 (List.map u8el b)))).1)) (List.take (Int.toNat (IntKind.wrap IntKind.i64 (Int.ofNat (Prod.snd (decU (List.map elU8 (List.map u8el b)))).1 + IntKind.wrap IntKind.i64 (Int.ofNat (decU (List.map elU8 (List.map u8el b))).1)))) (List.map u8el b))) isU8)
            (some (PV.tup [PV.s (SV.str (List.map elU8 (List.drop (Int.toNat (Int.ofNat (Prod.snd (decU (List.map elU8 (List.map u8el b)))).1)) (List.take (Int.toNat (IntKind.wrap IntKind.i64 (Int.ofNat (Prod.snd (decU (List.map elU8 (List.map u8el b)))).1 + IntKind.wrap IntKind.i64 (Int.ofNat (decU (List.map elU8 (List.map u8el b))).1)))) (List.map u8el b))))), PV.s (SV.int IntKind.i64 (IntKind.wrap IntKind.i64 (Int.ofNat (Prod.snd (decU (List.map elU8 (List.map u8el b)))).1 + IntKind.wrap IntKind.i64 (Int.ofNat (decU (List.map elU8 (List.map u8el b))).1)))), PV.s (SV.int IntKind.i64 0)], [], s))
            (none))
          (none)))))
  (none)) := by kernel_rfl

theorem rdect_ev {σ : Type} (lf d : Nat) (yh : Yh σ) (s : σ) (z t : Bool) (b : List UInt8) : evCode (cfgT lf) (evC (cfgT lf) d) yh (bodyOf Try.f20) ⟨([.s (.sl z t 1 (b.map u8el))] : List PV) ++ List.replicate (Try.f20.ntmps - ([.s (.sl z t 1 (b.map u8el))] : List PV).length) (.tup []), [], s⟩ (retK (cfgT lf) Try.f20) =
  (cond (List.all (List.map u8el b) isU8)
  (cond (Int.ofNat (Prod.snd (decU (List.map elU8 (List.map u8el b)))).2 != 0)
    (some (PV.tup [PV.s (SV.str []), PV.s (SV.int IntKind.i64 0), PV.s (SV.int IntKind.i64 (Int.ofNat (Prod.snd (decU (List.map elU8 (List.map u8el b)))).2))], [], s))
    (cond (decide (Int.ofNat (decU (List.map elU8 (List.map u8el b))).1 > 4096))
      (some (PV.tup [PV.s (SV.str []), PV.s (SV.int IntKind.i64 0), PV.s (SV.int IntKind.i64 3)], [], s))
      (cond (decide (IntKind.wrap IntKind.i64 (Int.ofNat (List.length (List.map u8el b)) - Int.ofNat (Prod.snd (decU (List.map elU8 (List.map u8el b)))).1) < IntKind.wrap IntKind.i64 (Int.ofNat (decU (List.map elU8 (List.map u8el b))).1)))
        (some (PV.tup [PV.s (SV.str []), PV.s (SV.int IntKind.i64 0), PV.s (SV.int IntKind.i64 5)], [], s))
        (cond (decide (0 ≤ Int.ofNat (Prod.snd (decU (List.map elU8 (List.map u8el b)))).1) && decide (Int.ofNat (Prod.snd (decU (List.map elU8 (List.map u8el b)))).1 ≤ IntKind.wrap IntKind.i64 (Int.ofNat (Prod.snd (decU (List.map elU8 (List.map u8el b)))).1 + IntKind.wrap IntKind.i64 (Int.ofNat (decU (List.map elU8 (List.map u8el b))).1))) && decide (IntKind.wrap IntKind.i64 (Int.ofNat (Prod.snd (decU (List.map elU8 (List.map u8el b)))).1 + IntKind.wrap IntKind.i64 (Int.ofNat (decU (List.map elU8 (List.map u8el b))).1)) ≤ Int.ofNat (List.length (List.map u8el b))))
          (cond (List.all (List.drop (Int.toNat (Int.ofNat (Prod.snd (decU (List.map elU8 (List.map u8el b)))).1)) (List.take (Int.toNat (IntKind.wrap IntKind.i64 (Int.ofNat (Prod.snd (decU (List.map elU8 (List.map u8el b)))).1 + IntKind.wrap IntKind.i64 (Int.ofNat (decU (List.map elU8 (List.map u8el b))).1)))) (List.map u8el b))) isU8)
            (some (PV.tup [PV.s (SV.str (List.map elU8 (List.drop (Int.toNat (Int.ofNat (Prod.snd (decU (List.map elU8 (List.map u8el b)))).1)) (List.take (Int.toNat (IntKind.wrap IntKind.i64 (Int.ofNat (Prod.snd (decU (List.map elU8 (List.map u8el b)))).1 + IntKind.wrap IntKind.i64 (Int.ofNat (decU (List.map elU8 (List.map u8el b))).1)))) (List.map u8el b))))), PV.s (SV.int IntKind.i64 (IntKind.wrap IntKind.i64 (Int.ofNat (Prod.snd (decU (List.map elU8 (List.map u8el b)))).1 + IntKind.wrap IntKind.i64 (Int.ofNat (decU (List.map elU8 (List.map u8el b))).1)))), PV.s (SV.int IntKind.i64 0)], [], s))
            (none))
          (none)))))
  (none)) := by kernel_rfl

end Go.Proofs.Ytfioahjeanmfpaa.E
