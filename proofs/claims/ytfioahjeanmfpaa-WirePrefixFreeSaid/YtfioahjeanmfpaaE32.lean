/-
  Glue: the evaluator's steps through the code, one node at a time.
-/
import Derived.Test.YtfioahjeanmfpaaE31
namespace Go.Proofs.Ytfioahjeanmfpaa.E
open Go
set_option linter.unusedVariables false

section
variable {σ R : Type} {C : Cfg} {cl : CallT} {yh : Yh σ} {c a b : Code} {st : St σ} {k : Out → St σ → Option R} {id : Nat}

theorem ev_seq (h : c = .seq a b) : evCode C cl yh c st k = evCode C cl yh a st (seqK C cl yh b k) := by subst h; rfl
theorem ev_blk (h : c = .block id a) : evCode C cl yh c st k = evCode C cl yh a st (blkK id k) := by subst h; rfl
theorem ev_cond {x : Operand} {t : Bool} (h : c = .cond x a b) (hx : opnd C st.sl x = .s (.bool t)) : evCode C cl yh c st k = cond t (evCode C cl yh a st k) (evCode C cl yh b st k) := by
  subst h
  simp only [evCode, hx]
  cases t <;> rfl
theorem ev_ret (h : c = .ret) : evCode C cl yh c st k = k .ret st := by subst h; rfl
theorem ev_exit (h : c = .exit id) : evCode C cl yh c st k = k (.exit id) st := by subst h; rfl
theorem ev_skip (h : c = .skip) : evCode C cl yh c st k = k .normal st := by subst h; rfl
theorem ev_label {l : Nat} (h : c = .label l) : evCode C cl yh c st k = k .normal st := by subst h; rfl
theorem ev_loop (h : c = .loop a) : evCode C cl yh c st k = loopK st.hp.length (C.keep (fstR a)) (bd C cl yh a) C.lf (forget (C.keep (fstR a)) st) k := by subst h; rfl

theorem seqK_n : seqK C cl yh b k .normal st = evCode C cl yh b st k := rfl
theorem seqK_r : seqK C cl yh b k .ret st = k .ret st := rfl
theorem seqK_e : seqK C cl yh b k (.exit id) st = k (.exit id) st := rfl
theorem blkK_n : blkK id k .normal st = k .normal st := rfl
theorem blkK_r : blkK id k .ret st = k .ret st := rfl
theorem blkK_e : blkK id k (.exit id) st = k .normal st := by simp [blkK]
theorem blkK_x {j : Nat} (h : (j = id) = False) : blkK id k (.exit j) st = k (.exit j) st := by simp [blkK, h]

theorem lp_s {L : Nat} {ds : Option (List Nat)} {body : St σ → (Out → St σ → Option R) → Option R} {n : Nat} : loopK L ds body (n + 1) st k = body st (lpK L ds body n k) := rfl
theorem bd_s : bd C cl yh c st k = evCode C cl yh c st k := rfl

theorem cond_t {b : Bool} {x y : Option R} (h : b = true) : cond b x y = x := by rw [h]; rfl
theorem cond_f {b : Bool} {x y : Option R} (h : b = false) : cond b x y = y := by rw [h]; rfl
theorem ite_t {p : Prop} [Decidable p] {x y : Option R} (h : p) : ite p x y = x := if_pos h
theorem ite_f {p : Prop} [Decidable p] {x y : Option R} (h : ¬ p) : ite p x y = y := if_neg h
end

end Go.Proofs.Ytfioahjeanmfpaa.E
