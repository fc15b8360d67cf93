/-
  Glue: the evaluator's steps through the code, one node at a time.
-/
import Derived.Test.YtfioahjeanmfpaaE31
namespace Go.Proofs.Ytfioahjeanmfpaa.E
open Go
set_option linter.unusedVariables false

section
variable {σ R : Type} {C : Cfg} {cl : CallT} {yh : Yh σ} {c a b : Code} {st : St σ} {k : Out → St σ → Option R} {id : Nat}

theorem ev_seq (h : c = .seq a b) : evCode C cl yh c st k = evCode C cl yh a st (seqK C cl yh b k) := by subst h; rfl
theorem ev_blk (h : c = .block id a) : evCode C cl yh c st k = evCode C cl yh a st (blkK id k) := by subst h; rfl
theorem ev_cond {x : Operand} {t : Bool} (h : c = .cond x a b) (hx : opnd C st.sl x = .s (.bool t)) : evCode C cl yh c st k = cond t (evCode C cl yh a st k) (evCode C cl yh b st k) := by
  subst h
  simp only [evCode, hx]
  cases t <;> rfl
theorem ev_ret (h : c = .ret) : evCode C cl yh c st k = k .ret (forget C.keepT st) := by subst h; rfl
theorem ev_exit (h : c = .exit id) : evCode C cl yh c st k = k (.exit id) (forget (C.keepE id) st) := by subst h; rfl
theorem ev_skip (h : c = .skip) : evCode C cl yh c st k = k .normal st := by subst h; rfl
theorem ev_label {l : Nat} (h : c = .label l) : evCode C cl yh c st k = k .normal st := by subst h; rfl
theorem ev_loop (h : c = .loop a) : evCode C cl yh c st k = loopK st.hp.length (C.keep (fstR a)) (bd C cl yh a) C.lf (forget (C.keep (fstR a)) st) k := by subst h; rfl

theorem seqK_n : seqK C cl yh b k .normal st = evCode C cl yh b st k := rfl
theorem seqK_r : seqK C cl yh b k .ret st = k .ret st := rfl
theorem seqK_e : seqK C cl yh b k (.exit id) st = k (.exit id) st := rfl
theorem blkK_n : blkK id k .normal st = k .normal st := rfl
theorem blkK_r : blkK id k .ret st = k .ret st := rfl
theorem blkK_e : blkK id k (.exit id) st = k .normal st := by simp [blkK]
theorem blkK_x {j : Nat} (h : (j = id) = False) : blkK id k (.exit j) st = k (.exit j) st := by simp [blkK, h]

theorem lp_s {L : Nat} {ds : Option (List Nat)} {body : St σ → (Out → St σ → Option R) → Option R} {n : Nat} : loopK L ds body (n + 1) st k = body st (lpK L ds body n k) := rfl
theorem bd_s : bd C cl yh c st k = evCode C cl yh c st k := rfl

theorem blkK_y {j : Nat} (h : Nat.beq j id = false) : blkK id k (.exit j) st = k (.exit j) st := by
  have : j ≠ id := fun e => by rw [e, Nat.beq_refl] at h; cases h
  simp [blkK, this]
theorem cond_congr {b : Bool} {x y x' y' : Option R} (hx : x = x') (hy : y = y') : cond b x y = cond b x' y' := by rw [hx, hy]

theorem cond_t {b : Bool} {x y : Option R} (h : b = true) : cond b x y = x := by rw [h]; rfl
theorem cond_f {b : Bool} {x y : Option R} (h : b = false) : cond b x y = y := by rw [h]; rfl
theorem ite_t {p : Prop} [Decidable p] {x y : Option R} (h : p) : ite p x y = x := if_pos h
theorem ite_f {p : Prop} [Decidable p] {x y : Option R} (h : ¬ p) : ite p x y = y := if_neg h
end

/-- Rounds. -/
def recN {α : Type} (z : α) (f : Nat → α → α) : Nat → α
  | 0 => z
  | n + 1 => f n (recN z f n)

def lookK {α : Type} : List (Nat × α) → Nat → Option α
  | [], _ => none
  | (a, l) :: r, n => cond (Nat.beq n a) (some l) (lookK r n)

def bds (n : Nat) : List PV := List.replicate n .bad
def tps (n : Nat) : List PV := List.replicate n (.tup [])

/-- Slots: how many dead ones stand ahead of each; how many behind. -/
def gp : List (Nat × PV) → Nat → List PV
  | [], n => bds n
  | (m, v) :: r, n => bds m ++ v :: gp r n

/-! Short words for what the evaluator says. -/
abbrev LL := List (List SV)
abbrev By := List UInt8
def wi64 (n : Int) : Int := IntKind.wrap .i64 n
def wi32 (n : Int) : Int := IntKind.wrap .i32 n
def wu64 (n : Int) : Int := IntKind.wrap .u64 n
def wu32 (n : Int) : Int := IntKind.wrap .u32 n
def wu16 (n : Int) : Int := IntKind.wrap .u16 n
def wu8 (n : Int) : Int := IntKind.wrap .u8 n
def bAnd (k : IntKind) (a b : Int) : Int := k.wrap (BitVec.ofInt k.bits a &&& BitVec.ofInt k.bits b).toNat
def bOr (k : IntKind) (a b : Int) : Int := k.wrap (BitVec.ofInt k.bits a ||| BitVec.ofInt k.bits b).toNat
def bXor (k : IntKind) (a b : Int) : Int := k.wrap (BitVec.ofInt k.bits a ^^^ BitVec.ofInt k.bits b).toNat
def bAndNot (k : IntKind) (a b : Int) : Int := k.wrap (BitVec.ofInt k.bits a &&& ~~~(BitVec.ofInt k.bits b)).toNat
def shlI (k : IntKind) (a b : Int) : Int := k.wrap (a * 2 ^ min b.toNat k.bits)
def shrI (k : IntKind) (a b : Int) : Int := a.fdiv (2 ^ min b.toNat k.bits)
def inR (n : Int) (m : Nat) : Bool := decide (0 ≤ n) && decide (n < m)
def tU8 : TI := ⟨true, false, [.int .u8]⟩
def tI64 : TI := ⟨true, false, [.int .i64]⟩
def tStr : TI := ⟨true, false, [.str]⟩
def okE (t : TI) (l : LL) (i o : Nat) : Bool := decide (i < l.length) && okS t (l.getD i []) o
def gC (l : LL) (i j : Nat) : SV := (l.getD i []).getD j .nilp
def gE (l : LL) (i j : Nat) : Int := (gC l i j).gI
def gX (l : LL) (i j : Nat) : By := (gC l i j).gS
def gY (l : LL) (i j : Nat) : Bool := (gC l i j).gB
def bAt (s : By) (n : Int) : Int := ((s.getD n.toNat 0).toNat : Int)
def sub3 (l h : Int) (n : Nat) : Bool := decide (0 ≤ l) && decide (l ≤ h) && decide (h ≤ n)
def cut {α : Type} (s : List α) (l h : Int) : List α := (s.take h.toNat).drop l.toNat

def isSq : Code → Bool | .seq _ _ => true | _ => false
def isBk (id : Nat) : Code → Bool | .block i _ => Nat.beq i id | _ => false
def isCd : Code → Bool | .cond _ _ _ => true | _ => false
def isSc : Code → Bool | .scope _ => true | _ => false
def isLp : Code → Bool | .loop _ => true | _ => false
def isRg : Code → Bool | .rangeFunc _ _ _ _ => true | _ => false
def rgX : Code → Operand | .rangeFunc x _ _ _ => x | _ => .tmp 0
def rgP : Code → Array Tmp | .rangeFunc _ p _ _ => p | _ => #[]
def cdX : Code → Operand | .cond x _ _ => x | _ => .tmp 0

theorem cd_skip : ∀ (p : List Nat), cd p .skip = .skip
  | [] => rfl
  | 0 :: _ => rfl
  | 1 :: _ => rfl
  | (_ + 2) :: _ => rfl

theorem cd_app : ∀ (p q : List Nat) (c : Code), cd (p ++ q) c = cd q (cd p c)
  | [], q, c => rfl
  | i :: p, q, c => by
    rw [List.cons_append]
    match i, c with
    | 0, .seq a b => exact cd_app p q a
    | 1, .seq a b => exact cd_app p q b
    | 0, .cond _ a b => exact cd_app p q a
    | 1, .cond _ a b => exact cd_app p q b
    | 0, .block _ a => exact cd_app p q a
    | 0, .loop a => exact cd_app p q a
    | 0, .scope a => exact cd_app p q a
    | 0, .rangeFunc _ _ a b => exact cd_app p q a
    | 1, .rangeFunc _ _ a b => exact cd_app p q b
    | 0, .skip | 0, .region _ _ _ | 0, .exit _ | 0, .label _ | 0, .goto _ | 0, .ret | 0, .refuse _ => exact (cd_skip q).symm
    | 1, .skip | 1, .region _ _ _ | 1, .exit _ | 1, .scope _ | 1, .label _ | 1, .goto _ | 1, .ret | 1, .refuse _ | 1, .block _ _ | 1, .loop _ => exact (cd_skip q).symm
    | _ + 2, .skip | _ + 2, .region _ _ _ | _ + 2, .exit _ | _ + 2, .scope _ | _ + 2, .label _ | _ + 2, .goto _ | _ + 2, .ret | _ + 2, .refuse _ | _ + 2, .block _ _ | _ + 2, .loop _ | _ + 2, .seq _ _ | _ + 2, .cond _ _ _ | _ + 2, .rangeFunc _ _ _ _ => exact (cd_skip q).symm

section
variable {σ R : Type} {C : Cfg} {cl : CallT} {yh : Yh σ} {B : Code} {st : St σ} {k : Out → St σ → Option R} {id : Nat}
theorem ev_sq (p : List Nat) (h : isSq (cd p B) = true) : evCode C cl yh (cd p B) st k = evCode C cl yh (cd (p ++ [0]) B) st (seqK C cl yh (cd (p ++ [1]) B) k) := by
  rw [cd_app, cd_app]
  cases hc : cd p B <;> rw [hc] at h <;> first | rfl | cases h
theorem ev_bk (p : List Nat) (id : Nat) (h : isBk id (cd p B) = true) : evCode C cl yh (cd p B) st k = evCode C cl yh (cd (p ++ [0]) B) st (blkK id k) := by
  rw [cd_app]
  cases hc : cd p B <;> rw [hc] at h <;> first | (cases h; done) | skip
  have := Nat.eq_of_beq_eq_true h
  subst this
  rfl
theorem ev_cd (p : List Nat) {t : Bool} (h : isCd (cd p B) = true) (hx : opnd C st.sl (cdX (cd p B)) = .s (.bool t)) : evCode C cl yh (cd p B) st k = cond t (evCode C cl yh (cd (p ++ [0]) B) st k) (evCode C cl yh (cd (p ++ [1]) B) st k) := by
  rw [cd_app, cd_app]
  cases hc : cd p B <;> rw [hc] at h <;> first | (cases h; done) | skip
  rw [hc] at hx
  exact ev_cond rfl hx
theorem ev_sc (p : List Nat) (h : isSc (cd p B) = true) : evCode C cl yh (cd p B) st k = evCode C cl yh (cd (p ++ [0]) B) st k := by
  rw [cd_app]
  cases hc : cd p B <;> rw [hc] at h <;> first | rfl | cases h
theorem ev_lp (p : List Nat) (h : isLp (cd p B) = true) : evCode C cl yh (cd p B) st k = loopK st.hp.length (C.keep (fstR (cd (p ++ [0]) B))) (bd C cl yh (cd (p ++ [0]) B)) C.lf (forget (C.keep (fstR (cd (p ++ [0]) B))) st) k := by
  rw [cd_app]
  cases hc : cd p B <;> rw [hc] at h <;> first | rfl | cases h
end

/-! Rounds over known values. -/
section
variable {σ R : Type} {C : Cfg} {cl : CallT} {yh : Yh σ} {B : Code} {st : St σ} {k : Out → St σ → Option R}

def rdB (ps : Array Tmp) (sl0 : List PV) (a b : St σ → (Out → St σ → Option R) → Option R) (xs : List (List PV)) (n : Nat) (kk : Option Out → List Blk → σ → Option R) : Out → St σ → Option R := fun o2 st2 => match o2 with
  | .normal => roundsK ps sl0 a b xs (trunc n st2).hp st2.s kk
  | o2 => kk (some o2) (trunc n st2).hp st2.s
def rdA (ps : Array Tmp) (sl0 : List PV) (a b : St σ → (Out → St σ → Option R) → Option R) (xs : List (List PV)) (n : Nat) (kk : Option Out → List Blk → σ → Option R) : Out → St σ → Option R := fun o st1 => match o with
  | .normal => b st1 (rdB ps sl0 a b xs n kk)
  | _ => none
theorem rdA_n {ps : Array Tmp} {sl0 : List PV} {a b : St σ → (Out → St σ → Option R) → Option R} {xs : List (List PV)} {n : Nat} {kk : Option Out → List Blk → σ → Option R} : rdA ps sl0 a b xs n kk .normal st = b st (rdB ps sl0 a b xs n kk) := rfl

theorem ev_rg (p : List Nat) (h : isRg (cd p B) = true) : evCode C cl yh (cd p B) st k = rangeK C cl (opnd C st.sl (rgX (cd p B))) st (fun sl0 => roundY (rgP (cd p B)) sl0 (bd C cl yh (cd (p ++ [0]) B)) (bd C cl yh (cd (p ++ [1]) B))) (fun sl0 => roundsK (rgP (cd p B)) sl0 (bd C cl yh (cd (p ++ [0]) B)) (bd C cl yh (cd (p ++ [1]) B))) k := by
  rw [cd_app, cd_app]
  cases hc : cd p B <;> rw [hc] at h <;> first | rfl | cases h

theorem yd_congr {x : Option (Bool × σ)} {k k' : Bool → σ → Option R} (h : ∀ b s, k b s = k' b s) : ydK x k = ydK x k' := by
  have : k = k' := funext fun b => funext fun s => h b s
  rw [this]
theorem need_congr {c : Bool} {x y : Option R} (h : x = y) : need c x = cond c y none := by rw [h]; rfl
end

/-- Rounds over a list. -/
def recS {α β : Type} (z : α) (f : β → List β → α → α) : List β → α
  | [] => z
  | x :: xs => f x xs (recS z f xs)

end Go.Proofs.Ytfioahjeanmfpaa.E
