/-
  The pure evaluator: values, blocks, and the evaluation of the model's code on them. Definitions alone; nothing is claimed here.
-/
import Derived.Control
namespace Go.Proofs.Ytfioahjeanmfpaa.E
open Go
set_option linter.unusedVariables false

/-- One-cell values that name no memory of the call's own. -/
inductive SV where
  | bool (b : Bool)
  | int (k : IntKind) (n : Int)
  | str (l : List UInt8)
  | nilp
  | nilm
  | nilf
  | sl (z t : Bool) (k : Nat) (els : List (List SV))
  | sp (els : List (List SV)) (i off : Nat)
  | fn (f : Fn) (first caps : List SV)
  deriving Inhabited

/-- Values in slots and cells: stable ones, and those that name a block of the call's own. -/
inductive PV where
  | s (v : SV)
  | nsl
  | fl (b : Nat)
  | vw (b i n : Nat)
  | ptr (b i off : Nat)
  | fnr (f : Fn) (first caps : List PV)
  | it (b : Nat)
  | yd
  | agg (l : List PV)
  | tup (l : List PV)
  | bad
  deriving Inhabited

inductive Blk where
  | arr (v : Bool) (e sz : Nat) (els : List (List SV))
  | box (cells : List PV)
  | iter (s : List UInt8) (pos : Nat)
  | dead
  deriving Inhabited

/-- Kinds of cells. -/
inductive CK where
  | bool
  | int (k : IntKind)
  | str
  | sl (k : Nat)
  | ptr
  | map
  | fn
  deriving DecidableEq, Inhabited

/-- What is known of a type: whether it is a struct or an array; the kinds of its cells; its bytes. -/
structure TI where
  ok : Bool
  agg : Bool
  ks : List CK
  deriving Inhabited

inductive Sh where
  | int (k : IntKind)
  | str
  | bool
  | slice (e : Nat)
  | array (n e : Nat)
  | struct (fs : List (Nat × Nat))
  | ptr (e : Nat)
  | map (k e : Nat)
  | fn
  | other
  deriving Inhabited

def zeroIs : CK → Value → Bool
  | .bool, .bool b => !b
  | .int k, .int k' n => decide (k = k') && decide (n = 0)
  | .str, .string s => s.data.toList.isEmpty
  | .sl _, .slice none 0 0 => true
  | .ptr, .pointer none => true
  | .map, .map none => true
  | .fn, .nilFunc => true
  | _, _ => false

def zeroAll : List CK → List Value → Bool
  | [], [] => true
  | c :: r, v :: q => zeroIs c v && zeroAll r q
  | _, _ => false

/-- The kinds of a struct's cells, the fields lying one behind the other. -/
def ksF (f : Nat → Option (List CK)) : List Field → Nat → Option (List CK)
  | [], _ => some []
  | x :: r, off => if x.offset == off then match f x.type with
      | some a => match ksF f r (off + a.length) with
        | some b => some (a ++ b)
        | none => none
      | none => none else none

/-- The kinds of a type's cells. -/
def ksOf (P : Program) : Nat → Nat → Option (List CK)
  | 0, _ => none
  | d + 1, t => match P.underlying t with
    | some .bool => some [.bool]
    | some (.int k) => some [.int k]
    | some .string => some [.str]
    | some (.slice e) => match P.info? e with
      | some i => some [.sl i.size]
      | none => none
    | some (.pointer _) => some [.ptr]
    | some (.map _ _) => some [.map]
    | some (.func _ _ _) => some [.fn]
    | some (.struct fs) => ksF (ksOf P d) fs.toList 0
    | some (.array n e) => match ksOf P d e with
      | some a => some (List.replicate n a).flatten
      | none => none
    | _ => none

def tiOf (P : Program) (t : Nat) : TI :=
  match P.info? t, P.underlying t, ksOf P 20 t with
  | some i, some d, some ks => match i.zero with
    | some z => { ok := i.size == z.cells.size && decide (i.bytes ≤ 512) && decide (0 < i.size) && zeroAll ks z.cells.toList, ks := ks
                  agg := match d with | .struct _ => true | .array _ _ => true | _ => false }
    | none => { ok := false, agg := false, ks := [] }
  | _, _, _ => { ok := false, agg := false, ks := [] }

def shOf (P : Program) (t : Nat) : Sh :=
  match P.underlying t with
  | some (.slice e) => .slice e
  | some (.array n e) => .array n e
  | some (.struct fs) => .struct (fs.toList.map fun f => (f.offset, f.type))
  | some (.pointer e) => .ptr e
  | some (.map k e) => .map k e
  | some (.func _ _ _) => .fn
  | some (.bool) => .bool
  | some (.int k) => .int k
  | some (.string) => .str
  | _ => .other

/-- The kinds of the cells of a type that '==' compares cell by cell. -/
def leafsF (f : Nat → Option (List CK)) : List Field → Nat → Option (List CK)
  | [], _ => some []
  | x :: r, off => if x.offset == off && x.name != "_" then match f x.type with
      | some a => match leafsF f r (off + a.length) with
        | some b => some (a ++ b)
        | none => none
      | none => none else none

def leafs (P : Program) : Nat → Nat → Option (List CK)
  | 0, _ => none
  | d + 1, t => match P.underlying t with
    | some .bool => some [.bool]
    | some (.int k) => some [.int k]
    | some .string => some [.str]
    | some (.struct fs) => if P.stoodInHeld t then none else match leafsF (leafs P d) fs.toList 0 with
      | some ks => if (P.info? t).map (·.size) == some ks.length then some ks else none
      | none => none
    | some (.array n e) => match leafs P d e with
      | some a => if (P.info? e).map (·.size) == some a.length && (P.info? t).map (·.size) == some (List.replicate n a).flatten.length then some (List.replicate n a).flatten else none
      | none => none
    | _ => none

def eqOk (P : Program) (t : Nat) : Bool := leafs P 20 t == some (tiOf P t).ks && !(P.eqGuardType P.depth t)

/-- A known result, with its conditions and its cases. -/
inductive Tr where
  | ret (v : PV) (H : List Blk)
  | need (c : Bool) (t : Tr)
  | split (c : Bool) (a b : Tr)
  | fail

def runTr {R : Type} : Tr → (PV → List Blk → Option R) → Option R
  | .ret v H, k => k v H
  | .need c t, k => cond c (runTr t k) none
  | .split c a b, k => cond c (runTr a k) (runTr b k)
  | .fail, _ => none

def trRes (t : Tr) : Option (PV × List Blk) := runTr t fun v H => some (v, H)

theorem runTr_some {R : Type} {r : R} : ∀ {t : Tr} {k : PV → List Blk → Option R}, runTr t k = some r → ∃ v H, trRes t = some (v, H) ∧ k v H = some r
  | .ret v H, k, h => ⟨v, H, rfl, h⟩
  | .need c t, k, h => by
    cases c with
    | true => exact runTr_some (t := t) h
    | false => cases h
  | .split c a b, k, h => by
    cases c with
    | true => exact runTr_some (t := a) h
    | false => exact runTr_some (t := b) h
  | .fail, _, h => by cases h

/-- A value that is known from its pure form alone. -/
def SV.det : SV → Bool
  | .bool _ => true
  | .int _ _ => true
  | .str _ => true
  | _ => false
def PV.det1 : PV → Bool
  | .s x => x.det
  | _ => false
def PV.det : PV → Bool
  | .s x => x.det
  | .tup l => l.all PV.det1
  | _ => false

/-- Only such results, and no memory. -/
def plainTr : Tr → Tr
  | .ret v H => cond (v.det && H.isEmpty) (.ret v H) .fail
  | .need c t => .need c (plainTr t)
  | .split c a b => .split c (plainTr a) (plainTr b)
  | .fail => .fail

theorem plainTr_res : ∀ {t : Tr} {v : PV} {H : List Blk}, trRes (plainTr t) = some (v, H) → trRes t = some (v, H) ∧ v.det = true ∧ H = []
  | .ret v' H', v, H, h => by
    simp only [plainTr] at h
    cases he : (v'.det && H'.isEmpty) with
    | false => rw [he] at h; cases h
    | true =>
      rw [he] at h
      simp only [Bool.and_eq_true, List.isEmpty_iff] at he
      simp only [cond_true, trRes, runTr, Option.some.injEq, Prod.mk.injEq] at h
      obtain ⟨rfl, rfl⟩ := h
      exact ⟨rfl, he.1, he.2⟩
  | .need c t, v, H, h => by
    cases c with
    | true => exact plainTr_res (t := t) h
    | false => cases h
  | .split c a b, v, H, h => by
    cases c with
    | true => exact plainTr_res (t := a) h
    | false => exact plainTr_res (t := b) h
  | .fail, _, _, h => by cases h

/-- Package-level variables: tables that are known; variables that hold some int. -/
structure GT where
  tab : Nat → Option (IntKind × List Int)
  gi : Nat → Bool

structure Cfg where
  P : Program
  G : GT
  X : Nat → Option (List PV → Tr)
  lend : Nat → Bool
  okf : Nat → Bool
  lf : Nat
  keep : Nat → Option (List Nat) := fun _ => none
  keepR : Nat → Option (List Nat) := fun _ => none
  xp : Nat → Bool := fun _ => false
  keepE : Nat → Option (List Nat) := fun _ => none
  keepT : Option (List Nat) := none
  Y : Nat → Option (List PV → List Blk → Tr) := fun _ => none
  S : Nat → Option (List PV → List Blk → Option (Bool × List (List PV))) := fun _ => none

def Cfg.ti (C : Cfg) (t : Nat) : TI := tiOf C.P t
def Cfg.sh (C : Cfg) (t : Nat) : Sh := shOf C.P t

def SV.gB : SV → Bool | .bool b => b | _ => false
def SV.gI : SV → Int | .int _ n => n | _ => 0
def SV.gS : SV → List UInt8 | .str l => l | _ => []
def SV.gZ : SV → Bool | .sl z _ _ _ => z | _ => false
def SV.gT : SV → Bool | .sl _ t _ _ => t | _ => false
def SV.gE : SV → List (List SV) | .sl _ _ _ e => e | _ => []

def SV.has : CK → SV → Bool
  | .bool, .bool _ => true
  | .int k, .int k' _ => k = k'
  | .str, .str _ => true
  | .sl k, .sl z _ k' _ => decide (k = k') || z
  | .ptr, .nilp => true
  | .ptr, .sp _ _ _ => true
  | .map, .nilm => true
  | .fn, .nilf => true
  | .fn, .fn _ _ _ => true
  | _, _ => false

/-- A stable cell as a value of its kind. -/
def SV.as : CK → SV → PV
  | .bool, x => .s (.bool x.gB)
  | .int k, x => .s (.int k x.gI)
  | .str, x => .s (.str x.gS)
  | .sl k, x => .s (.sl x.gZ x.gT k x.gE)
  | _, x => .s x

def PV.has : CK → PV → Bool
  | .bool, .s x => x.has .bool
  | .int k, .s x => x.has (.int k)
  | .str, .s x => x.has .str
  | .sl k, .s x => x.has (.sl k)
  | .sl _, .nsl => true
  | .sl _, .fl _ => true
  | .sl _, .vw _ _ _ => true
  | .ptr, .s x => x.has .ptr
  | .ptr, .ptr _ _ _ => true
  | .map, .s x => x.has .map
  | .fn, .s x => x.has .fn
  | .fn, .fnr _ _ _ => true
  | .fn, .yd => true
  | _, _ => false

def PV.toS : PV → SV
  | .s x => x
  | _ => .nilp

def PV.as : CK → PV → PV
  | .bool, v => .s (.bool v.toS.gB)
  | .int k, v => .s (.int k v.toS.gI)
  | .str, v => .s (.str v.toS.gS)
  | .sl k, .s x => x.as (.sl k)
  | _, v => v

/-- The stable value, if it is one. -/
def PV.sv? : PV → Option SV
  | .s v => some v
  | .nsl => some (.sl true true 0 [])
  | _ => none

def PV.cells : PV → List PV
  | .agg l => l
  | .bad => []
  | v => [v]

/-- It is a value of one cell. -/
def PV.one : PV → Bool
  | .bad => false
  | .agg _ => false
  | .tup _ => false
  | _ => true

def svs? : List PV → Option (List SV)
  | [] => some []
  | v :: r => match v.sv?, svs? r with
    | some x, some y => some (x :: y)
    | _, _ => none

/-- A side condition of an operation. -/
def need {R : Type} (c : Bool) (k : Option R) : Option R := cond c k none

/-- A test that may be open. -/
def splitB {R : Type} (b : Bool) (k : Bool → Option R) : Option R := cond b (k true) (k false)

def ofConst1 : Value → PV
  | .bool b => .s (.bool b)
  | .int k n => .s (.int k n)
  | .string s => .s (.str s.data.toList)
  | .pointer none => .s .nilp
  | .slice none 0 0 => .nsl
  | .map none => .s .nilm
  | .nilFunc => .s .nilf
  | _ => .bad

def ofConst : Value → PV
  | .agg cs => .agg (cs.toList.map ofConst1)
  | .tuple a => if a.size = 0 then .tup [] else .bad
  | v => ofConst1 v

def opnd (C : Cfg) (sl : List PV) : Operand → PV
  | .tmp t => sl.getD t (.tup [])
  | .const v => ofConst v
  | .global g => match C.G.tab g with
    | some (k, zs) => .s (.sp [zs.map (SV.int k)] 0 0)
    | none => .bad
  | .func f => .s (.fn (.func f) [] [])

def zeroCK : CK → PV
  | .bool => .s (.bool false)
  | .int k => .s (.int k 0)
  | .str => .s (.str [])
  | .sl _ => .nsl
  | .ptr => .s .nilp
  | .map => .s .nilm
  | .fn => .s .nilf

/-- The cells 'off ..' of a row of cells, as a value of a type. -/
def loadP (t : TI) (cells : List PV) (off : Nat) : PV :=
  if t.agg then .agg (t.ks.zipIdx.map fun (c, j) => (cells.getD (off + j) .bad).as c)
  else match t.ks with
    | [c] => (cells.getD off .bad).as c
    | _ => .bad

def okP (t : TI) (cells : List PV) (off : Nat) : Bool :=
  t.ok && t.ks.zipIdx.all fun (c, j) => (cells.getD (off + j) .bad).has c

/-- The same of stable cells. -/
def loadS (t : TI) (cells : List SV) (off : Nat) : PV :=
  if t.agg then .agg (t.ks.zipIdx.map fun (c, j) => (cells.getD (off + j) .nilp).as c)
  else match t.ks with
    | [c] => (cells.getD off .nilp).as c
    | _ => .bad

def okS (t : TI) (cells : List SV) (off : Nat) : Bool :=
  t.ok && decide (off + t.ks.length ≤ cells.length) && t.ks.zipIdx.all fun (c, j) => (cells.getD (off + j) .nilp).has c

/-- Replace the cells from 'off' on. -/
def putAt {α : Type} : List α → Nat → List α → List α
  | l, _, [] => l
  | l, off, v :: vs => putAt (l.set off v) (off + 1) vs

/-- Nil slices that are put into a variable get a block of their own. -/
def nameNils : List PV → List Blk → List PV × List Blk
  | [], H => ([], H)
  | .nsl :: r, H => let (r', H') := nameNils r (H ++ [.arr true 0 0 []]); (.fl H.length :: r', H')
  | v :: r, H => let (r', H') := nameNils r H; (v :: r', H')

/-- How many elements a slice value has, and its elements, if it is stable or names a row. -/
def elsOf (H : List Blk) : PV → Option (List (List SV))
  | .nsl => some []
  | .s (.sl _ _ _ els) => some els
  | .fl b => match H[b]? with | some (.arr _ _ _ els) => some els | _ => none
  | .vw b i n => match H[b]? with | some (.arr _ _ _ els) => some ((els.drop i).take n) | _ => none
  | _ => none

def lenOfP (H : List Blk) : PV → Option Nat
  | .nsl => some 0
  | .s (.sl _ _ _ els) => some els.length
  | .s (.str l) => some l.length
  | .fl b => match H[b]? with | some (.arr _ _ _ els) => some els.length | _ => none
  | .vw _ _ n => some n
  | _ => none

/-- Is a slice nil? -/
def nilOf (H : List Blk) : PV → Option Bool
  | .nsl => some true
  | .s (.sl z _ _ _) => some z
  | .fl b => match H[b]? with | some (.arr v _ _ els) => some (v && els.isEmpty) | _ => none
  | .vw b _ _ => match H[b]? with | some (.arr v _ _ els) => some (v && els.isEmpty) | _ => none
  | _ => none

def u8el (b : UInt8) : List SV := [.int .u8 b.toNat]
def elU8 (el : List SV) : UInt8 := UInt8.ofNat (el.getD 0 .nilp).gI.toNat
def isU8 : List SV → Bool | [.int .u8 n] => decide (0 ≤ n) && decide (n < 256) | _ => false

/-- The elements have 'n' cells each. -/
def srcOk (n : Nat) (H : List Blk) : PV → Bool
  | .nsl => true
  | .s (.str _) => decide (n = 1)
  | .s (.sl z _ kk _) => decide (kk = n) || z
  | .fl b => match H[b]? with | some (.arr v _ sz els) => decide (sz = n) || (v && els.isEmpty) | _ => false
  | .vw b _ _ => match H[b]? with | some (.arr v _ sz els) => decide (sz = n) || (v && els.isEmpty) | _ => false
  | _ => false

/-- What is appended: elements, of a slice or of a string. -/
def newsOf (H : List Blk) : PV → Option (List (List SV))
  | .s (.str l) => some (l.map u8el)
  | v => elsOf H v

mutual
/-- Strike a block's name. -/
def PV.kill (b : Nat) : PV → PV
  | .fl c => if c = b then .bad else .fl c
  | .vw c i n => if c = b then .bad else .vw c i n
  | .ptr c i o => if c = b then .bad else .ptr c i o
  | .it c => if c = b then .bad else .it c
  | .fnr f x y => .fnr f (killL b x) (killL b y)
  | .agg l => .agg (killL b l)
  | .tup l => .tup (killL b l)
  | v => v
def killL (b : Nat) : List PV → List PV
  | [] => []
  | v :: r => v.kill b :: killL b r
end

def Blk.kill (b : Nat) : Blk → Blk
  | .box cells => .box (killL b cells)
  | x => x

/-- Less, so spelt that the kernel stops at an open number. -/
def ltI (a b : Int) : Bool := match a, b with
  | .ofNat m, .ofNat n => Nat.ble (m + 1) n
  | .ofNat _, .negSucc _ => false
  | .negSucc _, .ofNat _ => true
  | .negSucc m, .negSucc n => Nat.ble (n + 1) m

theorem ltI_eq (a b : Int) : ltI a b = decide (a < b) := by
  rw [Bool.eq_iff_iff]
  cases a with
  | ofNat m =>
    cases b with
    | ofNat n => simp only [ltI, Nat.ble_eq, decide_eq_true_eq, Int.ofNat_eq_natCast]; omega
    | negSucc n =>
      have := Int.negSucc_lt_zero n
      simp only [ltI, Bool.false_eq_true, decide_eq_true_eq, Int.ofNat_eq_natCast, false_iff]
      omega
  | negSucc m =>
    cases b with
    | ofNat n =>
      have := Int.negSucc_lt_zero m
      simp only [ltI, decide_eq_true_eq, Int.ofNat_eq_natCast, true_iff]
      omega
    | negSucc n => simp only [ltI, Nat.ble_eq, decide_eq_true_eq, Int.negSucc_eq]; omega

theorem not_ltI (a b : Int) : (!ltI b a) = decide (a ≤ b) := by
  rw [ltI_eq, Bool.eq_iff_iff]
  simp

def binI (op : BinOp) (k : IntKind) (a b : Int) : Option PV :=
  match op with
  | .add => some (.s (.int k (k.wrap (a + b))))
  | .sub => some (.s (.int k (k.wrap (a - b))))
  | .mul => some (.s (.int k (k.wrap (a * b))))
  | .and => some (.s (.int k (k.wrap (BitVec.ofInt k.bits a &&& BitVec.ofInt k.bits b).toNat)))
  | .or => some (.s (.int k (k.wrap (BitVec.ofInt k.bits a ||| BitVec.ofInt k.bits b).toNat)))
  | .xor => some (.s (.int k (k.wrap (BitVec.ofInt k.bits a ^^^ BitVec.ofInt k.bits b).toNat)))
  | .andNot => some (.s (.int k (k.wrap (BitVec.ofInt k.bits a &&& ~~~(BitVec.ofInt k.bits b)).toNat)))
  | .eql => some (.s (.bool (a == b)))
  | .neq => some (.s (.bool (a != b)))
  | .lss => some (.s (.bool (ltI a b)))
  | .leq => some (.s (.bool (!ltI b a)))
  | .gtr => some (.s (.bool (ltI b a)))
  | .geq => some (.s (.bool (!ltI a b)))
  | _ => none

def bytesLess : List UInt8 → List UInt8 → Bool
  | _, [] => false
  | [], _ :: _ => true
  | a :: x, b :: y => decide (a < b) || (a == b && bytesLess x y)

def binS (op : BinOp) (a b : List UInt8) : Option PV :=
  match op with
  | .add => some (.s (.str (a ++ b)))
  | .eql => some (.s (.bool (a == b)))
  | .neq => some (.s (.bool (!(a == b))))
  | .lss => some (.s (.bool (bytesLess a b)))
  | .leq => some (.s (.bool (bytesLess a b || a == b)))
  | .gtr => some (.s (.bool (!(bytesLess a b || a == b))))
  | .geq => some (.s (.bool (!bytesLess a b)))
  | _ => none

/-- Equality of two cells of plain data. -/
def eqCell : PV → PV → Option Bool
  | .s (.bool a), .s (.bool b) => some (a == b)
  | .s (.int k a), .s (.int k' b) => if k = k' then some (a == b) else none
  | .s (.str a), .s (.str b) => some (a == b)
  | _, _ => none

def eqCells : List PV → List PV → Option Bool
  | [], [] => some true
  | a :: x, b :: y => match eqCell a b, eqCells x y with
    | some p, some q => some (p && q)
    | _, _ => none
  | _, _ => none

def eqPV (H : List Blk) (sh : Sh) (x y : PV) : Option Bool :=
  match sh, x, y with
  | .ptr _, .s .nilp, .s .nilp => some true
  | .ptr _, .s .nilp, .s (.sp _ _ _) => some false
  | .ptr _, .s (.sp _ _ _), .s .nilp => some false
  | .ptr _, .s .nilp, .ptr _ _ _ => some false
  | .ptr _, .ptr _ _ _, .s .nilp => some false
  | .fn, .s .nilf, .s .nilf => some true
  | .fn, .s .nilf, .s (.fn _ _ _) => some false
  | .fn, .s (.fn _ _ _), .s .nilf => some false
  | .fn, .s .nilf, .fnr _ _ _ => some false
  | .fn, .fnr _ _ _, .s .nilf => some false
  | .bool, .s (.bool a), .s (.bool b) => some (a == b)
  | .slice _, x, .nsl => nilOf H x
  | .slice _, .nsl, y => nilOf H y
  | _, _, _ => none

/-- A row of cells as elements of 'sz' cells. -/
def chunk (sz : Nat) : Nat → List SV → List (List SV)
  | 0, _ => []
  | n + 1, l => l.take sz :: chunk sz n (l.drop sz)

section ops
variable {R : Type} (C : Cfg)

def binK (op : BinOp) (t : Nat) (x y : PV) (H : List Blk) (k : PV → Option R) : Option R :=
  match op, x, y with
  | .shl, .s (.int kd a), .s (.int _ b) => need (decide (0 ≤ b)) (k (.s (.int kd (kd.wrap (a * 2 ^ min b.toNat kd.bits)))))
  | .shr, .s (.int kd a), .s (.int _ b) => need (decide (0 ≤ b)) (k (.s (.int kd (a.fdiv (2 ^ min b.toNat kd.bits)))))
  | .quo, .s (.int kd a), .s (.int kd' b) => need (decide (kd = kd') && b != 0) (k (.s (.int kd (kd.wrap (a.tdiv b)))))
  | .rem, .s (.int kd a), .s (.int kd' b) => need (decide (kd = kd') && b != 0) (k (.s (.int kd (a.tmod b))))
  | op, .s (.int kd a), .s (.int kd' b) => if kd = kd' then match binI op kd a b with | some v => k v | none => none else none
  | .add, .s (.str a), .s (.str b) => need (decide (a.length + b.length < 4611686018427387904)) (k (.s (.str (a ++ b))))
  | op, .s (.str a), .s (.str b) => match binS op a b with | some v => k v | none => none
  | .eql, .agg x, .agg y => if eqOk C.P t && (C.ti t).agg && okP (C.ti t) x 0 && okP (C.ti t) y 0 && decide (x.length = (C.ti t).ks.length) then match eqCells x y with | some b => k (.s (.bool b)) | none => none else none
  | .neq, .agg x, .agg y => if eqOk C.P t && (C.ti t).agg && okP (C.ti t) x 0 && okP (C.ti t) y 0 && decide (x.length = (C.ti t).ks.length) then match eqCells x y with | some b => k (.s (.bool (!b))) | none => none else none
  | .eql, x, y => match eqPV H (C.sh t) x y with | some b => k (.s (.bool b)) | none => none
  | .neq, x, y => match eqPV H (C.sh t) x y with | some b => k (.s (.bool (!b))) | none => none
  | _, _, _ => none

def unK (op : UnOp) (x : PV) (k : PV → Option R) : Option R :=
  match op, x with
  | .not, .s (.bool b) => k (.s (.bool (!b)))
  | .neg, .s (.int kd n) => k (.s (.int kd (kd.wrap (0 - n))))
  | _, _ => none

def loadK (t : TI) (a : PV) (H : List Blk) (k : PV → Option R) : Option R :=
  match a with
  | .ptr b i off => match H[b]? with
    | some (.box cells) => if i = 0 then need (okP t cells off) (k (loadP t cells off)) else none
    | some (.arr _ _ sz els) =>
      if off + t.ks.length ≤ sz then need (decide (i < els.length) && okS t (els.getD i []) off) (k (loadS t (els.getD i []) off))
      else if i = 0 ∧ off = 0 then need (decide (t.ks.length = els.length * sz) && okS t els.flatten 0) (k (loadS t els.flatten 0)) else none
    | _ => none
  | .s (.sp els i off) => need (decide (i < els.length) && okS t (els.getD i []) off) (k (loadS t (els.getD i []) off))
  | _ => none

def storeK (t : TI) (a v : PV) (H : List Blk) (k : List Blk → Option R) : Option R :=
  if t.ok = true ∧ v.cells.length = t.ks.length ∧ v.cells.all PV.one = true then
    match a with
    | .ptr b i off => match H[b]? with
      | some (.box cells) => if i = 0 then let (vs, H') := nameNils v.cells H; need (decide (off + t.ks.length ≤ cells.length)) (k (H'.set b (.box (putAt cells off vs)))) else none
      | some (.arr z e sz els) => match svs? v.cells with
        | some vs =>
          if off + t.ks.length ≤ sz then need (decide (i < els.length)) (k (H.set b (.arr z e sz (els.set i (putAt (els.getD i []) off vs)))))
          else if i = 0 ∧ off = 0 then need (decide (t.ks.length = els.length * sz)) (k (H.set b (.arr z e sz (chunk sz els.length vs)))) else none
        | none => none
      | _ => none
    | _ => none
  else none

/-- An index into a slice or behind a pointer to an array. -/
def indexAddrK (t : Nat) (x i : PV) (H : List Blk) (k : PV → Option R) : Option R :=
  match i with
  | .s (.int _ n) => match x with
    | .fl b => match H[b]?, C.sh t with
      | some (.arr _ _ sz els), .slice e => if (C.ti e).ok ∧ (C.ti e).ks.length = sz then need (decide (0 ≤ n) && decide (n < els.length)) (k (.ptr b n.toNat 0)) else none
      | _, _ => none
    | .vw b o m => match H[b]?, C.sh t with
      | some (.arr _ _ sz _), .slice e => if (C.ti e).ok ∧ (C.ti e).ks.length = sz then need (decide (0 ≤ n) && decide (n < m)) (k (.ptr b (o + n.toNat) 0)) else none
      | _, _ => none
    | .s (.sl _ _ kk els) => match C.sh t with
      | .slice e => if (C.ti e).ok ∧ (C.ti e).ks.length = kk then need (decide (0 ≤ n) && decide (n < els.length)) (k (.s (.sp els n.toNat 0))) else none
      | _ => none
    | .ptr b j off => match C.sh t with
      | .array m e => match H[b]? with
        | some (.arr _ _ sz _) => if j = 0 ∧ off = 0 ∧ (C.ti e).ok ∧ sz = (C.ti e).ks.length then need (decide (0 ≤ n) && decide (n < m)) (k (.ptr b n.toNat 0)) else none
        | some (.box _) => if (C.ti e).ok then need (decide (0 ≤ n) && decide (n < m)) (k (.ptr b j (off + n.toNat * (C.ti e).ks.length))) else none
        | _ => none
      | _ => none
    | .s (.sp els j off) => match C.sh t with
      | .array m e => if (C.ti e).ok then need (decide (0 ≤ n) && decide (n < m)) (k (.s (.sp els j (off + n.toNat * (C.ti e).ks.length)))) else none
      | _ => none
    | _ => none
  | _ => none

def indexK (t : Nat) (x i : PV) (k : PV → Option R) : Option R :=
  match i with
  | .s (.int _ n) => match x with
    | .s (.str l) => match C.sh t with
      | .str => need (decide (0 ≤ n) && decide (n < l.length)) (k (.s (.int .u8 (l.getD n.toNat 0).toNat)))
      | _ => none
    | .agg cells => match C.sh t with
      | .array m e => need (decide (0 ≤ n) && decide (n < m) && okP (C.ti e) cells (n.toNat * (C.ti e).ks.length)) (k (loadP (C.ti e) cells (n.toNat * (C.ti e).ks.length)))
      | _ => none
    | _ => none
  | _ => none

def boundP (len : Nat) : Option PV → Option Int
  | none => some len
  | some (.s (.int _ n)) => some n
  | _ => none

/-- The elements of a slice have the size that its type says. -/
def strideOk (t : Nat) (H : List Blk) (x : PV) : Bool :=
  match x with
  | .s (.str _) => match C.sh t with | .str => true | _ => false
  | .nsl => match C.sh t with | .slice e => (C.ti e).ok | _ => false
  | .s (.sl _ _ kk _) => match C.sh t with | .slice e => (C.ti e).ok && decide ((C.ti e).ks.length = kk) | _ => false
  | .fl b => match H[b]?, C.sh t with | some (.arr _ _ sz _), .slice e => (C.ti e).ok && decide ((C.ti e).ks.length = sz) | _, _ => false
  | .vw b _ _ => match H[b]?, C.sh t with | some (.arr _ _ sz _), .slice e => (C.ti e).ok && decide ((C.ti e).ks.length = sz) | _, _ => false
  | _ => false

def sliceK (t : Nat) (x : PV) (lo hi mx : Option PV) (H : List Blk) (k : PV → Option R) : Option R :=
  if strideOk C t H x then match lenOfP H x with
  | none => none
  | some len => match boundP 0 lo, boundP len hi with
    | some l, some h => match mx with
      | none => need (decide (0 ≤ l) && decide (l ≤ h) && decide (h ≤ len)) (match x with
        | .s (.str s) => k (.s (.str ((s.take h.toNat).drop l.toNat)))
        | .s (.sl z _ kk els) => k (.s (.sl z z kk ((els.take h.toNat).drop l.toNat)))
        | .nsl => k .nsl
        | .fl b => k (.vw b l.toNat (h.toNat - l.toNat))
        | .vw b i _ => k (.vw b (i + l.toNat) (h.toNat - l.toNat))
        | _ => none)
      | some (.s (.int _ m)) => need (decide (0 ≤ l) && decide (l ≤ h) && decide (h = m) && decide (m ≤ len)) (match x with
        | .s (.sl z _ kk els) => k (.s (.sl z true kk ((els.take h.toNat).drop l.toNat)))
        | .nsl => k .nsl
        | _ => none)
      | _ => none
    | _, _ => none else none

/-- A slice of an array that is a block. -/
def sliceArrK (b n : Nat) (lo hi mx : Option PV) (k : PV → Option R) : Option R :=
  match boundP 0 lo, boundP n hi, mx with
  | some l, some h, none => need (decide (0 ≤ l) && decide (l ≤ h) && decide (h ≤ n)) (k (.vw b l.toNat (h.toNat - l.toNat)))
  | _, _, _ => none

def szOf (t : Nat) : Nat := if (C.ti t).ok then (C.ti t).ks.length else 0

/-- A variable of such a type never changes its place. -/
def fixedT (e : Nat) : Bool := match C.sh e with | .array _ _ => true | _ => false

/-- Room for a slice. -/
def roomy (n : Nat) : Bool := decide (n ≤ 68719476736)

def appendK (t : Nat) (sl : List PV) (s x : PV) (H : List Blk) (k : PV → List PV → List Blk → Option R) : Option R :=
  match C.sh t with
  | .slice e => if (C.ti e).ok && srcOk (C.ti e).ks.length H x then match newsOf H x with
    | some news => match s with
      | .nsl => need (roomy news.length) (k (.fl H.length) sl (H ++ [.arr true e (C.ti e).ks.length news]))
      | .s (.sl z true kk els) => if kk = (C.ti e).ks.length then need ((z || !news.isEmpty) && roomy (els.length + news.length)) (k (.fl H.length) sl (H ++ [.arr z e (C.ti e).ks.length (els ++ news)])) else none
      | .fl b => match H[b]? with
        | some (.arr v e' sz els) => if !fixedT C e' && (decide (e' = e ∧ sz = (C.ti e).ks.length) || (v && els.isEmpty)) then need (roomy (els.length + news.length)) (k (.fl b) (killL b sl) ((H.map (Blk.kill b)).set b (.arr v e (C.ti e).ks.length (els ++ news)))) else none
        | _ => none
      | _ => none
    | none => none else none
  | _ => none

def copyK (t : Nat) (d x : PV) (H : List Blk) (k : PV → List Blk → Option R) : Option R :=
  match C.sh t with
  | .slice e => if (C.ti e).ok && srcOk (C.ti e).ks.length H x && srcOk (C.ti e).ks.length H d then match newsOf H x with
    | some news => match d with
      | .fl b => match H[b]? with
        | some (.arr v e' sz els) => k (.s (.int .i64 ((min news.length els.length : Nat) : Int))) (H.set b (.arr v e' sz (news.take els.length ++ els.drop (min news.length els.length))))
        | _ => none
      | .vw b i n => match H[b]? with
        | some (.arr v e' sz els) => need (decide (i + n ≤ els.length)) (k (.s (.int .i64 ((min news.length n : Nat) : Int))) (H.set b (.arr v e' sz (els.take i ++ (news.take n ++ els.drop (i + min news.length n))))))
        | _ => none
      | .nsl => k (.s (.int .i64 0)) H
      | _ => none
    | none => none else none
  | _ => none

def convK (src dst : Nat) (x : PV) (H : List Blk) (k : PV → Option R) : Option R :=
  match C.sh src, C.sh dst, x with
  | .int _, .int kd, .s (.int _ n) => k (.s (.int kd (kd.wrap n)))
  | .str, .str, .s (.str l) => k (.s (.str l))
  | .int _, .str, .s (.int _ n) => k (.s (.str (Utf8.encode n).data.toList))
  | .slice e, .str, v => match C.sh e, elsOf H v with
    | .int .u8, some els => need (els.all isU8) (k (.s (.str (els.map elU8))))
    | _, _ => none
  | _, _, _ => none

/-- The bytes of a string, in memory that nobody writes. -/
def bytesK (src dst : Nat) (x : PV) (k : PV → Option R) : Option R :=
  match C.sh src, C.sh dst, x with
  | .str, .slice e, .s (.str l) => match C.sh e with
    | .int .u8 => need (roomy l.length) (k (.s (.sl false false 1 (l.map u8el))))
    | _ => none
  | _, _, _ => none

def lenK (x : PV) (t : Nat) (H : List Blk) (k : PV → Option R) : Option R :=
  match C.sh t, x with
  | .array n _, _ => k (.s (.int .i64 n))
  | .str, .s (.str l) => k (.s (.int .i64 l.length))
  | .slice _, .s (.str _) => none
  | .slice _, x => match lenOfP H x with
    | some n => k (.s (.int .i64 n))
    | none => none
  | _, _ => none

/-- Fill the parts of a composite value. -/
def fillP (place : Nat → Option (Nat × Nat)) : List PV → List (Nat × PV) → Option (List PV)
  | cells, [] => some cells
  | cells, (i, v) :: r => match place i with
    | some (off, size) => if v.cells.length = size && decide (0 < size) && decide (off + v.cells.length ≤ cells.length) then fillP place (putAt cells off v.cells) r else none
    | none => none

def buildK (t : Nat) (parts : List (Nat × PV)) (k : PV → Option R) : Option R :=
  let zero := (C.ti t).ks.map zeroCK
  if (C.ti t).ok then match C.sh t with
  | .struct fs => match fillP (fun i => (fs[i]?).map fun p => (p.1, szOf C p.2)) zero parts with
    | some cells => k (.agg cells)
    | none => none
  | .array _ e => match fillP (fun i => some (i * szOf C e, szOf C e)) zero parts with
    | some cells => k (.agg cells)
    | none => none
  | _ => none else none

def buildSliceK (t len : Nat) (parts : List (Nat × PV)) (H : List Blk) (k : PV → List Blk → Option R) : Option R :=
  match C.sh t with
  | .slice e =>
    let sz := (C.ti e).ks.length
    if (C.ti e).ok && decide (len * sz ≤ 16777216) && decide (len ≤ 16777216) then match fillP (fun i => some (i * sz, sz)) ((List.replicate len ((C.ti e).ks.map zeroCK)).flatten) parts with
    | some cells => match svs? cells with
      | some vs => k (.fl H.length) (H ++ [.arr false e sz (chunk sz len vs)])
      | none => none
    | none => none else none
  | _ => none

def makeSliceK (t : Nat) (l c : PV) (H : List Blk) (k : PV → List Blk → Option R) : Option R :=
  match C.sh t, l, c with
  | .slice e, .s (.int _ n), .s (.int _ m) =>
    if (C.ti e).ok then match svs? ((C.ti e).ks.map zeroCK) with
    | some z => need (decide (0 ≤ n) && decide (n ≤ m) && roomy m.toNat) (k (.fl H.length) (H ++ [.arr false e (C.ti e).ks.length (List.replicate n.toNat z)]))
    | none => none else none
  | _, _, _ => none

def minmaxK (mx : Bool) : List PV → (PV → Option R) → Option R
  | [.s (.int kd a), .s (.int kd' b)], k => if kd = kd' then k (.s (.int kd (cond mx (if b > a then b else a) (if b < a then b else a)))) else none
  | _, _ => none

def fieldAddrK (t : Nat) (x : PV) (f : Nat) (k : PV → Option R) : Option R :=
  match C.sh t with
  | .struct fs => match fs[f]?, x with
    | some (o, u), .ptr b i off => if (C.ti u).ok then k (.ptr b i (off + o)) else none
    | some (o, u), .s (.sp els i off) => if (C.ti u).ok then k (.s (.sp els i (off + o))) else none
    | _, _ => none
  | _ => none

def fieldK (t : Nat) (x : PV) (f : Nat) (k : PV → Option R) : Option R :=
  match C.sh t, x with
  | .struct fs, .agg cells => match fs[f]? with
    | some (o, u) => need (okP (C.ti u) cells o) (k (loadP (C.ti u) cells o))
    | none => none
  | _, _ => none

end ops
end Go.Proofs.Ytfioahjeanmfpaa.E
