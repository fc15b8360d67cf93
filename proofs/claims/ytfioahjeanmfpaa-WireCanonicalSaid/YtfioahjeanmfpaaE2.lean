/-
  The pure evaluator: operations, calls, code, functions. Definitions alone; nothing is claimed here.
-/
import Derived.Test.YtfioahjeanmfpaaE1
namespace Go.Proofs.Ytfioahjeanmfpaa.E
open Go
set_option linter.unusedVariables false

structure St (σ : Type) where
  sl : List PV
  hp : List Blk
  s : σ

inductive Out where
  | normal
  | exit (id : Nat)
  | ret
  deriving DecidableEq, Inhabited

def putS (dst : Option Nat) (v : PV) (sl : List PV) : List PV :=
  match dst with
  | some d => sl.set d v
  | none => sl

/-! ### Names -/
mutual
def PV.nms : PV → List Nat
  | .fl b => [b]
  | .vw b _ _ => [b]
  | .ptr b _ _ => [b]
  | .it b => [b]
  | .fnr _ x y => nmsL x ++ nmsL y
  | .agg l => nmsL l
  | .tup l => nmsL l
  | _ => []
def nmsL : List PV → List Nat
  | [] => []
  | v :: r => v.nms ++ nmsL r
end

mutual
def PV.rn (f : Nat → Nat) : PV → PV
  | .fl b => .fl (f b)
  | .vw b i n => .vw (f b) i n
  | .ptr b i o => .ptr (f b) i o
  | .it b => .it (f b)
  | .fnr g x y => .fnr g (rnL f x) (rnL f y)
  | .agg l => .agg (rnL f l)
  | .tup l => .tup (rnL f l)
  | v => v
def rnL (f : Nat → Nat) : List PV → List PV
  | [] => []
  | v :: r => v.rn f :: rnL f r
end

def Blk.nms : Blk → List Nat
  | .box cells => nmsL cells
  | _ => []

def Blk.rn (f : Nat → Nat) : Blk → Blk
  | .box cells => .box (rnL f cells)
  | b => b

def addNew (l : List Nat) (b : Nat) : List Nat := if l.contains b then l else l ++ [b]

def reach1 (H : List Blk) (l : List Nat) : List Nat := l.foldl (fun acc b => ((H.getD b .dead).nms).foldl addNew acc) l

/-- The blocks that are lent to a call: those that its arguments name, and what these name. -/
def reach (H : List Blk) (l : List Nat) : List Nat := reach1 H (reach1 H (reach1 H (l.foldl addNew [])))

def closedIn (H : List Blk) (ns : List Nat) : Bool := ns.all fun b => ((H.getD b .dead).nms).all fun c => ns.contains c

mutual
/-- A row that is named is handed on as it stands. -/
def PV.snap (H : List Blk) : PV → PV
  | .nsl => .s (.sl true true 0 [])
  | .fl b => match H[b]? with | some (.arr v _ sz els) => .s (.sl (v && els.isEmpty) (v && els.isEmpty) sz els) | _ => .bad
  | .vw b i n => match H[b]? with | some (.arr v _ sz els) => .s (.sl (v && els.isEmpty) (v && els.isEmpty) sz ((els.drop i).take n)) | _ => .bad
  | .agg l => .agg (snapL H l)
  | v => v
def snapL (H : List Blk) : List PV → List PV
  | [] => []
  | v :: r => v.snap H :: snapL H r
end

mutual
/-- Does it name a row ('.fl', '.vw')? -/
def PV.rows : PV → Bool
  | .fl _ => true
  | .vw _ _ _ => true
  | .agg l => rowsL l
  | _ => false
def rowsL : List PV → Bool
  | [] => false
  | v :: r => v.rows || rowsL r
end

mutual
/-- It bears no stable reference. -/
def PV.clean : PV → Bool
  | .s (.sl _ _ _ _) => false
  | .s (.sp _ _ _) => false
  | .s (.fn _ _ _) => false
  | .s _ => true
  | .fnr _ x y => cleanL x && cleanL y
  | .agg l => cleanL l
  | .tup l => cleanL l
  | .yd => false
  | _ => true
def cleanL : List PV → Bool
  | [] => true
  | v :: r => v.clean && cleanL r
end

def SV.plain : SV → Bool
  | .sl _ _ _ _ => false
  | .sp _ _ _ => false
  | .fn _ _ _ => false
  | _ => true

def Blk.clean : Blk → Bool
  | .arr _ _ _ els => els.all fun el => el.all SV.plain
  | .box cells => cleanL cells
  | _ => true

/-- Names from 'L' on are dropped from a value that goes round a loop. -/
def PV.low (H : List Blk) (L : Nat) : PV → PV
  | .fl b => if b < L then .fl b else (PV.fl b).snap H
  | .vw b i n => if b < L then .vw b i n else (PV.vw b i n).snap H
  | .s v => .s v
  | .nsl => .nsl
  | .yd => .yd
  | .ptr b i o => if b < L then .ptr b i o else .bad
  | .it b => if b < L then .it b else .bad
  | v => if v.nms.all (· < L) then v else .bad

def lowH (L : Nat) (H : List Blk) : Bool := H.all fun b => b.nms.all (· < L)

def trunc {σ : Type} (L : Nat) (st : St σ) : St σ :=
  if lowH L (st.hp.take L) then { sl := st.sl.map (PV.low st.hp L), hp := st.hp.take L, s := st.s } else st

abbrev Yh (σ : Type) := List PV → σ → Option (Bool × σ)
abbrev CallT := ∀ (σ : Type), Yh σ → Nat → List PV → List Blk → σ → Option (PV × List Blk × σ)

/-- Slots that nobody reads any more: 'g' tells how many stand ahead of each that is kept. -/
def mask : List Nat → List PV → List PV
  | _, [] => []
  | [], _ :: l => .bad :: mask [] l
  | 0 :: g, v :: l => v :: mask g l
  | (n + 1) :: g, _ :: l => .bad :: mask (n :: g) l

def forget {σ : Type} (ds : Option (List Nat)) (st : St σ) : St σ := match ds with
  | some g => { sl := mask g st.sl, hp := st.hp, s := st.s }
  | none => st

/-- The names that are borne: one above the greatest, at least 'm'. -/
def topN : List Nat → Nat → Nat
  | [], m => m
  | b :: r, m => topN r (cond (Nat.ble m b) (b + 1) m)
def topB : List Blk → Nat → Nat
  | [], m => m
  | b :: r, m => topB r (topN b.nms m)

/-- Blocks at the end that nobody names are dropped. -/
def tidyAt {σ : Type} (m : Nat) (st : St σ) : St σ := cond (Nat.ble (m + 1) st.hp.length) (trunc m st) st
def tidy {σ : Type} (L : Nat) (st : St σ) : St σ := tidyAt (topB st.hp (topN (nmsL st.sl) L)) st

def forgetR {σ : Type} (ds : Option (List Nat)) (L : Nat) (st : St σ) : St σ := match ds with
  | some g => tidy L { sl := mask g st.sl, hp := st.hp, s := st.s }
  | none => st

def loopK {σ R : Type} (L : Nat) (ds : Option (List Nat)) (body : St σ → (Out → St σ → Option R) → Option R) : Nat → St σ → (Out → St σ → Option R) → Option R
  | 0, _, _ => none
  | n + 1, st, k => body st fun o st' => match o with
    | .normal => loopK L ds body n (forget ds (trunc L st')) k
    | o => k o (forget ds st')

/-- The number of the first region: a loop's name. -/
def fstR : Code → Nat
  | .region id _ _ => id
  | .seq (.label _) b => fstR b
  | .seq a _ => fstR a
  | .scope a => fstR a
  | .block _ a => fstR a
  | .loop a => fstR a
  | _ => 0

def idxIn (ns : List Nat) (b : Nat) : Nat := ns.idxOf b
def backTo (ns : List Nat) (L : Nat) (i : Nat) : Nat := if i < ns.length then ns.getD i 0 else L + (i - ns.length)

def setAll : List Blk → List Nat → List Blk → List Blk
  | H, b :: bs, x :: xs => setAll (H.set b x) bs xs
  | H, _, _ => H

section calls
variable {σ R : Type} (C : Cfg)

def fixB : Blk → Bool
  | .arr _ e _ _ => fixedT C e
  | _ => true

def killAll (ks : List Nat) (sl : List PV) : List PV := ks.foldl (fun sl b => killL b sl) sl
def killBs (ks : List Nat) (H : List Blk) : List Blk := ks.foldl (fun H b => H.map (Blk.kill b)) H

/-- What a call leaves: the lent blocks are taken back; new ones are taken over if something names them. -/
def takeBack (H : List Blk) (ns : List Nat) (ret : PV) (Hc : List Blk) : PV × List Blk :=
  (ret.rn (backTo ns H.length),
   cond ((ret.rn (backTo ns H.length)).nms.all (· < H.length) && lowH H.length ((Hc.take ns.length).map (Blk.rn (backTo ns H.length))))
    (setAll H ns ((Hc.take ns.length).map (Blk.rn (backTo ns H.length))))
    (setAll H ns ((Hc.take ns.length).map (Blk.rn (backTo ns H.length))) ++ (Hc.drop ns.length).map (Blk.rn (backTo ns H.length))))

/-- A call of function 'g': the arguments that name rows are handed on as they stand (or lent, if 'g' is listed), pointers are lent. -/
def callF (cl : CallT) (yh : Yh σ) (g : Nat) (args : List PV) (st : St σ) (k : PV → St σ → Option R) : Option R :=
  match C.X g with
  | some pf =>
    if (nmsL (snapL st.hp args)).isEmpty then runTr (cond (C.xp g) (plainTr (pf (snapL st.hp args))) (pf (snapL st.hp args))) fun ret Hc =>
      need (!rowsL args || (ret.clean && Hc.all Blk.clean)) (k (ret.rn (st.hp.length + ·)) { sl := st.sl, hp := st.hp ++ Hc.map (Blk.rn (st.hp.length + ·)), s := st.s })
    else none
  | none =>
    if C.lend g || !rowsL args then
      let a1 := cond (C.lend g) args (snapL st.hp args)
      let ns := reach st.hp (nmsL a1)
      if closedIn st.hp ns then
        match C.Y g with
        | some pf => runTr (pf (rnL (idxIn ns) a1) (ns.map fun b => (st.hp.getD b .dead).rn (idxIn ns))) fun ret Hc => k (takeBack (killBs (ns.filter fun b => !fixB C (st.hp.getD b .dead)) st.hp) ns ret Hc).1
            { sl := killAll (ns.filter fun b => !fixB C (st.hp.getD b .dead)) st.sl, hp := (takeBack (killBs (ns.filter fun b => !fixB C (st.hp.getD b .dead)) st.hp) ns ret Hc).2, s := st.s }
        | none => match cl σ yh g (rnL (idxIn ns) a1) (ns.map fun b => (st.hp.getD b .dead).rn (idxIn ns)) st.s with
          | some (ret, Hc, s') => k (takeBack (killBs (ns.filter fun b => !fixB C (st.hp.getD b .dead)) st.hp) ns ret Hc).1
              { sl := killAll (ns.filter fun b => !fixB C (st.hp.getD b .dead)) st.sl, hp := (takeBack (killBs (ns.filter fun b => !fixB C (st.hp.getD b .dead)) st.hp) ns ret Hc).2, s := s' }
          | none => none
      else none
    else if (nmsL (snapL st.hp args)).isEmpty then
      match cl Unit (fun _ _ => none) g (snapL st.hp args) [] () with
      | some (ret, Hc, _) => if ret.clean then need (Hc.all Blk.clean) (k (ret.rn (st.hp.length + ·)) { sl := st.sl, hp := st.hp ++ Hc.map (Blk.rn (st.hp.length + ·)), s := st.s }) else none
      | none => none
    else none

def svArgs : List PV → Bool
  | [] => true
  | .s _ :: r => svArgs r
  | .agg l :: r => (svs? l).isSome && svArgs r
  | _ :: _ => false

/-- What the handler answers. -/
def ydK (x : Option (Bool × σ)) (k : Bool → σ → Option R) : Option R := match x with
  | some (b, s') => k b s'
  | none => none

def callV (cl : CallT) (yh : Yh σ) (f : PV) (args : List PV) (st : St σ) (k : PV → St σ → Option R) : Option R :=
  match f with
  | .s (.fn (.func g) first caps) => callF C cl yh g (first.map .s ++ args ++ caps.map .s) st k
  | .fnr (.func g) first caps => callF C cl yh g (first ++ args ++ caps) st k
  | .yd => if svArgs args then ydK (yh args st.s) fun b s' => k (.s (.bool b)) { sl := st.sl, hp := st.hp, s := s' } else none
  | _ => none

def optMap {α β : Type} (f : α → β) : Option α → Option β
  | some a => some (f a)
  | none => none

def isRow : Sh → Bool
  | .str => true
  | .slice _ => true
  | _ => false

def builtinK (b : Builtin) (ts : List Nat) (args : List PV) (st : St σ) (k : PV → St σ → Option R) : Option R :=
  match b, ts, args with
  | .len, t :: _, [x] => lenK C x t st.hp fun v => k v st
  | .append, [t, u], [s, x] => if isRow (C.sh u) then appendK C t st.sl s x st.hp fun v sl' H' => k v { st with sl := sl', hp := H' } else none
  | .copy, [t, _], [d, x] => copyK C t d x st.hp fun v H' => k v { st with hp := H' }
  | .min, _, args => minmaxK false args fun v => k v st
  | .max, _, args => minmaxK true args fun v => k v st
  | _, _, _ => none

/-- A new variable. -/
def boxK (e : Nat) (cells : List PV) (H : List Blk) (k : PV → List Blk → Option R) : Option R :=
  if (C.ti e).ok then match C.sh e with
  | .array n el => match svs? cells with
    | some vs => if cells.length = n * (C.ti el).ks.length then k (.ptr H.length 0 0) (H ++ [.arr false e (C.ti el).ks.length (chunk (C.ti el).ks.length n vs)]) else none
    | none => none
  | _ =>
    k (.ptr (nameNils cells H).2.length 0 0) ((nameNils cells H).2 ++ [.box (nameNils cells H).1])
  else none

def nilChk (x : PV) : Bool :=
  match x with
  | .ptr _ _ _ => true
  | .s (.sp _ _ _) => true
  | .s (.fn (.func _) _ _) => true
  | .fnr (.func _) _ _ => true
  | _ => false

def mkFn (f : Fn) (x y : List PV) : PV :=
  match svs? x, svs? y with
  | some a, some b => .s (.fn f a b)
  | _, _ => .fnr f x y

/-- The elements of a slice type, and how many cells each has. -/
def nilT (t : Nat) : Nat × Nat := match C.sh t with
  | .slice e => (e, (C.ti e).ks.length)
  | _ => (0, 0)

def opK (cl : CallT) (yh : Yh σ) (o : Oper) (st : St σ) (k : St σ → Option R) : Option R :=
  let ρ := opnd C st.sl
  let r1 (v : PV) : Option R := k { st with sl := putS o.dst v st.sl }
  let r2 (v : PV) (H : List Blk) : Option R := k { st with sl := putS o.dst v st.sl, hp := H }
  match o.op with
  | .move x => r1 (ρ x)
  | .assign x => match ρ x with
    | .nsl => r2 (.fl st.hp.length) (st.hp ++ [.arr true (nilT C o.type).1 (nilT C o.type).2 []])
    | v => r1 v
  | .pick c a b => match ρ c with
    | .s (.bool t) => splitB t fun t => r1 (cond t (ρ a) (ρ b))
    | _ => none
  | .alloc e => boxK C e ((C.ti e).ks.map zeroCK) st.hp r2
  | .box e x => if (ρ x).cells.length = (C.ti e).ks.length then boxK C e (ρ x).cells st.hp r2 else none
  | .build t parts => buildK C t (parts.toList.map fun (i, x) => (i, ρ x)) r1
  | .buildSlice t len parts => buildSliceK C t len (parts.toList.map fun (i, x) => (i, ρ x)) st.hp r2
  | .load t a => loadK (C.ti t) (ρ a) st.hp r1
  | .store t a x => storeK (C.ti t) (ρ a) (ρ x) st.hp fun H => r2 (.tup []) H
  | .nilCheck x => if nilChk (ρ x) then r1 (ρ x) else none
  | .binOp op t x y _ => binK C op t (ρ x) (ρ y) st.hp r1
  | .unOp op _ x => unK op (ρ x) r1
  | .convert src dst x => match C.sh dst with
    | .slice _ => bytesK C src dst (ρ x) r1
    | _ => convK C src dst (ρ x) st.hp r1
  | .makeFunc (.func g) x y => r1 (mkFn (.func g) (x.toList.map ρ) (y.toList.map ρ))
  | .makeSlice t l c => makeSliceK C t (ρ l) (ρ c) st.hp r2
  | .slice t x lo hi mx => match C.sh t, ρ x with
    | .array n e, .ptr b 0 0 => match st.hp[b]? with
      | some (.arr _ _ sz els) => if (C.ti e).ok ∧ (C.ti e).ks.length = sz ∧ 0 < n ∧ n ≤ 65536 then need (decide (els.length = n)) (sliceArrK b n (optMap ρ lo) (optMap ρ hi) (optMap ρ mx) r1) else none
      | _ => none
    | _, v => if mx.isSome = true → hi.isSome = true then sliceK C t v (optMap ρ lo) (optMap ρ hi) (optMap ρ mx) st.hp r1 else none
  | .fieldAddr t x f => fieldAddrK C t (ρ x) f r1
  | .field t x f => fieldK C t (ρ x) f r1
  | .indexAddr t x i => indexAddrK C t (ρ x) (ρ i) st.hp r1
  | .index t x i => indexK C t (ρ x) (ρ i) r1
  | .range t x => match ρ x with
    | .s (.str l) => match C.sh t with
      | .str => r2 (.it st.hp.length) (st.hp ++ [.iter l 0])
      | _ => none
    | _ => none
  | .next it true => match ρ it with
    | .it b => match st.hp[b]? with
      | some (.iter l p) => splitB (decide (p < l.length)) fun t =>
        cond t (let (c, wd) := Utf8.decode ⟨l.toArray⟩ p
          r2 (.tup [.s (.bool true), .s (.int .i64 p), .s (.int .i32 c)]) (st.hp.set b (.iter l (p + wd)))) (r1 (.tup [.s (.bool false)]))
      | _ => none
    | _ => none
  | .extract t i => match ρ t with
    | .tup vs => match vs[i]? with
      | some v => r1 v
      | none => none
    | _ => none
  | .call c => match c.callee with
    | .builtin b => builtinK C b c.argTypes.toList (c.args.toList.map ρ) st fun v st' => k { st' with sl := putS o.dst v st'.sl }
    | .value f => callV C cl yh (ρ f) (c.args.toList.map ρ) st fun v st' => k { st' with sl := putS o.dst v st'.sl }
    | _ => none
  | _ => none

/-- Run operations in the order of the text; a guard that is open is split, and its slot then holds the answer. -/
def opsK (cl : CallT) (yh : Yh σ) (all : Array Oper) : List Oper → St σ → (St σ → Option R) → Option R
  | [], st, k => k st
  | o :: rest, st, k => match o.guard with
    | none => opK C cl yh o st fun st' => opsK cl yh all rest st' k
    | some (j, want) => match ((all[j]?).bind (·.dst)) with
      | some g => match st.sl.getD g (.tup []) with
        | .s (.bool b) => splitB b fun b =>
          if b == want then opK C cl yh o { st with sl := st.sl.set g (.s (.bool b)) } fun st' => opsK cl yh all rest st' k
          else opsK cl yh all rest { st with sl := putS o.dst (.tup []) (st.sl.set g (.s (.bool b))) } k
        | .tup [] => opsK cl yh all rest { st with sl := putS o.dst (.tup []) st.sl } k
        | _ => none
      | none => none

def setParams : List PV → List Nat → List PV → List PV
  | sl, t :: ts, v :: vs => setParams (sl.set t v) ts vs
  | sl, _, _ => sl

end calls

/-! ### Ranges over functions -/
mutual
/-- It bears no yield. -/
def PV.yf : PV → Bool
  | .yd => false
  | .fnr _ x y => yfL x && yfL y
  | .agg l => yfL l
  | .tup l => yfL l
  | _ => true
def yfL : List PV → Bool
  | [] => true
  | v :: r => v.yf && yfL r
end
def Blk.yf : Blk → Bool
  | .box cells => yfL cells
  | _ => true

def enterB (P : Program) (g : Nat) : Bool := match P.funcs[g]? with
  | some fn => fn.body.isSome && !(fn.name == "runtime.NumGoroutine")
  | none => false

/-- The function that is ranged over, with what it holds ahead of yield and behind. -/
def rangeArgs : PV → Option (Nat × List PV × List PV)
  | .s (.fn (.func g) first caps) => some (g, first.map .s, caps.map .s)
  | .fnr (.func g) first caps => some (g, first, caps)
  | _ => none

def pendOf : Out → Option Out
  | .normal => none
  | o => some o

/-- Rows whose place may change. -/
def loose (C : Cfg) : List Blk → Nat → List Nat
  | [], _ => []
  | b :: r, n => cond (fixB C b) (loose C r (n + 1)) (n :: loose C r (n + 1))

/-- Blocks that are lent are out of reach. -/
def deadAll (ns : List Nat) (H : List Blk) : List Blk := setAll (killBs ns H) ns (List.replicate ns.length .dead)

/-- A block that was lent, with what it holds forgotten, so far as it names others. -/
def bareB : Blk → Blk
  | .box cells => .box (cells.map fun _ => .bad)
  | b => b
/-- Lent blocks come back. -/
def backB (C : Cfg) (ns : List Nat) (H Hc H1 : List Blk) : List Blk := setAll H1 ns (ns.map fun b => cond (fixB C (H.getD b .dead)) (bareB (Hc.getD (idxIn ns b) .dead)) .dead)

/-- The handler: a round. -/
def roundY {σ : Type} (ps : Array Tmp) (sl0 : List PV) (asK bdK : St σ → (Out → St σ → Option (Bool × (List Blk × Option Out × σ))) → Option (Bool × (List Blk × Option Out × σ))) : Yh (List Blk × Option Out × σ) := fun a x => match x with
  | (H, none, s) => if a.length = ps.size then
      asK { sl := setParams sl0 ps.toList a, hp := H, s := s } fun o st1 => match o with
        | .normal => bdK st1 fun o2 st2 => some ((pendOf o2).isNone, ((trunc H.length st2).hp, pendOf o2, st2.s))
        | _ => none
    else none
  | _ => none

def rangeK2 {σ R : Type} (C : Cfg) (cl : CallT) (f : Nat) (first caps : List PV) (ns : List Nat) (st : St σ) (yR : List PV → Yh (List Blk × Option Out × σ)) (k : Out → St σ → Option R) : Option R :=
  if closedIn st.hp ns && yfL (first ++ caps) && (ns.all fun b => (st.hp.getD b .dead).yf) && enterB C.P f then
    match cl (List Blk × Option Out × σ) (yR (killAll (ns ++ loose C st.hp 0) st.sl)) f (rnL (idxIn ns) first ++ .yd :: rnL (idxIn ns) caps) (ns.map fun b => (st.hp.getD b .dead).rn (idxIn ns)) (deadAll ns st.hp, none, st.s) with
    | some (_, Hc, (H1, pend, s')) => k (pend.getD .normal) { sl := killAll (ns ++ loose C st.hp 0) st.sl, hp := backB C ns st.hp Hc H1, s := s' }
    | none => none
  else none

/-- Rounds over values that are known. -/
def roundsK {σ R : Type} (ps : Array Tmp) (sl0 : List PV) (asK bdK : St σ → (Out → St σ → Option R) → Option R) : List (List PV) → List Blk → σ → (Option Out → List Blk → σ → Option R) → Option R
  | [], H, s, k => k none H s
  | x :: xs, H, s, k => if x.length = ps.size then
      asK { sl := setParams sl0 ps.toList x, hp := H, s := s } fun o st1 => match o with
        | .normal => bdK st1 fun o2 st2 => match o2 with
          | .normal => roundsK ps sl0 asK bdK xs (trunc H.length st2).hp st2.s k
          | o2 => k (some o2) (trunc H.length st2).hp st2.s
        | _ => none
    else none

/-- What comes behind a range. -/
def rgK {σ R : Type} (sl0 : List PV) (bk : List Blk → List Blk) (k : Out → St σ → Option R) : Option Out → List Blk → σ → Option R := fun pend H s => k (pend.getD .normal) { sl := sl0, hp := bk H, s := s }

def isBox : Blk → Bool | .box _ => true | _ => false

/-- A range over a function of which is known what it yields. -/
def rangeS {σ R : Type} (C : Cfg) (pf : List PV → List Blk → Option (Bool × List (List PV))) (f : Nat) (first caps : List PV) (ns : List Nat) (st : St σ) (sR : List PV → List (List PV) → List Blk → σ → (Option Out → List Blk → σ → Option R) → Option R) (k : Out → St σ → Option R) : Option R :=
  if closedIn st.hp ns && yfL (first ++ caps) && (ns.all fun b => (st.hp.getD b .dead).yf) && enterB C.P f && (ns.all fun b => isBox (st.hp.getD b .dead)) then match pf (rnL (idxIn ns) first ++ .yd :: rnL (idxIn ns) caps) (ns.map fun b => (st.hp.getD b .dead).rn (idxIn ns)) with
    | some (c, L) => need c (sR (killAll (ns ++ loose C st.hp 0) st.sl) L (deadAll ns st.hp) st.s (rgK (killAll (ns ++ loose C st.hp 0) st.sl) (backB C ns st.hp ((ns.map fun b => (st.hp.getD b .dead).rn (idxIn ns)).map bareB)) k))
    | none => none
  else none

def rangeK {σ R : Type} (C : Cfg) (cl : CallT) (g : PV) (st : St σ) (yR : List PV → Yh (List Blk × Option Out × σ)) (sR : List PV → List (List PV) → List Blk → σ → (Option Out → List Blk → σ → Option R) → Option R) (k : Out → St σ → Option R) : Option R := match rangeArgs g with
  | some (f, first, caps) => match C.S f with
    | some pf => rangeS C pf f first caps (reach st.hp (nmsL (first ++ caps))) st sR k
    | none => rangeK2 C cl f first caps (reach st.hp (nmsL (first ++ caps))) st yR k
  | none => none

/-! ### Regions that draw their order -/
/-- Operations that leave the world alone. -/
def quietOp (C : Cfg) : Op → Bool
  | .move _ => true
  | .assign _ => true
  | .pick _ _ _ => true
  | .build _ _ => true
  | .load _ _ => true
  | .nilCheck _ => true
  | .binOp _ _ _ _ _ => true
  | .unOp _ _ _ => true
  | .convert _ dst _ => match C.sh dst with | .slice _ => false | _ => true
  | .makeFunc (.func _) _ _ => true
  | .slice _ _ _ _ _ => true
  | .fieldAddr _ _ _ => true
  | .field _ _ _ => true
  | .indexAddr _ _ _ => true
  | .index _ _ _ => true
  | .extract _ _ => true
  | .call c => match c.callee with
    | .builtin .len => true
    | .builtin .min => true
    | .builtin .max => true
    | _ => false
  | _ => false

/-- A call of a function whose results are known and plain. -/
def quietCall (C : Cfg) : Op → Bool
  | .call c => match c.callee with
    | .value (.func g) => C.xp g && (C.X g).isSome && enterB C.P g
    | _ => false
  | _ => false

def quietOp2 (C : Cfg) (op : Op) : Bool := quietOp C op || quietCall C op

/-- Operations that add memory, and nothing else. -/
def extOp (C : Cfg) : Op → Bool
  | .buildSlice _ _ _ => true
  | .call c => match c.callee with
    | .value (.func g) => (C.X g).isSome && enterB C.P g
    | _ => false
  | _ => false

/-- 0: it reads slots alone; 1: it reads; 2: it adds memory; 3: any other. -/
def kindOp (C : Cfg) (op : Op) : Nat := match op with
  | .move _ => 0
  | op => cond (quietOp2 C op) 1 (cond (extOp C op) 2 3)

/-- For each operation: how many of kind 2, 3 it waits for; is it of kind 2, 3? -/
def stgs (C : Cfg) : List Oper → List (Nat × Bool) → Nat → List (Nat × Bool)
  | [], acc, _ => acc
  | o :: r, acc, n => cond (Nat.ble 2 (kindOp C o.op)) (stgs C r (acc ++ [(n, true)]) (n + 1))
      (stgs C r (acc ++ [(o.after.toList.foldl (fun m e => cond (Region.binds .any e) (match acc[e.on]? with | some (s, b) => Nat.max m (cond b (s + 1) s) | none => m) m) 0, false)]) n)

def pickIx (s : Nat) (b : Bool) : List (Nat × Bool) → Nat → List Nat
  | [], _ => []
  | (t, c) :: r, i => cond (Nat.beq t s && (c == b)) (i :: pickIx s b r (i + 1)) (pickIx s b r (i + 1))

def stgOrd (l : List (Nat × Bool)) : Nat → Nat → List Nat
  | 0, _ => []
  | f + 1, s => pickIx s false l 0 ++ (pickIx s true l 0 ++ stgOrd l f (s + 1))

/-- The order in which a region is evaluated. -/
def ordOf (C : Cfg) (ops : List Oper) : List Nat :=
  let l := stgs C ops [] 0
  stgOrd l ((l.filter (·.2)).length + 1) 0

def regL (C : Cfg) (ops : Array Oper) (d : Bool) : List Oper := cond d ((ordOf C ops.toList).filterMap (ops[·]?)) ops.toList

def evCode (C : Cfg) (cl : CallT) {σ : Type} (yh : Yh σ) : Code → {R : Type} → St σ → (Out → St σ → Option R) → Option R
  | .skip, _, st, k => k .normal st
  | .label _, _, st, k => k .normal st
  | .region id ops d, _, st, k => opsK C cl yh ops (regL C ops d) st fun st' => k .normal (forgetR (C.keepR id) st.hp.length st')
  | .seq a b, _, st, k => evCode C cl yh a st fun o st' => match o with
    | .normal => evCode C cl yh b st' k
    | o => k o st'
  | .cond c a b, _, st, k => match opnd C st.sl c with
    | .s (.bool t) => splitB t fun t => cond t (evCode C cl yh a st k) (evCode C cl yh b st k)
    | _ => none
  | .block id a, _, st, k => evCode C cl yh a st fun o st' => match o with
    | .exit j => if j = id then k .normal st' else k (.exit j) st'
    | o => k o st'
  | .loop a, _, st, k => loopK st.hp.length (C.keep (fstR a)) (fun st k => evCode C cl yh a st k) C.lf (forget (C.keep (fstR a)) st) k
  | .scope a, _, st, k => evCode C cl yh a st k
  | .exit id, _, st, k => k (.exit id) (forget (C.keepE id) st)
  | .ret, _, st, k => k .ret (forget C.keepT st)
  | .rangeFunc g ps as body, _, st, k => rangeK C cl (opnd C st.sl g) st (fun sl0 => roundY ps sl0 (fun st k => evCode C cl yh as st k) (fun st k => evCode C cl yh body st k)) (fun sl0 => roundsK ps sl0 (fun st k => evCode C cl yh as st k) (fun st k => evCode C cl yh body st k)) k
  | _, _, _, _ => none

def resK {R : Type} (C : Cfg) (sl : List PV) (H : List Blk) : List ResultVar → (List PV → Option R) → Option R
  | [], k => k []
  | .tmp t :: r, k => resK C sl H r fun vs => k (sl.getD t (.tup []) :: vs)
  | .cell a t :: r, k => loadK (C.ti t) (sl.getD a (.tup [])) H fun v => resK C sl H r fun vs => k (v :: vs)

def packRes : List PV → PV
  | [v] => v
  | vs => .tup vs

/-- A call, with at most 'd' calls inside one another. -/
def evC (C : Cfg) : Nat → CallT
  | 0 => fun _ _ _ _ _ _ => none
  | d + 1 => fun _ yh f args H s =>
    match C.okf f, C.P.funcs[f]? with
    | true, some fn => match fn.body with
      | some c => evCode C (evC C d) yh c { sl := args ++ List.replicate (fn.ntmps - args.length) (.tup []), hp := H, s := s } fun o st => match o with
        | .normal => resK C st.sl st.hp fn.results.toList fun vs => some (packRes vs, st.hp, st.s)
        | .ret => resK C st.sl st.hp fn.results.toList fun vs => some (packRes vs, st.hp, st.s)
        | _ => none
      | none => none
    | _, _ => none

end Go.Proofs.Ytfioahjeanmfpaa.E
