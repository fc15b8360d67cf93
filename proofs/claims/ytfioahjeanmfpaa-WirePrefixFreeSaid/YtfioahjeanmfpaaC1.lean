/-
  Wire: what is known of its functions; the evaluator's settings for each.
-/
import Derived.Test.YtfioahjeanmfpaaC0
import Derived.Test.YtfioahjeanmfpaaQ2
namespace Go.Proofs.Ytfioahjeanmfpaa.E
open Go
set_option linter.unusedVariables false

def encB (v : Nat) : List (List SV) := (enc v).map u8el

def cloneX : List PV → Tr
  | [.s (.sl true _ _ _)] => .ret (.fl 1) [.dead, .arr true 0 0 []]
  | [.s (.sl false _ 1 l)] => .need (decide (l.length ≤ 68719476736)) (.ret (.fl 1) [.dead, .arr false 5 1 l])
  | _ => .fail

def ownX : List PV → Tr
  | [.s (.sl z _ k l)] => .need ((decide (k = 1) || z) && decide (l.length ≤ 68719476736)) (.ret (.fl 1) [.dead, .arr false 5 1 l])
  | _ => .fail

def bytesX : List PV → Tr
  | [.s (.sl _ _ _ l), .s (.sl _ _ _ m)] => .need (l.all isU8 && m.all isU8) (.ret (.s (.bool (l.map elU8 == m.map elU8))) [])
  | _ => .fail

/-- A number below 'n' (so spelt that the kernel stops at an open number). -/
def ltN (v : Int) (n : Nat) : Bool := match v with
  | .ofNat m => Nat.ble (m + 1) n
  | .negSucc _ => false
theorem ltN_iff {v : Int} {n : Nat} : ltN v n = true ↔ 0 ≤ v ∧ v < (n : Int) := by
  cases v with
  | ofNat m =>
    simp only [ltN, Nat.ble_eq, Int.ofNat_eq_natCast]
    omega
  | negSucc m =>
    refine ⟨fun h => (by cases h), fun h => ?_⟩
    have := Int.negSucc_lt_zero m
    omega
def u64ok (v : Int) : Bool := ltN v 18446744073709551616
def u32ok (v : Int) : Bool := ltN v 4294967296
def small (n : Nat) : Bool := decide (n ≤ 1000000000)

def appX : List PV → Tr
  | [.s (.sl true _ _ _), .s (.int .u64 v)] => .need (u64ok v) (.ret (.fl 2) [.dead, .dead, .arr true 5 1 (encB v.toNat), .dead])
  | [.s (.sl false _ 1 l), .s (.int .u64 v)] => .need (u64ok v && small l.length) (.ret (.fl 2) [.dead, .dead, .arr false 5 1 (l ++ encB v.toNat), .dead])
  | _ => .fail

def fixX : List PV → Tr
  | [.s (.sl true _ _ _), .s (.int .u32 v)] => .need (u32ok v) (.ret (.fl 2) [.dead, .dead, .arr true 5 1 ((fix4 v.toNat).map u8el), .dead])
  | [.s (.sl false _ 1 l), .s (.int .u32 v)] => .need (u32ok v && small l.length) (.ret (.fl 2) [.dead, .dead, .arr false 5 1 (l ++ (fix4 v.toNat).map u8el), .dead])
  | _ => .fail

def ruintX : List PV → Tr
  | [.s (.int .u64 v)] => .need (u64ok v) (.ret (.fl 1) [.dead, .arr true 5 1 (encB v.toNat), .dead])
  | _ => .fail

def rfixX : List PV → Tr
  | [.s (.int .u32 v)] => .need (u32ok v) (.ret (.fl 1) [.dead, .arr false 5 1 ((fix4 v.toNat).map u8el)])
  | _ => .fail

def decX : List PV → Tr
  | [.s (.sl _ _ 1 l)] => .need (l.all isU8) (.ret (.tup [.s (.int .u64 ((decU (l.map elU8)).1 : Int)), .s (.int .i64 ((decU (l.map elU8)).2.1 : Int)), .s (.int .i64 ((decU (l.map elU8)).2.2 : Int))]) [])
  | _ => .fail

def decFX : List PV → Tr
  | [.s (.sl _ _ 1 l)] => .need (l.all isU8) (.ret (.tup [.s (.int .u32 ((decF (l.map elU8)).1 : Int)), .s (.int .i64 ((decF (l.map elU8)).2 : Int))]) [])
  | _ => .fail

def textX : List PV → Tr
  | [.s (.sl true _ _ _), .s (.str s)] => .need (small s.length) (.ret (.fl 3) [.dead, .dead, .dead, .arr true 5 1 (encB s.length ++ s.map u8el), .dead])
  | [.s (.sl false _ 1 l), .s (.str s)] => .need (small l.length && small s.length) (.ret (.fl 3) [.dead, .dead, .dead, .arr false 5 1 (l ++ encB s.length ++ s.map u8el), .dead])
  | _ => .fail

def rtextX : List PV → Tr
  | [.s (.str s)] => .need (small s.length) (.ret (.fl 2) [.dead, .dead, .arr true 5 1 (encB s.length ++ s.map u8el), .dead])
  | _ => .fail

def decTX : List PV → Tr
  | [.s (.sl _ _ 1 l)] => .need (l.all isU8 && small l.length) (.ret (.tup [.s (.str (decT (l.map elU8)).1), .s (.int .i64 ((decT (l.map elU8)).2.1 : Int)), .s (.int .i64 ((decT (l.map elU8)).2.2 : Int))]) [])
  | _ => .fail

def awakeX : List PV → Tr
  | [] => .ret (.s (.bool true)) []
  | _ => .fail

def X1 : List (Nat × (List PV → Tr)) := [(23, cloneX)]
def X2 : List (Nat × (List PV → Tr)) := [(23, cloneX), (8, appX), (14, ruintX), (17, decX), (19, decX)]
def X3 : List (Nat × (List PV → Tr)) := (9, bytesX) :: (10, awakeX) :: (11, ownX) :: (12, textX) :: (13, fixX) :: (15, rtextX)
  :: (16, rfixX) :: (18, decTX) :: (20, decTX) :: (21, decFX) :: (22, decFX) :: X2

noncomputable def cfg0 (lf : Nat) : Cfg := mkCfg lf [23, 9, 11, 16, 22] (fun _ => none) []
noncomputable def cfgApp (lf : Nat) : Cfg := mkCfg lf [8, 13] (fun | 2 => some [1, 2, 0] | _ => none) X1
noncomputable def cfgRU (lf : Nat) : Cfg := mkCfg lf [14] (fun | 2 => some [0, 1, 0] | _ => none) X1
noncomputable def cfgDU (lf : Nat) : Cfg := mkCfg lf [17] (fun | 3 => some [0, 1, 0, 0, 0, 2] | _ => none) X1
noncomputable def cfgRDU (lf : Nat) : Cfg := mkCfg lf [19] (fun | 3 => some [0, 1, 0, 0, 0, 0] | 14 => some [0, 1, 0, 0, 0, 0, 0] | _ => none) X1
noncomputable def cfgDF (lf : Nat) : Cfg := mkCfg lf [21] (fun | 5 => some [0, 1, 0, 0, 4] | _ => none) X1
noncomputable def cfgT (lf : Nat) : Cfg := mkCfg lf [12, 15, 18, 20] (fun _ => none) X2
noncomputable def cfgL (lf : Nat) : Cfg := mkCfg lf [3, 4, 6, 7] (fun | 9 => some [0, 5, 0, 0, 3] | _ => none) X3 (xp := [9, 10])

end Go.Proofs.Ytfioahjeanmfpaa.E
