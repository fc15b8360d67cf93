/-
  Written by a program of the prover's own and checked by the kernel: functions of the program as plain functions of their data, and what is told of them.
-/
import Derived.Test.YtfioahjeanmfpaaD1
namespace Go.Proofs.Ytfioahjeanmfpaa.E
open Go Go.Proofs
set_option linter.unusedVariables false
set_option maxRecDepth 100000
section

/-- slices.Clone[[]byte,byte] -/
def X_clone0 : List PV → Tr
  | [.s (.sl b_z b_t 1 b)] => .need ((List.isEmpty b) || (not b_z)) (.need (roomy (List.length b)) (.ret (.fl 0) [.arr b_z 5 1 b]))
  | _ => .fail
def X_clone (args : List PV) : Tr := X_clone0 (fixL [[1]] args)

/-- hstsstore/hstsstorekeep.Bytes -/
def X_kbytes0 : List PV → Tr
  | [.s (.sl a_z a_t 1 a), .s (.sl b_z b_t 1 b)] => .need (List.all a isU8) (.need (List.all b isU8) (.ret (.s (.bool ((List.map elU8 a) == (List.map elU8 b)))) []))
  | _ => .fail
def X_kbytes (args : List PV) : Tr := X_kbytes0 (fixL [[1], [1]] args)

/-- hstsstore/wire.AppendUint -/
def X_app0 : List PV → Tr
  | [.s (.sl b_z b_t 1 b), .s (.int .u64 v)] => .need ((List.isEmpty b) || (not b_z)) (.need (small (List.length b)) (.need (u64ok v) (.ret (.fl 0) [.arr b_z 5 1 (b ++ (encB (Int.toNat v)))])))
  | _ => .fail
def X_app (args : List PV) : Tr := X_app0 (fixL [[1], [0]] args)

/-- hstsstore/wire.AppendText -/
def X_apptext0 : List PV → Tr
  | [.s (.sl b_z b_t 1 b), .s (.str s)] => .need ((List.isEmpty b) || (not b_z)) (.need (small (List.length b)) (.need (small (List.length s)) (.ret (.fl 0) [.arr b_z 5 1 ((b ++ (encB (List.length s))) ++ (List.map u8el s))])))
  | _ => .fail
def X_apptext (args : List PV) : Tr := X_apptext0 (fixL [[1], [0]] args)

/-- hstsstore/wire.Uint -/
def X_wuint0 : List PV → Tr
  | [.s (.sl b_z b_t 1 b)] => .need (List.all b isU8) (.need (small (List.length b)) (.ret (.tup [.s (.int .u64 (↑((decU (List.map elU8 b))).1 : Int)), .s (.int .i64 (↑(((decU (List.map elU8 b))).2).1 : Int)), .s (.int .i64 (↑(((decU (List.map elU8 b))).2).2 : Int))]) []))
  | _ => .fail
def X_wuint (args : List PV) : Tr := X_wuint0 (fixL [[1]] args)

/-- hstsstore/wire.Text -/
def X_wtext0 : List PV → Tr
  | [.s (.sl b_z b_t 1 b)] => .need (List.all b isU8) (.need (small (List.length b)) (.ret (.tup [.s (.str ((decT (List.map elU8 b))).1), .s (.int .i64 (↑(((decT (List.map elU8 b))).2).1 : Int)), .s (.int .i64 (↑(((decT (List.map elU8 b))).2).2 : Int))]) []))
  | _ => .fail
def X_wtext (args : List PV) : Tr := X_wtext0 (fixL [[1]] args)

/-- hstsstore/hstsstorelaw03.awake -/
def X_awake0 : List PV → Tr
  | [] => .ret (.s (.bool true)) []
  | _ => .fail
def X_awake (args : List PV) : Tr := X_awake0 (fixL [] args)

end
end Go.Proofs.Ytfioahjeanmfpaa.E
