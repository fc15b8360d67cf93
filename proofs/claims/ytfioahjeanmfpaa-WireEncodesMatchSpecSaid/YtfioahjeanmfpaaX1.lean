/-
  Written by a program of the prover's own and checked by the kernel: functions of the program as plain functions of their data, and what is told of them.
-/
import Derived.Test.YtfioahjeanmfpaaD1
namespace Go.Proofs.Ytfioahjeanmfpaa.E
open Go Go.Proofs
set_option linter.unusedVariables false
set_option maxRecDepth 100000
section

/-- slices.Clone[[]byte,byte] -/
def X_clone0 : List PV → Tr
  | [.s (.sl b_z b_t 1 b)] => .need ((List.isEmpty b) || (not b_z)) (.need (roomy (List.length b)) (.ret (.fl 0) [.arr b_z 5 1 b]))
  | _ => .fail
def X_clone (args : List PV) : Tr := X_clone0 (fixL [[1]] args)

/-- hstsstore/hstsstorekeep.Bytes -/
def X_kbytes0 : List PV → Tr
  | [.s (.sl a_z a_t 1 a), .s (.sl b_z b_t 1 b)] => .need (List.all a isU8) (.need (List.all b isU8) (.ret (.s (.bool ((List.map elU8 a) == (List.map elU8 b)))) []))
  | _ => .fail
def X_kbytes (args : List PV) : Tr := X_kbytes0 (fixL [[1], [1]] args)

/-- hstsstore/hstsstorekeep.OwnBytes -/
def X_kown0 : List PV → Tr
  | [.s (.sl b_z b_t 1 b)] => .need (roomy (List.length b)) (.ret (.fl 0) [.arr false 5 1 b])
  | _ => .fail
def X_kown (args : List PV) : Tr := X_kown0 (fixL [[1]] args)

/-- hstsstore/wire.AppendUint -/
def X_app0 : List PV → Tr
  | [.s (.sl b_z b_t 1 b), .s (.int .u64 v)] => .need ((List.isEmpty b) || (not b_z)) (.need (small (List.length b)) (.need (u64ok v) (.ret (.fl 0) [.arr b_z 5 1 (b ++ (encB (Int.toNat v)))])))
  | _ => .fail
def X_app (args : List PV) : Tr := X_app0 (fixL [[1], [0]] args)

/-- hstsstore/wire.AppendText -/
def X_apptext0 : List PV → Tr
  | [.s (.sl b_z b_t 1 b), .s (.str s)] => .need ((List.isEmpty b) || (not b_z)) (.need (small (List.length b)) (.need (small (List.length s)) (.ret (.fl 0) [.arr b_z 5 1 ((b ++ (encB (List.length s))) ++ (List.map u8el s))])))
  | _ => .fail
def X_apptext (args : List PV) : Tr := X_apptext0 (fixL [[1], [0]] args)

/-- hstsstore/wire.AppendFixed -/
def X_appfix0 : List PV → Tr
  | [.s (.sl b_z b_t 1 b), .s (.int .u32 v)] => .need ((List.isEmpty b) || (not b_z)) (.need (small (List.length b)) (.ret (.fl 0) [.arr b_z 5 1 (b ++ (fix4L v))]))
  | _ => .fail
def X_appfix (args : List PV) : Tr := X_appfix0 (fixL [[1], [0]] args)

/-- hstsstore/hstsstoreref03.Uint -/
def X_ruint0 : List PV → Tr
  | [.s (.int .u64 v)] => .need (u64ok v) (.ret (.fl 0) [.arr true 5 1 (encB (Int.toNat v))])
  | _ => .fail
def X_ruint (args : List PV) : Tr := X_ruint0 (fixL [[0]] args)

/-- hstsstore/hstsstoreref03.Text -/
def X_rtext0 : List PV → Tr
  | [.s (.str s)] => .need (small (List.length s)) (.ret (.fl 0) [.arr true 5 1 ((encB (List.length s)) ++ (List.map u8el s))])
  | _ => .fail
def X_rtext (args : List PV) : Tr := X_rtext0 (fixL [[0]] args)

/-- hstsstore/hstsstoreref03.Fixed -/
def X_rfix0 : List PV → Tr
  | [.s (.int .u32 v)] => .ret (.fl 0) [.arr false 5 1 (fix4L v)]
  | _ => .fail
def X_rfix (args : List PV) : Tr := X_rfix0 (fixL [[0]] args)

/-- hstsstore/hstsstorelaw03.awake -/
def X_awake0 : List PV → Tr
  | [] => .ret (.s (.bool true)) []
  | _ => .fail
def X_awake (args : List PV) : Tr := X_awake0 (fixL [] args)

end
end Go.Proofs.Ytfioahjeanmfpaa.E
