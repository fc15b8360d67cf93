/-
  Parts of the proof, merged by a program of the prover's own; no condition.
-/
import Derived.Below
import Derived.Control
import Derived.Laws.AppendOwn
import Derived.Laws.BytesString
import Derived.Laws.CopyRow
import Derived.Laws.IdiomStrings
import Derived.Laws.MakeOwn
import Derived.Laws.RangeString
import Derived.Laws.Runes
import Derived.Laws.Tables
import Derived.Lib.Strings
import Derived.MapKept
import Derived.WalkKit
import Derived.WalkLawsBesides
import Derived.WalkSpells
namespace Go.Proofs.YtbpokbigoebocaaGreatDoor.E
set_option linter.all false
section
open Go
inductive SV where
 | bool (b:Bool)
 | int (k:IntKind) (n:Int)
 | str (l:List UInt8)
 | nilp
 | nilm
 | nilf
 | sl (z t:Bool) (k:Nat) (els:List (List SV))
 | sp (els:List (List SV)) (i off:Nat)
 | fn (f:Fn) (first caps:List SV)
 deriving Inhabited
inductive PV where
 | s (v:SV)
 | nsl
 | fl (b:Nat)
 | vw (b i n:Nat)
 | ptr (b i off:Nat)
 | fnr (f:Fn) (first caps:List PV)
 | it (b:Nat)
 | yd
 | agg (l:List PV)
 | tup (l:List PV)
 | bad
 deriving Inhabited
inductive Blk where
 | arr (v:Bool) (e sz:Nat) (els:List (List SV))
 | box (cells:List PV)
 | iter (s:List UInt8) (pos:Nat)
 | mp (ents:List (List UInt8 × PV))
 | ms (a:Bool) (ents:List (List UInt8 × List SV))
 | dead
 deriving Inhabited
inductive CK where
 | bool
 | int (k:IntKind)
 | str
 | sl (k:Nat)
 | ptr
 | map
 | fn
 deriving DecidableEq,Inhabited
structure TI where
 ok:Bool
 agg:Bool
 ks:List CK
 deriving Inhabited
inductive Sh where
 | int (k:IntKind)
 | str
 | bool
 | slice (e:Nat)
 | array (n e:Nat)
 | struct (fs:List (Nat × Nat))
 | ptr (e:Nat)
 | map (k e:Nat)
 | fn
 | other
 deriving Inhabited
def VF:CK->Value->Bool
 | .bool,.bool b=>!b
 | .int k,.int k' n=>decide (k=k')&&decide (n=0)
 | .str,.string s=>s.data.toList.isEmpty
 | .sl _,.slice none 0 0=>true
 | .ptr,.pointer none=>true
 | .map,.map none=>true
 | .fn,.nilFunc=>true
 | _,_=>false
def W6:List CK->List Value->Bool
 | [],[]=>true
 | c::r,v::q=>VF c v&&W6 r q
 | _,_=>false
def ksF (f:Nat->Option (List CK)):List Field->Nat->Option (List CK)
 | [],_=>some []
 | x::r,off=>if x.offset==off then match f x.type with
   | some a=>match ksF f r (off+a.length) with
    | some b=>some (a++b)
    | none=>none
   | none=>none else none
def Yp (P:Program):Nat->Nat->Option (List CK)
 | 0,_=>none
 | d+1,t=>match P.underlying t with
  | some .bool=>some [.bool]
  | some (.int k)=>some [.int k]
  | some .string=>some [.str]
  | some (.slice e)=>match P.info? e with
   | some i=>some [.sl i.size]
   | none=>none
  | some (.pointer _)=>some [.ptr]
  | some (.map _ _)=>some [.map]
  | some (.func _ _ _)=>some [.fn]
  | some (.struct fs)=>ksF (Yp P d) fs.toList 0
  | some (.array n e)=>match Yp P d e with
   | some a=>some (List.replicate n a).flatten
   | none=>none
  | _=>none
def A98 (P : Program) (t : Nat) : TI :=
  match P.info? t, P.underlying t, Yp P 20 t with
  | some i, some d, some ks => match i.zero with
    | some z => { ok := i.size == z.cells.size && decide (i.bytes <= 512) && decide (0 < i.size) && W6 ks z.cells.toList, ks := ks
                  agg := match d with | .struct _ => true | .array _ _ => true | _ => false }
    | none => { ok := false, agg := false, ks := [] }
  | _, _, _ => { ok := false, agg := false, ks := [] }
def Xn (P:Program) (t:Nat):Sh:=
 match P.underlying t with
 | some (.slice e)=>.slice e
 | some (.array n e)=>.array n e
 | some (.struct fs)=>.struct (fs.toList.map λf=>(f.offset,f.type))
 | some (.pointer e)=>.ptr e
 | some (.map k e)=>.map k e
 | some (.func _ _ _)=>.fn
 | some (.bool)=>.bool
 | some (.int k)=>.int k
 | some (.string)=>.str
 | _=>.other
def Wk (f:Nat->Option (List CK)):List Field->Nat->Option (List CK)
 | [],_=>some []
 | x::r,off=>if x.offset==off&&x.name != "_" then match f x.type with
   | some a=>match Wk f r (off+a.length) with
    | some b=>some (a++b)
    | none=>none
   | none=>none else none
def BJ (P:Program):Nat->Nat->Option (List CK)
 | 0,_=>none
 | d+1,t=>match P.underlying t with
  | some .bool=>some [.bool]
  | some (.int k)=>some [.int k]
  | some .string=>some [.str]
  | some (.struct fs)=>if P.stoodInHeld t then none else match Wk (BJ P d) fs.toList 0 with
   | some ks=>if (P.info? t).map (·.size)==some ks.length then some ks else none
   | none=>none
  | some (.array n e)=>match BJ P d e with
   | some a=>if (P.info? e).map (·.size)==some a.length&&(P.info? t).map (·.size)==some (List.replicate n a).flatten.length then some (List.replicate n a).flatten else none
   | none=>none
  | _=>none
def A09 (P:Program) (t:Nat):Bool:=BJ P 20 t==some (A98 P t).ks && !(P.eqGuardType P.depth t)
inductive Tr where
 | ret (v:PV) (H:List Blk)
 | need (c:Bool) (t:Tr)
 | split (c:Bool) (a b:Tr)
 | fail
def An {R:Type}:Tr->(PV->List Blk->Option R)->Option R
 | .ret v H,k=>k v H
 | .need c t,k=>cond c (An t k) none
 | .split c a b,k=>cond c (An a k) (An b k)
 | .fail,_=>none
def G2 (t:Tr):Option (PV × List Blk):=An t λv H=>some (v,H)
theorem S6 {R:Type} {r:R}:∀ {t:Tr} {k:PV->List Blk->Option R},An t k=some r->∃ v H,G2 t=some (v,H)/\k v H=some r
 | .ret v H,k,h=>⟨v,H,rfl,h⟩
 | .need c t,k,h=>by
  cases c with
  | true=>exact S6 (t:=t) h
  | false=>cases h
 | .split c a b,k,h=>by
  cases c with
  | true=>exact S6 (t:=a) h
  | false=>exact S6 (t:=b) h
 | .fail,_,h=>by cases h
def SV.det:SV->Bool
 | .bool _=>true
 | .int _ _=>true
 | .str _=>true
 | _=>false
def PV.det1:PV->Bool
 | .s x=>x.det
 | _=>false
def PV.det:PV->Bool
 | .s x=>x.det
 | .tup l=>l.all PV.det1
 | _=>false
def Iw:Tr->Tr
 | .ret v H=>cond (v.det&&H.isEmpty) (.ret v H) .fail
 | .need c t=>.need c (Iw t)
 | .split c a b=>.split c (Iw a) (Iw b)
 | .fail=>.fail
theorem T8:∀ {t:Tr} {v:PV} {H:List Blk},G2 (Iw t)=some (v,H)->G2 t=some (v,H)/\v.det=true/\H=[]
 | .ret v' H',v,H,h=>by
  simp only [Iw] at h
  cases he:(v'.det&&H'.isEmpty) with
  | false=>rw [he] at h;cases h
  | true=>
   rw [he] at h
   simp only [Bool.and_eq_true,List.isEmpty_iff] at he
   simp only [cond_true,G2,An,Option.some.injEq,Prod.mk.injEq] at h
   obtain ⟨rfl,rfl⟩:=h
   exact ⟨rfl,he.1,he.2⟩
 | .need c t,v,H,h=>by
  cases c with
  | true=>exact T8 (t:=t) h
  | false=>cases h
 | .split c a b,v,H,h=>by
  cases c with
  | true=>exact T8 (t:=a) h
  | false=>exact T8 (t:=b) h
 | .fail,_,_,h=>by cases h
structure GT where
 tab:Nat->Option (IntKind × List Int)
 gi:Nat->Bool
structure Cfg where
 P:Program
 G:GT
 X:Nat->Option (List PV->Tr)
 lend:Nat->Bool
 okf:Nat->Bool
 lf:Nat
 keep:Nat->Option (List Nat):=λ_=>none
 keepR:Nat->Option (List Nat):=λ_=>none
 xp:Nat->Bool:=λ_=>false
 keepE:Nat->Option (List Nat):=λ_=>none
 keepT:Option (List Nat):=none
 Y:Nat->Option (List PV->List Blk->Tr):=λ_=>none
 S:Nat->Option (List PV->List Blk->Option (Bool × List (List PV))):=λ_=>none
 nilT:Nat->Nat->Nat × Nat:=λ_ _=>(0,0)
 rowR:Nat->Option Nat:=λ_=>none
 farR:Nat->Option (List Nat × List Nat):=λ_=>none
 Z:Nat->Option (SV->List (List SV)->Bool × List (List SV)):=λ_=>none
 stab:Nat->Bool:=λ_=>false
 rowsR:Nat->Option (List Nat):=λ_=>none
def Cfg.ti (C:Cfg) (t:Nat):TI:=A98 C.P t
def Cfg.sh (C:Cfg) (t:Nat):Sh:=Xn C.P t
def SV.gB:SV->Bool | .bool b=>b | _=>false
def SV.gI:SV->Int | .int _ n=>n | _=>0
def SV.gS:SV->List UInt8 | .str l=>l | _=>[]
def SV.gZ:SV->Bool | .sl z _ _ _=>z | _=>false
def SV.gT:SV->Bool | .sl _ t _ _=>t | _=>false
def SV.gE:SV->List (List SV) | .sl _ _ _ e=>e | _=>[]
def SV.has:CK->SV->Bool
 | .bool,.bool _=>true
 | .int k,.int k' _=>k=k'
 | .str,.str _=>true
 | .sl k,.sl z _ k' _=>decide (k=k') || z
 | .ptr,.nilp=>true
 | .ptr,.sp _ _ _=>true
 | .map,.nilm=>true
 | .fn,.nilf=>true
 | .fn,.fn _ _ _=>true
 | _,_=>false
def SV.as:CK->SV->PV
 | .bool,x=>.s (.bool x.gB)
 | .int k,x=>.s (.int k x.gI)
 | .str,x=>.s (.str x.gS)
 | .sl k,x=>.s (.sl x.gZ x.gT k x.gE)
 | _,x=>.s x
def PV.has:CK->PV->Bool
 | .bool,.s x=>x.has .bool
 | .int k,.s x=>x.has (.int k)
 | .str,.s x=>x.has .str
 | .sl k,.s x=>x.has (.sl k)
 | .sl _,.nsl=>true
 | .sl _,.fl _=>true
 | .sl _,.vw _ _ _=>true
 | .ptr,.s x=>x.has .ptr
 | .ptr,.ptr _ _ _=>true
 | .map,.s x=>x.has .map
 | .map,.it _=>true
 | .fn,.s x=>x.has .fn
 | .fn,.fnr _ _ _=>true
 | .fn,.yd=>true
 | _,_=>false
def PV.toS:PV->SV
 | .s x=>x
 | _=>.nilp
def PV.as:CK->PV->PV
 | .bool,v=>.s (.bool v.toS.gB)
 | .int k,v=>.s (.int k v.toS.gI)
 | .str,v=>.s (.str v.toS.gS)
 | .sl k,.s x=>x.as (.sl k)
 | _,v=>v
def PV.sv?:PV->Option SV
 | .s v=>some v
 | .nsl=>some (.sl true true 0 [])
 | _=>none
def PV.cells:PV->List PV
 | .agg l=>l
 | .bad=>[]
 | v=>[v]
def PV.one:PV->Bool
 | .bad=>false
 | .agg _=>false
 | .tup _=>false
 | _=>true
def Co:List PV->Option (List SV)
 | []=>some []
 | v::r=>match v.sv?,Co r with
  | some x,some y=>some (x::y)
  | _,_=>none
def need {R:Type} (c:Bool) (k:Option R):Option R:=cond c k none
def Ai {R:Type} (b:Bool) (k:Bool->Option R):Option R:=cond b (k true) (k false)
def Hm:Value->PV
 | .bool b=>.s (.bool b)
 | .int k n=>.s (.int k n)
 | .string s=>.s (.str s.data.toList)
 | .pointer none=>.s .nilp
 | .slice none 0 0=>.nsl
 | .map none=>.s .nilm
 | .nilFunc=>.s .nilf
 | _=>.bad
def To:Value->PV
 | .agg cs=>.agg (cs.toList.map Hm)
 | .tuple a=>if a.size=0 then .tup [] else .bad
 | v=>Hm v
def opnd (C:Cfg) (sl:List PV):Operand->PV
 | .tmp t=>sl.getD t (.tup [])
 | .const v=>To v
 | .global g=>match C.G.tab g with
  | some (k,zs)=>.s (.sp [zs.map (SV.int k)] 0 0)
  | none=>.bad
 | .func f=>.s (.fn (.func f) [] [])
def J8:CK->PV
 | .bool=>.s (.bool false)
 | .int k=>.s (.int k 0)
 | .str=>.s (.str [])
 | .sl _=>.nsl
 | .ptr=>.s .nilp
 | .map=>.s .nilm
 | .fn=>.s .nilf
def Gi (t:TI) (cells:List PV) (off:Nat):PV:=
 if t.agg then .agg (t.ks.zipIdx.map λ(c,j)=>(cells.getD (off+j) .bad).as c)
 else match t.ks with
  | [c]=>(cells.getD off .bad).as c
  | _=>.bad
def okP (t:TI) (cells:List PV) (off:Nat):Bool:=
 t.ok&&t.ks.zipIdx.all λ(c,j)=>(cells.getD (off+j) .bad).has c
def LP (t:TI) (cells:List SV) (off:Nat):PV:=
 if t.agg then .agg (t.ks.zipIdx.map λ(c,j)=>(cells.getD (off+j) .nilp).as c)
 else match t.ks with
  | [c]=>(cells.getD off .nilp).as c
  | _=>.bad
def okS (t:TI) (cells:List SV) (off:Nat):Bool:=
 t.ok&&decide (off+t.ks.length<=cells.length)&&t.ks.zipIdx.all λ(c,j)=>(cells.getD (off+j) .nilp).has c
def D3 {α:Type}:List α->Nat->List α->List α
 | l,_,[]=>l
 | l,off,v::vs=>D3 (l.set off v) (off+1) vs
def D6 (f:Nat->Nat × Nat):List PV->Nat->List Blk->List PV × List Blk
 | [],_,H=>([],H)
 | .nsl::r,j,H=>let (r',H'):=D6 f r (j+1) (H++[.arr true (f j).1 (f j).2 []]);(.fl H.length::r',H')
 | v::r,j,H=>let (r',H'):=D6 f r (j+1) H;(v::r',H')
def Aj (H:List Blk):PV->Option (List (List SV))
 | .nsl=>some []
 | .s (.sl _ _ _ els)=>some els
 | .fl b=>match H[b]? with | some (.arr _ _ _ els)=>some els | _=>none
 | .vw b i n=>match H[b]? with | some (.arr _ _ _ els)=>some ((els.drop i).take n) | _=>none
 | _=>none
def X9 (H:List Blk):PV->Option Nat
 | .nsl=>some 0
 | .s (.sl _ _ _ els)=>some els.length
 | .s (.str l)=>some l.length
 | .fl b=>match H[b]? with | some (.arr _ _ _ els)=>some els.length | _=>none
 | .vw _ _ n=>some n
 | _=>none
def WQ (H:List Blk):PV->Option Bool
 | .nsl=>some true
 | .s (.sl z _ _ _)=>some z
 | .fl b=>match H[b]? with | some (.arr v _ _ els)=>some (v&&els.isEmpty) | _=>none
 | .vw b _ _=>match H[b]? with | some (.arr v _ _ els)=>some (v&&els.isEmpty) | _=>none
 | _=>none
def I8 (b:UInt8):List SV:=[.int .u8 b.toNat]
def KD (el:List SV):UInt8:=UInt8.ofNat (el.getD 0 .nilp).gI.toNat
def RM:List SV->Bool | [.int .u8 n]=>decide (0<=n)&&decide (n<256) | _=>false
def V8 (n:Nat) (H:List Blk):PV->Bool
 | .nsl=>true
 | .s (.str _)=>decide (n=1)
 | .s (.sl z _ kk _)=>decide (kk=n) || z
 | .fl b=>match H[b]? with | some (.arr v _ sz els)=>decide (sz=n) || (v&&els.isEmpty) | _=>false
 | .vw b _ _=>match H[b]? with | some (.arr v _ sz els)=>decide (sz=n) || (v&&els.isEmpty) | _=>false
 | _=>false
def Hk (H:List Blk):PV->Option (List (List SV))
 | .s (.str l)=>some (l.map I8)
 | v=>Aj H v
mutual
def PV.kill (b:Nat):PV->PV
 | .fl c=>if c=b then .bad else .fl c
 | .vw c i n=>if c=b then .bad else .vw c i n
 | .ptr c i o=>if c=b then .bad else .ptr c i o
 | .it c=>if c=b then .bad else .it c
 | .fnr f x y=>.fnr f (O2 b x) (O2 b y)
 | .agg l=>.agg (O2 b l)
 | .tup l=>.tup (O2 b l)
 | v=>v
def O2 (b:Nat):List PV->List PV
 | []=>[]
 | v::r=>v.kill b::O2 b r
end
def Yw (f:PV->PV) (l:List (List UInt8 × PV)):List (List UInt8 × PV):=l.map λe=>(e.1,f e.2)
def Blk.kill (b:Nat):Blk->Blk
 | .box cells=>.box (O2 b cells)
 | .mp ents=>.mp (Yw (PV.kill b) ents)
 | x=>x
def ltI (a b:Int):Bool:=match a,b with
 | .ofNat m,.ofNat n=>Nat.ble (m+1) n
 | .ofNat _,.negSucc _=>false
 | .negSucc _,.ofNat _=>true
 | .negSucc m,.negSucc n=>Nat.ble (n+1) m
theorem Q7 (a b:Int):ltI a b=decide (a<b):=by
 rw [Bool.eq_iff_iff]
 cases a with
 | ofNat m=>
  cases b with
  | ofNat n=>simp only [ltI,Nat.ble_eq,decide_eq_true_eq,Int.ofNat_eq_natCast];omega
  | negSucc n=>
   have:=Int.negSucc_lt_zero n
   simp only [ltI,Bool.false_eq_true,decide_eq_true_eq,Int.ofNat_eq_natCast,false_iff]
   omega
 | negSucc m=>
  cases b with
  | ofNat n=>
   have:=Int.negSucc_lt_zero m
   simp only [ltI,decide_eq_true_eq,Int.ofNat_eq_natCast,true_iff]
   omega
  | negSucc n=>simp only [ltI,Nat.ble_eq,decide_eq_true_eq,Int.negSucc_eq];omega
def Bf0 (op:BinOp) (k:IntKind) (a b:Int):Option PV:=
 match op with
 | .add=>some (.s (.int k (k.wrap (a+b))))
 | .sub=>some (.s (.int k (k.wrap (a-b))))
 | .mul=>some (.s (.int k (k.wrap (a*b))))
 | .and=>some (.s (.int k (k.wrap (BitVec.ofInt k.bits a &&& BitVec.ofInt k.bits b).toNat)))
 | .or=>some (.s (.int k (k.wrap (BitVec.ofInt k.bits a ||| BitVec.ofInt k.bits b).toNat)))
 | .xor=>some (.s (.int k (k.wrap (BitVec.ofInt k.bits a ^^^ BitVec.ofInt k.bits b).toNat)))
 | .andNot=>some (.s (.int k (k.wrap (BitVec.ofInt k.bits a &&& ~~~(BitVec.ofInt k.bits b)).toNat)))
 | .eql=>some (.s (.bool (a==b)))
 | .neq=>some (.s (.bool (a != b)))
 | .lss=>some (.s (.bool (ltI a b)))
 | .leq=>some (.s (.bool (!ltI b a)))
 | .gtr=>some (.s (.bool (ltI b a)))
 | .geq=>some (.s (.bool (!ltI a b)))
 | _=>none
def bytesLess:List UInt8->List UInt8->Bool
 | _,[]=>false
 | [],_::_=>true
 | a::x,b::y=>decide (a<b) || (a==b&&bytesLess x y)
def Bf1 (op:BinOp) (a b:List UInt8):Option PV:=
 match op with
 | .add=>some (.s (.str (a++b)))
 | .eql=>some (.s (.bool (a==b)))
 | .neq=>some (.s (.bool (!(a==b))))
 | .lss=>some (.s (.bool (bytesLess a b)))
 | .leq=>some (.s (.bool (bytesLess a b || a==b)))
 | .gtr=>some (.s (.bool (!(bytesLess a b || a==b))))
 | .geq=>some (.s (.bool (!bytesLess a b)))
 | _=>none
def Vp:PV->PV->Option Bool
 | .s (.bool a),.s (.bool b)=>some (a==b)
 | .s (.int k a),.s (.int k' b)=>if k=k' then some (a==b) else none
 | .s (.str a),.s (.str b)=>some (a==b)
 | _,_=>none
def H7:List PV->List PV->Option Bool
 | [],[]=>some true
 | a::x,b::y=>match Vp a b,H7 x y with
  | some p,some q=>some (p&&q)
  | _,_=>none
 | _,_=>none
def A24 (H:List Blk) (b:Nat):Option Bool:=match H[b]? with
 | some (.mp _)=>some false
 | some (.ms _ _)=>some false
 | _=>none
def A10 (H:List Blk) (sh:Sh) (x y:PV):Option Bool:=
 match sh,x,y with
 | .ptr _,.s .nilp,.s .nilp=>some true
 | .ptr _,.s .nilp,.s (.sp _ _ _)=>some false
 | .ptr _,.s (.sp _ _ _),.s .nilp=>some false
 | .ptr _,.s .nilp,.ptr _ _ _=>some false
 | .ptr _,.ptr _ _ _,.s .nilp=>some false
 | .fn,.s .nilf,.s .nilf=>some true
 | .fn,.s .nilf,.s (.fn _ _ _)=>some false
 | .fn,.s (.fn _ _ _),.s .nilf=>some false
 | .fn,.s .nilf,.fnr _ _ _=>some false
 | .fn,.fnr _ _ _,.s .nilf=>some false
 | .bool,.s (.bool a),.s (.bool b)=>some (a==b)
 | .map _ _,.s .nilm,.s .nilm=>some true
 | .map _ _,.s .nilm,.it b=>A24 H b
 | .map _ _,.it b,.s .nilm=>A24 H b
 | .slice _,x,.nsl=>WQ H x
 | .slice _,.nsl,y=>WQ H y
 | _,_,_=>none
def M5 (sz:Nat):Nat->List SV->List (List SV)
 | 0,_=>[]
 | n+1,l=>l.take sz::M5 sz n (l.drop sz)
section ops
variable {R : Type} (C : Cfg)
def XO (op:BinOp) (t:Nat) (x y:PV) (H:List Blk) (k:PV->Option R):Option R:=
 match op,x,y with
 | .shl,.s (.int kd a),.s (.int _ b)=>need (decide (0<=b)) (k (.s (.int kd (kd.wrap (a*2 ^ min b.toNat kd.bits)))))
 | .shr,.s (.int kd a),.s (.int _ b)=>need (decide (0<=b)) (k (.s (.int kd (a.fdiv (2 ^ min b.toNat kd.bits)))))
 | .quo,.s (.int kd a),.s (.int kd' b)=>need (decide (kd=kd')&&b != 0) (k (.s (.int kd (kd.wrap (a.tdiv b)))))
 | .rem,.s (.int kd a),.s (.int kd' b)=>need (decide (kd=kd')&&b != 0) (k (.s (.int kd (a.tmod b))))
 | op,.s (.int kd a),.s (.int kd' b)=>if kd=kd' then match Bf0 op kd a b with | some v=>k v | none=>none else none
 | .add,.s (.str a),.s (.str b)=>need (decide (a.length+b.length<4611686018427387904)) (k (.s (.str (a++b))))
 | op,.s (.str a),.s (.str b)=>match Bf1 op a b with | some v=>k v | none=>none
 | .eql,.agg x,.agg y=>if A09 C.P t&&(C.ti t).agg&&okP (C.ti t) x 0&&okP (C.ti t) y 0&&decide (x.length=(C.ti t).ks.length) then match H7 x y with | some b=>k (.s (.bool b)) | none=>none else none
 | .neq,.agg x,.agg y=>if A09 C.P t&&(C.ti t).agg&&okP (C.ti t) x 0&&okP (C.ti t) y 0&&decide (x.length=(C.ti t).ks.length) then match H7 x y with | some b=>k (.s (.bool (!b))) | none=>none else none
 | .eql,x,y=>match A10 H (C.sh t) x y with | some b=>k (.s (.bool b)) | none=>none
 | .neq,x,y=>match A10 H (C.sh t) x y with | some b=>k (.s (.bool (!b))) | none=>none
 | _,_,_=>none
def unK (op:UnOp) (x:PV) (k:PV->Option R):Option R:=
 match op,x with
 | .not,.s (.bool b)=>k (.s (.bool (!b)))
 | .neg,.s (.int kd n)=>k (.s (.int kd (kd.wrap (0-n))))
 | _,_=>none
def Jg (t:TI) (a:PV) (H:List Blk) (k:PV->Option R):Option R:=
 match a with
 | .ptr b i off=>match H[b]? with
  | some (.box cells)=>if i=0 then need (okP t cells off) (k (Gi t cells off)) else none
  | some (.arr _ _ sz els)=>
   if off+t.ks.length<=sz then need (decide (i<els.length)&&okS t (els.getD i []) off) (k (LP t (els.getD i []) off))
   else if i=0/\off=0 then need (decide (t.ks.length=els.length*sz)&&okS t els.flatten 0) (k (LP t els.flatten 0)) else none
  | _=>none
 | .s (.sp els i off)=>need (decide (i<els.length)&&okS t (els.getD i []) off) (k (LP t (els.getD i []) off))
 | _=>none
def Kv (f:Nat->Nat × Nat) (t:TI) (a v:PV) (H:List Blk) (k:List Blk->Option R):Option R:=
 if t.ok=true/\v.cells.length=t.ks.length/\v.cells.all PV.one=true then
  match a with
  | .ptr b i off=>match H[b]? with
   | some (.box cells)=>if i=0 then let (vs,H'):=D6 f v.cells 0 H;need (decide (off+t.ks.length<=cells.length)) (k (H'.set b (.box (D3 cells off vs)))) else none
   | some (.arr z e sz els)=>match Co v.cells with
    | some vs=>
     if off+t.ks.length<=sz then need (decide (i<els.length)) (k (H.set b (.arr z e sz (els.set i (D3 (els.getD i []) off vs)))))
     else if i=0/\off=0 then need (decide (t.ks.length=els.length*sz)) (k (H.set b (.arr z e sz (M5 sz els.length vs)))) else none
    | none=>none
   | _=>none
  | _=>none
 else none
def X6 (t:Nat) (x i:PV) (H:List Blk) (k:PV->Option R):Option R:=
 match i with
 | .s (.int _ n)=>match x with
  | .fl b=>match H[b]?,C.sh t with
   | some (.arr _ _ sz els),.slice e=>if (C.ti e).ok/\(C.ti e).ks.length=sz then need (decide (0<=n)&&decide (n<els.length)) (k (.ptr b n.toNat 0)) else none
   | _,_=>none
  | .vw b o m=>match H[b]?,C.sh t with
   | some (.arr _ _ sz _),.slice e=>if (C.ti e).ok/\(C.ti e).ks.length=sz then need (decide (0<=n)&&decide (n<m)) (k (.ptr b (o+n.toNat) 0)) else none
   | _,_=>none
  | .s (.sl _ _ kk els)=>match C.sh t with
   | .slice e=>if (C.ti e).ok/\(C.ti e).ks.length=kk then need (decide (0<=n)&&decide (n<els.length)) (k (.s (.sp els n.toNat 0))) else none
   | _=>none
  | .ptr b j off=>match C.sh t with
   | .array m e=>match H[b]? with
    | some (.arr _ _ sz _)=>if j=0/\off=0/\(C.ti e).ok/\sz=(C.ti e).ks.length then need (decide (0<=n)&&decide (n<m)) (k (.ptr b n.toNat 0)) else none
    | some (.box _)=>if (C.ti e).ok then need (decide (0<=n)&&decide (n<m)) (k (.ptr b j (off+n.toNat*(C.ti e).ks.length))) else none
    | _=>none
   | _=>none
  | .s (.sp els j off)=>match C.sh t with
   | .array m e=>if (C.ti e).ok then need (decide (0<=n)&&decide (n<m)) (k (.s (.sp els j (off+n.toNat*(C.ti e).ks.length)))) else none
   | _=>none
  | _=>none
 | _=>none
def Ps (t:Nat) (x i:PV) (k:PV->Option R):Option R:=
 match i with
 | .s (.int _ n)=>match x with
  | .s (.str l)=>match C.sh t with
   | .str=>need (decide (0<=n)&&decide (n<l.length)) (k (.s (.int .u8 (l.getD n.toNat 0).toNat)))
   | _=>none
  | .agg cells=>match C.sh t with
   | .array m e=>need (decide (0<=n)&&decide (n<m)&&okP (C.ti e) cells (n.toNat*(C.ti e).ks.length)) (k (Gi (C.ti e) cells (n.toNat*(C.ti e).ks.length)))
   | _=>none
  | _=>none
 | _=>none
def Oo (len:Nat):Option PV->Option Int
 | none=>some len
 | some (.s (.int _ n))=>some n
 | _=>none
def Ac (t:Nat) (H:List Blk) (x:PV):Bool:=
 match x with
 | .s (.str _)=>match C.sh t with | .str=>true | _=>false
 | .nsl=>match C.sh t with | .slice e=>(C.ti e).ok | _=>false
 | .s (.sl _ _ kk _)=>match C.sh t with | .slice e=>(C.ti e).ok&&decide ((C.ti e).ks.length=kk) | _=>false
 | .fl b=>match H[b]?,C.sh t with | some (.arr _ _ sz _),.slice e=>(C.ti e).ok&&decide ((C.ti e).ks.length=sz) | _,_=>false
 | .vw b _ _=>match H[b]?,C.sh t with | some (.arr _ _ sz _),.slice e=>(C.ti e).ok&&decide ((C.ti e).ks.length=sz) | _,_=>false
 | _=>false
def Ql (t:Nat) (x:PV) (lo hi mx:Option PV) (H:List Blk) (k:PV->Option R):Option R:=
 if Ac C t H x then match X9 H x with
 | none=>none
 | some len=>match Oo 0 lo,Oo len hi with
  | some l,some h=>match mx with
   | none=>need (decide (0<=l)&&decide (l<=h)&&decide (h<=len)) (match x with
    | .s (.str s)=>k (.s (.str ((s.take h.toNat).drop l.toNat)))
    | .s (.sl z _ kk els)=>k (.s (.sl z z kk ((els.take h.toNat).drop l.toNat)))
    | .nsl=>k .nsl
    | .fl b=>k (.vw b l.toNat (h.toNat-l.toNat))
    | .vw b i _=>k (.vw b (i+l.toNat) (h.toNat-l.toNat))
    | _=>none)
   | some (.s (.int _ m))=>need (decide (0<=l)&&decide (l<=h)&&decide (h=m)&&decide (m<=len)) (match x with
    | .s (.sl z _ kk els)=>k (.s (.sl z true kk ((els.take h.toNat).drop l.toNat)))
    | .nsl=>k .nsl
    | _=>none)
   | _=>none
  | _,_=>none else none
def Bk (b n:Nat) (lo hi mx:Option PV) (k:PV->Option R):Option R:=
 match Oo 0 lo,Oo n hi,mx with
 | some l,some h,none=>need (decide (0<=l)&&decide (l<=h)&&decide (h<=n)) (k (.vw b l.toNat (h.toNat-l.toNat)))
 | _,_,_=>none
def Ad0 (t:Nat):Nat:=if (C.ti t).ok then (C.ti t).ks.length else 0
def Ag (e:Nat):Bool:=match C.sh e with | .array _ _=>true | _=>false
def Q5 (n:Nat):Bool:=decide (n<=68719476736)
def Aq (t:Nat) (sl:List PV) (s x:PV) (H:List Blk) (k:PV->List PV->List Blk->Option R):Option R:=
 match C.sh t with
 | .slice e=>if (C.ti e).ok&&V8 (C.ti e).ks.length H x then match Hk H x with
  | some news=>match s with
   | .nsl=>need (Q5 news.length) (k (.fl H.length) sl (H++[.arr true e (C.ti e).ks.length news]))
   | .s (.sl z true kk els)=>if kk=(C.ti e).ks.length then need ((z || !news.isEmpty)&&Q5 (els.length+news.length)) (k (.fl H.length) sl (H++[.arr z e (C.ti e).ks.length (els++news)])) else none
   | .fl b=>match H[b]? with
    | some (.arr v e' sz els)=>if !Ag C e'&&(decide (e'=e/\sz=(C.ti e).ks.length) || (v&&els.isEmpty)) then need (Q5 (els.length+news.length)) (k (.fl b) (O2 b sl) ((H.map (Blk.kill b)).set b (.arr v e (C.ti e).ks.length (els++news)))) else none
    | _=>none
   | _=>none
  | none=>none else none
 | _=>none
def AR (t:Nat) (d x:PV) (H:List Blk) (k:PV->List Blk->Option R):Option R:=
 match C.sh t with
 | .slice e=>if (C.ti e).ok&&V8 (C.ti e).ks.length H x&&V8 (C.ti e).ks.length H d then match Hk H x with
  | some news=>match d with
   | .fl b=>match H[b]? with
    | some (.arr v e' sz els)=>k (.s (.int .i64 ((min news.length els.length:Nat):Int))) (H.set b (.arr v e' sz (news.take els.length++els.drop (min news.length els.length))))
    | _=>none
   | .vw b i n=>match H[b]? with
    | some (.arr v e' sz els)=>need (decide (i+n<=els.length)) (k (.s (.int .i64 ((min news.length n:Nat):Int))) (H.set b (.arr v e' sz (els.take i++(news.take n++els.drop (i+min news.length n))))))
    | _=>none
   | .nsl=>k (.s (.int .i64 0)) H
   | _=>none
  | none=>none else none
 | _=>none
def Pf (t:Nat) (x:PV) (H:List Blk) (k:List Blk->Option R):Option R:=
 match C.sh t with
 | .slice e=>if (C.ti e).ok&&V8 (C.ti e).ks.length H x then match Co ((C.ti e).ks.map J8) with
  | some z=>match x with
   | .fl b=>match H[b]? with
    | some (.arr v e' sz els)=>k (H.set b (.arr v e' sz (List.replicate els.length z)))
    | _=>none
   | .vw b i n=>match H[b]? with
    | some (.arr v e' sz els)=>need (decide (i+n<=els.length)) (k (H.set b (.arr v e' sz (els.take i++(List.replicate n z++els.drop (i+n))))))
    | _=>none
   | .nsl=>k H
   | _=>none
  | none=>none else none
 | _=>none
def AQ (src dst:Nat) (x:PV) (H:List Blk) (k:PV->Option R):Option R:=
 match C.sh src,C.sh dst,x with
 | .int _,.int kd,.s (.int _ n)=>k (.s (.int kd (kd.wrap n)))
 | .str,.str,.s (.str l)=>k (.s (.str l))
 | .int _,.str,.s (.int _ n)=>k (.s (.str (Utf8.encode n).data.toList))
 | .slice e,.str,v=>match C.sh e,Aj H v with
  | .int .u8,some els=>need (els.all RM) (k (.s (.str (els.map KD))))
  | _,_=>none
 | _,_,_=>none
def Ov (src dst:Nat) (x:PV) (k:PV->Option R):Option R:=
 match C.sh src,C.sh dst,x with
 | .str,.slice e,.s (.str l)=>match C.sh e with
  | .int .u8=>need (Q5 l.length) (k (.s (.sl false false 1 (l.map I8))))
  | _=>none
 | _,_,_=>none
def ZF (x:PV) (t:Nat) (H:List Blk) (k:PV->Option R):Option R:=
 match C.sh t,x with
 | .array n _,_=>k (.s (.int .i64 n))
 | .str,.s (.str l)=>k (.s (.int .i64 l.length))
 | .slice _,.s (.str _)=>none
 | .slice _,x=>match X9 H x with
  | some n=>k (.s (.int .i64 n))
  | none=>none
 | .map _ _,.s .nilm=>k (.s (.int .i64 0))
 | .map _ _,.it b=>match H[b]? with
  | some (.mp ents)=>k (.s (.int .i64 ents.length))
  | some (.ms _ ents)=>k (.s (.int .i64 ents.length))
  | _=>none
 | _,_=>none
section maps
variable {α : Type}
def U9:List (List UInt8 × α)->List UInt8->Bool
 | [],_=>false
 | e::r,q=>cond (q==e.1) true (U9 r q)
def T7 (d:α):List (List UInt8 × α)->List UInt8->α
 | [],_=>d
 | e::r,q=>cond (q==e.1) e.2 (T7 d r q)
def Cg:List (List UInt8 × α)->List UInt8->α->List (List UInt8 × α)
 | [],q,v=>[(q,v)]
 | e::r,q,v=>cond (q==e.1) ((e.1,v)::r) (e::Cg r q v)
def De:List (List UInt8 × α)->List UInt8->List (List UInt8 × α)
 | [],_=>[]
 | e::r,q=>cond (q==e.1) r (e::De r q)
end maps
def PV.isAgg:PV->Bool
 | .agg _=>true
 | _=>false
def okV (t:TI) (v:PV):Bool:=(v.isAgg==t.agg)&&(Nat.beq v.cells.length t.ks.length&&okP t v.cells 0)
def asV (t:TI) (v:PV):PV:=Gi t v.cells 0
def Sg (t:TI):PV:=if t.agg then .agg (t.ks.map J8) else match t.ks with
 | [c]=>J8 c
 | _=>.bad
def CK.scal:CK->Bool
 | .bool=>true
 | .int _=>true
 | .str=>true
 | _=>false
def svV (a:Bool) (l:List SV):PV:=cond a (.agg (l.map .s)) (match l with
 | [x]=>.s x
 | _=>.bad)
def msP (a:Bool) (l:List (List UInt8 × List SV)):List (List UInt8 × PV):=l.map λe=>(e.1,svV a e.2)
def A84 (h:Bool) (x:SV):CK->PV
 | .bool=>.s (.bool (h&&x.gB))
 | .int k=>.s (.int k (cond h x.gI 0))
 | .str=>.s (.str (cond h x.gS []))
 | _=>.bad
def IF (t:TI) (h:Bool) (l:List SV):PV:=
 if t.agg then .agg (t.ks.zipIdx.map λ(c,j)=>A84 h (l.getD j .nilp) c)
 else match t.ks with
  | [c]=>A84 h (l.getD 0 .nilp) c
  | _=>.bad
def Bh8 (t:TI) (l:List SV):Bool:=Nat.beq l.length t.ks.length&&t.ks.zipIdx.all λ(c,j)=>(l.getD j .nilp).has c
def plC (a:Bool) (v:PV):Option (List SV):=match a,v with
 | true,.agg l=>Co l
 | false,.s x=>some [x]
 | _,_=>none
def Rl:Bool->PV->Bool->PV
 | true,v,b=>.tup [v,.s (.bool b)]
 | false,v,_=>v
def IQ (t:Nat):Bool:=match (C.P.info? t).map TypeInfo.zero with
 | some (some (.agg _))=>(C.ti t).agg
 | some (some _)=>!(C.ti t).agg
 | _=>false
def Ew (t:Nat) (H:List Blk) (k:PV->List Blk->Option R):Option R:=
 match C.sh t with
 | .map kt e=>match C.sh kt with
  | .str=>k (.it H.length) (H++[cond ((C.ti e).ks.all CK.scal) (.ms (C.ti e).agg []) (.mp [])])
  | _=>none
 | _=>none
def Im (t:Nat) (x i:PV) (ok:Bool) (H:List Blk) (k:PV->Option R):Option R:=
 match C.sh t,i with
 | .map kt e,.s (.str q)=>match C.sh kt with
  | .str=>if (C.ti e).ok&&IQ C e then match x with
   | .s .nilm=>k (Rl ok (Sg (C.ti e)) false)
   | .it b=>match H[b]? with
    | some (.ms a ents)=>if (C.ti e).ks.all CK.scal&&(a==(C.ti e).agg) then need (!(U9 ents q) || Bh8 (C.ti e) (T7 [] ents q)) (k (Rl ok (IF (C.ti e) (U9 ents q) (T7 [] ents q)) (U9 ents q))) else none
    | some (.mp ents)=>Ai (U9 ents q) λh=>cond h (need (okV (C.ti e) (T7 .bad ents q)) (k (Rl ok (asV (C.ti e) (T7 .bad ents q)) true))) (k (Rl ok (Sg (C.ti e)) false))
    | _=>none
   | _=>none else none
  | _=>none
 | _,_=>none
def Ip (t:Nat) (m x v:PV) (H:List Blk) (k:List Blk->Option R):Option R:=
 match C.sh t,m,x with
 | .map kt _,.it b,.s (.str q)=>match C.sh kt,H[b]? with
  | .str,some (.ms a ents)=>match plC a v with
   | some l=>k (H.set b (.ms a (Cg ents q l)))
   | none=>none
  | .str,some (.mp ents)=>k (H.set b (.mp (Cg ents q v)))
  | _,_=>none
 | _,_,_=>none
def Io (t:Nat) (m x:PV) (H:List Blk) (k:List Blk->Option R):Option R:=
 match C.sh t,x with
 | .map kt _,.s (.str q)=>match C.sh kt,m with
  | .str,.s .nilm=>k H
  | .str,.it b=>match H[b]? with
   | some (.ms a ents)=>k (H.set b (.ms a (De ents q)))
   | some (.mp ents)=>k (H.set b (.mp (De ents q)))
   | _=>none
  | _,_=>none
 | _,_=>none
def W7 (place:Nat->Option (Nat × Nat)):List PV->List (Nat × PV)->Option (List PV)
 | cells,[]=>some cells
 | cells,(i,v)::r=>match place i with
  | some (off,size)=>if v.cells.length=size&&decide (0<size)&&decide (off+v.cells.length<=cells.length) then W7 place (D3 cells off v.cells) r else none
  | none=>none
def Ou (t:Nat) (parts:List (Nat × PV)) (k:PV->Option R):Option R:=
 let zero:=(C.ti t).ks.map J8
 if (C.ti t).ok then match C.sh t with
 | .struct fs=>match W7 (λi=>(fs[i]?).map λp=>(p.1,Ad0 C p.2)) zero parts with
  | some cells=>k (.agg cells)
  | none=>none
 | .array _ e=>match W7 (λi=>some (i*Ad0 C e,Ad0 C e)) zero parts with
  | some cells=>k (.agg cells)
  | none=>none
 | _=>none else none
def T0 (t len:Nat) (parts:List (Nat × PV)) (H:List Blk) (k:PV->List Blk->Option R):Option R:=
 match C.sh t with
 | .slice e=>
  let sz:=(C.ti e).ks.length
  if (C.ti e).ok&&decide (len*sz<=16777216)&&decide (len<=16777216) then match W7 (λi=>some (i*sz,sz)) ((List.replicate len ((C.ti e).ks.map J8)).flatten) parts with
  | some cells=>match Co cells with
   | some vs=>k (.fl H.length) (H++[.arr false e sz (M5 sz len vs)])
   | none=>none
  | none=>none else none
 | _=>none
def M6 (t len:Nat) (parts:List (Nat × PV)) (k:PV->Option R):Option R:=
 match C.sh t with
 | .slice e=>
  let sz:=(C.ti e).ks.length
  if (C.ti e).ok&&decide (len*sz<=16777216)&&decide (len<=16777216) then match W7 (λi=>some (i*sz,sz)) ((List.replicate len ((C.ti e).ks.map J8)).flatten) parts with
  | some cells=>match Co cells with
   | some vs=>need (Nat.ble 1 len) (k (.s (.sl false true sz (M5 sz len vs))))
   | none=>none
  | none=>none else none
 | _=>none
def Y0 (t:Nat) (l c:PV) (H:List Blk) (k:PV->List Blk->Option R):Option R:=
 match C.sh t,l,c with
 | .slice e,.s (.int _ n),.s (.int _ m)=>
  if (C.ti e).ok then match Co ((C.ti e).ks.map J8) with
  | some z=>need (decide (0<=n)&&decide (n<=m)&&Q5 m.toNat) (k (.fl H.length) (H++[.arr false e (C.ti e).ks.length (List.replicate n.toNat z)]))
  | none=>none else none
 | _,_,_=>none
def Fx (mx:Bool):List PV->(PV->Option R)->Option R
 | [.s (.int kd a),.s (.int kd' b)],k=>if kd=kd' then k (.s (.int kd (cond mx (if b > a then b else a) (if b<a then b else a)))) else none
 | _,_=>none
def X3 (t:Nat) (x:PV) (f:Nat) (k:PV->Option R):Option R:=
 match C.sh t with
 | .struct fs=>match fs[f]?,x with
  | some (o,u),.ptr b i off=>if (C.ti u).ok then k (.ptr b i (off+o)) else none
  | some (o,u),.s (.sp els i off)=>if (C.ti u).ok then k (.s (.sp els i (off+o))) else none
  | _,_=>none
 | _=>none
def Pm (t:Nat) (x:PV) (f:Nat) (k:PV->Option R):Option R:=
 match C.sh t,x with
 | .struct fs,.agg cells=>match fs[f]? with
  | some (o,u)=>need (okP (C.ti u) cells o) (k (Gi (C.ti u) cells o))
  | none=>none
 | _,_=>none
end ops
structure St (σ:Type) where
 sl:List PV
 hp:List Blk
 s:σ
inductive Out where
 | normal
 | exit (id:Nat)
 | ret
 deriving DecidableEq,Inhabited
def G8 (dst:Option Nat) (v:PV) (sl:List PV):List PV:=
 match dst with
 | some d=>sl.set d v
 | none=>sl
mutual
def PV.nms:PV->List Nat
 | .fl b=>[b]
 | .vw b _ _=>[b]
 | .ptr b _ _=>[b]
 | .it b=>[b]
 | .fnr _ x y=>B3 x++B3 y
 | .agg l=>B3 l
 | .tup l=>B3 l
 | _=>[]
def B3:List PV->List Nat
 | []=>[]
 | v::r=>v.nms++B3 r
end
mutual
def PV.rn (f:Nat->Nat):PV->PV
 | .fl b=>.fl (f b)
 | .vw b i n=>.vw (f b) i n
 | .ptr b i o=>.ptr (f b) i o
 | .it b=>.it (f b)
 | .fnr g x y=>.fnr g (rnL f x) (rnL f y)
 | .agg l=>.agg (rnL f l)
 | .tup l=>.tup (rnL f l)
 | v=>v
def rnL (f:Nat->Nat):List PV->List PV
 | []=>[]
 | v::r=>v.rn f::rnL f r
end
def Blk.nms:Blk->List Nat
 | .box cells=>B3 cells
 | .mp ents=>B3 (ents.map Prod.snd)
 | _=>[]
def Blk.rn (f:Nat->Nat):Blk->Blk
 | .box cells=>.box (rnL f cells)
 | .mp ents=>.mp (Yw (PV.rn f) ents)
 | b=>b
def Ad (l:List Nat) (b:Nat):List Nat:=if l.contains b then l else l++[b]
def Xh (H:List Blk) (l:List Nat):List Nat:=l.foldl (λacc b=>((H.getD b .dead).nms).foldl Ad acc) l
def IA (H:List Blk):Nat->List Nat->List Nat
 | 0,l=>l
 | n+1,l=>cond (Nat.beq (Xh H l).length l.length) l (IA H n (Xh H l))
def W8 (H:List Blk) (l:List Nat):List Nat:=IA H 30 (l.foldl Ad [])
def Z7 (H:List Blk) (ns:List Nat):Bool:=ns.all λb=>((H.getD b .dead).nms).all λc=>ns.contains c
mutual
def PV.snap (H:List Blk):PV->PV
 | .nsl=>.s (.sl true true 0 [])
 | .fl b=>match H[b]? with | some (.arr v _ sz els)=>.s (.sl (v&&els.isEmpty) (v&&els.isEmpty) sz els) | _=>.bad
 | .vw b i n=>match H[b]? with | some (.arr v _ sz els)=>.s (.sl (v&&els.isEmpty) (v&&els.isEmpty) sz ((els.drop i).take n)) | _=>.bad
 | .agg l=>.agg (I1 H l)
 | v=>v
def I1 (H:List Blk):List PV->List PV
 | []=>[]
 | v::r=>v.snap H::I1 H r
end
def PV.snapP (H:List Blk):PV->PV
 | .ptr b 0 off=>match H[b]? with
  | some (.box cells)=>match Co (I1 H cells) with
   | some vs=>.s (.sp [vs] 0 off)
   | none=>.ptr b 0 off
  | _=>.ptr b 0 off
 | v=>v.snap H
def PV.snapA (H:List Blk):PV->PV
 | .fnr f x y=>match Co (x.map (PV.snapP H)),Co (y.map (PV.snapP H)) with
  | some a,some b=>.s (.fn f a b)
  | _,_=>.fnr f x y
 | v=>v.snapP H
def argX (H:List Blk) (args:List PV):List PV:=cond (B3 (I1 H args)).isEmpty (I1 H args) (args.map (PV.snapA H))
mutual
def PV.rows:PV->Bool
 | .fl _=>true
 | .vw _ _ _=>true
 | .agg l=>Rx l
 | _=>false
def Rx:List PV->Bool
 | []=>false
 | v::r=>v.rows || Rx r
end
def Qc (H:List Blk) (args:List PV):Bool:=(B3 (I1 H args)).isEmpty && !Rx args
mutual
def PV.clean:PV->Bool
 | .s (.sl _ _ _ _)=>false
 | .s (.sp _ _ _)=>false
 | .s (.fn _ _ _)=>false
 | .s _=>true
 | .fnr _ x y=>Ea x&&Ea y
 | .agg l=>Ea l
 | .tup l=>Ea l
 | .yd=>false
 | _=>true
def Ea:List PV->Bool
 | []=>true
 | v::r=>v.clean&&Ea r
end
def SV.plain:SV->Bool
 | .sl _ _ _ _=>false
 | .sp _ _ _=>false
 | .fn _ _ _=>false
 | _=>true
def Blk.clean:Blk->Bool
 | .arr _ _ _ els=>els.all λel=>el.all SV.plain
 | .box cells=>Ea cells
 | .mp ents=>Ea (ents.map Prod.snd)
 | .ms _ ents=>ents.all λe=>e.2.all SV.plain
 | _=>true
def PV.low (H:List Blk) (L:Nat):PV->PV
 | .fl b=>if b<L then .fl b else (PV.fl b).snap H
 | .vw b i n=>if b<L then .vw b i n else (PV.vw b i n).snap H
 | .s v=>.s v
 | .nsl=>.nsl
 | .yd=>.yd
 | .ptr b i o=>if b<L then .ptr b i o else .bad
 | .it b=>if b<L then .it b else .bad
 | v=>if v.nms.all (· < L) then v else .bad
def ZM (L:Nat) (H:List Blk):Bool:=H.all λb=>b.nms.all (· < L)
def P5 {σ:Type} (L:Nat) (st:St σ):St σ:=
 if ZM L (st.hp.take L) then { sl:=st.sl.map (PV.low st.hp L),hp:=st.hp.take L,s:=st.s } else st
abbrev Yh (σ:Type):=List PV->σ->Option (Bool × σ)
abbrev D0:=∀ (σ:Type),Yh σ->Nat->List PV->List Blk->σ->Option (PV × List Blk × σ)
def Au:List Nat->List PV->List PV
 | _,[]=>[]
 | [],_::l=>.bad::Au [] l
 | 0::g,v::l=>v::Au g l
 | (n+1)::g,_::l=>.bad::Au (n::g) l
def Fr {σ:Type} (ds:Option (List Nat)) (st:St σ):St σ:=match ds with
 | some g=>{ sl:=Au g st.sl,hp:=st.hp,s:=st.s }
 | none=>st
def UU:List Nat->Nat->Nat
 | [],m=>m
 | b::r,m=>UU r (cond (Nat.ble m b) (b+1) m)
def Ad8:List Blk->Nat->Nat
 | [],m=>m
 | b::r,m=>Ad8 r (UU b.nms m)
def At6 {σ:Type} (m:Nat) (st:St σ):St σ:=cond (Nat.ble (m+1) st.hp.length) (P5 m st) st
def Bp5 {σ:Type} (L:Nat) (st:St σ):St σ:=At6 (Ad8 st.hp (UU (B3 st.sl) L)) st
def Ma {σ:Type} (ds:Option (List Nat)) (L:Nat) (st:St σ):St σ:=match ds with
 | some g=>Bp5 L { sl:=Au g st.sl,hp:=st.hp,s:=st.s }
 | none=>st
def H4 {σ R:Type} (L:Nat) (ds:Option (List Nat)) (body:St σ->(Out->St σ->Option R)->Option R):Nat->St σ->(Out->St σ->Option R)->Option R
 | 0,_,_=>none
 | n+1,st,k=>body st λo st'=>match o with
  | .normal=>H4 L ds body n (Fr ds (P5 L st')) k
  | o=>k o (Fr ds st')
def KM:Code->Nat
 | .region id _ _=>id
 | .seq (.label _) b=>KM b
 | .seq a _=>KM a
 | .scope a=>KM a
 | .block _ a=>KM a
 | .loop a=>KM a
 | _=>0
def D8 (ns:List Nat) (b:Nat):Nat:=ns.idxOf b
def Fj (ns:List Nat) (L:Nat) (i:Nat):Nat:=if i<ns.length then ns.getD i 0 else L+(i-ns.length)
def N2:List Blk->List Nat->List Blk->List Blk
 | H,b::bs,x::xs=>N2 (H.set b x) bs xs
 | H,_,_=>H
section calls
variable {σ R : Type} (C : Cfg)
def Z9:Blk->Bool
 | .arr _ e _ _=>Ag C e
 | _=>true
def F7 (ks:List Nat) (sl:List PV):List PV:=ks.foldl (λsl b=>O2 b sl) sl
def J7 (ks:List Nat) (H:List Blk):List Blk:=ks.foldl (λH b=>H.map (Blk.kill b)) H
def Cp (H:List Blk) (ns:List Nat) (ret:PV) (Hc:List Blk):PV × List Blk:=
 (ret.rn (Fj ns H.length),
  cond ((ret.rn (Fj ns H.length)).nms.all (· < H.length)&&ZM H.length ((Hc.take ns.length).map (Blk.rn (Fj ns H.length))))
  (N2 H ns ((Hc.take ns.length).map (Blk.rn (Fj ns H.length))))
  (N2 H ns ((Hc.take ns.length).map (Blk.rn (Fj ns H.length)))++(Hc.drop ns.length).map (Blk.rn (Fj ns H.length))))
def Aw3 (C:Cfg) (g:Nat) (args:List PV):Option ((SV->List (List SV)->Bool × List (List SV)) × Nat × SV):=match C.Z g,args with
 | some pf,[.fl b,.s x]=>match x with
  | .nilp=>none
  | x=>some (pf,b,x)
 | some pf,[.fl b]=>some (pf,b,.nilp)
 | _,_=>none
def Lg (cl:D0) (yh:Yh σ) (g:Nat) (args:List PV) (st:St σ) (k:PV->St σ->Option R):Option R:=
 match C.X g with
 | some pf=>
  if (B3 (argX st.hp args)).isEmpty then An (cond (C.xp g) (Iw (pf (argX st.hp args))) (pf (argX st.hp args))) λret Hc=>
   need (Qc st.hp args || (ret.clean&&Hc.all Blk.clean)) (k (ret.rn (st.hp.length + ·)) { sl:=st.sl,hp:=st.hp++Hc.map (Blk.rn (st.hp.length + ·)),s:=st.s })
  else none
 | none=>match Aw3 C g args with
 | some (pf,b,x)=>match st.hp[b]? with
  | some (.arr v e sz els)=>need (pf x els).1 (k (.tup []) { sl:=st.sl,hp:=st.hp.set b (.arr v e sz (pf x els).2),s:=st.s })
  | _=>none
 | none=>
  if C.lend g || !Rx args then
   let a1:=cond (C.lend g) args (I1 st.hp args)
   let ns:=W8 st.hp (B3 a1)
   if Z7 st.hp ns then
    match C.Y g with
    | some pf=>An (pf (rnL (D8 ns) a1) (ns.map λb=>(st.hp.getD b .dead).rn (D8 ns))) λret Hc=>k (Cp (J7 (ns.filter λb=>!Z9 C (st.hp.getD b .dead)) st.hp) ns ret Hc).1
      { sl:=F7 (ns.filter λb=>!Z9 C (st.hp.getD b .dead)) st.sl,hp:=(Cp (J7 (ns.filter λb=>!Z9 C (st.hp.getD b .dead)) st.hp) ns ret Hc).2,s:=st.s }
    | none=>match cl σ yh g (rnL (D8 ns) a1) (ns.map λb=>(st.hp.getD b .dead).rn (D8 ns)) st.s with
     | some (ret,Hc,s')=>k (Cp (J7 (ns.filter λb=>!Z9 C (st.hp.getD b .dead)) st.hp) ns ret Hc).1
       { sl:=F7 (ns.filter λb=>!Z9 C (st.hp.getD b .dead)) st.sl,hp:=(Cp (J7 (ns.filter λb=>!Z9 C (st.hp.getD b .dead)) st.hp) ns ret Hc).2,s:=s' }
     | none=>none
   else none
  else if (B3 (I1 st.hp args)).isEmpty then
   match cl Unit (λ_ _=>none) g (I1 st.hp args) [] () with
   | some (ret,Hc,_)=>if ret.clean then need (Hc.all Blk.clean) (k (ret.rn (st.hp.length + ·)) { sl:=st.sl,hp:=st.hp++Hc.map (Blk.rn (st.hp.length + ·)),s:=st.s }) else none
   | none=>none
  else none
def Eh:List PV->Bool
 | []=>true
 | .s _::r=>Eh r
 | .agg l::r=>(Co l).isSome&&Eh r
 | _::_=>false
def ydK (x:Option (Bool × σ)) (k:Bool->σ->Option R):Option R:=match x with
 | some (b,s')=>k b s'
 | none=>none
def Qv (cl:D0) (yh:Yh σ) (f:PV) (args:List PV) (st:St σ) (k:PV->St σ->Option R):Option R:=
 match f with
 | .s (.fn (.func g) first caps)=>Lg C cl yh g (first.map .s++args++caps.map .s) st k
 | .fnr (.func g) first caps=>Lg C cl yh g (first++args++caps) st k
 | .yd=>if Eh args then ydK (yh args st.s) λb s'=>k (.s (.bool b)) { sl:=st.sl,hp:=st.hp,s:=s' } else none
 | _=>none
def Hn {α β:Type} (f:α->β):Option α->Option β
 | some a=>some (f a)
 | none=>none
def BE:Sh->Bool
 | .str=>true
 | .slice _=>true
 | _=>false
def Z6 (b:Builtin) (ts:List Nat) (args:List PV) (st:St σ) (k:PV->St σ->Option R):Option R:=
 match b,ts,args with
 | .len,t::_,[x]=>ZF C x t st.hp λv=>k v st
 | .append,[t,u],[s,x]=>if BE (C.sh u) then Aq C t st.sl s x st.hp λv sl' H'=>k v { st with sl:=sl',hp:=H' } else none
 | .copy,[t,_],[d,x]=>AR C t d x st.hp λv H'=>k v { st with hp:=H' }
 | .min,_,args=>Fx false args λv=>k v st
 | .max,_,args=>Fx true args λv=>k v st
 | .clear,[t],[x]=>Pf C t x st.hp λH'=>k (.tup []) { st with hp:=H' }
 | .delete,t::_,[m,x]=>Io C t m x st.hp λH'=>k (.tup []) { st with hp:=H' }
 | _,_,_=>none
def Oq (e:Nat) (cells:List PV) (H:List Blk) (k:PV->List Blk->Option R):Option R:=
 if (C.ti e).ok then match C.sh e with
 | .array n el=>match Co cells with
  | some vs=>if cells.length=n*(C.ti el).ks.length then k (.ptr H.length 0 0) (H++[.arr false e (C.ti el).ks.length (M5 (C.ti el).ks.length n vs)]) else none
  | none=>none
 | _=>
  k (.ptr (D6 (C.nilT e) cells 0 H).2.length 0 0) ((D6 (C.nilT e) cells 0 H).2++[.box (D6 (C.nilT e) cells 0 H).1])
 else none
def SU (x:PV):Bool:=
 match x with
 | .ptr _ _ _=>true
 | .s (.sp _ _ _)=>true
 | .s (.fn (.func _) _ _)=>true
 | .fnr (.func _) _ _=>true
 | _=>false
def Aq1 (f:Fn) (x y:List PV):PV:=
 match Co x,Co y with
 | some a,some b=>.s (.fn f a b)
 | _,_=>.fnr f x y
def nilT (t:Nat):Nat × Nat:=match C.sh t with
 | .slice e=>(e,(C.ti e).ks.length)
 | _=>(0,0)
def opK (cl:D0) (yh:Yh σ) (o:Oper) (st:St σ) (k:St σ->Option R):Option R:=
 let ρ:=opnd C st.sl
 let r1 (v:PV):Option R:=k { st with sl:=G8 o.dst v st.sl }
 let r2 (v:PV) (H:List Blk):Option R:=k { st with sl:=G8 o.dst v st.sl,hp:=H }
 match o.op with
 | .move x=>r1 (ρ x)
 | .assign x=>match ρ x with
  | .nsl=>r2 (.fl st.hp.length) (st.hp++[.arr true (nilT C o.type).1 (nilT C o.type).2 []])
  | v=>r1 v
 | .pick c a b=>match ρ c with
  | .s (.bool t)=>Ai t λt=>r1 (cond t (ρ a) (ρ b))
  | _=>none
 | .alloc e=>Oq C e ((C.ti e).ks.map J8) st.hp r2
 | .box e x=>if (ρ x).cells.length=(C.ti e).ks.length then Oq C e (ρ x).cells st.hp r2 else none
 | .build t parts=>Ou C t (parts.toList.map λ(i,x)=>(i,ρ x)) r1
 | .buildSlice t len parts=>cond (C.stab t) (M6 C t len (parts.toList.map λ(i,x)=>(i,ρ x)) r1) (T0 C t len (parts.toList.map λ(i,x)=>(i,ρ x)) st.hp r2)
 | .load t a=>Jg (C.ti t) (ρ a) st.hp r1
 | .store t a x=>Kv (C.nilT (1000000+t)) (C.ti t) (ρ a) (ρ x) st.hp λH=>r2 (.tup []) H
 | .nilCheck x=>if SU (ρ x) then r1 (ρ x) else none
 | .binOp op t x y _=>XO C op t (ρ x) (ρ y) st.hp r1
 | .unOp op _ x=>unK op (ρ x) r1
 | .convert src dst x=>match C.sh dst with
  | .slice _=>Ov C src dst (ρ x) r1
  | _=>AQ C src dst (ρ x) st.hp r1
 | .makeFunc (.func g) x y=>r1 (Aq1 (.func g) (x.toList.map ρ) (y.toList.map ρ))
 | .makeSlice t l c=>Y0 C t (ρ l) (ρ c) st.hp r2
 | .slice t x lo hi mx=>match C.sh t,ρ x with
  | .array n e,.ptr b 0 0=>match st.hp[b]? with
   | some (.arr _ _ sz els)=>if (C.ti e).ok/\(C.ti e).ks.length=sz/\0<n/\n<=65536 then need (decide (els.length=n)) (Bk b n (Hn ρ lo) (Hn ρ hi) (Hn ρ mx) r1) else none
   | _=>none
  | _,v=>if mx.isSome=true->hi.isSome=true then Ql C t v (Hn ρ lo) (Hn ρ hi) (Hn ρ mx) st.hp r1 else none
 | .fieldAddr t x f=>X3 C t (ρ x) f r1
 | .field t x f=>Pm C t (ρ x) f r1
 | .indexAddr t x i=>X6 C t (ρ x) (ρ i) st.hp r1
 | .index t x i=>Ps C t (ρ x) (ρ i) r1
 | .range t x=>match ρ x with
  | .s (.str l)=>match C.sh t with
   | .str=>r2 (.it st.hp.length) (st.hp++[.iter l 0])
   | _=>none
  | _=>none
 | .next it true=>match ρ it with
  | .it b=>match st.hp[b]? with
   | some (.iter l p)=>Ai (decide (p<l.length)) λt=>
    cond t (let (c,wd):=Utf8.decode ⟨l.toArray⟩ p
     r2 (.tup [.s (.bool true),.s (.int .i64 p),.s (.int .i32 c)]) (st.hp.set b (.iter l (p+wd)))) (r1 (.tup [.s (.bool false)]))
   | _=>none
  | _=>none
 | .makeMap t none=>Ew C t st.hp r2
 | .lookup t x i ok=>Im C t (ρ x) (ρ i) ok st.hp r1
 | .mapUpdate t m x v=>Ip C t (ρ m) (ρ x) (ρ v) st.hp λH=>r2 (.tup []) H
 | .extract t i=>match ρ t with
  | .tup vs=>match vs[i]? with
   | some v=>r1 v
   | none=>none
  | _=>none
 | .call c=>match c.callee with
  | .builtin b=>Z6 C b c.argTypes.toList (c.args.toList.map ρ) st λv st'=>k { st' with sl:=G8 o.dst v st'.sl }
  | .value f=>Qv C cl yh (ρ f) (c.args.toList.map ρ) st λv st'=>k { st' with sl:=G8 o.dst v st'.sl }
  | _=>none
 | _=>none
def Y3 (cl:D0) (yh:Yh σ) (all:Array Oper):List Oper->St σ->(St σ->Option R)->Option R
 | [],st,k=>k st
 | o::rest,st,k=>match o.guard with
  | none=>opK C cl yh o st λst'=>Y3 cl yh all rest st' k
  | some (j,want)=>match ((all[j]?).bind (·.dst)) with
   | some g=>match st.sl.getD g (.tup []) with
    | .s (.bool b)=>Ai b λb=>
     if b==want then opK C cl yh o { st with sl:=st.sl.set g (.s (.bool b)) } λst'=>Y3 cl yh all rest st' k
     else Y3 cl yh all rest { st with sl:=G8 o.dst (.tup []) (st.sl.set g (.s (.bool b))) } k
    | .tup []=>Y3 cl yh all rest { st with sl:=G8 o.dst (.tup []) st.sl } k
    | _=>none
   | none=>none
def Ez:List PV->List Nat->List PV->List PV
 | sl,t::ts,v::vs=>Ez (sl.set t v) ts vs
 | sl,_,_=>sl
end calls
mutual
def PV.yf:PV->Bool
 | .yd=>false
 | .fnr _ x y=>yfL x&&yfL y
 | .agg l=>yfL l
 | .tup l=>yfL l
 | _=>true
def yfL:List PV->Bool
 | []=>true
 | v::r=>v.yf&&yfL r
end
def Blk.yf:Blk->Bool
 | .box cells=>yfL cells
 | .mp ents=>yfL (ents.map Prod.snd)
 | _=>true
def Pl (P:Program) (g:Nat):Bool:=match P.funcs[g]? with
 | some fn=>fn.body.isSome && !(fn.name == "runtime.NumGoroutine")
 | none=>false
def Iy:PV->Option (Nat × List PV × List PV)
 | .s (.fn (.func g) first caps)=>some (g,first.map .s,caps.map .s)
 | .fnr (.func g) first caps=>some (g,first,caps)
 | _=>none
def Y6:Out->Option Out
 | .normal=>none
 | o=>some o
def T6 (C:Cfg):List Blk->Nat->List Nat
 | [],_=>[]
 | b::r,n=>cond (Z9 C b) (T6 C r (n+1)) (n::T6 C r (n+1))
def G7 (ns:List Nat) (H:List Blk):List Blk:=N2 (J7 ns H) ns (List.replicate ns.length .dead)
def Cw:Blk->Blk
 | .box cells=>.box (cells.map λ_=>.bad)
 | .mp ents=>.mp (Yw (λ_=>.bad) ents)
 | b=>b
def JL (C:Cfg) (ns:List Nat) (H Hc H1:List Blk):List Blk:=N2 H1 ns (ns.map λb=>cond (Z9 C (H.getD b .dead)) (Cw (Hc.getD (D8 ns b) .dead)) .dead)
def Wd:Blk->Bool | .box _=>true | _=>false
def GM:Blk->Bool | .box _=>true | .mp _=>true | _=>false
def Bg8 (C:Cfg):Blk->Bool | .box _=>true | .arr _ e _ _=>Ag C e | _=>false
def Ed {σ:Type} (ps:Array Tmp) (sl0:List PV) (asK bdK:St σ->(Out->St σ->Option (Bool × (List Blk × Option Out × σ)))->Option (Bool × (List Blk × Option Out × σ))):Yh (List Blk × Option Out × σ):=λa x=>match x with
 | (H,none,s)=>if a.length=ps.size then
   asK { sl:=Ez sl0 ps.toList a,hp:=H,s:=s } λo st1=>match o with
    | .normal=>bdK st1 λo2 st2=>some ((Y6 o2).isNone,((P5 H.length st2).hp,Y6 o2,st2.s))
    | _=>none
  else none
 | _=>none
def Na {σ R:Type} (C:Cfg) (cl:D0) (f:Nat) (first caps:List PV) (ns:List Nat) (st:St σ) (yR:List PV->Yh (List Blk × Option Out × σ)) (k:Out->St σ->Option R):Option R:=
 if Z7 st.hp ns&&yfL (first++caps)&&(ns.all λb=>(st.hp.getD b .dead).yf)&&Pl C.P f then
  match cl (List Blk × Option Out × σ) (yR (F7 (ns++T6 C st.hp 0) st.sl)) f (rnL (D8 ns) first++.yd::rnL (D8 ns) caps) (ns.map λb=>(st.hp.getD b .dead).rn (D8 ns)) (G7 ns st.hp,none,st.s) with
  | some (_,Hc,(H1,pend,s'))=>k (pend.getD .normal) { sl:=F7 (ns++T6 C st.hp 0) st.sl,hp:=JL C ns st.hp Hc H1,s:=s' }
  | none=>none
 else none
def L5 {σ R:Type} (ps:Array Tmp) (sl0:List PV) (asK bdK:St σ->(Out->St σ->Option R)->Option R):List (List PV)->List Blk->σ->(Option Out->List Blk->σ->Option R)->Option R
 | [],H,s,k=>k none H s
 | x::xs,H,s,k=>if x.length=ps.size then
   asK { sl:=Ez sl0 ps.toList x,hp:=H,s:=s } λo st1=>match o with
    | .normal=>bdK st1 λo2 st2=>match o2 with
     | .normal=>L5 ps sl0 asK bdK xs (P5 H.length st2).hp st2.s k
     | o2=>k (some o2) (P5 H.length st2).hp st2.s
    | _=>none
  else none
def rgK {σ R:Type} (sl0:List PV) (bk:List Blk->List Blk) (k:Out->St σ->Option R):Option Out->List Blk->σ->Option R:=λpend H s=>k (pend.getD .normal) { sl:=sl0,hp:=bk H,s:=s }
def UB {σ R:Type} (C:Cfg) (pf:List PV->List Blk->Option (Bool × List (List PV))) (f:Nat) (first caps:List PV) (ns:List Nat) (st:St σ) (sR:List PV->List (List PV)->List Blk->σ->(Option Out->List Blk->σ->Option R)->Option R) (k:Out->St σ->Option R):Option R:=
 if Z7 st.hp ns&&yfL (first++caps)&&(ns.all λb=>(st.hp.getD b .dead).yf)&&Pl C.P f&&(ns.all λb=>Wd (st.hp.getD b .dead)) then match pf (rnL (D8 ns) first++.yd::rnL (D8 ns) caps) (ns.map λb=>(st.hp.getD b .dead).rn (D8 ns)) with
  | some (c,L)=>need c (sR (F7 (ns++T6 C st.hp 0) st.sl) L (G7 ns st.hp) st.s (rgK (F7 (ns++T6 C st.hp 0) st.sl) (JL C ns st.hp ((ns.map λb=>(st.hp.getD b .dead).rn (D8 ns)).map Cw)) k))
  | none=>none
 else none
def Ks {σ R:Type} (C:Cfg) (cl:D0) (g:PV) (st:St σ) (yR:List PV->Yh (List Blk × Option Out × σ)) (sR:List PV->List (List PV)->List Blk->σ->(Option Out->List Blk->σ->Option R)->Option R) (k:Out->St σ->Option R):Option R:=match Iy g with
 | some (f,first,caps)=>match C.S f with
  | some pf=>UB C pf f first caps (W8 st.hp (B3 (first++caps))) st sR k
  | none=>Na C cl f first caps (W8 st.hp (B3 (first++caps))) st yR k
 | none=>none
def F2 (C:Cfg):Op->Bool
 | .move _=>true
 | .assign _=>true
 | .pick _ _ _=>true
 | .build _ _=>true
 | .load _ _=>true
 | .nilCheck _=>true
 | .binOp _ _ _ _ _=>true
 | .unOp _ _ _=>true
 | .convert _ dst _=>match C.sh dst with | .slice _=>false | _=>true
 | .makeFunc (.func _) _ _=>true
 | .slice _ _ _ _ _=>true
 | .fieldAddr _ _ _=>true
 | .field _ _ _=>true
 | .indexAddr _ _ _=>true
 | .index _ _ _=>true
 | .lookup _ _ _ _=>true
 | .extract _ _=>true
 | .call c=>match c.callee with
  | .builtin .len=>true
  | .builtin .min=>true
  | .builtin .max=>true
  | _=>false
 | _=>false
def Ey (C:Cfg):Op->Bool
 | .call c=>match c.callee with
  | .value (.func g)=>C.xp g&&(C.X g).isSome&&Pl C.P g
  | _=>false
 | _=>false
def Mz (C:Cfg) (op:Op):Bool:=F2 C op || Ey C op
def KF (C:Cfg):Op->Bool
 | .buildSlice _ _ _=>true
 | .alloc _=>true
 | .makeMap _ none=>true
 | .call c=>match c.callee with
  | .value (.func g)=>(C.X g).isSome&&Pl C.P g
  | _=>false
 | _=>false
def R8 (C:Cfg) (op:Op):Nat:=match op with
 | .move _=>0
 | .assign _=>0
 | .pick _ _ _=>0
 | .extract _ _=>0
 | .slice _ _ _ _ _=>0
 | .binOp _ _ _ _ _=>0
 | .fieldAddr _ _ _=>0
 | .indexAddr _ _ _=>0
 | .build _ _=>0
 | .nilCheck _=>0
 | op=>cond (Mz C op) 1 (cond (KF C op) 2 3)
def Bi8 (C:Cfg):List Oper->List (Nat × Bool)->Nat->List (Nat × Bool)
 | [],acc,_=>acc
 | o::r,acc,n=>cond (Nat.ble 2 (R8 C o.op)) (Bi8 C r (acc++[(n,true)]) (n+1))
   (Bi8 C r (acc++[(o.after.toList.foldl (λm e=>cond (Region.binds .any e) (match acc[e.on]? with | some (s,b)=>Nat.max m (cond b (s+1) s) | none=>m) m) 0,false)]) n)
def HV (s:Nat) (b:Bool):List (Nat × Bool)->Nat->List Nat
 | [],_=>[]
 | (t,c)::r,i=>cond (Nat.beq t s&&(c==b)) (i::HV s b r (i+1)) (HV s b r (i+1))
def As3 (l:List (Nat × Bool)):Nat->Nat->List Nat
 | 0,_=>[]
 | f+1,s=>HV s false l 0++(HV s true l 0++As3 l f (s+1))
def Jk (C:Cfg) (ops:List Oper):List Nat:=
 let l:=Bi8 C ops [] 0
 As3 l ((l.filter (·.2)).length+1) 0
def C8 (C:Cfg) (ops:Array Oper) (i:Nat):Nat:=match ops[i]? with
 | some o=>R8 C o.op
 | none=>1
inductive Trn where
 | row (v:SV)
 | var (e:Nat)
def MJ {R:Type} (C:Cfg) (o:Oper) (sl:List PV) (k:Trn->Option R):Option R:=match o.guard,o.op with
 | none,.alloc e=>match C.sh e with
  | .array _ _=>none
  | _=>need (C.ti e).ok (k (.var e))
 | none,.buildSlice t len parts=>match C.sh t with
  | .slice e=>if (C.ti e).ok&&decide (len*(C.ti e).ks.length<=16777216)&&decide (len<=16777216) then match W7 (λi=>some (i*(C.ti e).ks.length,(C.ti e).ks.length)) ((List.replicate len ((C.ti e).ks.map J8)).flatten) (parts.toList.map λ(i,x)=>(i,opnd C sl x)) with
   | some cells=>match Co cells with
    | some vs=>k (.row (.sl false true (C.ti e).ks.length (M5 (C.ti e).ks.length len vs)))
    | none=>none
   | none=>none else none
  | _=>none
 | _,_=>none
def Fd {σ R:Type} (C:Cfg) (d:Option Nat) (t:Trn) (st:St σ) (k:St σ->Option R):Option R:=match t with
 | .row v=>k { st with sl:=G8 d (.s v) st.sl }
 | .var e=>Oq C e ((C.ti e).ks.map J8) st.hp λv H=>k { st with hp:=H,sl:=G8 d v st.sl }
def ltK (C:Cfg) (ops:Array Oper):List Nat->List Nat × List Nat
 | []=>([],[])
 | i::r=>cond (Nat.ble (C8 C ops i) 1) (let (a,b):=ltK C ops r;(i::a,b)) ([],i::r)
def Bj7 (i:Nat):List Nat->List Nat × List Nat
 | []=>([],[])
 | j::r=>cond (Nat.beq j i) ([],r) (let (a,b):=Bj7 i r;(j::a,b))
def M3 (C:Cfg) (ops:Array Oper):List Nat:=(ltK C ops (Jk C ops.toList)).1
def Cl (C:Cfg) (ops:Array Oper) (i:Nat):List Nat:=(Bj7 i (ltK C ops (Jk C ops.toList)).2).1
def Z3 (C:Cfg) (ops:Array Oper) (i:Nat):List Nat:=(Bj7 i (ltK C ops (Jk C ops.toList)).2).2
def okN:List Nat->Nat->Bool
 | [],_=>false
 | a::r,n=>Nat.beq n a || okN r n
def Rb (C:Cfg) (fd:List Nat × List Nat) (p:Bool) (H0 H:List Blk) (sl:List PV) (o:Oper):Bool:=match o.op with
 | .load _ x=>match opnd C sl x with
  | .ptr b _ _=>o.guard.isNone&&(Bg8 C (H0.getD b .dead)&&(Bg8 C (H.getD b .dead) && !(okN fd.2 b)))
  | .s (.sp _ _ _)=>o.guard.isNone&&p
  | _=>false
 | .store _ x _=>match opnd C sl x with
  | .ptr b 0 _=>o.guard.isNone&&(Wd (H.getD b .dead)&&(okN fd.2 b || Nat.ble H0.length b))
  | _=>false
 | .call c=>match c.callee with
  | .builtin .append=>o.guard.isNone&&(List.range H0.length).all λb=>okN fd.2 b || GM (H.getD b .dead)
  | _=>false
 | _=>false
def Mt {σ R:Type} (C:Cfg) (cl:D0) (yh:Yh σ) (all:Array Oper) (fd:List Nat × List Nat) (H0:List Blk):Bool->List Nat->St σ->(St σ->Option R)->Option R
 | _,[],st,k=>k st
 | p,i::rest,st,k=>need (match all[i]? with | some o=>!(okN fd.1 i) || Rb C fd p H0 st.hp st.sl o | none=>false) (Y3 C cl yh all ([i].filterMap (all[·]?)) st λst'=>Mt C cl yh all fd H0 (p&&Nat.ble (C8 C all i) 1) rest st' k)
def Am {σ R:Type} (C:Cfg) (cl:D0) (yh:Yh σ) (all:Array Oper) (fd:Option (List Nat × List Nat)) (H0:List Blk) (p:Bool) (l:List Nat) (st:St σ) (k:St σ->Option R):Option R:=match fd with
 | none=>Y3 C cl yh all (l.filterMap (all[·]?)) st k
 | some f=>Mt C cl yh all f H0 p l st k
def Gk {σ R:Type} (C:Cfg) (cl:D0) (yh:Yh σ) (all:Array Oper) (fd:Option (List Nat × List Nat)) (H0:List Blk) (d:Option Nat):List Nat->St σ->(St σ->Option R)->Option R
 | [],st,k=>k st
 | i::rest,st,k=>Am C cl yh all fd H0 false [i] st λst'=>Gk C cl yh all fd H0 d rest { st' with sl:=G8 d .bad st'.sl } k
def lkT:List (Nat × Option Nat × Trn)->Nat->Option (Option Nat × Trn)
 | [],_=>none
 | e::r,i=>cond (Nat.beq i e.1) (some e.2) (lkT r i)
def Hj (ts:List (Nat × Option Nat × Trn)) (seq:List Nat) (sl:List PV):List PV:=match ts with
 | []=>sl
 | e::r=>cond (okN seq e.1) (G8 e.2.1 .bad (Hj r seq sl)) (Hj r seq sl)
def Jj {σ R:Type} (C:Cfg) (cl:D0) (yh:Yh σ) (all:Array Oper) (fd:Option (List Nat × List Nat)) (H0:List Blk) (ts:List (Nat × Option Nat × Trn)):List Nat->St σ->(St σ->Option R)->Option R
 | [],st,k=>k st
 | i::rest,st,k=>match lkT ts i with
  | some (d,t)=>Fd C d t st λst'=>Jj C cl yh all fd H0 ts rest st' k
  | none=>Am C cl yh all fd H0 false [i] st λst'=>Jj C cl yh all fd H0 ts rest { st' with sl:=Hj ts rest st'.sl } k
def Sd {R:Type} (C:Cfg) (ops:Array Oper) (sl:List PV):List Nat->(List (Nat × Option Nat × Trn)->Option R)->Option R
 | [],k=>k []
 | f::r,k=>match ops[f]? with
  | some o=>MJ C o sl λt=>Sd C ops sl r λts=>k ((f,o.dst,t)::ts)
  | none=>none
def J3 (C:Cfg) (ops:Array Oper):List Nat:=(ltK C ops (Jk C ops.toList)).2
def LE (C:Cfg) (o1 o2:Oper):Bool:=match o1.guard,o2.guard,o1.op,o2.op with
 | none,none,.buildSlice t _ _,.convert s d (.tmp x)=>Nat.beq s t&&(Nat.beq d t&&(o1.dst==some x&&match C.sh t with
  | .slice e=>match C.sh e with
   | .int .u8=>true
   | _=>false
  | _=>false))
 | _,_,_,_=>false
def ZH {R:Type} (C:Cfg) (o1 o2:Oper) (sl:List PV) (k:PV->Option R):Option R:=match o1.op,o2.op with
 | .buildSlice t len parts,.convert _ _ (.tmp x)=>need (Nat.ble (x+1) sl.length) (M6 C t len (parts.toList.map λ(i,y)=>(i,opnd C sl y)) k)
 | _,_=>none
def UC {σ R:Type} (C:Cfg) (cl:D0) (yh:Yh σ) (ops:Array Oper) (st:St σ) (k:St σ->Option R):List Oper->Option R
 | o1::o2::rest=>cond (LE C o1 o2) (ZH C o1 o2 st.sl λv=>Y3 C cl yh ops rest { st with sl:=G8 o2.dst v (G8 o1.dst .bad st.sl) } k) (Y3 C cl yh ops (o1::o2::rest) st k)
 | l=>Y3 C cl yh ops l st k
def UD {σ R:Type} (C:Cfg) (cl:D0) (yh:Yh σ) (id:Nat) (ops:Array Oper) (d:Bool) (st:St σ) (k:St σ->Option R):Option R:=match C.rowR id with
 | none=>match d with
  | true=>match C.rowsR id with
   | none=>Am C cl yh ops (C.farR id) st.hp true (Jk C ops.toList) st k
   | some fl=>Am C cl yh ops (C.farR id) st.hp true (M3 C ops) st λst1=>Sd C ops st1.sl fl λts=>
     Jj C cl yh ops (C.farR id) st.hp ts (J3 C ops) { st1 with sl:=Hj ts (J3 C ops) st1.sl } k
  | false=>UC C cl yh ops st k ops.toList
 | some i=>match d,ops[i]? with
  | true,some o=>Am C cl yh ops (C.farR id) st.hp true (M3 C ops) st λst1=>MJ C o st1.sl λt=>
    Gk C cl yh ops (C.farR id) st.hp o.dst (Cl C ops i) { st1 with sl:=G8 o.dst .bad st1.sl } λst2=>Fd C o.dst t st2 λst3=>
     Am C cl yh ops (C.farR id) st.hp false (Z3 C ops i) st3 k
  | _,_=>none
def B0 (C:Cfg) (cl:D0) {σ:Type} (yh:Yh σ):Code->{R:Type}->St σ->(Out->St σ->Option R)->Option R
 | .skip,_,st,k=>k .normal st
 | .label _,_,st,k=>k .normal st
 | .region id ops d,_,st,k=>UD C cl yh id ops d st λst'=>k .normal (Ma (C.keepR id) st.hp.length st')
 | .seq a b,_,st,k=>B0 C cl yh a st λo st'=>match o with
  | .normal=>B0 C cl yh b st' k
  | o=>k o st'
 | .cond c a b,_,st,k=>match opnd C st.sl c with
  | .s (.bool t)=>Ai t λt=>cond t (B0 C cl yh a st k) (B0 C cl yh b st k)
  | _=>none
 | .block id a,_,st,k=>B0 C cl yh a st λo st'=>match o with
  | .exit j=>if j=id then k .normal st' else k (.exit j) st'
  | o=>k o st'
 | .loop a,_,st,k=>H4 st.hp.length (C.keep (KM a)) (λst k=>B0 C cl yh a st k) C.lf (Fr (C.keep (KM a)) st) k
 | .scope a,_,st,k=>B0 C cl yh a st k
 | .exit id,_,st,k=>k (.exit id) (Fr (C.keepE id) st)
 | .ret,_,st,k=>k .ret (Fr C.keepT st)
 | .rangeFunc g ps aq body,_,st,k=>Ks C cl (opnd C st.sl g) st (λsl0=>Ed ps sl0 (λst k=>B0 C cl yh aq st k) (λst k=>B0 C cl yh body st k)) (λsl0=>L5 ps sl0 (λst k=>B0 C cl yh aq st k) (λst k=>B0 C cl yh body st k)) k
 | _,_,_,_=>none
def Sn {R:Type} (C:Cfg) (sl:List PV) (H:List Blk):List ResultVar->(List PV->Option R)->Option R
 | [],k=>k []
 | .tmp t::r,k=>Sn C sl H r λvs=>k (sl.getD t (.tup [])::vs)
 | .cell a t::r,k=>Jg (C.ti t) (sl.getD a (.tup [])) H λv=>Sn C sl H r λvs=>k (v::vs)
def V3:List PV->PV
 | [v]=>v
 | vs=>.tup vs
def evC (C:Cfg):Nat->D0
 | 0=>λ_ _ _ _ _ _=>none
 | d+1=>λ_ yh f args H s=>
  match C.okf f,C.P.funcs[f]? with
  | true,some fn=>match fn.body with
   | some c=>B0 C (evC C d) yh c { sl:=args++List.replicate (fn.ntmps-args.length) (.tup []),hp:=H,s:=s } λo st=>match o with
    | .normal=>Sn C st.sl st.hp fn.results.toList λvs=>some (V3 vs,st.hp,st.s)
    | .ret=>Sn C st.sl st.hp fn.results.toList λvs=>some (V3 vs,st.hp,st.s)
    | _=>none
   | none=>none
  | _,_=>none
structure Ctx where
 St:Nat->Prop
 nm:Nat->Option Nat
 yv:Value
 yv1:yv.oneCell'=true
inductive Shp where
 | arr (v:Bool) (e sz n:Nat)
 | box
 | iter
 | mp
 | dead
def Blk.shp:Blk->Shp
 | .arr v e sz els=>.arr v e sz els.length
 | .box _=>.box
 | .iter _ _=>.iter
 | .mp _=>.mp
 | .ms _ _=>.mp
 | .dead=>.dead
def A1 (H:List Blk) (b:Nat):Option Shp:=(H[b]?).map Blk.shp
inductive VS (St:Nat->Prop) (w:World):SV->Value->Prop
 | bool (b:Bool):VS St w (.bool b) (.bool b)
 | int (k:IntKind) (n:Int):VS St w (.int k n) (.int k n)
 | str (s:ByteArray):VS St w (.str s.data.toList) (.string s)
 | nilp:VS St w .nilp (.pointer none)
 | nilm:VS St w .nilm (.map none)
 | nilf:VS St w .nilf .nilFunc
 | nil (t:Bool) (k:Nat):VS St w (.sl true t k []) (.slice none 0 0)
 | emp (t:Bool) (k:Nat) (a:Addr) (cap:Nat) (ht:t=true->cap=0) (hm:cap<=maxLen):VS St w (.sl false t k []) (.slice (some a) 0 cap)
 | sl (t:Bool) (els:List (List SV)) (g off n cap sz:Nat) (Vs:Nat->Nat->Value) (hn:n=els.length) (hcap:n<=cap) (hm:cap<=maxLen) (ht:t=true->cap=n) (hg:St g)
   (hl:∀ i (h:i<els.length),(els[i]).length=sz)
   (hc:∀ i (h:i<els.length) j (h':j<(els[i]).length),w.cell? ⟨g,off+i*sz+j,none⟩=some (Vs i j))
   (hv:∀ i (h:i<els.length) j (h':j<(els[i]).length),VS St w (els[i][j]) (Vs i j)) :
   VS St w (.sl false t sz els) (.slice (some ⟨g,off,none⟩) n cap)
 | sp (els:List (List SV)) (i o:Nat) (g off sz:Nat) (Vs:Nat->Nat->Value) (hg:St g)
   (hl:∀ i (h:i<els.length),(els[i]).length=sz)
   (hc:∀ i (h:i<els.length) j (h':j<(els[i]).length),w.cell? ⟨g,off+i*sz+j,none⟩=some (Vs i j))
   (hv:∀ i (h:i<els.length) j (h':j<(els[i]).length),VS St w (els[i][j]) (Vs i j)) :
   VS St w (.sp els i o) (.pointer (some ⟨g,off+i*sz+o,none⟩))
 | fn (f:Fn) (x y:List SV) (A B:Array Value) (As Bs:Nat->Value) (hf:∀ l,f≠.yield l) (hA:A.size=x.length) (hB:B.size=y.length)
   (ha:∀ j,j<x.length->A[j]? = some (As j)) (hb:∀ j,j<y.length->B[j]? = some (Bs j))
   (hx:∀ j (h:j<x.length),VS St w (x[j]) (As j)) (hy:∀ j (h:j<y.length),VS St w (y[j]) (Bs j)) :
   VS St w (.fn f x y) (.func f A B)
theorem VS.mono {St St':Nat->Prop} {w w':World} (hs:∀ g,St g->w'.heap[g]? = w.heap[g]?) (hsub:∀ g,St g->St' g) {s:SV} {V:Value} (h:VS St w s V):VS St' w' s V:=by
 have hcell:∀ g o,St g->w'.cell? ⟨g,o,none⟩=w.cell? ⟨g,o,none⟩:=λg o hg=>by simp [World.cell?,hs g hg]
 induction h with
 | bool b=>exact .bool b
 | int k n=>exact .int k n
 | str s=>exact .str s
 | nilp=>exact .nilp
 | nilm=>exact .nilm
 | nilf=>exact .nilf
 | nil t k=>exact .nil t k
 | emp t k a cap ht hm=>exact .emp t k a cap ht hm
 | sl t els g off n cap sz Vs hn hcap hm ht hg hl hc hv ih=>
  exact .sl t els g off n cap sz Vs hn hcap hm ht (hsub g hg) hl (λi h j h'=>by rw [hcell g _ hg];exact hc i h j h') ih
 | sp els i o g off sz Vs hg hl hc hv ih=>
  exact .sp els i o g off sz Vs (hsub g hg) hl (λi h j h'=>by rw [hcell g _ hg];exact hc i h j h') ih
 | fn f x y A B As Bs hf hA hB ha hb hx hy ihx ihy=>exact .fn f x y A B As Bs hf hA hB ha hb ihx ihy
inductive VP (Γ:Ctx) (sh:Nat->Option Shp) (w:World):PV->Value->Prop
 | s (v:SV) (V:Value) (h:VS Γ.St w v V):VP Γ sh w (.s v) V
 | nsl:VP Γ sh w .nsl (.slice none 0 0)
 | flv (b e sz:Nat) (h:sh b=some (.arr true e sz 0)):VP Γ sh w (.fl b) (.slice none 0 0)
 | fl (b g:Nat) (v:Bool) (e sz n cap:Nat) (h:sh b=some (.arr v e sz n)) (hv:v=true->n≠0) (hg:Γ.nm b=some g) (hcap:n<=cap) (hm:cap<=maxLen)
   (hs:w.shape? g=some (e,cap*sz)):VP Γ sh w (.fl b) (.slice (some ⟨g,0,none⟩) n cap)
 | vwv (b e sz i:Nat) (h:sh b=some (.arr true e sz 0)):VP Γ sh w (.vw b i 0) (.slice none 0 0)
 | vw (b i n g:Nat) (a:Addr) (cap:Nat) (v:Bool) (e sz m:Nat) (h:sh b=some (.arr v e sz m)) (hv:v=true->m≠0) (hg:Γ.nm b=some g)
   (ha:n≠0->a=⟨g,i*sz,none⟩) (hi:i+n<=m) (hcap:n<=cap) (hm:cap<=maxLen):VP Γ sh w (.vw b i n) (.slice (some a) n cap)
 | ptrA (b i off g:Nat) (v:Bool) (e sz n:Nat) (h:sh b=some (.arr v e sz n)) (hg:Γ.nm b=some g):VP Γ sh w (.ptr b i off) (.pointer (some ⟨g,i*sz+off,none⟩))
 | ptrB (b off g:Nat) (h:sh b=some .box) (hg:Γ.nm b=some g):VP Γ sh w (.ptr b 0 off) (.pointer (some ⟨g,off,none⟩))
 | fnr (f:Fn) (x y:List PV) (A B:Array Value) (As Bs:Nat->Value) (hf:∀ l,f≠.yield l) (hA:A.size=x.length) (hB:B.size=y.length)
   (ha:∀ j,j<x.length->A[j]? = some (As j)) (hb:∀ j,j<y.length->B[j]? = some (Bs j))
   (hx:∀ j (h:j<x.length),VP Γ sh w (x[j]) (As j)) (hy:∀ j (h:j<y.length),VP Γ sh w (y[j]) (Bs j)) :
   VP Γ sh w (.fnr f x y) (.func f A B)
 | it (b g:Nat) (h:sh b=some .iter) (hg:Γ.nm b=some g):VP Γ sh w (.it b) (.pointer (some ⟨g,0,none⟩))
 | mpv (b g:Nat) (h:sh b=some .mp) (hg:Γ.nm b=some g):VP Γ sh w (.it b) (.map (some g))
 | yd:VP Γ sh w .yd Γ.yv
 | agg (l:List PV) (A:Array Value) (As:Nat->Value) (hA:A.size=l.length) (ha:∀ j,j<l.length->A[j]? = some (As j)) (hl:∀ j (h:j<l.length),VP Γ sh w (l[j]) (As j)) :
   VP Γ sh w (.agg l) (.agg A)
 | tup (l:List PV) (A:Array Value) (As:Nat->Value) (hA:A.size=l.length) (ha:∀ j,j<l.length->A[j]? = some (As j)) (hl:∀ j (h:j<l.length),VP Γ sh w (l[j]) (As j)) :
   VP Γ sh w (.tup l) (.tuple A)
 | bad (V:Value):VP Γ sh w .bad V
theorem A8 {l:List PV} {b:Nat}:b∈B3 l↔∃ j,∃ h:j<l.length,b∈(l[j]).nms:=by
 induction l with
 | nil=>simp [B3]
 | cons v r ih=>
  simp only [B3,List.mem_append,ih]
  constructor
  ·rintro (h | ⟨j,hj,h⟩)
   ·exact ⟨0,by simp,by simpa using h⟩
   ·exact ⟨j+1,by simpa using hj,by simpa using h⟩
  grind
structure P7 (Γ:Ctx) (sh:Nat->Option Shp) (w:World) (Γ':Ctx) (sh':Nat->Option Shp) (w':World) (ok:Nat->Prop):Prop where
 st:∀ g,Γ.St g->w'.heap[g]? = w.heap[g]?
 sub:∀ g,Γ.St g->Γ'.St g
 nm:∀ b,ok b->Γ'.nm b = Γ.nm b
 shp:∀ b,ok b->sh' b=sh b
 hs:∀ b g,ok b->Γ.nm b=some g->w'.shape? g=w.shape? g
 yv:Γ'.yv = Γ.yv
theorem VP.mono {Γ Γ':Ctx} {sh sh':Nat->Option Shp} {w w':World} {ok:Nat->Prop} (M:P7 Γ sh w Γ' sh' w' ok) {v:PV} {V:Value} (h:VP Γ sh w v V) :
  (∀ b∈v.nms,ok b)->VP Γ' sh' w' v V:=by
 induction h with
 | s v V h=>intro _;exact .s v V (h.mono M.st M.sub)
 | nsl=>intro _;exact .nsl
 | flv b e sz h=>intro hok;exact .flv b e sz (by rw [M.shp b (hok b (by simp [PV.nms]))];exact h)
 | fl b g v e sz n cap h hv hg hcap hm hs=>
  intro hok
  have o:=hok b (by simp [PV.nms])
  exact .fl b g v e sz n cap (by rw [M.shp b o];exact h) hv (by rw [M.nm b o];exact hg) hcap hm (by rw [M.hs b g o hg];exact hs)
 | vwv b e sz i h=>intro hok;exact .vwv b e sz i (by rw [M.shp b (hok b (by simp [PV.nms]))];exact h)
 | vw b i n g a cap v e sz m h hv hg ha hi hcap hm=>
  intro hok
  have o:=hok b (by simp [PV.nms])
  exact .vw b i n g a cap v e sz m (by rw [M.shp b o];exact h) hv (by rw [M.nm b o];exact hg) ha hi hcap hm
 | ptrA b i off g v e sz n h hg=>
  intro hok
  have o:=hok b (by simp [PV.nms])
  exact .ptrA b i off g v e sz n (by rw [M.shp b o];exact h) (by rw [M.nm b o];exact hg)
 | ptrB b off g h hg=>
  intro hok
  have o:=hok b (by simp [PV.nms])
  exact .ptrB b off g (by rw [M.shp b o];exact h) (by rw [M.nm b o];exact hg)
 | fnr f x y A B As Bs hf hA hB ha hb hx hy ihx ihy=>
  intro hok
  exact .fnr f x y A B As Bs hf hA hB ha hb
   (λj h=>ihx j h λb hb=>hok b (by simp only [PV.nms,List.mem_append];exact .inl (A8.2 ⟨j,h,hb⟩)))
   (λj h=>ihy j h λb hb=>hok b (by simp only [PV.nms,List.mem_append];exact .inr (A8.2 ⟨j,h,hb⟩)))
 | it b g h hg=>
  intro hok
  have o:=hok b (by simp [PV.nms])
  exact .it b g (by rw [M.shp b o];exact h) (by rw [M.nm b o];exact hg)
 | mpv b g h hg=>
  intro hok
  have o:=hok b (by simp [PV.nms])
  exact .mpv b g (by rw [M.shp b o];exact h) (by rw [M.nm b o];exact hg)
 | yd=>intro _;rw [<-M.yv];exact .yd
 | agg l A As hA ha hl ih=>intro hok;exact .agg l A As hA ha λj h=>ih j h λb hb=>hok b (by simp only [PV.nms];exact A8.2 ⟨j,h,hb⟩)
 | tup l A As hA ha hl ih=>intro hok;exact .tup l A As hA ha λj h=>ih j h λb hb=>hok b (by simp only [PV.nms];exact A8.2 ⟨j,h,hb⟩)
 | bad V=>intro _;exact .bad V
theorem U6 (b:Nat) (l:List PV):O2 b l=l.map (PV.kill b):=by
 induction l with
 | nil=>rfl
 | cons v r ih=>simp [O2,ih]
theorem VP.kill {Γ:Ctx} {sh:Nat->Option Shp} {w:World} (c:Nat) {v:PV} {V:Value} (h:VP Γ sh w v V):VP Γ sh w (v.kill c) V:=by
 induction h with
 | s v V h=>exact .s v V h
 | nsl=>exact .nsl
 | flv b e sz h=>unfold PV.kill;split;exact .bad _;exact .flv b e sz h
 | fl b g v e sz n cap h hv hg hcap hm hs=>unfold PV.kill;split;exact .bad _;exact .fl b g v e sz n cap h hv hg hcap hm hs
 | vwv b e sz i h=>unfold PV.kill;split;exact .bad _;exact .vwv b e sz i h
 | vw b i n g a cap v e sz m h hv hg ha hi hcap hm=>unfold PV.kill;split;exact .bad _;exact .vw b i n g a cap v e sz m h hv hg ha hi hcap hm
 | ptrA b i off g v e sz n h hg=>unfold PV.kill;split;exact .bad _;exact .ptrA b i off g v e sz n h hg
 | ptrB b off g h hg=>unfold PV.kill;split;exact .bad _;exact .ptrB b off g h hg
 | fnr f x y A B As Bs hf hA hB ha hb hx hy ihx ihy=>
  simp only [PV.kill,U6]
  exact .fnr f _ _ A B As Bs hf (by simpa using hA) (by simpa using hB) (λj h=>ha j (by simpa using h)) (λj h=>hb j (by simpa using h))
   (λj h=>by simpa using ihx j (by simpa using h)) (λj h=>by simpa using ihy j (by simpa using h))
 | it b g h hg=>unfold PV.kill;split;exact .bad _;exact .it b g h hg
 | mpv b g h hg=>unfold PV.kill;split;exact .bad _;exact .mpv b g h hg
 | yd=>exact .yd
 | agg l A As hA ha hl ih=>
  simp only [PV.kill,U6]
  exact .agg _ A As (by simpa using hA) (λj h=>ha j (by simpa using h)) (λj h=>by simpa using ih j (by simpa using h))
 | tup l A As hA ha hl ih=>
  simp only [PV.kill,U6]
  exact .tup _ A As (by simpa using hA) (λj h=>ha j (by simpa using h)) (λj h=>by simpa using ih j (by simpa using h))
 | bad V=>exact .bad V
mutual
theorem PV.not_mem_kill (c:Nat):∀ v:PV,c∉(v.kill c).nms
 | .s _=>by simp [PV.kill,PV.nms]
 | .nsl=>by simp [PV.kill,PV.nms]
 | .fl b=>by unfold PV.kill;split<;>simp_all [PV.nms,eq_comm]
 | .vw b _ _=>by unfold PV.kill;split<;>simp_all [PV.nms,eq_comm]
 | .ptr b _ _=>by unfold PV.kill;split<;>simp_all [PV.nms,eq_comm]
 | .fnr _ x y=>by simp only [PV.kill,PV.nms,List.mem_append,not_or];exact ⟨L0 c x,L0 c y⟩
 | .it b=>by unfold PV.kill;split<;>simp_all [PV.nms,eq_comm]
 | .yd=>by simp [PV.kill,PV.nms]
 | .agg l=>by simp only [PV.kill,PV.nms];exact L0 c l
 | .tup l=>by simp only [PV.kill,PV.nms];exact L0 c l
 | .bad=>by simp [PV.kill,PV.nms]
theorem L0 (c:Nat):∀ l:List PV,c∉B3 (O2 c l)
 | []=>by simp [O2,B3]
 | v::r=>by simp only [O2,B3,List.mem_append,not_or];exact ⟨PV.not_mem_kill c v,L0 c r⟩
end
mutual
theorem PV.kill_nms (c:Nat):∀ (v:PV) b,b∈(v.kill c).nms->b∈v.nms
 | .s _,b=>by simp [PV.kill,PV.nms]
 | .nsl,b=>by simp [PV.kill,PV.nms]
 | .fl a,b=>by unfold PV.kill;split<;>simp_all [PV.nms]
 | .vw a _ _,b=>by unfold PV.kill;split<;>simp_all [PV.nms]
 | .ptr a _ _,b=>by unfold PV.kill;split<;>simp_all [PV.nms]
 | .fnr _ x y,b=>by
  simp only [PV.kill,PV.nms,List.mem_append]
  rintro (h | h)
  ·exact .inl (T5 c x b h)
  ·exact .inr (T5 c y b h)
 | .it a,b=>by unfold PV.kill;split<;>simp_all [PV.nms]
 | .yd,b=>by simp [PV.kill,PV.nms]
 | .agg l,b=>by simp only [PV.kill,PV.nms];exact T5 c l b
 | .tup l,b=>by simp only [PV.kill,PV.nms];exact T5 c l b
 | .bad,b=>by simp [PV.kill,PV.nms]
theorem T5 (c:Nat):∀ (l:List PV) b,b∈B3 (O2 c l)->b∈B3 l
 | [],b=>by simp [O2,B3]
 | v::r,b=>by
  simp only [O2,B3,List.mem_append]
  rintro (h | h)
  ·exact .inl (PV.kill_nms c v b h)
  ·exact .inr (T5 c r b h)
end
def MR (Γ:Ctx) (sh:Nat->Option Shp) (w:World):List (List UInt8 × PV)->List MapEntry->Prop
 | [],[]=>True
 | e::r,E::q=>((∃ s:ByteArray,E.key = .string s/\s.data.toList=e.1)/\VP Γ sh w e.2 E.val)/\MR Γ sh w r q
 | _,_=>False
theorem MR.map {Γ Γ':Ctx} {sh sh':Nat->Option Shp} {w w':World} {f:PV->PV}:∀ {l:List (List UInt8 × PV)} {es:List MapEntry},MR Γ sh w l es->(∀ v∈l.map Prod.snd,∀ V,VP Γ sh w v V->VP Γ' sh' w' (f v) V)->MR Γ' sh' w' (Yw f l) es
 | [],[],_,_=>trivial
 | e::r,E::q,h,hf=>⟨⟨h.1.1,hf _ (by simp) _ h.1.2⟩,h.2.map λv hv V=>hf v (by simp only [List.map_cons,List.mem_cons];exact .inr hv) V⟩
 | [],_::_,h,_=>h.elim
 | _::_,[],h,_=>h.elim
theorem MR.len {Γ:Ctx} {sh:Nat->Option Shp} {w:World}:∀ {l:List (List UInt8 × PV)} {es:List MapEntry},MR Γ sh w l es->es.length=l.length
 | [],[],_=>rfl
 | e::r,E::q,h=>by rw [List.length_cons,List.length_cons,h.2.len]
 | [],_::_,h=>h.elim
 | _::_,[],h=>h.elim
theorem MR.imp {Γ Γ':Ctx} {sh sh':Nat->Option Shp} {w w':World} {l:List (List UInt8 × PV)} {es:List MapEntry} (h:MR Γ sh w l es) (hf:∀ v∈l.map Prod.snd,∀ V,VP Γ sh w v V->VP Γ' sh' w' v V):MR Γ' sh' w' l es:=by
 have:=h.map (f:=id) hf
 simpa [Yw] using this
theorem A54 (l:List SV):B3 (l.map PV.s)=[]:=by induction l with
 | nil=>rfl
 | cons a l ih=>simp [B3,PV.nms,ih]
theorem IJ (a:Bool) (l:List SV):(svV a l).nms=[]:=by
 cases a with
 | true=>simp only [svV,cond_true,PV.nms,A54]
 | false=>simp only [svV,cond_false];split<;>rfl
theorem Tm {a:Bool} {ents:List (List UInt8 × List SV)} {v:PV} (h:v∈(msP a ents).map Prod.snd):∃ e∈ents,v=svV a e.2:=by
 simp only [msP,List.map_map,List.mem_map,Function.comp_apply] at h
 obtain ⟨e,he,rfl⟩:=h
 exact ⟨e,he,rfl⟩
theorem A48 {a:Bool} {ents:List (List UInt8 × List SV)} {v:PV} (h:v∈(msP a ents).map Prod.snd):v.nms=[]:=by
 obtain ⟨e,_,rfl⟩:=Tm h
 exact IJ a _
theorem MR.vals {Γ:Ctx} {sh:Nat->Option Shp} {w:World}:∀ {l:List (List UInt8 × PV)} {es:List MapEntry},MR Γ sh w l es->∀ v∈l.map Prod.snd,∀ {p:Prop},(∀ V,VP Γ sh w v V->p)->p
 | e::r,E::q,h,v,hv,p,hf=>by
  rcases List.mem_cons.1 hv with rfl | hv
  ·exact hf _ h.1.2
  ·exact h.2.vals v hv hf
 | [],_,_,v,hv,_,_=>by simp at hv
 | _::_,[],h,_,_,_,_=>h.elim
theorem Pz {l:List PV} {v:PV} (h:v∈l):∀ c∈v.nms,c∈B3 l:=λc hc=>by
 obtain ⟨j,hj,rfl⟩:=List.getElem_of_mem h
 exact A8.2 ⟨j,hj,hc⟩
def BR (Γ:Ctx) (sh:Nat->Option Shp) (w:World) (b:Nat):Blk->Prop
 | .arr v e sz els=>(v=true/\els=[])\/(¬(v=true/\els=[])/\∃ g cur,Γ.nm b=some g/\w.heap[g]? = some (.cells cur e (0,0))/\els.length*sz<=cur.size/\
   (∀ i (h:i<els.length),(els[i]).length=sz)/\∀ i (h:i<els.length) j (h':j<(els[i]).length),∃ V,cur[i*sz+j]? = some V/\VS Γ.St w (els[i][j]) V)
 | .box cells=>∃ g cur e,Γ.nm b=some g/\w.heap[g]? = some (.cells cur e (0,0))/\cur.size=cells.length/\∀ j (h:j<cells.length),∃ V,cur[j]? = some V/\VP Γ sh w (cells[j]) V
 | .iter s p=>∃ g s',Γ.nm b=some g/\w.heap[g]? = some (.stringIter s' p)/\s'.data.toList=s
 | .mp ents=>∃ g es clock,Γ.nm b=some g/\w.heap[g]? = some (.map es clock)/\MR Γ sh w ents es.toList
 | .ms a ents=>∃ g es clock,Γ.nm b=some g/\w.heap[g]? = some (.map es clock)/\MR Γ sh w (msP a ents) es.toList
 | .dead=>True
structure HR (Γ:Ctx) (H:List Blk) (w:World):Prop where
 inj:∀ b b' g,Γ.nm b=some g->Γ.nm b'=some g->b=b'
 lt:∀ b g,Γ.nm b=some g->b<H.length/\g<w.heap.size/\¬ Γ.St g
 stlt:∀ g,Γ.St g->g<w.heap.size
 nms:∀ b (h:b<H.length),∀ c∈(H[b]).nms,c<H.length
 blk:∀ b (h:b<H.length),BR Γ (A1 H) w b (H[b])
structure SR (Γ:Ctx) (H:List Blk) (w:World) (sl:List PV) (tmps:Array Value):Prop where
 size:tmps.size=sl.length
 nms:∀ c∈B3 sl,c<H.length
 slot:∀ i (h:i<sl.length),∃ V,tmps[i]? = some V/\VP Γ (A1 H) w (sl[i]) V
theorem BR.mono {Γ Γ':Ctx} {sh sh':Nat->Option Shp} {w w':World} {ok:Nat->Prop} (M:P7 Γ sh w Γ' sh' w' ok) {b:Nat} {x:Blk}
  (h:BR Γ sh w b x) (hnm:Γ'.nm b = Γ.nm b) (hheap:∀ g,Γ.nm b=some g->w'.heap[g]? = w.heap[g]?) (hok:∀ c∈x.nms,ok c):BR Γ' sh' w' b x:=by
 cases x with
 | arr v e sz els=>
  rcases h with h | ⟨hn,g,cur,h1,h2,h3,h4,h5⟩
  ·exact .inl h
  ·refine .inr ⟨hn,g,cur,by rw [hnm];exact h1,by rw [hheap g h1];exact h2,h3,h4,λi h j h'=>?_⟩
   obtain ⟨V,e1,e2⟩:=h5 i h j h'
   exact ⟨V,e1,e2.mono M.st M.sub⟩
 | box cells=>
  obtain ⟨g,cur,e,h1,h2,h3,h4⟩:=h
  refine ⟨g,cur,e,by rw [hnm];exact h1,by rw [hheap g h1];exact h2,h3,λj h=>?_⟩
  obtain ⟨V,e1,e2⟩:=h4 j h
  exact ⟨V,e1,e2.mono M λc hc=>hok c (by simp only [Blk.nms];exact A8.2 ⟨j,h,hc⟩)⟩
 | iter s p=>
  obtain ⟨g,s',h1,h2,h3⟩:=h
  exact ⟨g,s',by rw [hnm];exact h1,by rw [hheap g h1];exact h2,h3⟩
 | mp ents=>
  obtain ⟨g,es,ck,h1,h2,h3⟩:=h
  exact ⟨g,es,ck,by rw [hnm];exact h1,by rw [hheap g h1];exact h2,h3.imp λv hv V k=>k.mono M λc hc=>hok c (Pz hv c hc)⟩
 | ms a ents=>
  obtain ⟨g,es,ck,h1,h2,h3⟩:=h
  exact ⟨g,es,ck,by rw [hnm];exact h1,by rw [hheap g h1];exact h2,h3.imp λv hv V k=>k.mono M λc hc=>by rw [A48 hv] at hc;simp at hc⟩
 | dead=>trivial
theorem SR.mono {Γ Γ':Ctx} {H H':List Blk} {w w':World} {ok:Nat->Prop} {sl:List PV} {tmps:Array Value} (M:P7 Γ (A1 H) w Γ' (A1 H') w' ok)
  (h:SR Γ H w sl tmps) (hok:∀ c∈B3 sl,ok c/\c<H'.length):SR Γ' H' w' sl tmps:=by
 refine ⟨h.size,λc hc=>(hok c hc).2,λi hi=>?_⟩
 obtain ⟨V,e1,e2⟩:=h.slot i hi
 exact ⟨V,e1,e2.mono M λc hc=>(hok c (A8.2 ⟨i,hi,hc⟩)).1⟩
def Ext (w w':World):Prop:=∀ g,g<w.heap.size->w'.heap[g]? = w.heap[g]?
theorem Ext.refl (w:World):Ext w w:=λ_ _=>rfl
theorem Vi {w w':World} (h:Ext w w') {a:Addr} {v:Value} (hv:w.cell? a=some v):w'.cell? a=some v:=by
 have hlt:a.block<w.heap.size:=Decidable.byContradiction λhn=>by
  simp [World.cell?,Array.getElem?_eq_none (Nat.le_of_not_lt hn)] at hv
 rw [<-hv]
 simp only [World.cell?,h a.block hlt]
def Bn5 (P:Program) (w:World) (m:Sem Value) (V:Value):Prop:=∀ w':World,Ext w w'->m.run P w' = .ok V w'
def QV (P:Program) (Γ:Ctx) (H:List Blk) (w:World) (m:Sem Value) (v:PV):Prop:=
 (∀ c∈v.nms,c<H.length)/\∃ V,VP Γ (A1 H) w v V/\Bn5 P w m V
def QV0 (P:Program) (Γ:Ctx) (H:List Blk) (w:World) (m:Sem Value) (v:PV):Prop:=
 (∀ c∈v.nms,c<H.length)/\∃ V,VP Γ (A1 H) w v V/\∀ w':World,m.run P w' = .ok V w'
theorem QV0.qv {P:Program} {Γ:Ctx} {H:List Blk} {w:World} {m:Sem Value} {v:PV} (h:QV0 P Γ H w m v):QV P Γ H w m v:=
 ⟨h.1,h.2.imp λV k=>⟨k.1,λw' _=>k.2 w'⟩⟩
theorem QV0.mk0 {P:Program} {Γ:Ctx} {H:List Blk} {w:World} {m:Sem Value} {v:PV} {V:Value} (hn:∀ c∈v.nms,c<H.length) (h:VP Γ (A1 H) w v V) (hm:∀ w':World,m.run P w' = .ok V w'):QV0 P Γ H w m v:=⟨hn,V,h,hm⟩
section inv
variable {Γ : Ctx} {sh : Nat -> Option Shp} {w : World} {V : Value} {St : Nat -> Prop}
theorem VP.inv_s {x:SV} (h:VP Γ sh w (.s x) V):VS Γ.St w x V:=by cases h;assumption
theorem VS.inv_bool {b:Bool} (h:VS St w (.bool b) V):V = .bool b:=by cases h;rfl
theorem VS.inv_int {k:IntKind} {n:Int} (h:VS St w (.int k n) V):V = .int k n:=by cases h;rfl
theorem VS.inv_str {l:List UInt8} (h:VS St w (.str l) V):∃ s:ByteArray,V = .string s/\s.data.toList=l:=by cases h;exact ⟨_,rfl,rfl⟩
theorem VP.inv_bool {b:Bool} (h:VP Γ sh w (.s (.bool b)) V):V = .bool b:=h.inv_s.inv_bool
theorem VP.inv_int {k:IntKind} {n:Int} (h:VP Γ sh w (.s (.int k n)) V):V = .int k n:=h.inv_s.inv_int
theorem VP.inv_str {l:List UInt8} (h:VP Γ sh w (.s (.str l)) V):∃ s:ByteArray,V = .string s/\s.data.toList=l:=h.inv_s.inv_str
theorem VP.inv_agg {l:List PV} (h:VP Γ sh w (.agg l) V):∃ A:Array Value,V = .agg A/\A.size=l.length/\∀ j (h:j<l.length),∃ U,A[j]? = some U/\VP Γ sh w (l[j]) U:=by
 cases h with
 | agg l A As hA ha hl=>exact ⟨A,rfl,hA,λj h=>⟨As j,ha j h,hl j h⟩⟩
theorem VP.inv_tup {l:List PV} (h:VP Γ sh w (.tup l) V):∃ A:Array Value,V = .tuple A/\A.size=l.length/\∀ j (h:j<l.length),∃ U,A[j]? = some U/\VP Γ sh w (l[j]) U:=by
 cases h with
 | tup l A As hA ha hl=>exact ⟨A,rfl,hA,λj h=>⟨As j,ha j h,hl j h⟩⟩
theorem VP.mk_agg {l:List PV} {A:Array Value} (hA:A.size=l.length) (h:∀ j (h:j<l.length),∃ U,A[j]? = some U/\VP Γ sh w (l[j]) U):VP Γ sh w (.agg l) (.agg A):=
 .agg l A (λj=>A.getD j undef) hA (λj hj=>by obtain ⟨U,e,_⟩:=h j hj;simp [e]) (λj hj=>by obtain ⟨U,e,k⟩:=h j hj;simpa [e] using k)
theorem VP.mk_tup {l:List PV} {A:Array Value} (hA:A.size=l.length) (h:∀ j (h:j<l.length),∃ U,A[j]? = some U/\VP Γ sh w (l[j]) U):VP Γ sh w (.tup l) (.tuple A):=
 .tup l A (λj=>A.getD j undef) hA (λj hj=>by obtain ⟨U,e,_⟩:=h j hj;simp [e]) (λj hj=>by obtain ⟨U,e,k⟩:=h j hj;simpa [e] using k)
theorem VP.bool (b:Bool):VP Γ sh w (.s (.bool b)) (.bool b):=.s _ _ (.bool b)
theorem VP.int (k:IntKind) (n:Int):VP Γ sh w (.s (.int k n)) (.int k n):=.s _ _ (.int k n)
theorem VP.str {l:List UInt8} (s:ByteArray) (h:s.data.toList=l):VP Γ sh w (.s (.str l)) (.string s):=by subst h;exact .s _ _ (.str s)
end inv
theorem A7 {R:Type} {c:Bool} {k:Option R} {r:R} (h:need c k=some r):c=true/\k=some r:=by
 cases c<;>simp_all [need]
theorem Lf (a b:List UInt8):bytesLess a b=Op.bytesLess a b:=by
 induction a generalizing b with
 | nil=>cases b<;>simp [bytesLess,Op.bytesLess]
 | cons x a ih=>
  cases b with
  | nil=>simp [bytesLess,Op.bytesLess]
  | cons y b=>simp [bytesLess,Op.bytesLess,ih]
section ops
variable {P : Program} {Γ : Ctx} {H : List Blk} {w : World} {R : Type} {r : R}
theorem QV.val {m:Sem Value} {v:PV} {V:Value} (hn:v.nms=[]) (h:VP Γ (A1 H) w v V) (hm:∀ w':World,Ext w w'->m.run P w' = .ok V w'):QV P Γ H w m v:=
 ⟨by simp [hn],V,h,hm⟩
theorem QV0.val {m:Sem Value} {v:PV} {V:Value} (hn:v.nms=[]) (h:VP Γ (A1 H) w v V) (hm:∀ w':World,m.run P w' = .ok V w'):QV0 P Γ H w m v:=
 ⟨by simp [hn],V,h,hm⟩
theorem Ae0 {op:UnOp} {x:PV} {X:Value} {k:PV->Option R} (h:unK op x k=some r) (hx:VP Γ (A1 H) w x X) :
  ∃ v,k v=some r/\QV P Γ H w (Op.unary op X) v:=by
 unfold unK at h
 split at h
 ·obtain rfl:=hx.inv_bool
  exact ⟨_,h,.val rfl (.bool _) λw' _=>by simp [Op.unary]⟩
 ·obtain rfl:=hx.inv_int
  exact ⟨_,h,.val rfl (.int _ _) λw' _=>by simp [Op.unary,Op.intArith]⟩
 ·cases h
theorem Aq5 (a b:Int):(!decide (b<a))=decide (a<=b):=by grind
theorem OK {op:BinOp} {t:Nat} {ox oy:Operand} {kd:IntKind} {a b:Int} {v:PV} (h:Bf0 op kd a b=some v) :
  QV0 P Γ H w (do eqGuard op t ox oy (.int kd a) (.int kd b);binOp op t (.int kd a) (.int kd b)) v:=by
 cases op<;>simp only [Bf0,Option.some.injEq,reduceCtorEq] at h<;>subst h <;>
  first
  | exact .val rfl (.int _ _) λw'=>by simp [eqGuard,binOp,Op.intArith,Op.intBits]
  | exact .val rfl (.bool _) λw'=>by simp [eqGuard,binOp,Op.intCmp,Q7,Aq5]
theorem OL {op:BinOp} {t:Nat} {ox oy:Operand} {a b:ByteArray} {v:PV} (h:Bf1 op a.data.toList b.data.toList=some v) (hne:op≠.add) :
  QV0 P Γ H w (do eqGuard op t ox oy (.string a) (.string b);binOp op t (.string a) (.string b)) v:=by
 cases op<;>simp only [Bf1,Option.some.injEq,reduceCtorEq,ne_eq,not_true_eq_false] at h hne<;>subst h <;>
  exact .val rfl (.bool _) λw'=>by simp [eqGuard,binOp,Op.stringOp,ByteArray.toList_eq,Lf]
theorem Rn {x:PV} {X:Value} {z:Bool} (hx:VP Γ (A1 H) w x X) (h:WQ H x=some z) :
  ∃ a n c,X = .slice a n c/\a.isNone=z/\(a=none->n=0/\c=0):=by
 unfold WQ at h
 split at h
 ·cases hx;simp at h;exact ⟨none,0,0,rfl,by simp [h],λ_=>⟨rfl,rfl⟩⟩
 ·have hs:=hx.inv_s
  cases hs<;>simp at h<;>subst h<;>first | exact ⟨_,_,_,rfl,rfl,λh=>⟨rfl,rfl⟩⟩ | exact ⟨_,_,_,rfl,rfl,λh=>by simp at h⟩
 ·rename_i b
  split at h
  ·rename_i v e sz els hb
   have hsh:A1 H b=some (.arr v e sz els.length):=by simp [A1,hb,Blk.shp]
   simp only [Option.some.injEq] at h
   subst h
   cases hx with
   | flv _ e' sz' h'=>
    rw [hsh] at h'
    simp only [Option.some.injEq,Shp.arr.injEq] at h'
    obtain ⟨rfl,_,_,h4⟩:=h'
    exact ⟨none,0,0,rfl,by simp [List.length_eq_zero_iff.1 h4],λ_=>⟨rfl,rfl⟩⟩
   | fl _ g v' e' sz' n cap h' hv hg hcap hm hs=>
    rw [hsh] at h'
    simp only [Option.some.injEq,Shp.arr.injEq] at h'
    obtain ⟨rfl,_,_,rfl⟩:=h'
    refine ⟨_,_,_,rfl,?_,λh=>by simp at h⟩
    cases v
    ·rfl
    ·have:=hv rfl
     cases els<;>simp_all
  ·cases h
 ·rename_i b i n
  split at h
  ·rename_i v e sz els hb
   have hsh:A1 H b=some (.arr v e sz els.length):=by simp [A1,hb,Blk.shp]
   simp only [Option.some.injEq] at h
   subst h
   cases hx with
   | vwv _ e' sz' _ h'=>
    rw [hsh] at h'
    simp only [Option.some.injEq,Shp.arr.injEq] at h'
    obtain ⟨rfl,_,_,h4⟩:=h'
    exact ⟨none,0,0,rfl,by simp [List.length_eq_zero_iff.1 h4],λ_=>⟨rfl,rfl⟩⟩
   | vw _ _ _ g a cap v' e' sz' m h' hv hg ha hi hcap hm=>
    rw [hsh] at h'
    simp only [Option.some.injEq,Shp.arr.injEq] at h'
    obtain ⟨rfl,_,_,rfl⟩:=h'
    refine ⟨_,_,_,rfl,?_,λh=>by simp at h⟩
    cases v
    ·rfl
    ·have:=hv rfl
     cases els<;>simp_all
  ·cases h
 ·cases h
theorem E1 {C:Cfg} {t e:Nat} (h:C.sh t = .slice e):C.P.underlying t=some (.slice e):=by
 simp only [Cfg.sh,Xn] at h;split at h<;>simp_all
theorem Cm {C:Cfg} {t n e:Nat} (h:C.sh t = .array n e):C.P.underlying t=some (.array n e):=by
 simp only [Cfg.sh,Xn] at h;split at h<;>simp_all
theorem Xo {C:Cfg} {t e:Nat} (h:C.sh t = .ptr e):C.P.underlying t=some (.pointer e):=by
 simp only [Cfg.sh,Xn] at h;split at h<;>simp_all
theorem Qk {C:Cfg} {t:Nat} {fs:List (Nat × Nat)} (h:C.sh t = .struct fs):∃ F:Array Field,C.P.underlying t=some (.struct F)/\fs=F.toList.map λf=>(f.offset,f.type):=by
 simp only [Cfg.sh,Xn] at h;split at h<;>simp_all
theorem ML {C:Cfg} {t:Nat} (h:C.sh t = .fn):∃ a b c,C.P.underlying t=some (.func a b c):=by
 simp only [Cfg.sh,Xn] at h;split at h<;>simp_all
theorem A86 {C:Cfg} {t:Nat} (h:C.sh t = .bool):C.P.underlying t=some .bool:=by
 simp only [Cfg.sh,Xn] at h;split at h<;>simp_all
theorem K3 {P:Program} {t:Nat} {X Y:Value} {b:Bool} {w':World} (he:(Op.equal t X Y).run P w' = .ok b w')
  (h1:∀ op ox oy,(eqGuard op t ox oy X Y).run P w' = .ok () w') (h2:binOp .eql t X Y=(do pure (.bool (<-Op.equal t X Y)))) (h3:binOp .neq t X Y=(do pure (.bool (!(<-Op.equal t X Y))))) :
  (∀ ox oy,(do eqGuard .eql t ox oy X Y;binOp .eql t X Y).run P w' = .ok (.bool b) w')/\(∀ ox oy,(do eqGuard .neq t ox oy X Y;binOp .neq t X Y).run P w' = .ok (.bool (!b)) w'):=by
 refine ⟨λox oy=>?_,λox oy=>?_⟩
 ·rw [h2];simp [h1,he]
 ·rw [h3];simp [h1,he]
theorem Ja {P:Program} {t:Nat} {X Y:Value} {b:Bool} {w':World} (h:∀ d,(Op.equalIn (d+1) t X Y).run P w' = .ok b w'):(Op.equal t X Y).run P w' = .ok b w':=h 9999
theorem VP.inv_nilp {Γ:Ctx} {sh:Nat->Option Shp} {w:World} {V:Value} (h:VP Γ sh w (.s .nilp) V):V = .pointer none:=by
 have:=h.inv_s;cases this;rfl
theorem VP.inv_nilf {Γ:Ctx} {sh:Nat->Option Shp} {w:World} {V:Value} (h:VP Γ sh w (.s .nilf) V):V = .nilFunc:=by
 have:=h.inv_s;cases this;rfl
theorem VP.inv_sp {Γ:Ctx} {sh:Nat->Option Shp} {w:World} {V:Value} {els i o} (h:VP Γ sh w (.s (.sp els i o)) V):∃ a,V = .pointer (some a):=by
 have:=h.inv_s;cases this;exact ⟨_,rfl⟩
theorem VP.inv_ptr {Γ:Ctx} {sh:Nat->Option Shp} {w:World} {V:Value} {b i o} (h:VP Γ sh w (.ptr b i o) V):∃ a,V = .pointer (some a):=by
 cases h<;>exact ⟨_,rfl⟩
theorem VP.inv_fn {Γ:Ctx} {sh:Nat->Option Shp} {w:World} {V:Value} {f x y} (h:VP Γ sh w (.s (.fn f x y)) V):∃ A B,V = .func f A B:=by
 have:=h.inv_s;cases this;exact ⟨_,_,rfl⟩
theorem VP.inv_fnr {Γ:Ctx} {sh:Nat->Option Shp} {w:World} {V:Value} {f x y} (h:VP Γ sh w (.fnr f x y) V):∃ A B,V = .func f A B:=by
 cases h;exact ⟨_,_,rfl⟩
theorem VP.inv_nsl {Γ:Ctx} {sh:Nat->Option Shp} {w:World} {V:Value} (h:VP Γ sh w .nsl V):V = .slice none 0 0:=by
 cases h;rfl
theorem Gc {C:Cfg} {t k e:Nat} (h:C.sh t = .map k e):C.P.underlying t=some (.map k e):=by
 simp only [Cfg.sh,Xn] at h;split at h<;>simp_all
theorem VP.inv_nilm {Γ:Ctx} {sh:Nat->Option Shp} {w:World} {V:Value} (h:VP Γ sh w (.s .nilm) V):V = .map none:=by
 have:=h.inv_s;cases this;rfl
theorem SO {b:Nat} {V:Value} {a:Bool} {ents:List (List UInt8 × List SV)} (hb:H[b]? = some (.ms a ents)) (hv:VP Γ (A1 H) w (.it b) V):∃ g,Γ.nm b=some g/\V = .map (some g):=by
 cases hv with
 | it _ g h hg=>simp [A1,hb,Blk.shp] at h
 | mpv _ g h hg=>exact ⟨g,hg,rfl⟩
theorem SN {b:Nat} {V:Value} {ents:List (List UInt8 × PV)} (hb:H[b]? = some (.mp ents)) (hv:VP Γ (A1 H) w (.it b) V):∃ g,Γ.nm b=some g/\V = .map (some g):=by
 cases hv with
 | it _ g h hg=>simp [A1,hb,Blk.shp] at h
 | mpv _ g h hg=>exact ⟨g,hg,rfl⟩
theorem We {b:Nat} {V:Value} {r:Bool} (h:A24 H b=some r) (hv:VP Γ (A1 H) w (.it b) V):∃ g,V = .map (some g)/\false=r:=by
 unfold A24 at h
 split at h
 ·rename_i ents hb
  obtain ⟨g,_,rfl⟩:=SN hb hv
  exact ⟨g,rfl,by simpa using h⟩
 ·rename_i a ents hb
  obtain ⟨g,_,rfl⟩:=SO hb hv
  exact ⟨g,rfl,by simpa using h⟩
 ·cases h
theorem Vq {C:Cfg} {t:Nat} {x y:PV} {X Y:Value} {b:Bool} (h:A10 H (C.sh t) x y=some b) (hx:VP Γ (A1 H) w x X) (hy:VP Γ (A1 H) w y Y) (w':World) :
  (∀ ox oy,(do eqGuard .eql t ox oy X Y;binOp .eql t X Y).run C.P w' = .ok (.bool b) w')/\(∀ ox oy,(do eqGuard .neq t ox oy X Y;binOp .neq t X Y).run C.P w' = .ok (.bool (!b)) w'):=by
 unfold A10 at h
 split at h
 ·rename_i e hsh
  obtain rfl:=hx.inv_nilp;obtain rfl:=hy.inv_nilp
  simp only [Option.some.injEq] at h;subst h
  exact K3 (Ja λd=>by simp [Op.equalIn,run_underlying (Xo hsh)]) (by intros;simp [eqGuard]) (by simp [binOp]) (by simp [binOp])
 ·rename_i e _ _ _ hsh
  obtain rfl:=hx.inv_nilp;obtain ⟨a,rfl⟩:=hy.inv_sp
  simp only [Option.some.injEq] at h;subst h
  exact K3 (Ja λd=>by simp [Op.equalIn,run_underlying (Xo hsh)]) (by intros;simp [eqGuard]) (by simp [binOp]) (by simp [binOp])
 ·rename_i e _ _ _ hsh
  obtain rfl:=hy.inv_nilp;obtain ⟨a,rfl⟩:=hx.inv_sp
  simp only [Option.some.injEq] at h;subst h
  exact K3 (Ja λd=>by simp [Op.equalIn,run_underlying (Xo hsh)]) (by intros;simp [eqGuard]) (by simp [binOp]) (by simp [binOp])
 ·rename_i e _ _ _ hsh
  obtain rfl:=hx.inv_nilp;obtain ⟨a,rfl⟩:=hy.inv_ptr
  simp only [Option.some.injEq] at h;subst h
  exact K3 (Ja λd=>by simp [Op.equalIn,run_underlying (Xo hsh)]) (by intros;simp [eqGuard]) (by simp [binOp]) (by simp [binOp])
 ·rename_i e _ _ _ hsh
  obtain rfl:=hy.inv_nilp;obtain ⟨a,rfl⟩:=hx.inv_ptr
  simp only [Option.some.injEq] at h;subst h
  exact K3 (Ja λd=>by simp [Op.equalIn,run_underlying (Xo hsh)]) (by intros;simp [eqGuard]) (by simp [binOp]) (by simp [binOp])
 ·rename_i hsh
  obtain ⟨a1,a2,a3,hu⟩:=ML hsh
  obtain rfl:=hx.inv_nilf;obtain rfl:=hy.inv_nilf
  simp only [Option.some.injEq] at h;subst h
  exact K3 (Ja λd=>by simp [Op.equalIn,run_underlying hu]) (by intros;simp [eqGuard]) (by simp [binOp]) (by simp [binOp])
 ·rename_i hsh
  obtain ⟨a1,a2,a3,hu⟩:=ML hsh
  obtain rfl:=hx.inv_nilf;obtain ⟨A,B,rfl⟩:=hy.inv_fn
  simp only [Option.some.injEq] at h;subst h
  exact K3 (Ja λd=>by simp [Op.equalIn,run_underlying hu]) (by intros;simp [eqGuard]) (by simp [binOp]) (by simp [binOp])
 ·rename_i hsh
  obtain ⟨a1,a2,a3,hu⟩:=ML hsh
  obtain rfl:=hy.inv_nilf;obtain ⟨A,B,rfl⟩:=hx.inv_fn
  simp only [Option.some.injEq] at h;subst h
  exact K3 (Ja λd=>by simp [Op.equalIn,run_underlying hu]) (by intros;simp [eqGuard]) (by simp [binOp]) (by simp [binOp])
 ·rename_i hsh
  obtain ⟨a1,a2,a3,hu⟩:=ML hsh
  obtain rfl:=hx.inv_nilf;obtain ⟨A,B,rfl⟩:=hy.inv_fnr
  simp only [Option.some.injEq] at h;subst h
  exact K3 (Ja λd=>by simp [Op.equalIn,run_underlying hu]) (by intros;simp [eqGuard]) (by simp [binOp]) (by simp [binOp])
 ·rename_i hsh
  obtain ⟨a1,a2,a3,hu⟩:=ML hsh
  obtain rfl:=hy.inv_nilf;obtain ⟨A,B,rfl⟩:=hx.inv_fnr
  simp only [Option.some.injEq] at h;subst h
  exact K3 (Ja λd=>by simp [Op.equalIn,run_underlying hu]) (by intros;simp [eqGuard]) (by simp [binOp]) (by simp [binOp])
 ·rename_i p q hsh
  obtain rfl:=hx.inv_bool;obtain rfl:=hy.inv_bool
  simp only [Option.some.injEq] at h;subst h
  exact K3 (Ja λd=>by simp [Op.equalIn,run_underlying (A86 hsh)]) (by intros;simp [eqGuard]) (by simp [binOp]) (by simp [binOp])
 ·rename_i hsh
  obtain rfl:=hx.inv_nilm;obtain rfl:=hy.inv_nilm
  simp only [Option.some.injEq] at h;subst h
  exact K3 (Ja λd=>by simp [Op.equalIn,run_underlying (Gc hsh)]) (by intros;simp [eqGuard]) (by simp [binOp]) (by simp [binOp])
 ·rename_i hsh
  obtain ⟨g,rfl,rfl⟩:=We h hy
  obtain rfl:=hx.inv_nilm
  exact K3 (Ja λd=>by simp [Op.equalIn,run_underlying (Gc hsh)]) (by intros;simp [eqGuard]) (by simp [binOp]) (by simp [binOp])
 ·rename_i hsh
  obtain ⟨g,rfl,rfl⟩:=We h hx
  obtain rfl:=hy.inv_nilm
  exact K3 (Ja λd=>by simp [Op.equalIn,run_underlying (Gc hsh)]) (by intros;simp [eqGuard]) (by simp [binOp]) (by simp [binOp])
 ·rename_i e hsh
  obtain rfl:=hy.inv_nsl
  obtain ⟨a,n,c,rfl,rfl,ha⟩:=Rn hx h
  refine K3 ?_ (by intros;simp [eqGuard]) (by simp [binOp]) (by simp [binOp])
  exact Ja λd=>by cases a<;>simp [Op.equalIn,run_underlying (E1 hsh)]
 ·rename_i e hsh _
  obtain rfl:=hx.inv_nsl
  obtain ⟨a,n,c,rfl,rfl,ha⟩:=Rn hy h
  refine K3 ?_ (by intros;simp [eqGuard]) (by simp [binOp]) (by simp [binOp])
  exact Ja λd=>by cases a<;>simp [Op.equalIn,run_underlying (E1 hsh)]
 ·cases h
end ops
theorem Ca:∀ {x y:List PV} {b:Bool},H7 x y=some b->x.length=y.length
 | [],[],_,_=>rfl
 | a::x,c::y,b,h=>by
  simp only [H7] at h
  split at h
  ·rename_i p q h1 h2
   simp [Ca h2]
  ·cases h
 | [],_::_,_,h=>by simp [H7] at h
 | _::_,[],_,h=>by simp [H7] at h
theorem Bz:∀ {x x' y y':List PV} {b:Bool},x.length=y.length->H7 (x++x') (y++y')=some b->∃ p q,H7 x y=some p/\H7 x' y'=some q/\b=(p&&q)
 | [],x',[],y',b,_,h=>⟨true,b,rfl,h,by simp⟩
 | a::x,x',c::y,y',b,hl,h=>by
  simp only [List.cons_append,H7] at h
  split at h
  ·rename_i p q h1 h2
   obtain ⟨p',q',e1,e2,rfl⟩:=Bz (by simpa using hl) h2
   refine ⟨p&&p',q',by simp [H7,h1,e1],e2,?_⟩
   grind
  ·cases h
 | [],_,_::_,_,_,hl,_=>by simp at hl
 | _::_,_,[],_,_,hl,_=>by simp at hl
def KS (ks:List CK) (x:List PV):Prop:=x.length=ks.length/\∀ j (h:j<ks.length) (h':j<x.length),(x[j]).has (ks[j])=true
theorem KS.append_inv {a b:List CK} {x:List PV} (h:KS (a++b) x):∃ y z,x=y++z/\KS a y/\KS b z:=by
 obtain ⟨hl,hk⟩:=h
 refine ⟨x.take a.length,x.drop a.length,(List.take_append_drop _ _).symm,⟨by simp at hl ⊢;omega,λj h h'=>?_⟩,⟨by simp at hl ⊢;omega,λj h h'=>?_⟩⟩
 all_goals grind
def At (Γ:Ctx) (sh:Nat->Option Shp) (w:World) (A:Array Value) (off:Nat) (x:List PV):Prop:=∀ j (h:j<x.length),∃ U,A[off+j]? = some U/\VP Γ sh w (x[j]) U
theorem At.append_inv {Γ:Ctx} {sh:Nat->Option Shp} {w:World} {A:Array Value} {off:Nat} {x y:List PV} (h:At Γ sh w A off (x++y)):At Γ sh w A off x/\At Γ sh w A (off+x.length) y:=by
 refine ⟨λj hj=>?_,λj hj=>?_⟩
 ·obtain ⟨U,e,k⟩:=h j (by simp;omega)
  grind
 ·obtain ⟨U,e,k⟩:=h (x.length+j) (by simp;omega)
  grind
def Cc:TypeDesc->Bool
 | .struct _=>true
 | .array _ _=>true
 | _=>false
theorem Bj {P:Program} {t:TypeId} {d:TypeDesc} (h:P.underlying t=some d) (w:World):(isAgg t).run P w = .ok (Cc d) w:=by
 unfold isAgg
 rw [Sem.run_bind,run_underlying h w]
 cases d<;>simp [Cc]
theorem Q2 {P:Program} {t:TypeId} {d:TypeDesc} {i:TypeInfo} (h:P.underlying t=some d) (hd:Cc d=true) (hi:P.info? t=some i) (A:Array Value) (off:Nat) (w:World) :
  (part t A off).run P w = .ok (.agg (A.extract off (off+i.size))) w:=by
 simp [part,Bj h,hd,sizeOf,typeInfo,hi]
theorem Ay {P:Program} {t:TypeId} {d:TypeDesc} (h:P.underlying t=some d) (hd:Cc d=false) {A:Array Value} {off:Nat} {U:Value} (hU:A[off]? = some U) (w:World) :
  (part t A off).run P w = .ok U w:=by
 simp [part,Bj h,hd,hU]
theorem At.extract {Γ:Ctx} {sh:Nat->Option Shp} {w:World} {A:Array Value} {off n:Nat} {x:List PV} (h:At Γ sh w A off x) (hn:x.length<=n):At Γ sh w (A.extract off (off+n)) 0 x:=by
 intro j hj
 obtain ⟨U,e,k⟩:=h j hj
 grind
def Be2 (P:Program) (d:Nat) (t:TypeId) (ks:List CK):Prop:=
 ∀ (Γ:Ctx) (sh:Nat->Option Shp) (w:World) (A B:Array Value) (off off':Nat) (x y:List PV) (b:Bool),KS ks x->KS ks y->At Γ sh w A off x->At Γ sh w B off' y->H7 x y=some b->
  ∀ (D:Nat),d<=D->∀ w',∃ a c,(part t A off).run P w' = .ok a w'/\(part t B off').run P w' = .ok c w'/\(Op.equalIn D t a c).run P w' = .ok b w'
theorem QX {P:Program} {t:TypeId} {dd:TypeDesc} {ck:CK} (hu:P.underlying t=some dd) (hd:Cc dd=false)
  (hq:∀ (p q:PV) (b:Bool),p.has ck=true->q.has ck=true->Vp p q=some b->∀ (Γ:Ctx) (sh:Nat->Option Shp) (w:World) U V,VP Γ sh w p U->VP Γ sh w q V->∀ D w',(Op.equalIn (D+1) t U V).run P w' = .ok b w') :
  Be2 P 1 t [ck]:=by
 intro Γ sh w A B off off' x y b hkx hky hA hB he D hD w'
 obtain ⟨hlx,hx⟩:=hkx
 obtain ⟨hly,hy⟩:=hky
 match x,y,hlx,hly with
 | [p],[q],_,_=>
  obtain ⟨U,e1,k1⟩:=hA 0 (by simp)
  obtain ⟨V,e2,k2⟩:=hB 0 (by simp)
  simp only [Nat.add_zero] at e1 e2
  obtain ⟨D,rfl⟩:∃ D',D=D'+1:=⟨D-1,by omega⟩
  simp only [H7] at he
  split at he
  ·rename_i p' q' h1 h2
   simp only [Option.some.injEq] at h2 he
   subst h2 he
   refine ⟨U,V,Ay hu hd e1 w',Ay hu hd e2 w',?_⟩
   rw [Bool.and_true]
   exact hq p q p' (by simpa using hx 0 (by simp) (by simp)) (by simpa using hy 0 (by simp) (by simp)) h1 Γ sh w U V k1 k2 D w'
  ·cases he
theorem AZ {c:CK} {p:PV} (h:p.has c=true) (hc:c = .bool\/(∃ k,c = .int k)\/c = .str):∃ x,p = .s x/\x.has c=true:=by
 rcases hc with rfl | ⟨k,rfl⟩ | rfl<;>cases p<;>simp_all [PV.has]
theorem Lz {P:Program} {d:Nat} {f:Nat->Option (List CK)} (hf:∀ t ks,f t=some ks->Be2 P d t ks) {Γ:Ctx} {sh:Nat->Option Shp} {w:World} {A B:Array Value} {D:Nat} (hD:d<=D) (w':World) :
  ∀ (fs:List Field) (off:Nat) (ks:List CK) (x y:List PV) (b:Bool),Wk f fs off=some ks->KS ks x->KS ks y->At Γ sh w A off x->At Γ sh w B off y->H7 x y=some b->
   (Op.eqFields D A B fs).run P w' = .ok b w'
 | [],off,ks,x,y,b,h,hx,hy,_,_,he=>by
  simp only [Wk,Option.some.injEq] at h
  subst h
  obtain rfl:=List.eq_nil_of_length_eq_zero hx.1
  obtain rfl:=List.eq_nil_of_length_eq_zero hy.1
  simp only [H7,Option.some.injEq] at he
  subst he
  simp [Op.eqFields]
 | g::fs,off,ks,x,y,b,h,hx,hy,hA,hB,he=>by
  simp only [Wk] at h
  split at h
  ·rename_i hc
   simp only [Bool.and_eq_true,beq_iff_eq,bne_iff_ne,ne_eq] at hc
   split at h
   ·rename_i a ha
    split at h
    ·rename_i c hc2
     simp only [Option.some.injEq] at h
     subst h
     obtain ⟨x1,x2,rfl,hx1,hx2⟩:=hx.append_inv
     obtain ⟨y1,y2,rfl,hy1,hy2⟩:=hy.append_inv
     obtain ⟨p,q,e1,e2,rfl⟩:=Bz (by rw [hx1.1,hy1.1]) he
     have hA':=hA.append_inv
     have hB':=hB.append_inv
     obtain ⟨u,v,r1,r2,r3⟩:=hf g.type a ha Γ sh w A B off off x1 y1 p hx1 hy1 hA'.1 hB'.1 e1 D hD w'
     have ih:=Lz hf hD w' fs (off+a.length) c x2 y2 q hc2 hx2 hy2 (by rw [<-hx1.1];exact hA'.2) (by rw [<-hy1.1];exact hB'.2) e2
     simp only [Op.eqFields]
     rw [if_pos hc.2,hc.1]
     simp only [Sem.run_bind,r1,r2,r3,Result.andThen_ok,Sem.run_ite,Sem.run_pure,ih]
     grind
    grind
   ·cases h
  ·cases h
theorem ID {P:Program} {D:Nat} {t e:TypeId} {n:Nat} {i:TypeInfo} (hu:P.underlying t=some (.array n e)) (hi:P.info? e=some i) {A B:Array Value} (w':World) (q:Nat->Bool)
  (h:∀ j,j<n->∃ a c,(part e A (j*i.size)).run P w' = .ok a w'/\(part e B (j*i.size)).run P w' = .ok c w'/\(Op.equalIn D e a c).run P w' = .ok (q j) w') :
  (Op.equalIn (D+1) t (.agg A) (.agg B)).run P w' = .ok ((List.range n).all q) w':=by
 simp only [Op.equalIn,Sem.run_bind,run_underlying hu,Result.andThen_ok,sizeOf,typeInfo,run_program,hi,Sem.run_pure]
 rw [Std.Legacy.Range.forIn_eq_forIn_range']
 simp only [Std.Legacy.Range.size,Nat.sub_zero,Nat.add_sub_cancel,Nat.div_one]
 have key:∀ (m s:Nat),s+m=n->
   (Sem.run P (forIn (m:=Sem) (List.range' s m 1) ((none,()):Option Bool × Unit) λi_1 __s=>do
      let __do_lift <-part e A (i_1*i.size)
      let __do_lift_1 <-part e B (i_1*i.size)
      let __do_lift <-Op.equalIn D e __do_lift __do_lift_1
      if (!__do_lift)=true then pure (ForInStep.done (some false,())) else pure (ForInStep.yield (none,()))) w') =
    .ok (if ((List.range' s m).all q) then (none,()) else (some false,())) w':=by
  intro m
  induction m with
  | zero=>intro s hs;simp
  | succ m ih=>
   intro s hs
   obtain ⟨a,c,r1,r2,r3⟩:=h s (by omega)
   simp only [List.range'_succ,List.forIn_cons,Sem.run_bind,r1,r2,r3,Result.andThen_ok,Sem.run_ite,Sem.run_pure]
   cases hq:q s
   ·simp [hq]
   ·simp only [Bool.not_true,Bool.false_eq_true,if_false,Result.andThen_ok]
    rw [ih (s+1) (by omega)]
    simp only [List.all_cons,hq,Bool.true_and]
 have:=key n 0 (by omega)
 rw [List.range_eq_range']
 rw [this]
 cases (List.range' 0 n).all q<;>simp
theorem Fq {α:Type} (n:Nat) (a:List α):(List.replicate (n+1) a).flatten=a++(List.replicate n a).flatten:=by grind
theorem He:∀ (n:Nat) (a:List CK) (x y:List PV) (b:Bool),KS (List.replicate n a).flatten x->KS (List.replicate n a).flatten y->H7 x y=some b->
  ∃ q:Nat->Bool,b=(List.range n).all q/\∀ j,j<n->∃ u v,KS a u/\KS a v/\H7 u v=some (q j)/\
   (∃ p r,x=p++(u++r)/\p.length=j*a.length)/\(∃ p r,y=p++(v++r)/\p.length=j*a.length)
 | 0,a,x,y,b,hx,hy,he=>by
  simp only [List.replicate_zero,List.flatten_nil] at hx hy
  obtain rfl:=List.eq_nil_of_length_eq_zero hx.1
  obtain rfl:=List.eq_nil_of_length_eq_zero hy.1
  simp only [H7,Option.some.injEq] at he
  simp_all
 | n+1,a,x,y,b,hx,hy,he=>by
  rw [Fq] at hx hy
  obtain ⟨x1,x2,rfl,hx1,hx2⟩:=hx.append_inv
  obtain ⟨y1,y2,rfl,hy1,hy2⟩:=hy.append_inv
  obtain ⟨p,q,e1,e2,rfl⟩:=Bz (by rw [hx1.1,hy1.1]) he
  obtain ⟨qq,rfl,hq⟩:=He n a x2 y2 q hx2 hy2 e2
  refine ⟨λj=>match j with | 0=>p | j+1=>qq j,?_,λj hj=>?_⟩
  ·rw [List.range_succ_eq_map,List.all_cons,List.all_map]
   rfl
  ·cases j with
   | zero=>exact ⟨x1,y1,hx1,hy1,e1,⟨[],x2,rfl,by simp⟩,⟨[],y2,rfl,by simp⟩⟩
   | succ j=>
    obtain ⟨u,v,k1,k2,k3,⟨p1,r1,h1,h2⟩,⟨p2,r2,h3,h4⟩⟩:=hq j (by omega)
    exact ⟨u,v,k1,k2,k3,⟨x1++p1,r1,by rw [h1,List.append_assoc],by rw [List.length_append,h2,hx1.1,Nat.add_mul];omega⟩,⟨y1++p2,r2,by rw [h3,List.append_assoc],by rw [List.length_append,h4,hy1.1,Nat.add_mul];omega⟩⟩
theorem At.mid {Γ:Ctx} {sh:Nat->Option Shp} {w:World} {A:Array Value} {off:Nat} {p u r:List PV} (h:At Γ sh w A off (p++(u++r))):At Γ sh w A (off+p.length) u:=
 (h.append_inv.2).append_inv.1
theorem Vo {P:Program}:∀ (d t:Nat) (ks:List CK),BJ P d t=some ks->Be2 P d t ks
 | 0,t,ks,h=>by simp [BJ] at h
 | d+1,t,ks,h=>by
  have ih:=Vo (P:=P) d
  simp only [BJ] at h
  split at h
  ·rename_i hu
   simp only [Option.some.injEq] at h
   subst h
   have:=QX (P:=P) (ck:=.bool) hu rfl (λp q b hp hq he Γ sh w U V hU hV D w'=>by
    obtain ⟨x,rfl,hx⟩:=AZ hp (.inl rfl)
    obtain ⟨y,rfl,hy⟩:=AZ hq (.inl rfl)
    cases x<;>simp [SV.has] at hx
    cases y<;>simp [SV.has] at hy
    obtain rfl:=hU.inv_bool
    obtain rfl:=hV.inv_bool
    simp only [Vp,Option.some.injEq] at he
    subst he
    exact run_equalIn_bool' w' D t _ _ hu)
   exact λΓ sh w A B off off' x y b h1 h2 h3 h4 h5 D hD=>this Γ sh w A B off off' x y b h1 h2 h3 h4 h5 D (by omega)
  ·rename_i k hu
   simp only [Option.some.injEq] at h
   subst h
   have:=QX (P:=P) (ck:=.int k) hu rfl (λp q b hp hq he Γ sh w U V hU hV D w'=>by
    obtain ⟨x,rfl,hx⟩:=AZ hp (.inr (.inl ⟨k,rfl⟩))
    obtain ⟨y,rfl,hy⟩:=AZ hq (.inr (.inl ⟨k,rfl⟩))
    cases x<;>simp [SV.has] at hx
    cases y<;>simp [SV.has] at hy
    subst hx hy
    obtain rfl:=hU.inv_int
    obtain rfl:=hV.inv_int
    simp only [Vp,if_true,Option.some.injEq] at he
    subst he
    exact run_equalIn_int w' D t _ _ _ _ hu)
   exact λΓ sh w A B off off' x y b h1 h2 h3 h4 h5 D hD=>this Γ sh w A B off off' x y b h1 h2 h3 h4 h5 D (by omega)
  ·rename_i hu
   simp only [Option.some.injEq] at h
   subst h
   have:=QX (P:=P) (ck:=.str) hu rfl (λp q b hp hq he Γ sh w U V hU hV D w'=>by
    obtain ⟨x,rfl,hx⟩:=AZ hp (.inr (.inr rfl))
    obtain ⟨y,rfl,hy⟩:=AZ hq (.inr (.inr rfl))
    cases x<;>simp [SV.has] at hx
    cases y<;>simp [SV.has] at hy
    obtain ⟨s1,rfl,rfl⟩:=hU.inv_str
    obtain ⟨s2,rfl,rfl⟩:=hV.inv_str
    simp only [Vp,Option.some.injEq] at he
    subst he
    rw [<-ByteArray.toList_eq,<-ByteArray.toList_eq]
    exact run_equalIn_string w' D t _ _ hu)
   exact λΓ sh w A B off off' x y b h1 h2 h3 h4 h5 D hD=>this Γ sh w A B off off' x y b h1 h2 h3 h4 h5 D (by omega)
  ·rename_i fs hu
   split at h
   ·cases h
   ·rename_i hst
    split at h
    ·rename_i ks' hl
     split at h
     ·rename_i hsz
      simp only [Option.some.injEq] at h
      subst h
      simp only [beq_iff_eq,Option.map_eq_some_iff] at hsz
      obtain ⟨i,hi,hsz⟩:=hsz
      intro Γ sh w A B off off' x y b hkx hky hA hB he D hD w'
      obtain ⟨D,rfl⟩:∃ D',D=D'+1:=⟨D-1,by omega⟩
      refine ⟨_,_,Q2 hu rfl hi A off w',Q2 hu rfl hi B off' w',?_⟩
      have hf:P.fieldsOf t=fs:=by simp [Program.fieldsOf,hu]
      rw [run_equalIn_struct w' D t _ _ (by rw [hf];exact hu) (by simpa using hst),hf]
      exact Lz ih (Γ:=Γ) (sh:=sh) (w:=w) (by omega) w' fs.toList 0 _ x y b hl hkx hky (hA.extract (by rw [hkx.1,hsz];exact Nat.le_refl _)) (hB.extract (by rw [hky.1,hsz];exact Nat.le_refl _)) he
     grind
    grind
  ·rename_i n e hu
   split at h
   ·rename_i a ha
    split at h
    ·rename_i hsz
     simp only [Option.some.injEq] at h
     subst h
     simp only [Bool.and_eq_true,beq_iff_eq,Option.map_eq_some_iff] at hsz
     obtain ⟨⟨ie,hie,hse⟩,it,hit,hst⟩:=hsz
     intro Γ sh w A B off off' x y b hkx hky hA hB he D hD w'
     obtain ⟨D,rfl⟩:∃ D',D=D'+1:=⟨D-1,by omega⟩
     refine ⟨_,_,Q2 hu rfl hit A off w',Q2 hu rfl hit B off' w',?_⟩
     obtain ⟨q,rfl,hq⟩:=He n a x y b hkx hky he
     have hA':At Γ sh w (A.extract off (off+it.size)) 0 x:=hA.extract (by rw [hkx.1,hst];exact Nat.le_refl _)
     have hB':At Γ sh w (B.extract off' (off'+it.size)) 0 y:=hB.extract (by rw [hky.1,hst];exact Nat.le_refl _)
     refine ID hu hie w' q λj hj=>?_
     obtain ⟨u,v,k1,k2,k3,⟨p1,r1,h1,h2⟩,⟨p2,r2,h3,h4⟩⟩:=hq j hj
     have m1:At Γ sh w (A.extract off (off+it.size)) (j*ie.size) u:=by
      have:=(by rw [h1] at hA';exact hA'.mid:At Γ sh w (A.extract off (off+it.size)) (0+p1.length) u)
      grind
     have m2:At Γ sh w (B.extract off' (off'+it.size)) (j*ie.size) v:=by
      have:=(by rw [h3] at hB';exact hB'.mid:At Γ sh w (B.extract off' (off'+it.size)) (0+p2.length) v)
      grind
     exact ih e a ha Γ sh w _ _ _ _ u v (q j) k1 k2 m1 m2 k3 D (by omega) w'
    grind
   ·cases h
  ·cases h
theorem Aq7 {t:TI} {x:List PV} (h:okP t x 0=true) (hl:x.length=t.ks.length):KS t.ks x:=by
 refine ⟨hl,λj hj hj'=>?_⟩
 simp only [okP,Bool.and_eq_true,List.all_eq_true] at h
 have:=h.2 (t.ks[j],j) (by rw [List.mem_zipIdx_iff_getElem?];simp [hj])
 grind
section
variable {Γ : Ctx} {H : List Blk} {w : World} {R : Type} {r : R}
theorem Hw:∀ {ks:List CK} {l:List Value},W6 ks l=true->ks.length=l.length
 | [],[],_=>rfl
 | c::r,v::q,h=>by
  simp only [W6,Bool.and_eq_true] at h
  simp [Hw h.2]
 | [],_::_,h=>by simp [W6] at h
 | _::_,[],h=>by simp [W6] at h
theorem W4 {C:Cfg} {t:Nat} (h:(C.ti t).ok=true):∃ i d z,C.P.info? t=some i/\C.P.underlying t=some d/\i.zero=some z/\i.size=z.cells.size/\i.bytes<=512/\0<i.size/\
  W6 (C.ti t).ks z.cells.toList=true/\(C.ti t).agg=Cc d/\i.size=(C.ti t).ks.length:=by
 simp only [Cfg.ti,A98] at h ⊢
 split at h
 ·rename_i i d ks hi hd hks
  split at h
  ·rename_i z hz
   simp only [Bool.and_eq_true,beq_iff_eq,decide_eq_true_eq] at h
   refine ⟨i,d,z,hi,hd,hz,h.1.1.1,h.1.1.2,h.1.2,h.2,?_,?_⟩
   ·cases d<;>rfl
   ·rw [h.1.1.1,Hw h.2];simp
  ·cases h
 ·cases h
theorem Qz {C:Cfg} {t:Nat} {x y:List PV} {X Y:Value} {b:Bool} (hc:(A09 C.P t&&(C.ti t).agg&&okP (C.ti t) x 0&&okP (C.ti t) y 0&&decide (x.length=(C.ti t).ks.length))=true) (he:H7 x y=some b)
  (hx:VP Γ (A1 H) w (.agg x) X) (hy:VP Γ (A1 H) w (.agg y) Y) (w':World) :
  (∀ ox oy,(do eqGuard .eql t ox oy X Y;binOp .eql t X Y).run C.P w' = .ok (.bool b) w')/\(∀ ox oy,(do eqGuard .neq t ox oy X Y;binOp .neq t X Y).run C.P w' = .ok (.bool (!b)) w'):=by
 simp only [Bool.and_eq_true,decide_eq_true_eq,A09,beq_iff_eq,Bool.not_eq_true'] at hc
 obtain ⟨⟨⟨⟨⟨h1,h2⟩,h6⟩,h3⟩,h4⟩,h5⟩:=hc
 have h5':y.length=(C.ti t).ks.length:=by rw [<-Ca he];exact h5
 obtain ⟨A,rfl,hA1,hA2⟩:=hx.inv_agg
 obtain ⟨B,rfl,hB1,hB2⟩:=hy.inv_agg
 have hat:=Vo (P:=C.P) 20 t _ h1 Γ (A1 H) w A B 0 0 x y b (Aq7 h3 h5) (Aq7 h4 h5') (λj h=>by simpa using hA2 j h) (λj h=>by simpa using hB2 j h) he 10000 (by omega) w'
 obtain ⟨a,c,r1,r2,r3⟩:=hat
 have hagg:∃ i dd,C.P.info? t=some i/\C.P.underlying t=some dd/\Cc dd=true/\i.size=x.length:=by
  have hok:(C.ti t).ok=true:=by simp only [okP,Bool.and_eq_true] at h3;exact h3.1
  obtain ⟨i,d,z,e1,e2,e3,e4,e5,e6,e7,e8,e9⟩:=W4 hok
  grind
 obtain ⟨i,dd,hi,hu,hd,hs⟩:=hagg
 rw [Q2 hu hd hi] at r1 r2
 simp only [Result.ok.injEq,and_true] at r1 r2
 have e1:A.extract 0 (0+i.size)=A:=by rw [hs,Nat.zero_add,<-hA1];simp
 have e2:B.extract 0 (0+i.size)=B:=by rw [hs,Nat.zero_add,Ca he,<-hB1];simp
 rw [e1] at r1;rw [e2] at r2
 subst r1 r2
 have r4:(Op.equal t (.agg A) (.agg B)).run C.P w' = .ok b w':=r3
 exact K3 r4 (λop ox oy=>run_eqGuard_agg w' op t ox oy A B h2) (by simp [binOp]) (by simp [binOp])
theorem Vb {C:Cfg} {op:BinOp} {t:Nat} {ox oy:Operand} {x y:PV} {X Y:Value} {k:PV->Option R} (h:XO C op t x y H k=some r) (hx:VP Γ (A1 H) w x X) (hy:VP Γ (A1 H) w y Y) :
  ∃ v,k v=some r/\QV0 C.P Γ H w (do eqGuard op t ox oy X Y;binOp op t X Y) v:=by
 unfold XO at h
 split at h
 ·obtain rfl:=hx.inv_int;obtain rfl:=hy.inv_int
  obtain ⟨h1,h2⟩:=A7 h
  simp only [decide_eq_true_eq] at h1
  refine ⟨_,h2,.val rfl (.int _ _) λw'=>?_⟩
  simp [eqGuard,binOp,Op.shift,Int.not_lt.2 h1]
 ·obtain rfl:=hx.inv_int;obtain rfl:=hy.inv_int
  obtain ⟨h1,h2⟩:=A7 h
  simp only [decide_eq_true_eq] at h1
  refine ⟨_,h2,.val rfl (.int _ _) λw'=>?_⟩
  simp [eqGuard,binOp,Op.shift,Int.not_lt.2 h1]
 ·obtain rfl:=hx.inv_int;obtain rfl:=hy.inv_int
  obtain ⟨h1,h2⟩:=A7 h
  simp only [Bool.and_eq_true,decide_eq_true_eq,bne_iff_ne,ne_eq] at h1
  obtain ⟨rfl,h1⟩:=h1
  refine ⟨_,h2,.val rfl (.int _ _) λw'=>?_⟩
  simp [eqGuard,binOp,Op.intDiv,h1]
 ·obtain rfl:=hx.inv_int;obtain rfl:=hy.inv_int
  obtain ⟨h1,h2⟩:=A7 h
  simp only [Bool.and_eq_true,decide_eq_true_eq,bne_iff_ne,ne_eq] at h1
  obtain ⟨rfl,h1⟩:=h1
  refine ⟨_,h2,.val rfl (.int _ _) λw'=>?_⟩
  simp [eqGuard,binOp,Op.intDiv,h1]
 ·obtain rfl:=hx.inv_int;obtain rfl:=hy.inv_int
  split at h
  ·rename_i hk
   subst hk
   split at h
   ·rename_i v hv
    exact ⟨v,h,OK hv⟩
   ·cases h
  ·cases h
 ·obtain ⟨a,rfl,rfl⟩:=hx.inv_str;obtain ⟨b,rfl,rfl⟩:=hy.inv_str
  obtain ⟨h1,h2⟩:=A7 h
  simp only [decide_eq_true_eq] at h1
  refine ⟨_,h2,.val rfl (.str (a++b) (by simp)) λw'=>?_⟩
  have e1:a.size=a.data.toList.length:=by rw [Array.length_toList];rfl
  have e2:b.size=b.data.toList.length:=by rw [Array.length_toList];rfl
  have:¬ (((a.size+b.size:Nat):Int) > IntKind.i64.max):=by rw [e1,e2];simp [IntKind.max,IntKind.signed,IntKind.bits];omega
  simp only [eqGuard,binOp,Op.stringOp,Sem.run_bind]
  rw [if_neg this]
  simp
 ·rename_i hne
  obtain ⟨a,rfl,rfl⟩:=hx.inv_str;obtain ⟨b,rfl,rfl⟩:=hy.inv_str
  split at h
  ·rename_i v hv
   exact ⟨v,h,OL hv (by rintro rfl;exact hne rfl)⟩
  ·cases h
 ·split at h
  ·rename_i hc
   split at h
   ·rename_i b hb
    exact ⟨_,h,.val rfl (.bool _) λw'=>(Qz hc hb hx hy w').1 ox oy⟩
   ·cases h
  ·cases h
 ·split at h
  ·rename_i hc
   split at h
   ·rename_i b hb
    exact ⟨_,h,.val rfl (.bool _) λw'=>(Qz hc hb hx hy w').2 ox oy⟩
   ·cases h
  ·cases h
 ·split at h
  ·rename_i b hb
   exact ⟨_,h,.val rfl (.bool _) λw'=>(Vq hb hx hy w').1 ox oy⟩
  ·cases h
 ·split at h
  ·rename_i b hb
   exact ⟨_,h,.val rfl (.bool _) λw'=>(Vq hb hx hy w').2 ox oy⟩
  ·cases h
 ·cases h
end
theorem VS.as {St:Nat->Prop} {Γ:Ctx} {sh:Nat->Option Shp} {w:World} (hSt:Γ.St=St) {c:CK} {x:SV} {V:Value} (hx:VS St w x V) (h:x.has c=true):VP Γ sh w (x.as c) V:=by
 subst hSt
 cases c with
 | bool=>cases x<;>simp [SV.has] at h;exact .s _ _ hx
 | int k=>cases x<;>simp [SV.has] at h;subst h;exact .s _ _ hx
 | str=>cases x<;>simp [SV.has] at h;exact .s _ _ hx
 | ptr=>exact .s _ _ hx
 | map=>exact .s _ _ hx
 | fn=>exact .s _ _ hx
 | sl k=>
  cases x<;>simp [SV.has] at h
  rename_i z t k' els
  show VP Γ sh w (.s (.sl z t k els)) V
  rcases h with rfl | rfl
  ·exact .s _ _ hx
  ·cases hx
   exact .s _ _ (.nil t k)
theorem VP.as {Γ:Ctx} {sh:Nat->Option Shp} {w:World} {c:CK} {x:PV} {V:Value} (hx:VP Γ sh w x V) (h:x.has c=true):VP Γ sh w (x.as c) V:=by
 cases x with
 | s x=>
  have h':x.has c=true:=by cases c<;>simpa [PV.has] using h
  have:=VS.as (Γ:=Γ) (sh:=sh) rfl hx.inv_s h'
  cases c<;>simpa [PV.as,SV.as,PV.toS] using this
 | _=>cases c<;>simp_all [PV.has,PV.as]
theorem PV.as_nms {c:CK} {x:PV}:∀ b∈(x.as c).nms,b∈x.nms:=by
 intro b
 cases x with
 | s x=>cases c<;>simp [PV.as,SV.as,PV.nms]
 | _=>cases c<;>simp [PV.as,PV.nms]
theorem XQ {w w':World} (h:w'.heap=w.heap) (a:Addr):w'.cell? a=w.cell? a:=by simp [World.cell?,h]
theorem O7 {α:Type} {l:List α} {i:Nat} {d:α} (h:i<l.length):l.getD i d=l[i]:=by simp [List.getD,List.getElem?_eq_getElem h]
section
variable {Γ : Ctx} {H : List Blk} {w : World} {R : Type} {r : R}
def Z0 (Γ:Ctx) (sh:Nat->Option Shp) (w:World) (g o:Nat) (x:List PV):Prop:=∀ j (h:j<x.length),∃ U,w.cell? ⟨g,o+j,none⟩=some U/\VP Γ sh w (x[j]) U
theorem F6 (g o j:Nat):(⟨g,o,none⟩:Addr).add j=⟨g,o+j,none⟩:=by unfold Addr.add;split<;>simp_all
theorem Yr {C:Cfg} {tid g o:Nat} {x:List PV} (hok:(C.ti tid).ok=true) (hl:x.length=(C.ti tid).ks.length) (hc:Z0 Γ (A1 H) w g o x)
  (hn:∀ c∈B3 x,c<H.length):QV C.P Γ H w (loadVar tid ⟨g,o,none⟩) (if (C.ti tid).agg then .agg x else x.getD 0 .bad):=by
 obtain ⟨i,d,z,hi,hd,hz,hsz,hby,hpos,hks,hagg,hlen⟩:=W4 hok
 rw [<-hlen] at hl
 let As:Nat->Value:=λj=>(w.cell? ⟨g,o+j,none⟩).getD undef
 have hAs:∀ j,j<x.length->w.cell? ⟨g,o+j,none⟩=some (As j):=λj hj=>by obtain ⟨U,e,_⟩:=hc j hj;simp [As,e]
 have hVs:∀ j (hj:j<x.length),VP Γ (A1 H) w (x[j]) (As j):=λj hj=>by obtain ⟨U,e,k⟩:=hc j hj;simpa [As,e] using k
 by_cases ha:Cc d=true
 ·rw [hagg,if_pos ha]
  refine ⟨by simpa [PV.nms] using hn,.agg ((List.range i.size).map As).toArray,.agg x _ As (by simp [hl]) (λj hj=>by simp [List.getElem?_range (by omega:j<i.size)]) hVs,λw' hw=>?_⟩
  have hl':=run_loadCells_list (P:=C.P) w' ⟨g,o,none⟩ ((List.range i.size).map As) (λj v hv=>by
   rw [F6]
   refine Vi hw ?_
   simp only [List.getElem?_map,Option.map_eq_some_iff] at hv
   obtain ⟨a,e1,e2⟩:=hv
   have:=List.getElem?_eq_some_iff.1 e1
   obtain ⟨h1,h2⟩:=this
   simp at h1 h2
   subst h2 e2
   exact hAs j (by omega))
  simp only [List.length_map,List.length_range] at hl'
  simp [loadVar,Bj hd,ha,sizeOf,typeInfo,hi,hl']
 ·simp only [Bool.not_eq_true] at ha
  rw [hagg,ha]
  have hx0:0<x.length:=by omega
  have e0:x.getD 0 .bad=x[0]:=by simp [List.getD,List.getElem?_eq_getElem hx0]
  simp only [Bool.false_eq_true,if_false]
  rw [e0]
  refine ⟨λc hc=>hn c (A8.2 ⟨0,hx0,hc⟩),As 0,hVs 0 hx0,λw' hw=>?_⟩
  have:=hAs 0 hx0
  simp only [Nat.add_zero] at this
  simp [loadVar,Bj hd,ha,Vi hw this]
def Q4 (t:TI) (cells:List PV) (off:Nat):List PV:=t.ks.zipIdx.map λ(c,j)=>(cells.getD (off+j) .bad).as c
theorem I4 (t:TI) (cells:List PV) (off:Nat):(Q4 t cells off).length=t.ks.length:=by simp [Q4]
theorem HO {t:TI} {cells:List PV} {off:Nat} (h:okP t cells off=true) (j:Nat) (hj:j<t.ks.length):(cells.getD (off+j) .bad).has (t.ks[j])=true:=by
 simp only [okP,Bool.and_eq_true,List.all_eq_true] at h
 exact h.2 (t.ks[j],j) (by rw [List.mem_zipIdx_iff_getElem?];simp [hj])
theorem Wm {t:TI} {cells:List PV} {off:Nat}:Gi t cells off=(if t.agg then .agg (Q4 t cells off) else if t.ks.length=1 then (Q4 t cells off).getD 0 .bad else .bad):=by
 unfold Gi Q4
 split
 ·rfl
 ·split
  ·grind
  ·rename_i hne
   split
   ·rename_i hl
    match hq:t.ks,hl with
    | [c],_=>exact absurd hq (hne c)
   ·rfl
theorem HP {t:TI} {cells:List PV} {off:Nat} (h:okP t cells off=true):∀ j,j<t.ks.length->off+j<cells.length:=by
 intro j hj
 simp only [okP,Bool.and_eq_true,List.all_eq_true] at h
 have:=h.2 (t.ks[j],j) (by rw [List.mem_zipIdx_iff_getElem?];simp [hj])
 apply Decidable.byContradiction
 intro hlt
 rw [List.getD_eq_getElem?_getD,List.getElem?_eq_none (by omega)] at this
 generalize t.ks[j]=c at this
 cases c<;>simp [PV.has] at this
theorem Mj {C:Cfg} {tid g o off:Nat} {cells:List PV} (h:okP (C.ti tid) cells off=true) (hc:Z0 Γ (A1 H) w g o cells) (hn:∀ c∈B3 cells,c<H.length) :
  QV C.P Γ H w (loadVar tid ⟨g,o+off,none⟩) (Gi (C.ti tid) cells off):=by
 have hok:(C.ti tid).ok=true:=by simp only [okP,Bool.and_eq_true] at h;exact h.1
 have hlt:=HP h
 have hx:∀ j (hj:j<(Q4 (C.ti tid) cells off).length),∃ (h':off+j<cells.length) (hk:j<(C.ti tid).ks.length),(Q4 (C.ti tid) cells off)[j]=(cells[off+j]).as ((C.ti tid).ks[j]):=by
  intro j hj
  have hj':j<(C.ti tid).ks.length:=by rw [I4] at hj;exact hj
  exact ⟨hlt j hj',hj',by simp [Q4,List.getElem?_eq_getElem (hlt j hj')]⟩
 have key:=Yr (Γ:=Γ) (H:=H) (w:=w) (C:=C) (tid:=tid) (g:=g) (o:=o+off) (x:=Q4 (C.ti tid) cells off) hok (I4 _ _ _)
  (λj hj=>by
   obtain ⟨h',hk,e⟩:=hx j hj
   obtain ⟨U,e1,k1⟩:=hc (off+j) h'
   have:=HO h j hk
   rw [O7 h'] at this
   exact ⟨U,by rw [<-e1];congr 2;omega,by rw [e];exact k1.as this⟩)
  (λc hc'=>by
   obtain ⟨j,hj,hm⟩:=A8.1 hc'
   obtain ⟨h',hk,e⟩:=hx j hj
   rw [e] at hm
   exact hn c (A8.2 ⟨off+j,h',PV.as_nms c hm⟩))
 rw [Wm]
 by_cases ha:(C.ti tid).agg=true
 ·simpa [ha] using key
 ·simp only [ha] at key ⊢
  by_cases h1:(C.ti tid).ks.length=1
  ·rw [if_pos h1]
   simpa using key
  ·rw [if_neg h1]
   refine ⟨by simp [PV.nms],?_⟩
   obtain ⟨_,V,_,hq⟩:=key
   exact ⟨V,.bad V,hq⟩
theorem HR.box {C:Cfg} (hH:HR Γ H w) {b:Nat} {cells:List PV} (hb:H[b]? = some (.box cells)):∃ g,Γ.nm b=some g/\Z0 Γ (A1 H) w g 0 cells/\∀ c∈B3 cells,c<H.length:=by
 obtain ⟨hlt,hbe⟩:=List.getElem?_eq_some_iff.1 hb
 have:=hH.blk b hlt
 rw [hbe] at this
 obtain ⟨g,cur,e,h1,h2,h3,h4⟩:=this
 refine ⟨g,h1,λj hj=>?_,λc hc=>hH.nms b hlt c (by rw [hbe];exact hc)⟩
 obtain ⟨V,e1,e2⟩:=h4 j hj
 exact ⟨V,by rw [cell_of_row w g _ cur e (0,0) h2,Nat.zero_add];exact e1,e2⟩
theorem Wt (l:List SV):B3 (l.map PV.s)=[]:=by induction l with
 | nil=>rfl
 | cons a l ih=>simp [B3,PV.nms,ih]
theorem HR.arr {C:Cfg} (hH:HR Γ H w) {b:Nat} {v:Bool} {e sz:Nat} {els:List (List SV)} (hb:H[b]? = some (.arr v e sz els)) (hne:¬ (v=true/\els=[])) :
  ∃ g cur,Γ.nm b=some g/\w.heap[g]? = some (.cells cur e (0,0))/\els.length*sz<=cur.size/\(∀ i (h:i<els.length),(els[i]).length=sz)/\∀ i (h:i<els.length),Z0 Γ (A1 H) w g (i*sz) ((els[i]).map .s):=by
 obtain ⟨hlt,hbe⟩:=List.getElem?_eq_some_iff.1 hb
 have:=hH.blk b hlt
 rw [hbe] at this
 rcases this with h | ⟨_,g,cur,h1,h2,h3,h4,h5⟩
 ·exact absurd h hne
 ·refine ⟨g,cur,h1,h2,h3,h4,λi hi j hj=>?_⟩
  simp at hj
  obtain ⟨V,e1,e2⟩:=h5 i hi j hj
  exact ⟨V,by rw [cell_of_row w g _ cur e (0,0) h2];exact e1,by simpa using .s _ _ e2⟩
theorem Z0.flatten {sh:Nat->Option Shp} {g sz:Nat}:∀ (els:List (List SV)) (o:Nat),(∀ i (h:i<els.length),(els[i]).length=sz)->(∀ i (h:i<els.length),Z0 Γ sh w g (o+i*sz) ((els[i]).map .s))->
  Z0 Γ sh w g o (els.flatten.map .s)
 | [],o,_,_=>λj hj=>by simp at hj
 | el::els,o,hl,hc=>by
  have ih:=Z0.flatten (sh:=sh) (g:=g) (sz:=sz) els (o+sz) (λi h=>hl (i+1) (by simpa using h)) (λi h=>by
   have:=hc (i+1) (by simpa using h)
   simp only [List.getElem_cons_succ] at this
   rw [show o+(i+1)*sz=o+sz+i*sz by rw [Nat.add_mul];omega] at this
   exact this)
  have h0:=hc 0 (by simp)
  simp only [Nat.zero_mul,Nat.add_zero,List.getElem_cons_zero] at h0
  have hsz:=hl 0 (by simp)
  simp only [List.getElem_cons_zero] at hsz
  intro j hj
  rw [List.length_map,List.flatten_cons,List.length_append] at hj
  by_cases hlt:j<el.length
  ·obtain ⟨U,e,k⟩:=h0 j (by simpa using hlt)
   exact ⟨U,e,by simpa [List.getElem_append_left,hlt] using k⟩
  ·obtain ⟨U,e,k⟩:=ih (j-sz) (by rw [List.length_map];omega)
   refine ⟨U,by rw [<-e];congr 2;omega,?_⟩
   simp only [List.flatten_cons,List.map_append]
   rw [List.getElem_append_right (by simp;omega)]
   simpa [hsz] using k
theorem VS.sp_cells {sh:Nat->Option Shp} {els:List (List SV)} {i o:Nat} {V:Value} (h:VS Γ.St w (.sp els i o) V) (hi:i<els.length) :
  ∃ g off,V = .pointer (some ⟨g,off+o,none⟩)/\Z0 Γ sh w g off ((els[i]).map .s):=by
 cases h with
 | sp _ _ _ g off sz Vs hg hl hc hv=>
  exact ⟨g,off+i*sz,rfl,λj hj=>by
   simp at hj
   exact ⟨_,hc i hi j hj,by simpa using .s _ _ (hv i hi j hj)⟩⟩
theorem Mb {α:Type} {l:List α} {i:Nat} {d:α} (h:i<l.length):l.getD i d=l[i]:=by simp [List.getD,List.getElem?_eq_getElem h]
theorem HQ {t:TI} {cells:List SV} {off:Nat} (h:okS t cells off=true):okP t (cells.map .s) off=true/\LP t cells off=Gi t (cells.map .s) off:=by
 simp only [okS,Bool.and_eq_true,decide_eq_true_eq,List.all_eq_true] at h
 obtain ⟨⟨h1,h2⟩,h3⟩:=h
 have hget:∀ j,j<t.ks.length->(cells.map PV.s).getD (off+j) .bad = .s (cells.getD (off+j) .nilp):=λj hj=>by grind
 have has:∀ (c:CK) (x:SV),(PV.s x).as c=x.as c:=λc x=>by cases c<;>rfl
 refine ⟨?_,?_⟩
 ·simp only [okP,h1,Bool.true_and,List.all_eq_true]
  rintro ⟨c,j⟩ hm
  have hj:j<t.ks.length:=by grind
  have:=h3 _ hm
  dsimp only at this ⊢
  rw [hget j hj]
  cases c<;>exact this
 ·unfold LP Gi
  have e:(t.ks.zipIdx.map λ(c,j)=>(cells.getD (off+j) .nilp).as c)=t.ks.zipIdx.map λ(c,j)=>((cells.map PV.s).getD (off+j) .bad).as c:=by
   apply List.map_congr_left
   grind
  grind
theorem Rk {C:Cfg} {tid:Nat} {a:PV} {A:Value} {k:PV->Option R} (hH:HR Γ H w) (h:Jg (C.ti tid) a H k=some r) (ha:VP Γ (A1 H) w a A) :
  ∃ v,k v=some r/\QV C.P Γ H w (Instr.loadAt tid A) v:=by
 unfold Jg at h
 split at h
 ·rename_i b i off
  split at h
  ·rename_i cells hb
   split at h
   ·rename_i hi
    subst hi
    obtain ⟨h1,h2⟩:=A7 h
    obtain ⟨g,hg,hc,hn⟩:=hH.box (C:=C) hb
    have hA:A = .pointer (some ⟨g,0+off,none⟩):=by
     cases ha with
     | ptrA _ _ _ g' v e sz n h' hg'=>simp [A1,hb,Blk.shp] at h'
     | ptrB _ _ g' h' hg'=>rw [hg] at hg';cases hg';simp
    subst hA
    refine ⟨_,h2,?_⟩
    have:=Mj (C:=C) (tid:=tid) h1 hc hn
    exact ⟨this.1,let ⟨V,x,y⟩:=this.2;⟨V,x,λw' hw=>by simp only [Instr.loadAt,Instr.sureAddr,Sem.run_bind,Sem.run_pure,Result.andThen_ok];exact y w' hw⟩⟩
   ·cases h
  ·rename_i v e sz els hb
   split at h
   ·obtain ⟨h1,h2⟩:=A7 h
    simp only [Bool.and_eq_true,decide_eq_true_eq] at h1
    obtain ⟨hi,h1⟩:=h1
    obtain ⟨h1,he⟩:=HQ h1
    rw [he] at h2
    obtain ⟨g,cur,hg,_,_,_,hc⟩:=hH.arr (C:=C) hb (by rintro ⟨_,rfl⟩;simp at hi)
    have hA:A = .pointer (some ⟨g,i*sz+off,none⟩):=by
     cases ha with
     | ptrA _ _ _ g' v' e' sz' n' h' hg'=>
      rw [hg] at hg';cases hg'
      simp [A1,hb,Blk.shp] at h'
      grind
     | ptrB _ _ g' h' hg'=>simp [A1,hb,Blk.shp] at h'
    subst hA
    rw [Mb hi] at h1 h2
    refine ⟨_,h2,?_⟩
    have:=Mj (C:=C) (tid:=tid) h1 (hc i hi) (by rw [Wt];simp)
    exact ⟨this.1,let ⟨V,x,y⟩:=this.2;⟨V,x,λw' hw=>by simp only [Instr.loadAt,Instr.sureAddr,Sem.run_bind,Sem.run_pure,Result.andThen_ok];exact y w' hw⟩⟩
   ·split at h
    ·rename_i hio
     obtain ⟨rfl,rfl⟩:=hio
     obtain ⟨h1,h2⟩:=A7 h
     simp only [Bool.and_eq_true,decide_eq_true_eq] at h1
     obtain ⟨hl,h1⟩:=h1
     obtain ⟨h1,he⟩:=HQ h1
     rw [he] at h2
     have hne:¬ (v=true/\els=[]):=by grind
     obtain ⟨g,cur,hg,_,_,hsz,hc⟩:=hH.arr (C:=C) hb hne
     have hA:A = .pointer (some ⟨g,0+0,none⟩):=by
      cases ha with
      | ptrA _ _ _ g' v' e' sz' n' h' hg'=>
       grind
      | ptrB _ _ g' h' hg'=>simp [A1,hb,Blk.shp] at h'
     subst hA
     refine ⟨_,h2,?_⟩
     have:=Mj (C:=C) (tid:=tid) h1 (Z0.flatten els 0 hsz (λi h=>by simpa using hc i h)) (by rw [Wt];simp)
     exact ⟨this.1,let ⟨V,x,y⟩:=this.2;⟨V,x,λw' hw=>by simp only [Instr.loadAt,Instr.sureAddr,Sem.run_bind,Sem.run_pure,Result.andThen_ok];exact y w' hw⟩⟩
    ·cases h
  ·cases h
 ·rename_i els i off
  obtain ⟨h1,h2⟩:=A7 h
  simp only [Bool.and_eq_true,decide_eq_true_eq] at h1
  obtain ⟨hi,h1⟩:=h1
  obtain ⟨h1,he⟩:=HQ h1
  rw [he] at h2
  obtain ⟨g,o,rfl,hc⟩:=VS.sp_cells (sh:=A1 H) ha.inv_s hi
  rw [Mb hi] at h1 h2
  refine ⟨_,h2,?_⟩
  have:=Mj (C:=C) (tid:=tid) h1 hc (by rw [Wt];simp)
  exact ⟨this.1,let ⟨V,x,y⟩:=this.2;⟨V,x,λw' hw=>by simp only [Instr.loadAt,Instr.sureAddr,Sem.run_bind,Sem.run_pure,Result.andThen_ok];exact y w' hw⟩⟩
 ·cases h
end
section
variable {Γ : Ctx} {H : List Blk} {w : World} {R : Type} {r : R}
theorem Ci {sh:Nat->Option Shp} (v:Value):VP Γ sh w (Hm v) v/\(Hm v).nms=[]:=by
 unfold Hm
 split<;>first
  | exact ⟨.bool _,rfl⟩
  | exact ⟨.int _ _,rfl⟩
  | exact ⟨.str _ rfl,rfl⟩
  | exact ⟨.s _ _ .nilp,rfl⟩
  | exact ⟨.nsl,rfl⟩
  | exact ⟨.s _ _ .nilm,rfl⟩
  | exact ⟨.s _ _ .nilf,rfl⟩
  | exact ⟨.bad _,rfl⟩
theorem Aq4 {l:List PV} (h:∀ v∈l,v.nms=[]):B3 l=[]:=by
 induction l with
 | nil=>rfl
 | cons a l ih=>simp [B3,h a (by simp),ih (λv hv=>h v (by simp [hv]))]
theorem Yy {sh:Nat->Option Shp} (v:Value):VP Γ sh w (To v) v/\(To v).nms=[]:=by
 unfold To
 split
 ·rename_i cs
  refine ⟨VP.mk_agg (by simp) λj hj=>?_,?_⟩
  ·simp at hj
   exact ⟨cs[j],by simp [hj],by simpa using (Ci cs[j]).1⟩
  ·simp only [PV.nms]
   refine Aq4 λv hv=>?_
   simp only [List.mem_map] at hv
   obtain ⟨u,_,rfl⟩:=hv
   exact (Ci (Γ:=Γ) (w:=w) (sh:=sh) u).2
 ·rename_i a
  split
  ·rename_i h
   obtain rfl:a = #[]:=Array.eq_empty_of_size_eq_zero h
   exact ⟨VP.mk_tup (by simp) λj hj=>by simp at hj,rfl⟩
  ·exact ⟨.bad _,rfl⟩
 ·exact Ci v
def GOK (C:Cfg) (St:Nat->Prop) (w:World):Prop:=
 (∀ g k zs,C.G.tab g=some (k,zs)->St g/\∃ e x,w.heap[g]? = some (.cells (zs.map λz=>Value.int k z).toArray e x))/\∀ g,C.G.gi g=true->St g/\∃ m,w.cell? ⟨g,0,none⟩=some (.int .i64 m)
theorem GOK.congr {C C':Cfg} {St:Nat->Prop} {w:World} (h:C'.G=C.G) (hg:GOK C St w):GOK C' St w:=by
 unfold GOK at hg ⊢
 rw [h]
 exact hg
theorem Bj1 {St:Nat->Prop} {w:World} {g:Nat} {k:IntKind} {zs:List Int} (hs:St g) {e:Nat} {x:Nat × Nat} (h:w.heap[g]? = some (.cells (zs.map λz=>Value.int k z).toArray e x)):VS St w (.sp [zs.map (SV.int k)] 0 0) (.pointer (some ⟨g,0,none⟩)):=by
 have e:(0:Nat)=0+0*zs.length+0:=by omega
 rw [show (some (⟨g,0,none⟩:Addr))=some ⟨g,0+0*zs.length+0,none⟩ by rw [<-e]]
 refine VS.sp [zs.map (SV.int k)] 0 0 g 0 zs.length (λ_ j=>.int k (zs.getD j 0)) hs (λi hi=>?_) (λi hi j hj=>?_) (λi hi j hj=>?_)
 ·simp at hi;subst hi;simp
 ·simp at hi;subst hi
  simp at hj
  simp [World.cell?,h,List.getD_eq_getElem?_getD,List.getElem?_eq_getElem hj]
 ·simp at hi;subst hi
  simp at hj
  simp only [List.getElem_cons_zero,List.getElem_map,List.getD_eq_getElem?_getD,List.getElem?_eq_getElem hj,Option.getD_some]
  exact .int _ _
theorem TB {C:Cfg} {sl:List PV} {tmps:Array Value} {ds:List Deferred} (hG:GOK C Γ.St w) (hS:SR Γ H w sl tmps) (x:Operand) :
  VP Γ (A1 H) w (opnd C sl x) (({ tmps:=tmps,defers:=ds }:Act).eval x)/\∀ c∈(opnd C sl x).nms,c<H.length:=by
 cases x with
 | tmp t=>
  simp only [opnd,Act.eval]
  by_cases ht:t<sl.length
  ·obtain ⟨V,e,k⟩:=hS.slot t ht
   rw [Mb ht]
   refine ⟨by simpa [e] using k,λc hc=>hS.nms c (A8.2 ⟨t,ht,hc⟩)⟩
  ·have h1:sl.getD t (.tup []) = .tup []:=by simp [List.getD,List.getElem?_eq_none (Nat.le_of_not_lt ht)]
   have h2:tmps.getD t undef=undef:=by
    have hle:tmps.size<=t:=by rw [hS.size];exact Nat.le_of_not_lt ht
    rw [Array.getD_eq_getD_getElem?,Array.getElem?_eq_none hle];rfl
   rw [h1,h2]
   exact ⟨VP.mk_tup (by simp) λj hj=>by simp at hj,by simp [PV.nms,B3]⟩
 | const v=>
  have:=Yy (Γ:=Γ) (w:=w) (sh:=A1 H) v
  exact ⟨this.1,by simp only [opnd];rw [this.2];simp⟩
 | global g=>
  simp only [opnd,Act.eval]
  cases hg:C.G.tab g with
  | none=>exact ⟨.bad _,by simp [PV.nms]⟩
  | some kz=>
   obtain ⟨h1,e,x,h2⟩:=hG.1 g kz.1 kz.2 hg
   exact ⟨.s _ _ (Bj1 h1 h2),by simp [PV.nms]⟩
 | func f=>exact ⟨.s _ _ (.fn (.func f) [] [] #[] #[] (λ_=>undef) (λ_=>undef) (by simp) rfl rfl (by simp) (by simp) (λj h=>by simp at h) (λj h=>by simp at h)),by simp [opnd,PV.nms]⟩
theorem Qj {C:Cfg} {t:Nat} {k:IntKind} (h:C.sh t = .int k):C.P.underlying t=some (.int k):=by
 simp only [Cfg.sh,Xn] at h;split at h<;>simp_all
theorem S8 {C:Cfg} {t:Nat} (h:C.sh t = .str):C.P.underlying t=some .string:=by
 simp only [Cfg.sh,Xn] at h;split at h<;>simp_all
structure SlV (Γ:Ctx) (w:World) (X:Value) (els:List (List SV)):Prop where
 ex:∃ a cap,X = .slice a els.length cap/\els.length<=cap/\cap<=maxLen/\(a=none->cap=0)/\
  (els≠[]->∃ g o sz,a=some ⟨g,o,none⟩/\(∀ i (h:i<els.length),(els[i]).length=sz)/\∀ i (h:i<els.length) j (h':j<(els[i]).length),∃ U,w.cell? ⟨g,o+i*sz+j,none⟩=some U/\VS Γ.St w (els[i][j]) U)
theorem G5 {b:Nat} {v:Bool} {e sz:Nat} {els:List (List SV)} (hb:H[b]? = some (.arr v e sz els)) {v':Bool} {e' sz' n':Nat} (h:A1 H b=some (.arr v' e' sz' n')) :
  v=v'/\e=e'/\sz=sz'/\els.length=n':=by
 simp [A1,hb,Blk.shp] at h
 exact h
theorem Ng {C:Cfg} {x:PV} {X:Value} {els:List (List SV)} (hH:HR Γ H w) (hx:VP Γ (A1 H) w x X) (h:Aj H x=some els):SlV Γ w X els:=by
 unfold Aj at h
 split at h
 ·cases hx
  simp only [Option.some.injEq] at h;subst h
  exact ⟨none,0,rfl,Nat.le_refl _,Nat.zero_le _,λ_=>rfl,λh=>absurd rfl h⟩
 ·simp only [Option.some.injEq] at h;subst h
  have hs:=hx.inv_s
  cases hs with
  | nil t k=>exact ⟨none,0,rfl,Nat.le_refl _,Nat.zero_le _,λ_=>rfl,λh=>absurd rfl h⟩
  | emp t k a cap ht hm=>exact ⟨some a,cap,rfl,Nat.zero_le _,hm,by simp,λh=>absurd rfl h⟩
  | sl t els g off n cap sz Vs hn hcap hm ht hg hl hc hv=>
   subst hn
   exact ⟨_,cap,rfl,hcap,hm,by simp,λ_=>⟨g,off,_,rfl,hl,λi h j h'=>⟨_,hc i h j h',hv i h j h'⟩⟩⟩
 ·rename_i b
  split at h
  ·rename_i v e sz els' hb
   simp only [Option.some.injEq] at h;subst h
   cases hx with
   | flv _ e' sz' h'=>
    obtain ⟨_,_,_,h4⟩:=G5 hb h'
    obtain rfl:=List.length_eq_zero_iff.1 h4
    exact ⟨none,0,rfl,Nat.le_refl _,Nat.zero_le _,λ_=>rfl,λh=>absurd rfl h⟩
   | fl _ g v' e' sz' n cap h' hv hg hcap hm hs=>
    obtain ⟨rfl,rfl,rfl,rfl⟩:=G5 hb h'
    refine ⟨_,cap,rfl,hcap,hm,by simp,λhne=>?_⟩
    obtain ⟨hlt,hbe⟩:=List.getElem?_eq_some_iff.1 hb
    have:=hH.blk b hlt
    rw [hbe] at this
    rcases this with h | ⟨_,g',cur,h1,h2,h3,h4,h5⟩
    ·exact absurd h.2 hne
    ·rw [hg] at h1;cases h1
     refine ⟨g,0,_,rfl,h4,λi hi j hj=>?_⟩
     obtain ⟨V,e1,e2⟩:=h5 i hi j hj
     exact ⟨V,by rw [cell_of_row w g _ cur _ (0,0) h2,Nat.zero_add];exact e1,e2⟩
  ·cases h
 ·rename_i b i n
  split at h
  ·rename_i v e sz els' hb
   simp only [Option.some.injEq] at h;subst h
   cases hx with
   | vwv _ e' sz' _ h'=>exact ⟨none,0,by simp,by simp,Nat.zero_le _,λ_=>rfl,λh=>absurd (by simp) h⟩
   | vw _ _ _ g a cap v' e' sz' m h' hv hg ha hi hcap hm=>
    obtain ⟨rfl,rfl,rfl,rfl⟩:=G5 hb h'
    have hlen:((els'.drop i).take n).length=n:=by simp;omega
    refine ⟨some a,cap,by rw [hlen],by rw [hlen];exact hcap,hm,by simp,λhne=>?_⟩
    have hn0:n≠0:=by rintro rfl;simp at hne
    obtain ⟨hlt,hbe⟩:=List.getElem?_eq_some_iff.1 hb
    have:=hH.blk b hlt
    rw [hbe] at this
    rcases this with h | ⟨_,g',cur,h1,h2,h3,h4,h5⟩
    ·exact absurd (by simp [h.2]) hne
    ·rw [hg] at h1;cases h1
     have hget:∀ k (hk:k<((els'.drop i).take n).length),∃ h':i+k<els'.length,((els'.drop i).take n)[k]=els'[i+k]:=λk hk=>by
      rw [hlen] at hk
      exact ⟨by omega,by simp⟩
     refine ⟨g,i*sz,sz,by rw [ha hn0],λk hk=>?_,λk hk j hj=>?_⟩
     ·obtain ⟨h',e⟩:=hget k hk
      rw [e];exact h4 _ h'
     ·obtain ⟨h',e⟩:=hget k hk
      have hj':j<(els'[i+k]).length:=by rw [<-e];exact hj
      obtain ⟨V,e1,e2⟩:=h5 (i+k) h' j hj'
      refine ⟨V,?_,by simp only [e];exact e2⟩
      rw [cell_of_row w g _ cur _ (0,0) h2,<-e1]
      congr 1
      rw [Nat.add_mul]
  ·cases h
 ·cases h
theorem RY {x:PV} {n:Nat} (h:X9 H x=some n) (hs:∀ l,x≠.s (.str l)) (hvw:∀ b i m,x = .vw b i m->∃ v e sz els,H[b]? = some (.arr v e sz els)/\i+m<=els.length):∃ els,Aj H x=some els/\els.length=n:=by
 unfold X9 at h
 split at h
 ·simp only [Option.some.injEq] at h;subst h;exact ⟨[],rfl,rfl⟩
 ·simp only [Option.some.injEq] at h;subst h;exact ⟨_,rfl,rfl⟩
 ·exact absurd rfl (hs _)
 ·split at h
  ·rename_i hb
   simp only [Option.some.injEq] at h;subst h
   exact ⟨_,by simp [Aj,hb],rfl⟩
  ·cases h
 ·rename_i b i m
  simp only [Option.some.injEq] at h;subst h
  obtain ⟨v,e,sz,els,hb,hle⟩:=hvw b i m rfl
  exact ⟨(els.drop i).take m,by simp only [Aj,hb],by simp;omega⟩
 ·cases h
theorem GV {C:Cfg} {x:PV} {X:Value} {n:Nat} (hH:HR Γ H w) (hx:VP Γ (A1 H) w x X) (h:X9 H x=some n) (hs:∀ l,x≠.s (.str l)):∃ a cap,X = .slice a n cap/\n<=cap:=by
 by_cases hv:∃ b i m,x = .vw b i m
 ·obtain ⟨b,i,m,rfl⟩:=hv
  simp only [X9,Option.some.injEq] at h
  subst h
  cases hx with
  | vwv=>exact ⟨none,0,rfl,Nat.le_refl _⟩
  | vw _ _ _ g a cap v' e' sz' m h' hv hg ha hi hcap hm=>exact ⟨some a,cap,rfl,hcap⟩
 ·obtain ⟨els,e1,e2⟩:=RY h hs (λb i m e=>absurd ⟨b,i,m,e⟩ hv)
  obtain ⟨a,cap,e3,e4,_⟩:=(Ng (C:=C) hH hx e1).ex
  subst e2
  exact ⟨a,cap,e3,e4⟩
theorem RX {C:Cfg} {x:PV} {X:Value} {t ty:Nat} {ts:List Nat} {k:PV->Option R} (hH:HR Γ H w) (h:ZF C x t H k=some r) (hx:VP Γ (A1 H) w x X) :
  ∃ v,k v=some r/\QV C.P Γ H w (Builtin.len_ (t::ts).toArray ty #[X]) v:=by
 unfold ZF at h
 split at h
 ·rename_i n e hsh
  exact ⟨_,h,.val rfl (.int _ _) λw' _=>by simp [Builtin.len_,run_underlying (Cm hsh),goInt]⟩
 ·rename_i l hsh
  obtain ⟨s,rfl,rfl⟩:=hx.inv_str
  exact ⟨_,h,.val rfl (.int _ _) λw' _=>by simp [Builtin.len_,run_underlying (S8 hsh),goInt]⟩
 ·cases h
 ·rename_i e hsh hns
  split at h
  ·rename_i n hn
   obtain ⟨a,cap,rfl,_⟩:=GV (C:=C) hH hx hn (λl e=>hns l e)
   exact ⟨_,h,.val rfl (.int _ _) λw' _=>by simp [Builtin.len_,run_underlying (E1 hsh),goInt]⟩
  ·cases h
 ·rename_i hsh
  obtain rfl:=hx.inv_nilm
  exact ⟨_,h,.val rfl (.int _ _) λw' _=>by simp [Builtin.len_,run_underlying (Gc hsh),goInt]⟩
 ·rename_i b hsh
  split at h
  ·rename_i ents hb
   obtain ⟨g,hg,rfl⟩:=SN hb hx
   obtain ⟨hlt,hbe⟩:=List.getElem?_eq_some_iff.1 hb
   have hB:=hH.blk b hlt
   rw [hbe] at hB
   obtain ⟨g',es,ck,h1,h2,h3⟩:=hB
   rw [hg] at h1;cases h1
   refine ⟨_,h,.val rfl (.int _ _) λw' hw=>?_⟩
   have h2':=(hw g (Array.getElem?_eq_some_iff.1 h2).1).trans h2
   have hl:=h3.len
   rw [Array.length_toList] at hl
   simp [Builtin.len_,run_underlying (Gc hsh),MapKept.run_getObj_map h2',goInt,hl]
  ·rename_i a ents hb
   obtain ⟨g,hg,rfl⟩:=SO hb hx
   obtain ⟨hlt,hbe⟩:=List.getElem?_eq_some_iff.1 hb
   have hB:=hH.blk b hlt
   rw [hbe] at hB
   obtain ⟨g',es,ck,h1,h2,h3⟩:=hB
   rw [hg] at h1;cases h1
   refine ⟨_,h,.val rfl (.int _ _) λw' hw=>?_⟩
   have h2':=(hw g (Array.getElem?_eq_some_iff.1 h2).1).trans h2
   have hl:=h3.len
   rw [show (msP a ents).length=ents.length from List.length_map _] at hl
   rw [Array.length_toList] at hl
   simp [Builtin.len_,run_underlying (Gc hsh),MapKept.run_getObj_map h2',goInt,hl]
  ·cases h
 ·cases h
theorem Ji {P:Program} {mx:Bool} {xs:List PV} {k:PV->Option R} (ts:Array TypeId) (ty:TypeId) (h:Fx mx xs k=some r) :
  ∃ v a b kd,k v=some r/\xs=[.s (.int kd a),.s (.int kd b)]/\QV P Γ H w (if mx then Builtin.max_ ts ty #[.int kd a,.int kd b] else Builtin.min_ ts ty #[.int kd a,.int kd b]) v:=by
 unfold Fx at h
 split at h
 ·rename_i kd a kd' b
  split at h
  ·rename_i hk
   subst hk
   refine ⟨_,a,b,kd,h,rfl,.val rfl (.int _ _) λw' _=>?_⟩
   cases mx
   ·simp [run_min_int2]
   ·simp [run_max_int2]
  ·cases h
 ·cases h
end
section
variable {Γ : Ctx} {H : List Blk} {w : World} {R : Type} {r : R}
theorem F1 {C:Cfg} {t:Nat} (h:(C.ti t).ok=true):∃ i,C.P.info? t=some i/\i.size=(C.ti t).ks.length/\0<i.size:=by
 obtain ⟨i,d,z,hi,hd,hz,hsz,hby,hpos,hks,hagg,hlen⟩:=W4 h
 grind
theorem V7 {P:Program} {t e:Nat} {i:TypeInfo} {kd:IntKind} {a:Addr} {len cap:Nat} {n:Int} (hu:P.underlying t=some (.slice e)) (hi:P.info? e=some i) (h0:0<=n) (h1:n<len) (w':World) :
  (Instr.indexAt t (.slice (some a) len cap) (.int kd n)).run P w' = .ok (.pointer (some (a.add (n.toNat*i.size)))) w':=by
 simp [Instr.indexAt,asIntOf,run_underlying hu,h0,h1,sizeOf,typeInfo,hi]
theorem V6 {P:Program} {t e m:Nat} {i:TypeInfo} {kd:IntKind} {a:Addr} {n:Int} (hu:P.underlying t=some (.array m e)) (hi:P.info? e=some i) (h0:0<=n) (h1:n<m) (w':World) :
  (Instr.indexAt t (.pointer (some a)) (.int kd n)).run P w' = .ok (.pointer (some (a.add (n.toNat*i.size)))) w':=by
 simp [Instr.indexAt,asIntOf,run_underlying hu,h0,h1,sizeOf,typeInfo,hi,Instr.sureAddr]
theorem Qf {b i off:Nat} {A:Value} (hx:VP Γ (A1 H) w (.ptr b i off) A) :
  (∃ g v e sz els,H[b]? = some (.arr v e sz els)/\Γ.nm b=some g/\A = .pointer (some ⟨g,i*sz+off,none⟩))\/(∃ g cells,i=0/\H[b]? = some (.box cells)/\Γ.nm b=some g/\A = .pointer (some ⟨g,off,none⟩)):=by
 have key:∀ {s:Shp},A1 H b=some s->∃ x,H[b]? = some x/\x.shp=s:=λh=>by simpa [A1] using h
 cases hx with
 | ptrA _ _ _ g v e sz n h hg=>
  obtain ⟨x,hx,hs⟩:=key h
  cases x<;>simp [Blk.shp] at hs
  obtain ⟨rfl,rfl,rfl,rfl⟩:=hs
  exact .inl ⟨g,_,_,_,_,hx,hg,rfl⟩
 | ptrB _ _ g h hg=>
  obtain ⟨x,hx,hs⟩:=key h
  cases x<;>simp [Blk.shp] at hs
  exact .inr ⟨g,_,rfl,hx,hg,rfl⟩
theorem QV.mk1 {P:Program} {m:Sem Value} {v:PV} {V:Value} (hn:∀ c∈v.nms,c<H.length) (h:VP Γ (A1 H) w v V) (hm:∀ w':World,Ext w w'->m.run P w' = .ok V w'):QV P Γ H w m v:=⟨hn,V,h,hm⟩
theorem Eu {C:Cfg} {t:Nat} {x i:PV} {X I:Value} {k:PV->Option R} (hH:HR Γ H w) (h:X6 C t x i H k=some r) (hx:VP Γ (A1 H) w x X) (hi:VP Γ (A1 H) w i I)
  (hxn:∀ c∈x.nms,c<H.length):∃ v,k v=some r/\QV0 C.P Γ H w (Instr.indexAt t X I) v:=by
 unfold X6 at h
 split at h
 ·rename_i kd n
  obtain rfl:=hi.inv_int
  split at h
  ·rename_i b
   split at h
   ·rename_i v e' sz els e hb hsh
    split at h
    ·rename_i hc
     obtain ⟨h1,h2⟩:=A7 h
     simp only [Bool.and_eq_true,decide_eq_true_eq] at h1
     obtain ⟨i,hi,hsz,hpos⟩:=F1 hc.1
     refine ⟨_,h2,?_⟩
     cases hx with
     | flv _ e2 sz2 h'=>obtain ⟨_,_,_,h4⟩:=G5 hb h';omega
     | fl _ g v' e2 sz2 n' cap h' hv hg hcap hm hs=>
      obtain ⟨rfl,rfl,rfl,rfl⟩:=G5 hb h'
      refine .mk0 hxn (V:=.pointer (some ⟨g,n.toNat*sz+0,none⟩)) (.ptrA b _ 0 g _ _ sz _ h' hg) λw'=>?_
      rw [V7 (E1 hsh) hi h1.1 h1.2,F6,hsz,hc.2]
      simp
    ·cases h
   ·cases h
  ·rename_i b o m
   split at h
   ·rename_i v e' sz els e hb hsh
    split at h
    ·rename_i hc
     obtain ⟨h1,h2⟩:=A7 h
     simp only [Bool.and_eq_true,decide_eq_true_eq] at h1
     obtain ⟨i,hi,hsz,hpos⟩:=F1 hc.1
     refine ⟨_,h2,?_⟩
     cases hx with
     | vwv _ e2 sz2 _ h'=>omega
     | vw _ _ _ g a cap v' e2 sz2 m' h' hv hg ha hi' hcap hm=>
      obtain ⟨rfl,rfl,rfl,rfl⟩:=G5 hb h'
      refine .mk0 hxn (V:=.pointer (some ⟨g,(o+n.toNat)*sz+0,none⟩)) (.ptrA b _ 0 g _ _ sz _ h' hg) λw'=>?_
      rw [V7 (E1 hsh) hi h1.1 h1.2,ha (by omega),F6,hsz,hc.2,Nat.add_mul]
      rfl
    ·cases h
   ·cases h
  ·rename_i z tt kk els
   split at h
   ·rename_i e hsh
    split at h
    ·rename_i hc
     obtain ⟨h1,h2⟩:=A7 h
     simp only [Bool.and_eq_true,decide_eq_true_eq] at h1
     obtain ⟨i,hi,hsz,hpos⟩:=F1 hc.1
     refine ⟨_,h2,?_⟩
     have hs:=hx.inv_s
     cases hs with
     | nil=>simp at h1;omega
     | emp=>simp at h1;omega
     | sl t' els g off n' cap sz Vs hn hcap hm ht hg hl hcc hv=>
      refine .mk0 (by simp [PV.nms]) (V:=.pointer (some ⟨g,off+n.toNat*kk+0,none⟩)) (.s _ _ (.sp els n.toNat 0 g off kk Vs hg hl hcc hv)) λw'=>?_
      rw [V7 (E1 hsh) hi h1.1 (by omega),F6,hsz,hc.2]
      rfl
    ·cases h
   ·cases h
  ·rename_i b j off
   split at h
   ·rename_i m e hsh
    rcases Qf hx with ⟨g,v,e',sz,els,hb,hg,rfl⟩ | ⟨g,cells,rfl,hb,hg,rfl⟩
    ·rw [hb] at h
     dsimp only at h
     split at h
     ·rename_i hc
      obtain ⟨rfl,rfl,hok,rfl⟩:=hc
      obtain ⟨h1,h2⟩:=A7 h
      simp only [Bool.and_eq_true,decide_eq_true_eq] at h1
      obtain ⟨i,hi,hsz,hpos⟩:=F1 hok
      refine ⟨_,h2,.mk0 hxn (V:=.pointer (some ⟨g,n.toNat*(C.ti e).ks.length+0,none⟩)) (.ptrA b _ 0 g v e' _ els.length (by simp [A1,hb,Blk.shp]) hg) λw'=>?_⟩
      rw [V6 (Cm hsh) hi h1.1 h1.2,F6,hsz]
      simp
     ·cases h
    ·rw [hb] at h
     dsimp only at h
     split at h
     ·rename_i hok
      obtain ⟨h1,h2⟩:=A7 h
      simp only [Bool.and_eq_true,decide_eq_true_eq] at h1
      obtain ⟨i,hi,hsz,hpos⟩:=F1 hok
      refine ⟨_,h2,.mk0 hxn (V:=.pointer (some ⟨g,off+n.toNat*(C.ti e).ks.length,none⟩)) (.ptrB b _ g (by simp [A1,hb,Blk.shp]) hg) λw'=>?_⟩
      rw [V6 (Cm hsh) hi h1.1 h1.2,F6,hsz]
     ·cases h
   ·cases h
  ·rename_i els j off
   split at h
   ·rename_i m e hsh
    split at h
    ·rename_i hok
     obtain ⟨h1,h2⟩:=A7 h
     simp only [Bool.and_eq_true,decide_eq_true_eq] at h1
     obtain ⟨i,hi,hsz,hpos⟩:=F1 hok
     refine ⟨_,h2,?_⟩
     have hs:=hx.inv_s
     cases hs with
     | sp _ _ _ g o sz Vs hg hl hcc hv=>
      refine .mk0 (by simp [PV.nms]) (V:=.pointer (some ⟨g,o+j*sz+(off+n.toNat*(C.ti e).ks.length),none⟩)) (.s _ _ (.sp els j _ g o sz Vs hg hl hcc hv)) λw'=>?_
      rw [V6 (Cm hsh) hi h1.1 h1.2,F6,hsz]
      simp [Nat.add_assoc]
    ·cases h
   ·cases h
  ·cases h
 ·cases h
theorem QV.part {C:Cfg} {u o:Nat} {cells:List PV} {A:Array Value} (h:okP (C.ti u) cells o=true) (hA:A.size=cells.length) (hc:∀ j (h:j<cells.length),∃ U,A[j]? = some U/\VP Γ (A1 H) w (cells[j]) U)
  (hn:∀ c∈B3 cells,c<H.length):QV C.P Γ H w (part u A o) (Gi (C.ti u) cells o):=by
 have hok:(C.ti u).ok=true:=by simp only [okP,Bool.and_eq_true] at h;exact h.1
 obtain ⟨i,d,z,hi,hd,hz,hsz,hby,hpos,hks,hagg,hlen⟩:=W4 hok
 have hlt:=HP h
 have hx:∀ j (hj:j<(Q4 (C.ti u) cells o).length),∃ (h':o+j<cells.length) (hk:j<(C.ti u).ks.length),(Q4 (C.ti u) cells o)[j]=(cells[o+j]).as ((C.ti u).ks[j]):=by
  intro j hj
  have hj':j<(C.ti u).ks.length:=by rw [I4] at hj;exact hj
  exact ⟨hlt j hj',hj',by simp [Q4,List.getElem?_eq_getElem (hlt j hj')]⟩
 have hvp:∀ j (hj:j<(Q4 (C.ti u) cells o).length),∃ U,A[o+j]? = some U/\VP Γ (A1 H) w ((Q4 (C.ti u) cells o)[j]) U:=λj hj=>by
  obtain ⟨h',hk,e⟩:=hx j hj
  obtain ⟨U,e1,k1⟩:=hc (o+j) h'
  have:=HO h j hk
  rw [O7 h'] at this
  exact ⟨U,e1,by rw [e];exact k1.as this⟩
 have hnm:∀ c∈B3 (Q4 (C.ti u) cells o),c<H.length:=λc hc'=>by
  obtain ⟨j,hj,hm⟩:=A8.1 hc'
  obtain ⟨h',hk,e⟩:=hx j hj
  rw [e] at hm
  exact hn c (A8.2 ⟨o+j,h',PV.as_nms c hm⟩)
 rw [Wm]
 have hpos':0<(Q4 (C.ti u) cells o).length:=by rw [I4,<-hlen];exact hpos
 by_cases ha:Cc d=true
 ·rw [hagg,if_pos ha]
  refine .mk1 (by simpa [PV.nms] using hnm) (VP.mk_agg (A:=A.extract o (o+i.size)) ?_ λj hj=>?_) λw' hw=>Q2 hd ha hi A o w'
  ·have:=hlt ((C.ti u).ks.length-1) (by omega)
   rw [Array.size_extract,I4,hlen];omega
  ·obtain ⟨U,e,k⟩:=hvp j hj
   refine ⟨U,?_,k⟩
   rw [Array.getElem?_extract,if_pos]
   ·exact e
   ·have:=(Array.getElem?_eq_some_iff.1 e).1
    rw [I4,<-hlen] at hj
    omega
 ·simp only [Bool.not_eq_true] at ha
  rw [hagg,ha]
  simp only [Bool.false_eq_true,if_false]
  obtain ⟨U,e,k⟩:=hvp 0 hpos'
  simp only [Nat.add_zero] at e
  split
  ·rw [O7 hpos']
   exact .mk1 (λc hc'=>hnm c (A8.2 ⟨0,hpos',hc'⟩)) k λw' hw=>Ay hd ha e w'
  ·exact .mk1 (by simp [PV.nms]) (.bad U) λw' hw=>Ay hd ha e w'
theorem GC {C:Cfg} {t f:Nat} {x:PV} {X:Value} {k:PV->Option R} (h:Pm C t x f k=some r) (hx:VP Γ (A1 H) w x X) (hxn:∀ c∈x.nms,c<H.length) :
  ∃ v,k v=some r/\QV C.P Γ H w (Instr.field t X f) v:=by
 unfold Pm at h
 split at h
 ·rename_i fs cells hsh
  split at h
  ·rename_i o u hf
   obtain ⟨h1,h2⟩:=A7 h
   obtain ⟨A,rfl,hA1,hA2⟩:=hx.inv_agg
   obtain ⟨F,hu,rfl⟩:=Qk hsh
   simp only [List.getElem?_map,Option.map_eq_some_iff] at hf
   obtain ⟨fl,hf,he⟩:=hf
   cases he
   have:=QV.part (C:=C) h1 hA1 hA2 (by simpa [PV.nms] using hxn)
   refine ⟨_,h2,this.1,let ⟨V,a,b⟩:=this.2;⟨V,a,λw' hw=>?_⟩⟩
   have hf':F[f]? = some fl:=by simpa using hf
   simp only [Instr.field,Sem.run_bind,run_underlying hu,Result.andThen_ok,hf',asAgg,Sem.run_pure]
   exact b w' hw
  ·cases h
 ·cases h
theorem Hq {P:Program} {t f:Nat} {F:Array Field} {fl:Field} {i:TypeInfo} {a:Addr} (hu:P.underlying t=some (.struct F)) (hf:F[f]? = some fl) (hi:P.info? fl.type=some i) (hpos:0<i.size) (w':World) :
  (Instr.fieldAt t (.pointer (some a)) f).run P w' = .ok (.pointer (some (a.add fl.offset))) w':=by
 have:¬ i.size=0:=by omega
 simp [Instr.fieldAt,run_underlying hu,hf,Instr.sureAddr,fieldPlace,sizeOf,typeInfo,hi,this]
theorem Ep {C:Cfg} {t f:Nat} {x:PV} {X:Value} {k:PV->Option R} (h:X3 C t x f k=some r) (hx:VP Γ (A1 H) w x X) (hxn:∀ c∈x.nms,c<H.length) :
  ∃ v,k v=some r/\QV0 C.P Γ H w (Instr.fieldAt t X f) v:=by
 unfold X3 at h
 split at h
 ·rename_i fs hsh
  obtain ⟨F,hu,rfl⟩:=Qk hsh
  split at h
  ·rename_i o u b i off hf
   split at h
   ·rename_i hok
    simp only [List.getElem?_map,Option.map_eq_some_iff] at hf
    obtain ⟨fl,hf,he⟩:=hf
    cases he
    have hf':F[f]? = some fl:=by simpa using hf
    obtain ⟨ii,hi,hsz,hpos⟩:=F1 hok
    refine ⟨_,h,?_⟩
    rcases Qf hx with ⟨g,v,e',sz,els,hb,hg,rfl⟩ | ⟨g,cells,rfl,hb,hg,rfl⟩
    ·refine .mk0 hxn (V:=.pointer (some ⟨g,i*sz+(off+fl.offset),none⟩)) (.ptrA b _ _ g v e' _ els.length (by simp [A1,hb,Blk.shp]) hg) λw'=>?_
     rw [Hq hu hf' hi hpos,F6,Nat.add_assoc]
    ·refine .mk0 hxn (V:=.pointer (some ⟨g,off+fl.offset,none⟩)) (.ptrB b _ g (by simp [A1,hb,Blk.shp]) hg) λw'=>?_
     rw [Hq hu hf' hi hpos,F6]
   ·cases h
  ·rename_i o u els i off hf
   split at h
   ·rename_i hok
    simp only [List.getElem?_map,Option.map_eq_some_iff] at hf
    obtain ⟨fl,hf,he⟩:=hf
    cases he
    have hf':F[f]? = some fl:=by simpa using hf
    obtain ⟨ii,hi,hsz,hpos⟩:=F1 hok
    refine ⟨_,h,?_⟩
    have hs:=hx.inv_s
    cases hs with
    | sp _ _ _ g o sz Vs hg hl hcc hv=>
     refine .mk0 (by simp [PV.nms]) (V:=.pointer (some ⟨g,o+i*sz+(off+fl.offset),none⟩)) (.s _ _ (.sp els i _ g o sz Vs hg hl hcc hv)) λw'=>?_
     rw [Hq hu hf' hi hpos,F6]
     simp [Nat.add_assoc]
   ·cases h
  ·cases h
 ·cases h
theorem GJ {C:Cfg} {t:Nat} {x i:PV} {X I:Value} {k:PV->Option R} (h:Ps C t x i k=some r) (hx:VP Γ (A1 H) w x X) (hi:VP Γ (A1 H) w i I) (hxn:∀ c∈x.nms,c<H.length) :
  ∃ v,k v=some r/\QV C.P Γ H w (Instr.index t X I) v:=by
 unfold Ps at h
 split at h
 ·rename_i kd n
  obtain rfl:=hi.inv_int
  split at h
  ·rename_i l
   split at h
   ·rename_i hsh
    obtain ⟨s,rfl,rfl⟩:=hx.inv_str
    obtain ⟨h1,h2⟩:=A7 h
    simp only [Bool.and_eq_true,decide_eq_true_eq] at h1
    refine ⟨_,h2,.val rfl (.int _ _) λw' hw=>?_⟩
    have hsz:s.size=s.data.toList.length:=by rw [Array.length_toList];rfl
    rw [run_index_string w' t s kd n (S8 hsh),dif_pos ⟨h1.1,by rw [hsz];exact h1.2⟩]
    congr 2
    have hlt:n.toNat<s.data.toList.length:=by omega
    rw [O7 hlt]
    rfl
   ·cases h
  ·rename_i cells
   split at h
   ·rename_i m e hsh
    obtain ⟨h1,h2⟩:=A7 h
    simp only [Bool.and_eq_true,decide_eq_true_eq] at h1
    obtain ⟨A,rfl,hA1,hA2⟩:=hx.inv_agg
    have hok:(C.ti e).ok=true:=by have:=h1.2;simp only [okP,Bool.and_eq_true] at this;exact this.1
    obtain ⟨ii,hii,hsz,hpos⟩:=F1 hok
    have:=QV.part (C:=C) h1.2 hA1 hA2 (by simpa [PV.nms] using hxn)
    refine ⟨_,h2,this.1,let ⟨V,a,b⟩:=this.2;⟨V,a,λw' hw=>?_⟩⟩
    have:=b w' hw
    simp only [Instr.index,asIntOf,Sem.run_bind,Sem.run_pure,run_underlying (Cm hsh),Result.andThen_ok]
    rw [if_pos h1.1]
    simp only [sizeOf,typeInfo,Sem.run_bind,run_program,hii,Result.andThen_ok,Sem.run_pure,hsz]
    exact this
   ·cases h
  ·cases h
 ·cases h
end
section
variable {Γ : Ctx} {H : List Blk} {w : World} {R : Type} {r : R}
def BV (d:Nat) (n:Nat):Option Value->Prop
 | none=>n=d
 | some v=>∃ k,v = .int k n
theorem BV.none (d:Nat):BV d d none:=rfl
theorem Ku {P:Program} {isSlice:Bool} {len cap l h m:Nat} {lo hi mx:Option Value} (hl:BV 0 l lo) (hh:BV len h hi) (hm:BV cap m mx) (hmx:mx.isSome=true->hi.isSome=true) (h1:l<=h) (h2:h<=m) (h3:m<=cap) (w':World) :
  (Instr.sliceBounds isSlice len cap lo hi mx).run P w' = .ok (l,h,m) w':=by
 cases lo<;>cases hi<;>cases mx<;>simp only [BV] at hl hh hm<;>simp at hmx <;>
  (try (obtain ⟨kl,rfl⟩:=hl))<;>(try (obtain ⟨kh,rfl⟩:=hh))<;>(try (obtain ⟨km,rfl⟩:=hm))<;>(try subst hl)<;>(try subst hh)<;>(try subst hm) <;>
  simp [Instr.sliceBounds,run_sliceBound_if,Int.ofNat_le,h1,h2,h3]
def OV (Γ:Ctx) (sh:Nat->Option Shp) (w:World) (p:Option PV) (V:Option Value):Prop:=
 match p,V with
 | none,none=>True
 | some p,some V=>VP Γ sh w p V
 | _,_=>False
theorem Be {sh:Nat->Option Shp} {d:Nat} {p:Option PV} {V:Option Value} {n:Int} (hp:Oo d p=some n) (hv:OV Γ sh w p V) (h0:0<=n):BV d n.toNat V:=by
 unfold Oo at hp
 split at hp
 ·simp only [Option.some.injEq] at hp;subst hp
  cases V with
  | none=>simp [BV]
  | some V=>exact hv.elim
 ·simp only [Option.some.injEq] at hp;subst hp
  cases V with
  | none=>exact hv.elim
  | some V=>
   rename_i kd n'
   have hv':VP Γ sh w (.s (.int kd n')) V:=hv
   obtain rfl:=hv'.inv_int
   exact ⟨kd,by simp [Int.toNat_of_nonneg h0]⟩
 ·cases hp
theorem I6 {P:Program} {t e:Nat} {i:TypeInfo} {a:Option Addr} {len cap l h m:Nat} {lo hi mx:Option Value} (hu:P.underlying t=some (.slice e)) (hi':P.info? e=some i)
  (hl:BV 0 l lo) (hh:BV len h hi) (hm:BV cap m mx) (hmx:mx.isSome=true->hi.isSome=true) (h1:l<=h) (h2:h<=m) (h3:m<=cap) (w':World) :
  (Instr.sliceAt t (.slice a len cap) lo hi mx).run P w' = .ok (.slice (if m=l then a else a.map (·.add (l*i.size))) (h-l) (m-l)) w':=by
 simp only [Instr.sliceAt,Instr.slice,Sem.run_bind,run_underlying hu,Result.andThen_ok,Ku hl hh hm hmx h1 h2 h3,sizeOf,typeInfo,run_program,hi',Sem.run_pure]
theorem Zb {P:Program} {t:Nat} {s:ByteArray} {l h:Nat} {lo hi:Option Value} (hu:P.underlying t=some .string)
  (hl:BV 0 l lo) (hh:BV s.size h hi) (h1:l<=h) (h2:h<=s.size) (w':World) :
  (Instr.sliceAt t (.string s) lo hi none).run P w' = .ok (.string (s.extract l h)) w':=by
 have hb:=Ku (P:=P) (isSlice:=false) (mx:=none) (m:=s.size) (cap:=s.size) hl hh rfl (by simp) h1 h2 (Nat.le_refl _) w'
 simp [Instr.sliceAt,Instr.slice,run_underlying hu,hb]
theorem GB (s:ByteArray) (a b:Nat):(s.extract a b).data.toList=(s.data.toList.take b).drop a:=by
 rw [Lib.extract_data,List.drop_take]
theorem OV.none {sh:Nat->Option Shp} {V:Option Value} (h:OV Γ sh w none V):V=none:=by
 cases V with
 | none=>rfl
 | some V=>exact h.elim
theorem OV.int {sh:Nat->Option Shp} {V:Option Value} {kd:IntKind} {n:Int} (h:OV Γ sh w (some (.s (.int kd n))) V):V=some (.int kd n):=by
 cases V with
 | none=>exact h.elim
 | some V=>
  have hv':VP Γ sh w (.s (.int kd n)) V:=h
  rw [hv'.inv_int]
theorem OV.isSome {sh:Nat->Option Shp} {p:Option PV} {V:Option Value} (h:OV Γ sh w p V):V.isSome=p.isSome:=by
 cases p<;>cases V<;>first | rfl | exact h.elim
theorem Vm {α:Type} {l:List α} {a b:Nat} (h:a<=b) (hb:b<=l.length):((l.take b).drop a).length=b-a/\∀ i (hi:i<((l.take b).drop a).length),∃ h':a+i<l.length,((l.take b).drop a)[i]=l[a+i]:=by grind
theorem VS.slice {St:Nat->Prop} {z t:Bool} {kk:Nat} {els:List (List SV)} {A:Option Addr} {len cap:Nat} (hs:VS St w (.sl z t kk els) (.slice A len cap)) {l h m:Nat} (h1:l<=h) (h2:h<=len) (hm1:h<=m) (hm2:m<=cap) {t':Bool} (ht':t'=true->m=h\/cap=0) {size:Nat} (hsz:size=kk\/z=true) :
  len=els.length/\VS St w (.sl z t' kk ((els.take h).drop l)) (.slice (if m=l then A else A.map (·.add (l*size))) (h-l) (m-l)):=by
 cases hs with
 | nil=>
  refine ⟨rfl,?_⟩
  have:h=0:=by omega
  have:m=0:=by omega
  subst h m
  have:l=0:=by omega
  subst l
  simpa using VS.nil t' kk
 | emp _ _ a _ ht hmx=>
  refine ⟨rfl,?_⟩
  have:h=0:=by omega
  subst h
  have:l=0:=by omega
  subst l
  have:=VS.emp (St:=St) (w:=w) t' kk (if m=0 then a else a.add (0*size)) m (λe=>by rcases ht' e with h | h<;>omega) (by omega)
  split at this
  ·rename_i e;simpa [e] using this
  ·rename_i e;simpa [e] using this
 | sl _ _ g off n _ _ Vs hn hcap hm ht hg hl hc hv=>
  refine ⟨hn,?_⟩
  obtain ⟨e1,e2⟩:=Vm (l:=els) h1 (by omega)
  have hsz':size=kk:=by rcases hsz with h | h<;>first | exact h | cases h
  subst hsz'
  by_cases he:h=l
  ·subst he
   have e3:(els.take h).drop h=[]:=by simp
   rw [e3,Nat.sub_self]
   by_cases hml:m=h
   ·rw [if_pos hml]
    exact .emp t' _ _ _ (λ_=>by omega) (by omega)
   ·rw [if_neg hml]
    exact .emp t' _ _ _ (λe=>by rcases ht' e with h | h<;>omega) (by omega)
  ·have hml:¬ m=l:=by omega
   rw [if_neg hml]
   simp only [Option.map_some]
   rw [F6]
   refine .sl t' _ g (off+l*size) (h-l) (m-l) size (λi j=>Vs (l+i) j) (by omega) (by omega) (by omega) (λe=>by rcases ht' e with h | h<;>omega) hg (λi hi=>?_) (λi hi j hj=>?_) (λi hi j hj=>?_)
   ·obtain ⟨h',e⟩:=e2 i hi
    rw [e];exact hl _ h'
   ·obtain ⟨h',e⟩:=e2 i hi
    rw [show off+l*size+i*size+j=off+(l+i)*size+j by rw [Nat.add_mul];omega]
    exact hc _ h' j (by rw [<-e];exact hj)
   ·obtain ⟨h',e⟩:=e2 i hi
    simp only [e]
    exact hv _ h' j (by rw [<-e];exact hj)
theorem Iz (s:ByteArray):s.data.toList.length=s.size:=by rw [Array.length_toList];rfl
theorem Nh {C:Cfg} {t:Nat} {x:PV} {X:Value} {lo hi mx:Option PV} {LO HI MX:Option Value} {k:PV->Option R} (hH:HR Γ H w) (h:Ql C t x lo hi mx H k=some r) (hx:VP Γ (A1 H) w x X) (hxn:∀ c∈x.nms,c<H.length)
  (hlo:OV Γ (A1 H) w lo LO) (hhi:OV Γ (A1 H) w hi HI) (hmx:OV Γ (A1 H) w mx MX) (hm:mx.isSome=true->hi.isSome=true):∃ v,k v=some r/\QV0 C.P Γ H w (Instr.sliceAt t X LO HI MX) v:=by
 unfold Ql at h
 split at h
 ·rename_i hso
  split at h
  ·cases h
  ·rename_i len hlen
   split at h
   ·rename_i l0 h0 hl hh
    split at h
    ·obtain ⟨h1,h2⟩:=A7 h
     simp only [Bool.and_eq_true,decide_eq_true_eq] at h1
     obtain rfl:=hmx.none
     have bl:=Be hl hlo (by omega)
     have bh:=Be hh hhi (by omega)
     split at h2
     ·rename_i s
      simp only [Ac] at hso
      split at hso
      ·rename_i hsh
       obtain ⟨s',rfl,rfl⟩:=hx.inv_str
       simp only [X9,Option.some.injEq] at hlen
       subst hlen
       rw [Iz] at bh
       refine ⟨_,h2,.mk0 (by simp [PV.nms]) (.str (s'.extract l0.toNat h0.toNat) (GB _ _ _)) λw'=>?_⟩
       rw [Zb (S8 hsh) bl bh (by omega) (by rw [<-Iz];omega)]
      ·cases hso
     ·rename_i z tt kk els
      simp only [Ac] at hso
      split at hso
      ·rename_i e hsh
       simp only [Bool.and_eq_true,decide_eq_true_eq] at hso
       obtain ⟨i,hi,hsz,hpos⟩:=F1 hso.1
       simp only [X9,Option.some.injEq] at hlen
       subst hlen
       have hs:=hx.inv_s
       have key:∃ A cap,X = .slice A els.length cap/\els.length<=cap/\(z=true->cap=0):=by
        cases hs with
        | nil=>exact ⟨_,_,rfl,Nat.le_refl _,λ_=>rfl⟩
        | emp=>exact ⟨_,_,rfl,Nat.zero_le _,by simp⟩
        | sl _ _ g off n cap _ Vs hn hcap hm ht hg hl hc hv=>subst hn;exact ⟨_,_,rfl,hcap,by simp⟩
       obtain ⟨A,cap,rfl,hcap,hz⟩:=key
       have:=VS.slice hs (l:=l0.toNat) (h:=h0.toNat) (m:=cap) (by omega) (by omega) (by omega) (Nat.le_refl _) (t':=z) (λe=>.inr (hz e)) (size:=i.size) (.inl (by omega))
       refine ⟨_,h2,.mk0 (by simp [PV.nms]) (.s _ _ this.2) λw'=>?_⟩
       rw [I6 (E1 hsh) hi bl bh (BV.none cap) (by simp) (by omega) (by omega) (Nat.le_refl _)]
      ·cases hso
     ·simp only [Ac] at hso
      split at hso
      ·rename_i e hsh
       obtain ⟨i,hi,hsz,hpos⟩:=F1 hso
       obtain rfl:=hx.inv_nsl
       simp only [X9,Option.some.injEq] at hlen
       subst hlen
       refine ⟨_,h2,.mk0 (by simp [PV.nms]) .nsl λw'=>?_⟩
       rw [I6 (E1 hsh) hi bl bh (m:=0) (cap:=0) (BV.none _) (by simp) (by omega) (by omega) (Nat.le_refl _)]
       simp;omega
      ·cases hso
     ·rename_i b
      simp only [Ac] at hso
      split at hso
      ·rename_i v e' sz els e hb hsh
       simp only [Bool.and_eq_true,decide_eq_true_eq] at hso
       obtain ⟨i,hi,hsz,hpos⟩:=F1 hso.1
       simp only [X9,hb,Option.some.injEq] at hlen
       subst hlen
       cases hx with
       | flv _ e2 sz2 h'=>
        obtain ⟨_,_,_,h4⟩:=G5 hb h'
        have hl0:l0.toNat=0:=by omega
        have hh0:h0.toNat=0:=by omega
        refine ⟨_,h2,.mk0 hxn (V:=.slice none 0 0) ?_ λw'=>?_⟩
        ·rw [hl0,hh0];exact .vwv b _ _ _ h'
        ·rw [I6 (E1 hsh) hi bl (by rw [h4] at bh;exact bh) (m:=0) (cap:=0) (BV.none _) (by simp) (by omega) (by omega) (Nat.le_refl _)]
         simp [hh0]
       | fl _ g v' e2 sz2 n' cap h' hv hg hcap hm hs=>
        obtain ⟨rfl,rfl,rfl,rfl⟩:=G5 hb h'
        refine ⟨_,h2,.mk0 hxn (V:=.slice (some (if cap=l0.toNat then ⟨g,0,none⟩ else (⟨g,0,none⟩:Addr).add (l0.toNat*i.size))) (h0.toNat-l0.toNat) (cap-l0.toNat)) ?_ λw'=>?_⟩
        ·refine .vw b _ _ g _ _ _ _ _ _ h' hv hg (λhne=>?_) (by omega) (by omega) (by omega)
         rw [if_neg (by omega),F6,hsz,hso.2,Nat.zero_add]
        ·rw [I6 (E1 hsh) hi bl bh (m:=cap) (BV.none _) (by simp) (by omega) (by omega) (Nat.le_refl _)]
         congr 2
         split<;>simp
      ·cases hso
     ·rename_i b o n
      simp only [Ac] at hso
      split at hso
      ·rename_i v e' sz els e hb hsh
       simp only [Bool.and_eq_true,decide_eq_true_eq] at hso
       obtain ⟨i,hi,hsz,hpos⟩:=F1 hso.1
       simp only [X9,Option.some.injEq] at hlen
       subst hlen
       cases hx with
       | vwv _ e2 sz2 _ h'=>
        obtain ⟨_,_,_,h4⟩:=G5 hb h'
        have hl0:l0.toNat=0:=by omega
        have hh0:h0.toNat=0:=by omega
        refine ⟨_,h2,.mk0 hxn (V:=.slice none 0 0) ?_ λw'=>?_⟩
        ·rw [hl0,hh0];exact .vwv b _ _ _ h'
        ·rw [I6 (E1 hsh) hi bl bh (m:=0) (cap:=0) (BV.none _) (by simp) (by omega) (by omega) (Nat.le_refl _)]
         simp [hh0]
       | vw _ _ _ g a cap v' e2 sz2 m h' hv hg ha hi' hcap hm=>
        obtain ⟨rfl,rfl,rfl,rfl⟩:=G5 hb h'
        refine ⟨_,h2,.mk0 hxn (V:=.slice (some (if cap=l0.toNat then a else a.add (l0.toNat*i.size))) (h0.toNat-l0.toNat) (cap-l0.toNat)) ?_ λw'=>?_⟩
        ·refine .vw b _ _ g _ _ _ _ _ _ h' hv hg (λhne=>?_) (by omega) (by omega) (by omega)
         rw [if_neg (by omega),ha (by omega),F6,hsz,hso.2,Nat.add_mul]
        ·rw [I6 (E1 hsh) hi bl bh (m:=cap) (BV.none _) (by simp) (by omega) (by omega) (Nat.le_refl _)]
         congr 2
         split<;>simp
      ·cases hso
     ·cases h2
    ·rename_i kd m
     obtain ⟨h1,h2⟩:=A7 h
     simp only [Bool.and_eq_true,decide_eq_true_eq] at h1
     obtain rfl:=hmx.int
     have hMX:HI.isSome=true:=by rw [hhi.isSome];exact hm rfl
     have bl:=Be hl hlo (by omega)
     have bh:=Be hh hhi (by omega)
     have bm:∀ d,BV d m.toNat (some (.int kd m)):=λd=>⟨kd,by rw [Int.toNat_of_nonneg (by omega)]⟩
     split at h2
     ·rename_i z tt kk els
      simp only [Ac] at hso
      split at hso
      ·rename_i e hsh
       simp only [Bool.and_eq_true,decide_eq_true_eq] at hso
       obtain ⟨i,hi,hsz,hpos⟩:=F1 hso.1
       simp only [X9,Option.some.injEq] at hlen
       subst hlen
       have hs:=hx.inv_s
       have key:∃ A cap,X = .slice A els.length cap/\els.length<=cap:=by
        cases hs with
        | nil=>exact ⟨_,_,rfl,Nat.le_refl _⟩
        | emp=>exact ⟨_,_,rfl,Nat.zero_le _⟩
        | sl _ _ g off n cap _ Vs hn hcap hm ht hg hl hc hv=>subst hn;exact ⟨_,_,rfl,hcap⟩
       obtain ⟨A,cap,rfl,hcap⟩:=key
       have:=VS.slice hs (l:=l0.toNat) (h:=h0.toNat) (m:=m.toNat) (by omega) (by omega) (by omega) (by omega) (t':=true) (λe=>.inl (by omega)) (size:=i.size) (.inl (by omega))
       refine ⟨_,h2,.mk0 (by simp [PV.nms]) (.s _ _ this.2) λw'=>?_⟩
       rw [I6 (E1 hsh) hi bl bh (bm _) (λ_=>hMX) (by omega) (by omega) (by omega)]
      ·cases hso
     ·simp only [Ac] at hso
      split at hso
      ·rename_i e hsh
       obtain ⟨i,hi,hsz,hpos⟩:=F1 hso
       obtain rfl:=hx.inv_nsl
       simp only [X9,Option.some.injEq] at hlen
       subst hlen
       refine ⟨_,h2,.mk0 (by simp [PV.nms]) .nsl λw'=>?_⟩
       rw [I6 (E1 hsh) hi bl bh (bm _) (λ_=>hMX) (by omega) (by omega) (by omega)]
       have hh0:h0.toNat=0:=by omega
       have hm0:m.toNat=0:=by omega
       simp [hh0,hm0]
      ·cases hso
     ·cases h2
    ·cases h
   ·cases h
 ·cases h
theorem Gl {C:Cfg} {t e b n:Nat} {v:Bool} {e' sz:Nat} {els:List (List SV)} {X:Value} {lo hi mx:Option PV} {LO HI MX:Option Value} {k:PV->Option R} (hH:HR Γ H w) (h:Bk b n lo hi mx k=some r)
  (hsh:C.sh t = .array n e) (hok:(C.ti e).ok=true) (hks:(C.ti e).ks.length=sz) (hb:H[b]? = some (.arr v e' sz els)) (hn:els.length=n) (hn0:n≠0) (hnm:n<=maxLen) (hx:VP Γ (A1 H) w (.ptr b 0 0) X)
  (hlo:OV Γ (A1 H) w lo LO) (hhi:OV Γ (A1 H) w hi HI) (hmx:OV Γ (A1 H) w mx MX):∃ v,k v=some r/\QV0 C.P Γ H w (Instr.sliceAt t X LO HI MX) v:=by
 unfold Bk at h
 split at h
 ·rename_i l0 h0 hl hh
  obtain ⟨h1,h2⟩:=A7 h
  simp only [Bool.and_eq_true,decide_eq_true_eq] at h1
  obtain rfl:=hmx.none
  have bl:=Be hl hlo (by omega)
  have bh:=Be hh hhi (by omega)
  obtain ⟨i,hi,hsz,hpos⟩:=F1 hok
  rcases Qf hx with ⟨g,v',e2,sz',els',hb',hg,rfl⟩ | ⟨g,cells,_,hb',hg,rfl⟩
  ·rw [hb] at hb'
   simp only [Option.some.injEq,Blk.arr.injEq] at hb'
   obtain ⟨rfl,rfl,rfl,rfl⟩:=hb'
   refine ⟨_,h2,.mk0 (by simp [PV.nms];exact (List.getElem?_eq_some_iff.1 hb).1) (V:=.slice (some (if n=l0.toNat then ⟨g,0,none⟩ else (⟨g,0,none⟩:Addr).add (l0.toNat*i.size))) (h0.toNat-l0.toNat) (n-l0.toNat)) ?_ λw'=>?_⟩
   ·refine .vw b _ _ g _ _ v e' sz els.length (by simp [A1,hb,Blk.shp]) (λ_=>by omega) hg (λhne=>?_) (by omega) (by omega) (by omega)
    rw [if_neg (by omega),F6,hsz,hks,Nat.zero_add]
   ·simp only [Instr.sliceAt,Sem.run_bind,run_underlying (Cm hsh),Result.andThen_ok,Instr.sureAddr,Sem.run_pure]
    rw [Ku bl bh (m:=n) (BV.none _) (by simp) (by omega) (by omega) (Nat.le_refl _)]
    simp [sizeOf,typeInfo,hi]
  ·rw [hb] at hb'
   cases hb'
 ·cases h
end
def CR (Γ:Ctx) (sh:Nat->Option Shp) (w:World) (l:List PV) (A:Array Value):Prop:=A.size=l.length/\∀ j (h:j<l.length),∃ U,A[j]? = some U/\VP Γ sh w (l[j]) U
section
variable {Γ : Ctx} {sh : Nat -> Option Shp} {H : List Blk} {w : World} {R : Type} {r : R}
theorem CR.one {v:PV} {V:Value} (h:VP Γ sh w v V):CR Γ sh w [v] #[V]:=by
 refine ⟨rfl,λj hj=>?_⟩
 grind
theorem XR {V:Value} (h:V.oneCell'=true):V.cells = #[V]:=by
 cases V<;>first | rfl | simp [Value.oneCell'] at h
theorem VS.oneCell {St:Nat->Prop} {v:SV} {V:Value} (h:VS St w v V):V.oneCell'=true:=by
 cases h<;>rfl
theorem VP.oneCell {v:PV} {V:Value} (h:VP Γ sh w v V) (h1:v.one=true):V.oneCell'=true:=by
 cases h with
 | s v V h=>exact h.oneCell
 | yd=>exact Γ.yv1
 | agg=>simp [PV.one] at h1
 | tup=>simp [PV.one] at h1
 | bad=>simp [PV.one] at h1
 | _=>rfl
theorem VP.cells {v:PV} {V:Value} (h:VP Γ sh w v V) (hb:v.cells≠[]) (ht:∀ l,v≠.tup l):CR Γ sh w v.cells V.cells:=by
 by_cases ha:∃ l,v = .agg l
 ·obtain ⟨l,rfl⟩:=ha
  obtain ⟨A,rfl,hA,hc⟩:=h.inv_agg
  exact ⟨hA,hc⟩
 ·have h1:v.one=true:=by
   cases v<;>simp_all [PV.cells,PV.one]
  have hv:v.cells=[v]:=by cases v<;>simp_all [PV.cells,PV.one]
  rw [hv,XR (h.oneCell h1)]
  exact CR.one h
theorem VP.cells' {v:PV} {V:Value} (h:VP Γ sh w v V) (hb:v.cells≠[]):CR Γ sh w v.cells V.cells:=by
 by_cases ht:∃ l,v = .tup l
 ·obtain ⟨l,rfl⟩:=ht
  obtain ⟨A,rfl,hA,hc⟩:=h.inv_tup
  exact CR.one h
 ·exact h.cells hb (λl e=>ht ⟨l,e⟩)
theorem PV.cells_nms {v:PV}:∀ c∈B3 v.cells,c∈v.nms:=by
 intro c
 cases v<;>simp [PV.cells,B3,PV.nms]
theorem As7 {Γ':Ctx} {sh':Nat->Option Shp} {w':World} (hst:∀ g,Γ.St g->w'.heap[g]? = w.heap[g]?) (hsub:∀ g,Γ.St g->Γ'.St g) {a:Bool} {l:List SV} {V:Value} (h:VP Γ sh w (svV a l) V):VP Γ' sh' w' (svV a l) V:=by
 cases a with
 | true=>
  simp only [svV,cond_true] at h ⊢
  obtain ⟨A,rfl,hA,hc⟩:=h.inv_agg
  refine VP.mk_agg hA λj hj=>?_
  obtain ⟨U,e,k⟩:=hc j hj
  simp only [List.getElem_map] at k ⊢
  exact ⟨U,e,.s _ _ (k.inv_s.mono hst hsub)⟩
 | false=>
  match l with
  | []=>exact .bad _
  | [x]=>exact .s _ _ (h.inv_s.mono hst hsub)
  | _::_::_=>exact .bad _
theorem IR {c:CK} {V:Value} (h:VF c V=true):VP Γ sh w (J8 c) V:=by
 unfold VF at h
 split at h
 ·rename_i b;cases b<;>simp at h;exact .bool _
 ·simp only [Bool.and_eq_true,decide_eq_true_eq] at h
  obtain ⟨rfl,rfl⟩:=h;exact .int _ _
 ·exact .str _ (by simpa using h)
 ·exact .nsl
 ·exact .s _ _ .nilp
 ·exact .s _ _ .nilm
 ·exact .s _ _ .nilf
 ·cases h
theorem Jp:∀ {ks:List CK} {l:List Value},W6 ks l=true->∀ j (h:j<ks.length),∃ U,l[j]? = some U/\VP Γ sh w (J8 ks[j]) U
 | [],[],_=>λj h=>by simp at h
 | c::r,v::q,h=>by
  simp only [W6,Bool.and_eq_true] at h
  intro j hj
  cases j with
  | zero=>exact ⟨v,rfl,by simpa using IR h.1⟩
  | succ j=>
   obtain ⟨U,e,k⟩:=Jp h.2 j (by simpa using hj)
   exact ⟨U,by simpa using e,by simpa using k⟩
 | [],_::_,h=>by simp [W6] at h
 | _::_,[],h=>by simp [W6] at h
theorem Z4 {C:Cfg} {t:Nat} (h:(C.ti t).ok=true):∃ i z,C.P.info? t=some i/\i.zero=some z/\i.size=(C.ti t).ks.length/\CR Γ sh w ((C.ti t).ks.map J8) z.cells:=by
 obtain ⟨i,d,z,hi,hd,hz,hsz,hby,hpos,hks,hagg,hlen⟩:=W4 h
 refine ⟨i,z,hi,hz,hlen,by rw [List.length_map,<-hlen,hsz],λj hj=>?_⟩
 obtain ⟨U,e,k⟩:=Jp hks j (by simpa using hj)
 exact ⟨U,by simpa using e,by simpa using k⟩
theorem B4 {α:Type}:∀ (vs:List α) (l:List α) (off:Nat),(D3 l off vs).length=l.length
 | [],l,off=>by simp [D3]
 | v::vs,l,off=>by simp [D3,B4 vs]
theorem E7 {α:Type}:∀ (vs:List α) (l:List α) (off:Nat),off+vs.length<=l.length->∀ j,(D3 l off vs)[j]? = if off<=j/\j<off+vs.length then vs[j-off]? else l[j]?
 | [],l,off,_,j=>by simp [D3];intro h1 h2;omega
 | v::vs,l,off,h,j=>by
  simp only [List.length_cons] at h
  rw [D3,E7 vs _ _ (by simp;omega)]
  grind
theorem AW:∀ (vs:List Value) (k:Nat) (off:Nat) (A:Array Value),(((vs.zipIdx k).foldl (λcs (c,j)=>cs.setIfInBounds (off+j) c) A).toList=D3 A.toList (off+k) vs)
 | [],k,off,A=>by simp [D3]
 | v::vs,k,off,A=>by
  rw [List.zipIdx_cons,List.foldl_cons,AW vs (k+1) off,D3]
  grind
theorem CR.put {l x:List PV} {A X:Array Value} {off:Nat} (h:CR Γ sh w l A) (hx:CR Γ sh w x X) (hl:off+x.length<=l.length) :
  CR Γ sh w (D3 l off x) (X.zipIdx.foldl (λcs (c,j)=>cs.setIfInBounds (off+j) c) A):=by
 have e:(X.zipIdx.foldl (λcs (c,j)=>cs.setIfInBounds (off+j) c) A).toList=D3 A.toList off X.toList:=by
  have:=AW X.toList 0 off A
  rw [Nat.add_zero] at this
  rw [<-this,<-Array.foldl_toList,Array.toList_zipIdx]
 have hAl:A.toList.length=l.length:=by simpa using h.1
 have hXl:X.toList.length=x.length:=by simpa using hx.1
 refine ⟨?_,λj hj=>?_⟩
 ·rw [<-Array.length_toList,e,B4,B4,hAl]
 ·rw [B4] at hj
  have g1:(X.zipIdx.foldl (λcs (c,j)=>cs.setIfInBounds (off+j) c) A)[j]? = (D3 A.toList off X.toList)[j]?:=by rw [<-e,Array.getElem?_toList]
  rw [g1,E7 _ _ _ (by omega)]
  have g2:=E7 x l off hl j
  have hj':j<(D3 l off x).length:=by rw [B4];exact hj
  rw [List.getElem?_eq_getElem hj'] at g2
  by_cases hc:off<=j/\j<off+x.length
  ·rw [if_pos (by omega)]
   rw [if_pos hc] at g2
   obtain ⟨U,e1,k1⟩:=hx.2 (j-off) (by omega)
   refine ⟨U,by simpa using e1,?_⟩
   rw [List.getElem?_eq_getElem (by omega)] at g2
   simp only [Option.some.injEq] at g2
   rw [g2];exact k1
  ·rw [if_neg (by omega)]
   rw [if_neg hc] at g2
   obtain ⟨U,e1,k1⟩:=h.2 j hj
   refine ⟨U,by simpa using e1,?_⟩
   rw [List.getElem?_eq_getElem hj] at g2
   simp only [Option.some.injEq] at g2
   rw [g2];exact k1
def PR (Γ:Ctx) (sh:Nat->Option Shp) (w:World):List (Nat × PV)->List (Nat × Value)->Prop
 | [],[]=>True
 | (i,v)::r,(i',V)::q=>i=i'/\VP Γ sh w v V/\PR Γ sh w r q
 | _,_=>False
theorem Ko:∀ (vs l:List PV) (off:Nat),∀ c∈B3 (D3 l off vs),c∈B3 l\/c∈B3 vs
 | [],l,off,c,h=>.inl (by simpa [D3] using h)
 | v::vs,l,off,c,h=>by
  rw [D3] at h
  rcases Ko vs _ _ c h with h | h
  ·obtain ⟨j,hj,hc⟩:=A8.1 h
   rw [List.getElem_set] at hc
   split at hc
   ·exact .inr (by simp only [B3,List.mem_append];exact .inl hc)
   ·exact .inl (A8.2 ⟨j,by simpa using hj,hc⟩)
  ·exact .inr (by simp only [B3,List.mem_append];exact .inr h)
theorem X4 {place:Nat->Option (Nat × Nat)} {place':Nat->Option (Nat × Nat)} (hp:∀ i off size,place i=some (off,size)->0<size->place' i=some (off,size)) :
  ∀ {parts:List (Nat × PV)} {ps:List (Nat × Value)} {cells out:List PV} {A:Array Value},W7 place cells parts=some out->CR Γ sh w cells A->PR Γ sh w parts ps->
   ∃ B,Instr.fill place' A ps=some B/\CR Γ sh w out B/\∀ c∈B3 out,c∈B3 cells\/∃ p∈parts,c∈p.2.nms
 | [],[],cells,out,A,h,hc,_=>by
  simp only [W7,Option.some.injEq] at h
  subst h
  exact ⟨A,rfl,hc,λc hc=>.inl hc⟩
 | (i,v)::r,(i',V)::q,cells,out,A,h,hc,hr=>by
  obtain ⟨rfl,hv,hr⟩:=hr
  simp only [W7] at h
  split at h
  ·rename_i off size hpl
   split at h
   ·rename_i hcond
    simp only [Bool.and_eq_true,decide_eq_true_eq] at hcond
    obtain ⟨⟨h1,h2⟩,h3⟩:=hcond
    have hne:v.cells≠[]:=by intro e;rw [e] at h1;simp at h1;omega
    have hvc:=hv.cells' hne
    obtain ⟨B,e,hB,hn⟩:=X4 hp h (hc.put hvc h3) hr
    refine ⟨B,?_,hB,λc hc'=>?_⟩
    ·simp only [Instr.fill,hp i off size hpl h2]
     rw [if_neg,e]
     simp only [Bool.or_eq_true,decide_eq_true_eq,not_or]
     rw [hvc.1,hc.1]
     omega
    ·rcases hn c hc' with h | ⟨p,hp,hc⟩
     ·rcases Ko _ _ _ c h with h | h
      ·grind
      ·exact .inr ⟨(i,v),by simp,PV.cells_nms c h⟩
     grind
   ·cases h
  ·cases h
 | [],_::_,_,_,_,_,_,hr=>hr.elim
 | _::_,[],_,_,_,_,_,hr=>by simp [PR] at hr
theorem Ff (ks:List CK):B3 (ks.map J8)=[]:=by
 induction ks with
 | nil=>rfl
 | cons c r ih=>cases c<;>simp [B3,J8,PV.nms,ih]
theorem So {P:Program} {t:Nat} {d:TypeDesc} (h:P.underlying t=some d):∃ i,P.info? t=some i:=by
 unfold Program.underlying at h
 grind
theorem BF {P:Program} {d t:Nat} {ks:List CK} (h:Yp P d t=some ks):∃ i,P.info? t=some i:=by
 cases d with
 | zero=>simp [Yp] at h
 | succ d=>
  unfold Yp at h
  cases hu:P.underlying t with
  | none=>simp [hu] at h
  | some x=>exact So hu
theorem LI {P:Program} {d:Nat}:∀ {fs:List Field} {off:Nat} {ks:List CK},ksF (Yp P d) fs off=some ks->∀ f∈fs,∃ i,P.info? f.type=some i
 | [],_,_,_,f,hf=>by simp at hf
 | x::r,off,ks,h,f,hf=>by
  simp only [ksF] at h
  split at h
  ·split at h
   ·rename_i a ha
    split at h
    ·rename_i b hb
     rcases List.mem_cons.1 hf with rfl | hf
     ·exact BF ha
     ·exact LI hb f hf
    grind
   ·cases h
  ·cases h
theorem BN {α β:Type} {f:α->Option β} {g:α->β}:∀ (l:List α),(∀ x∈l,f x=some (g x))->l.mapM f=some (l.map g)
 | [],_=>rfl
 | x::r,h=>by
  rw [List.mapM_cons,h x (by simp),BN r (λy hy=>h y (by simp [hy]))]
  rfl
theorem MY {C:Cfg} {t:Nat} (h:0<Ad0 C t):∃ i,C.P.info? t=some i/\i.size=Ad0 C t:=by
 unfold Ad0 at h ⊢
 split at h
 ·rename_i hok
  obtain ⟨i,h1,h2,_⟩:=F1 hok
  grind
 ·omega
theorem Be0 {C:Cfg} {t:Nat} (h:(C.ti t).ok=true):Yp C.P 20 t=some (C.ti t).ks:=by
 simp only [Cfg.ti,A98] at h ⊢
 grind
theorem Le {C:Cfg} {t:Nat} {parts:List (Nat × PV)} {ps:Array (Nat × Value)} {k:PV->Option R} (h:Ou C t parts k=some r) (hp:PR Γ (A1 H) w parts ps.toList) (hn:∀ p∈parts,∀ c∈p.2.nms,c<H.length) :
  ∃ v,k v=some r/\QV0 C.P Γ H w (Instr.build t ps) v:=by
 unfold Ou at h
 split at h
 ·rename_i hok
  obtain ⟨i,z,hi,hz,hsz,hCR⟩:=Z4 (Γ:=Γ) (sh:=A1 H) (w:=w) hok
  split at h
  ·rename_i fs hsh
   obtain ⟨F,hu,rfl⟩:=Qk hsh
   dsimp only at h
   split at h
   ·rename_i out hf
    have hinfo:∀ f∈F.toList,∃ i,C.P.info? f.type=some i:=by
     have:=Be0 hok
     unfold Yp at this
     rw [hu] at this
     exact LI this
    let g:Field->Nat × Nat:=λf=>(f.offset,((C.P.info? f.type).map (·.size)).getD 0)
    have hm:F.toList.mapM (λf=>(C.P.info? f.type).map λi=>(f.offset,i.size))=some (F.toList.map g):=BN _ λf hf=>by
     obtain ⟨i,hi⟩:=hinfo f hf
     simp [g,hi]
    obtain ⟨B,e1,e2,e3⟩:=X4 (place':=λj=>((F.toList.map g).toArray)[j]?) (λj off size hj h0=>by
     simp only [List.getElem?_map,Option.map_map,Option.map_eq_some_iff] at hj
     obtain ⟨f,hf,he⟩:=hj
     simp only [Function.comp,Prod.mk.injEq] at he
     obtain ⟨rfl,rfl⟩:=he
     obtain ⟨i,hi,hs⟩:=MY h0
     simp only [List.getElem?_toArray,List.getElem?_map,hf,Option.map_some,g,hi,Option.getD_some,hs]) hf hCR hp
    refine ⟨_,h,.mk0 (λc hc=>?_) (VP.mk_agg e2.1 e2.2) λw'=>run_build w' t ps B ?_⟩
    ·rcases e3 c (by simpa [PV.nms] using hc) with h | ⟨p,hp,hc⟩
     ·rw [Ff] at h;simp at h
     ·exact hn p hp c hc
    ·simp only [Program.built,hi,hu,hz,hm]
     exact e1
   ·cases h
  ·rename_i n e hsh
   dsimp only at h
   split at h
   ·rename_i out hf
    have hu:=Cm hsh
    have hie:∃ ie,C.P.info? e=some ie:=by
     have:=Be0 hok
     unfold Yp at this
     rw [hu] at this
     dsimp only at this
     split at this
     ·rename_i ha;exact BF ha
     ·cases this
    obtain ⟨ie,hie⟩:=hie
    obtain ⟨B,e1,e2,e3⟩:=X4 (place':=λj=>some (j*ie.size,ie.size)) (λj off size hj h0=>by
     simp only [Option.some.injEq,Prod.mk.injEq] at hj
     obtain ⟨rfl,rfl⟩:=hj
     obtain ⟨i,hi,hs⟩:=MY h0
     rw [hie] at hi
     simp only [Option.some.injEq] at hi
     subst hi
     rw [hs]) hf hCR hp
    refine ⟨_,h,.mk0 (λc hc=>?_) (VP.mk_agg e2.1 e2.2) λw'=>run_build w' t ps B ?_⟩
    ·rcases e3 c (by simpa [PV.nms] using hc) with h | ⟨p,hp,hc⟩
     ·rw [Ff] at h;simp at h
     ·exact hn p hp c hc
    ·simp only [Program.built,hi,hu,hz,hie]
     exact e1
   ·cases h
  ·cases h
 ·cases h
theorem JV {C:Cfg} {src dst:Nat} {x:PV} {X:Value} {k:PV->Option R} (hH:HR Γ H w) (h:AQ C src dst x H k=some r) (hx:VP Γ (A1 H) w x X) :
  ∃ v,k v=some r/\QV C.P Γ H w (convert src dst X) v:=by
 unfold AQ at h
 split at h
 ·rename_i k1 kd k2 n h1 h2
  obtain rfl:=hx.inv_int
  refine ⟨_,h,.val rfl (.int _ _) λw' hw=>?_⟩
  have hd:=Qj h2
  have hk:C.P.intKind dst=kd:=by simp [Program.intKind,hd]
  have:=run_convert_int (P:=C.P) (w:=w') src dst k2 n (by rw [Qj h1];rfl) (by rw [hk];exact hd)
  rw [hk] at this
  exact this
 ·rename_i l h1 h2
  obtain ⟨s,rfl,rfl⟩:=hx.inv_str
  refine ⟨_,h,.val rfl (.str s rfl) λw' hw=>?_⟩
  simp [convert,run_underlying (S8 h1),run_underlying (S8 h2)]
 ·rename_i k1 k2 n h1 h2
  obtain rfl:=hx.inv_int
  refine ⟨_,h,.val rfl (.str (Utf8.encode n) rfl) λw' hw=>?_⟩
  exact run_convert_int_string w' src dst k2 n (by rw [Qj h1];rfl) (S8 h2)
 ·rename_i v e h1 h2
  split at h
  ·rename_i els hshe hels
   obtain ⟨h3,h4⟩:=A7 h
   obtain ⟨a,cap,rfl,hcap,hm,hnil,hcells⟩:=(Ng (C:=C) hH hx hels).ex
   have hrun:∀ w':World,(convert src dst (.slice a els.length cap)).run C.P w'=(Conv.bytesToString (.slice a els.length cap)).run C.P w':=
    λw'=>run_convert_bytes_string w' src dst e a _ cap (E1 h1) (Qj hshe) (S8 h2)
   have hu8:∀ i (hi:i<els.length),∃ n:Int,els[i]=[.int .u8 n]:=λi hi=>by
    have:=List.all_eq_true.1 h3 (els[i]) (List.getElem_mem hi)
    unfold RM at this
    grind
   let ns:List Int:=els.map λel=>(el.getD 0 .nilp).gI
   have hstr:(ns.foldl (λr n=>r.push (UInt8.ofNat n.toNat)) ByteArray.empty).data.toList=els.map KD:=by
    have key:∀ (l:List Int) (b:ByteArray),(l.foldl (λr n=>r.push (UInt8.ofNat n.toNat)) b).data.toList=b.data.toList++l.map λn=>UInt8.ofNat n.toNat:=by
     intro l
     induction l with
     | nil=>intro b;simp
     | cons n l ih=>intro b;rw [List.foldl_cons,ih];simp [ByteArray.push]
    rw [key]
    simp only [ns,List.map_map]
    rfl
   refine ⟨_,h4,.val rfl (.str (ns.foldl (λr n=>r.push (UInt8.ofNat n.toNat)) ByteArray.empty) hstr) λw' hw=>?_⟩
   rw [hrun w']
   cases a with
   | none=>
    have hc0:=hnil rfl
    have:els=[]:=List.length_eq_zero_iff.1 (by omega)
    subst this
    rfl
   | some a=>
    have hlen:ns.length=els.length:=by simp [ns]
    rw [<-hlen]
    refine run_bytesToString w' a ns.length cap ns ?_
    have:=run_loadCells_list (P:=C.P) w' a (ns.map (Value.int .u8)) (λj v hj=>?_)
    ·simpa using this
    ·have hj':j<els.length:=by
      have:=(List.getElem?_eq_some_iff.1 hj).1
      simpa [ns] using this
     have hne:els≠[]:=by rintro rfl;simp at hj'
     obtain ⟨g,o,sz,ha,hsz,hc⟩:=hcells hne
     simp only [Option.some.injEq] at ha
     subst ha
     obtain ⟨n,hn⟩:=hu8 j hj'
     have hs1:sz=1:=by rw [<-hsz j hj',hn];rfl
     subst hs1
     obtain ⟨U,e1,e2⟩:=hc j hj' 0 (by rw [hn];simp)
     simp only [hn,List.getElem_cons_zero] at e2
     have:=e2.inv_int
     subst this
     rw [Nat.mul_one,Nat.add_zero] at e1
     rw [F6]
     refine (Vi hw e1).trans ?_
     have:v = .int .u8 n:=by
      simp only [ns,List.map_map,List.getElem?_map,List.getElem?_eq_getElem hj',Option.map_some,Function.comp,hn,Option.some.injEq] at hj
      exact hj.symm
     rw [this]
  ·cases h
 ·cases h
end
def Cb (C:Cfg):Option Shp->Prop
 | some (.arr _ e _ _)=>Ag C e=true
 | some _=>True
 | none=>False
structure Stp (C:Cfg) (Γ:Ctx) (H:List Blk) (w:World) (Φ:Nat->Prop) (Γ':Ctx) (H':List Blk) (w':World) (Φ':Nat->Prop):Prop where
 os:w'.os=w.os
 tape:w'.tape=w.tape
 output:w'.output=w.output
 size:w.heap.size<=w'.heap.size
 sub:∀ g,Γ.St g->Γ'.St g
 stnew:∀ g,Γ'.St g->Γ.St g\/w.heap.size<=g
 own:∀ b g,Γ'.nm b=some g->(b<H.length/\Γ.nm b=some g)\/w.heap.size<=g
 foot:∀ g,Φ' g->Φ g\/w.heap.size<=g
 frame:∀ g,g<w.heap.size->(∀ b,Γ.nm b≠some g)->¬ Φ g->w'.heap[g]? = w.heap[g]?
 yv:Γ'.yv = Γ.yv
 len:H.length<=H'.length
 keep:∀ b,b<H.length->Cb C (A1 H b)->Γ'.nm b = Γ.nm b/\A1 H' b=A1 H b/\∀ g,Γ.nm b=some g->w'.shape? g=w.shape? g
theorem Stp.refl {C:Cfg} {Γ:Ctx} {H:List Blk} {w:World} {Φ:Nat->Prop} (hH:HR Γ H w):Stp C Γ H w Φ Γ H w Φ where
 os:=rfl
 tape:=rfl
 output:=rfl
 size:=Nat.le_refl _
 sub:=λ_ h=>h
 stnew:=λ_ h=>.inl h
 own:=λb g h=>.inl ⟨(hH.lt b g h).1,h⟩
 foot:=λ_ h=>.inl h
 frame:=λ_ _ _ _=>rfl
 yv:=rfl
 len:=Nat.le_refl _
 keep:=λ_ _ _=>⟨rfl,rfl,λ_ _=>rfl⟩
theorem Stp.trans {C:Cfg} {Γ Γ' Γ'':Ctx} {H H' H'':List Blk} {w w' w'':World} {Φ Φ' Φ'':Nat->Prop} (h:Stp C Γ H w Φ Γ' H' w' Φ') (k:Stp C Γ' H' w' Φ' Γ'' H'' w'' Φ''):Stp C Γ H w Φ Γ'' H'' w'' Φ'' where
 os:=k.os.trans h.os
 tape:=k.tape.trans h.tape
 output:=k.output.trans h.output
 size:=Nat.le_trans h.size k.size
 sub:=λg hg=>k.sub g (h.sub g hg)
 stnew:=λg hg=>by
  rcases k.stnew g hg with hg | hg
  ·exact h.stnew g hg
  ·exact .inr (Nat.le_trans h.size hg)
 own:=λb g hg=>by
  rcases k.own b g hg with ⟨_,hg⟩ | hg
  ·exact h.own b g hg
  ·exact .inr (Nat.le_trans h.size hg)
 foot:=λg hg=>by
  rcases k.foot g hg with hg | hg
  ·exact h.foot g hg
  ·exact .inr (Nat.le_trans h.size hg)
 frame:=λg hg hn hp=>by
  rw [k.frame g (Nat.lt_of_lt_of_le hg h.size) (λb hb=>by rcases h.own b g hb with ⟨_,e⟩ | e;exact hn b e;omega) (λhp'=>by rcases h.foot g hp' with e | e;exact hp e;omega),h.frame g hg hn hp]
 yv:=k.yv.trans h.yv
 len:=Nat.le_trans h.len k.len
 keep:=λb hb hf=>by
  obtain ⟨e1,e2,e3⟩:=h.keep b hb hf
  obtain ⟨f1,f2,f3⟩:=k.keep b (Nat.lt_of_lt_of_le hb h.len) (by rw [e2];exact hf)
  grind
structure HI {σ:Type} (I:σ->(Nat->Prop)->(Nat->Prop)->World->Prop):Prop where
 foot:∀ s St Φ w,I s St Φ w->∀ g,Φ g->g<w.heap.size/\¬ St g
 mono:∀ s St Φ w St' w',I s St Φ w->(∀ g,St g->St' g)->(∀ g,St' g->¬ Φ g)->(∀ g,St' g->g<w'.heap.size)->(∀ g,St g\/Φ g->w'.heap[g]? = w.heap[g]?)->w.heap.size<=w'.heap.size->
  w'.os=w.os->w'.tape=w.tape->w'.output=w.output->I s St' Φ w'
structure SI {σ:Type} (C:Cfg) (I:σ->(Nat->Prop)->(Nat->Prop)->World->Prop) (Γ:Ctx) (Φ:Nat->Prop) (st:St σ) (tmps:Array Value) (w:World):Prop where
 hr:HR Γ st.hp w
 sr:SR Γ st.hp w st.sl tmps
 g:GOK C Γ.St w
 inv:I st.s Γ.St Φ w
 dis:∀ b g,Γ.nm b=some g->¬ Φ g
def Ctx.upd (Γ:Ctx) (b g:Nat):Ctx:={ Γ with nm:=λc=>if c=b then some g else Γ.nm c }
section
variable {Γ : Ctx} {H : List Blk} {w w' : World} {R : Type} {r : R} {C : Cfg}
theorem H8 {b:Nat} {T:List Blk} (h:b<H.length):A1 (H++T) b=A1 H b:=by
 simp [A1,List.getElem?_append_left h]
theorem D4 {x:Blk}:A1 (H++[x]) H.length=some x.shp:=by simp [A1]
theorem CF {b c:Nat} {x:Blk} (h:b<H.length):A1 (H.set b x) c=if c=b then some x.shp else A1 H c:=by
 simp only [A1,List.getElem?_set]
 grind
theorem Blk.kill_shp (b:Nat) (x:Blk):(x.kill b).shp=x.shp:=by cases x<;>rfl
theorem Xp (b c:Nat):A1 (H.map (Blk.kill b)) c=A1 H c:=by
 simp only [A1,List.getElem?_map,Option.map_map]
 congr 1
 funext x
 exact Blk.kill_shp b x
theorem C6 {o:Obj} (hw:w'.heap=w.heap.push o) {g:Nat} (h:g<w.heap.size):w'.heap[g]? = w.heap[g]?:=by grind
theorem C5 {o:Obj} (hw:w'.heap=w.heap.push o):w'.heap[w.heap.size]? = some o:=by grind
theorem C3 {g:Nat} (h:w'.heap[g]? = w.heap[g]?):w'.shape? g=w.shape? g:=by simp [World.shape?,h]
theorem Fi {x:Blk} {o:Obj} (hH:HR Γ H w) (hw:w'.heap=w.heap.push o):P7 Γ (A1 H) w (Γ.upd H.length w.heap.size) (A1 (H++[x])) w' (· < H.length) where
 st:=λg hg=>C6 hw (hH.stlt g hg)
 sub:=λ_ h=>h
 nm:=λb hb=>by simp only [Ctx.upd];rw [if_neg (by omega)]
 shp:=λb hb=>H8 hb
 hs:=λb g hb hg=>C3 (C6 hw (hH.lt b g hg).2.1)
 yv:=rfl
theorem Ah5 {x:Blk} {o:Obj} (hH:HR Γ H w) (hw:w'.heap=w.heap.push o) (hx:BR (Γ.upd H.length w.heap.size) (A1 (H++[x])) w' H.length x) (hn:∀ c∈x.nms,c<H.length+1) :
  HR (Γ.upd H.length w.heap.size) (H++[x]) w':=by
 have M:=Fi (x:=x) hH hw
 have hsz:w'.heap.size=w.heap.size+1:=by rw [hw];simp
 refine ⟨λb b' g h1 h2=>?_,λb g h=>?_,λg hg=>?_,λb hb c hc=>?_,λb hb=>?_⟩
 ·simp only [Ctx.upd] at h1 h2
  split at h1<;>split at h2
  ·omega
  ·simp only [Option.some.injEq] at h1;have:=(hH.lt b' g h2).2.1;omega
  ·simp only [Option.some.injEq] at h2;have:=(hH.lt b g h1).2.1;omega
  ·exact hH.inj b b' g h1 h2
 ·simp only [Ctx.upd] at h
  split at h
  ·simp only [Option.some.injEq] at h
   subst h
   refine ⟨by simp;omega,by omega,λhs=>?_⟩
   have:=hH.stlt _ hs;omega
  ·have:=hH.lt b g h
   exact ⟨by simp;omega,by omega,this.2.2⟩
 ·have:=hH.stlt g hg;omega
 ·rw [List.length_append,List.length_singleton]
  rw [List.length_append,List.length_singleton] at hb
  by_cases e:b=H.length
  ·subst e
   simp at hc
   exact hn c hc
  ·have hb':b<H.length:=by omega
   rw [List.getElem_append_left hb'] at hc
   have:=hH.nms b hb' c hc;omega
 ·rw [List.length_append,List.length_singleton] at hb
  by_cases e:b=H.length
  ·subst e
   simpa using hx
  ·have hb':b<H.length:=by omega
   rw [List.getElem_append_left hb']
   exact (hH.blk b hb').mono M (M.nm b hb') (λg hg=>C6 hw (hH.lt b g hg).2.1) (λc hc=>hH.nms b hb' c hc)
theorem XN {x:Blk} {o:Obj} {Φ:Nat->Prop} (hH:HR Γ H w) (hw:w'.heap=w.heap.push o) (h1:w'.os=w.os) (h2:w'.tape=w.tape) (h3:w'.output=w.output) :
  Stp C Γ H w Φ (Γ.upd H.length w.heap.size) (H++[x]) w' Φ where
 os:=h1
 tape:=h2
 output:=h3
 size:=by rw [hw];simp
 sub:=λ_ h=>h
 stnew:=λ_ h=>.inl h
 own:=λb g h=>by
  simp only [Ctx.upd] at h
  split at h
  ·grind
  ·exact .inl ⟨(hH.lt b g h).1,h⟩
 foot:=λ_ h=>.inl h
 frame:=λg hg _ _=>C6 hw hg
 yv:=rfl
 len:=by simp
 keep:=λb hb hf=>by
  have M:=Fi (x:=x) hH hw
  exact ⟨M.nm b hb,M.shp b hb,λg hg=>M.hs b g hb hg⟩
theorem Mq (x:Blk) (hH:HR Γ H w):P7 Γ (A1 H) w Γ (A1 (H++[x])) w (· < H.length) where
 st:=λ_ _=>rfl
 sub:=λ_ h=>h
 nm:=λ_ _=>rfl
 shp:=λb hb=>H8 hb
 hs:=λ_ _ _ _=>rfl
 yv:=rfl
theorem SW {x:Blk} (hH:HR Γ H w) (hx:x.nms=[]) (hb:BR Γ (A1 (H++[x])) w H.length x):HR Γ (H++[x]) w:=by
 have M:=Mq x hH
 refine ⟨hH.inj,λb g h=>?_,hH.stlt,λb hb c hc=>?_,λb hb'=>?_⟩
 ·have:=hH.lt b g h
  grind
 ·rw [List.length_append,List.length_singleton] at hb ⊢
  by_cases e:b=H.length
  ·grind
  ·have hb':b<H.length:=by omega
   rw [List.getElem_append_left hb'] at hc
   have:=hH.nms b hb' c hc;omega
 ·rw [List.length_append,List.length_singleton] at hb'
  by_cases e:b=H.length
  ·grind
  ·have hb'':b<H.length:=by omega
   rw [List.getElem_append_left hb'']
   exact (hH.blk b hb'').mono M rfl (λg hg=>rfl) (λc hc=>hH.nms b hb'' c hc)
theorem HH {x:Blk} {Φ:Nat->Prop} (hH:HR Γ H w):Stp C Γ H w Φ Γ (H++[x]) w Φ where
 os:=rfl
 tape:=rfl
 output:=rfl
 size:=Nat.le_refl _
 sub:=λ_ h=>h
 stnew:=λ_ h=>.inl h
 own:=λb g h=>.inl ⟨(hH.lt b g h).1,h⟩
 foot:=λ_ h=>.inl h
 frame:=λ_ _ _ _=>rfl
 yv:=rfl
 len:=by simp
 keep:=λb hb hf=>⟨rfl,H8 hb,λ_ _=>rfl⟩
theorem GOK.mono {St St':Nat->Prop} (h:GOK C St w) (hs:∀ g,St g->w'.heap[g]? = w.heap[g]?) (hsub:∀ g,St g->St' g):GOK C St' w':=
 ⟨λg k zs hg=>by
  obtain ⟨h1,e,x,h2⟩:=h.1 g k zs hg
  exact ⟨hsub g h1,e,x,by rw [hs g h1];exact h2⟩,λg hg=>by
  obtain ⟨h1,m,h2⟩:=h.2 g hg
  exact ⟨hsub g h1,m,by rw [<-h2];simp [World.cell?,hs g h1]⟩⟩
theorem Stp.st {Φ Φ':Nat->Prop} {Γ':Ctx} {H':List Blk} (h:Stp C Γ H w Φ Γ' H' w' Φ') (hH:HR Γ H w) (hΦ:∀ g,Φ g->¬ Γ.St g) (g:Nat) (hg:Γ.St g):w'.heap[g]? = w.heap[g]?:=
 h.frame g (hH.stlt g hg) (λb hb=>(hH.lt b g hb).2.2 hg) (λhp=>hΦ g hp hg)
theorem SI.step {σ:Type} {I:σ->(Nat->Prop)->(Nat->Prop)->World->Prop} (hI:HI I) {Φ:Nat->Prop} {st:St σ} {tmps:Array Value} {Γ':Ctx} {H':List Blk} (S:SI C I Γ Φ st tmps w) (h:Stp C Γ st.hp w Φ Γ' H' w' Φ)
  (hΦ:∀ g,Φ g->w'.heap[g]? = w.heap[g]?) (hr:HR Γ' H' w') {sl':List PV} {tmps':Array Value} (sr:SR Γ' H' w' sl' tmps') :
  SI C I Γ' Φ { sl:=sl',hp:=H',s:=st.s } tmps' w':=by
 have hf:=hI.foot _ _ _ _ S.inv
 have hst:=h.st S.hr (λg hg=>(hf g hg).2)
 refine ⟨hr,sr,S.g.mono hst h.sub,hI.mono _ _ _ _ _ _ S.inv h.sub (λg hg hp=>?_) hr.stlt (λg hg=>?_) h.size h.os h.tape h.output,λb g hb hp=>?_⟩
 ·rcases h.stnew g hg with hg | hg
  ·exact (hf g hp).2 hg
  ·have:=(hf g hp).1;omega
 ·rcases hg with hg | hg
  ·exact hst g hg
  ·exact hΦ g hg
 ·rcases h.own b g hb with ⟨_,e⟩ | e
  ·exact S.dis b g e hp
  ·have:=(hf g hp).1;omega
theorem SR.put {sl:List PV} {tmps:Array Value} (h:SR Γ H w sl tmps) (o:Oper) {v:PV} {V:Value} (hv:VP Γ (A1 H) w v V) (hn:∀ c∈v.nms,c<H.length) {ds:List Deferred} :
  SR Γ H w (G8 o.dst v sl) (({ tmps:=tmps,defers:=ds }:Act).put o.dst V).tmps:=by
 cases hd:o.dst with
 | none=>exact h
 | some d=>
  simp only [G8,Act.put]
  refine ⟨by simp [h.size],λc hc=>?_,λi hi=>?_⟩
  ·obtain ⟨j,hj,hc⟩:=A8.1 hc
   rw [List.getElem_set] at hc
   split at hc
   ·exact hn c hc
   ·exact h.nms c (A8.2 ⟨j,by simpa using hj,hc⟩)
  ·have hi':i<sl.length:=by simpa using hi
   rw [List.getElem_set]
   by_cases e:d=i
   ·subst e
    rw [if_pos rfl]
    exact ⟨V,by rw [Array.getElem?_setIfInBounds,if_pos rfl,if_pos (by rw [h.size];exact hi')],hv⟩
   ·rw [if_neg e]
    obtain ⟨U,e1,e2⟩:=h.slot i hi'
    exact ⟨U,by rw [Array.getElem?_setIfInBounds,if_neg e];exact e1,e2⟩
end
section
variable {Γ : Ctx} {H : List Blk} {w : World} {R : Type} {r : R} {C : Cfg}
abbrev noΦ:Nat->Prop:=λ_=>False
def WV (C:Cfg) (Γ:Ctx) (H:List Blk) (w:World) (sl:List PV) (tmps:Array Value) (m:Sem Value) (v:PV) (sl':List PV) (H':List Blk):Prop:=
 ∃ V w' Γ',m.run C.P w = .ok V w'/\Stp C Γ H w noΦ Γ' H' w' noΦ/\HR Γ' H' w'/\(SR Γ H w sl tmps->SR Γ' H' w' sl' tmps)/\VP Γ' (A1 H') w' v V/\∀ c∈v.nms,c<H'.length
theorem QV.wv {m:Sem Value} {v:PV} {sl:List PV} {tmps:Array Value} (hH:HR Γ H w) (h:QV C.P Γ H w m v):WV C Γ H w sl tmps m v sl H:=by
 obtain ⟨hn,V,hV,hq⟩:=h
 exact ⟨V,w,Γ,hq w (Ext.refl w),Stp.refl hH,hH,id,hV,hn⟩
theorem SR.grow {Γ':Ctx} {T:List Blk} {w':World} {sl:List PV} {tmps:Array Value} (M:P7 Γ (A1 H) w Γ' (A1 (H++T)) w' (· < H.length)) (h:SR Γ H w sl tmps):SR Γ' (H++T) w' sl tmps:=
 h.mono M λc hc=>⟨h.nms c hc,by rw [List.length_append];have:=h.nms c hc;omega⟩
theorem CR.mono {Γ':Ctx} {H':List Blk} {w':World} {ok:Nat->Prop} {l:List PV} {A:Array Value} (M:P7 Γ (A1 H) w Γ' (A1 H') w' ok) (h:CR Γ (A1 H) w l A) (hn:∀ c∈B3 l,ok c):CR Γ' (A1 H') w' l A:=
 ⟨h.1,λj hj=>by
  obtain ⟨U,e,k⟩:=h.2 j hj
  exact ⟨U,e,k.mono M λc hc=>hn c (A8.2 ⟨j,hj,hc⟩)⟩⟩
theorem Z5 {m:Sem Value} {x:Blk} {o:Obj} {w':World} {V:Value} {v:PV} {sl:List PV} {tmps:Array Value} (hH:HR Γ H w) (hm:m.run C.P w = .ok V w') (hw:w'.heap=w.heap.push o) (h1:w'.os=w.os) (h2:w'.tape=w.tape) (h3:w'.output=w.output)
  (hx:BR (Γ.upd H.length w.heap.size) (A1 (H++[x])) w' H.length x) (hn:∀ c∈x.nms,c<H.length+1) (hv:VP (Γ.upd H.length w.heap.size) (A1 (H++[x])) w' v V) (hvn:∀ c∈v.nms,c<H.length+1) :
  WV C Γ H w sl tmps m v sl (H++[x]):=
 ⟨V,w',_,hm,XN hH hw h1 h2 h3,Ah5 hH hw hx hn,SR.grow (Fi hH hw),hv,by simpa using hvn⟩
theorem P7.trans {Γ1 Γ2 Γ3:Ctx} {s1 s2 s3:Nat->Option Shp} {w1 w2 w3:World} {ok ok':Nat->Prop} (M:P7 Γ1 s1 w1 Γ2 s2 w2 ok) (N:P7 Γ2 s2 w2 Γ3 s3 w3 ok') (hok:∀ b,ok b->ok' b):P7 Γ1 s1 w1 Γ3 s3 w3 ok where
 st:=λg hg=>(N.st g (M.sub g hg)).trans (M.st g hg)
 sub:=λg hg=>N.sub g (M.sub g hg)
 nm:=λb hb=>(N.nm b (hok b hb)).trans (M.nm b hb)
 shp:=λb hb=>(N.shp b (hok b hb)).trans (M.shp b hb)
 hs:=λb g hb hg=>(N.hs b g (hok b hb) ((M.nm b hb).trans hg)).trans (M.hs b g hb hg)
 yv:=N.yv.trans M.yv
theorem P7.refl {Γ:Ctx} {s:Nat->Option Shp} {w:World} {ok:Nat->Prop}:P7 Γ s w Γ s w ok:=
 ⟨λ_ _=>rfl,λ_ h=>h,λ_ _=>rfl,λ_ _=>rfl,λ_ _ _ _=>rfl,rfl⟩
theorem L9 (f:Nat->Nat × Nat):∀ (cells:List PV) (i:Nat) (H:List Blk) (As:List Value),HR Γ H w->cells.length=As.length->(∀ j (h:j<cells.length),∃ U,As[j]? = some U/\VP Γ (A1 H) w (cells[j]) U)->(∀ c∈B3 cells,c<H.length)->
  ∃ T,(D6 f cells i H).2=H++T/\HR Γ (H++T) w/\Stp C Γ H w noΦ Γ (H++T) w noΦ/\P7 Γ (A1 H) w Γ (A1 (H++T)) w (· < H.length)/\(D6 f cells i H).1.length=As.length/\
   (∀ j (h:j<(D6 f cells i H).1.length),∃ U,As[j]? = some U/\VP Γ (A1 (H++T)) w ((D6 f cells i H).1[j]) U)/\∀ c∈B3 (D6 f cells i H).1,c<(H++T).length
 | [],i,H,As,hH,hl,_,_=>⟨[],by simp [D6],by simpa using hH,by simpa using Stp.refl hH,by simpa using P7.refl,by simpa [D6] using hl,by simp [D6],by simp [D6,B3]⟩
 | v::cells,i,H,[],hH,hl,_,_=>by simp at hl
 | v::cells,i,H,A::As,hH,hl,hc,hn=>by
  have hv:VP Γ (A1 H) w v A:=by
   obtain ⟨U,e,k⟩:=hc 0 (by simp)
   grind
  have hl':cells.length=As.length:=by simpa using hl
  have hc':∀ j (h:j<cells.length),∃ U,As[j]? = some U/\VP Γ (A1 H) w (cells[j]) U:=λj hj=>by
   obtain ⟨U,e,k⟩:=hc (j+1) (by simpa using hj)
   grind
  have hnv:∀ c∈v.nms,c<H.length:=λc h=>hn c (by simp only [B3,List.mem_append];exact .inl h)
  have hnc:∀ c∈B3 cells,c<H.length:=λc h=>hn c (by simp only [B3,List.mem_append];exact .inr h)
  by_cases hnil:v = .nsl
  ·subst hnil
   have hH1:HR Γ (H++[.arr true (f i).1 (f i).2 []]) w:=SW hH rfl (.inl ⟨rfl,rfl⟩)
   have M1:=Mq (.arr true (f i).1 (f i).2 []) hH
   obtain ⟨T,e1,e2,e3,e4,e5,e6,e7⟩:=L9 f cells (i+1) (H++[.arr true (f i).1 (f i).2 []]) As hH1 hl' (λj hj=>by
    obtain ⟨U,e,k⟩:=hc' j hj
    exact ⟨U,e,k.mono M1 λc hc=>hnc c (A8.2 ⟨j,hj,hc⟩)⟩) (λc hc=>by have:=hnc c hc;simp;omega)
   have key:D6 f (.nsl::cells) i H=(.fl H.length::(D6 f cells (i+1) (H++[.arr true (f i).1 (f i).2 []])).1,(D6 f cells (i+1) (H++[.arr true (f i).1 (f i).2 []])).2):=rfl
   rw [key]
   rw [List.append_assoc] at e1 e2 e3 e4 e7
   have M2:=e4
   refine ⟨[.arr true (f i).1 (f i).2 []]++T,e1,e2,(HH hH).trans e3,M1.trans e4 (λb hb=>by simp;omega),by simpa using e5,λj hj=>?_,λc hc=>?_⟩
   ·cases j with
    | zero=>
     refine ⟨A,rfl,?_⟩
     rw [hv.inv_nsl]
     refine .flv _ (f i).1 (f i).2 ?_
     rw [<-List.append_assoc,H8 (by simp),D4]
     rfl
    | succ j=>
     grind
   ·simp only [B3,List.mem_append,PV.nms,List.mem_singleton] at hc
    grind
  ·have key:D6 f (v::cells) i H=(v::(D6 f cells (i+1) H).1,(D6 f cells (i+1) H).2):=by
    cases v<;>first | rfl | exact absurd rfl hnil
   rw [key]
   obtain ⟨T,e1,e2,e3,e4,e5,e6,e7⟩:=L9 f cells (i+1) H As hH hl' hc' hnc
   refine ⟨T,e1,e2,e3,e4,by simpa using e5,λj hj=>?_,λc hc=>?_⟩
   ·cases j with
    | zero=>exact ⟨A,rfl,hv.mono e4 hnv⟩
    | succ j=>
     grind
   ·simp only [B3,List.mem_append] at hc
    grind
theorem M7 (sz:Nat):∀ (n:Nat) (l:List SV),(M5 sz n l).length=n
 | 0,_=>rfl
 | n+1,l=>by simp [M5,M7 sz n]
theorem T1 (sz:Nat):∀ (n:Nat) (l:List SV),l.length=n*sz->∀ i (h:i<(M5 sz n l).length),(M5 sz n l)[i].length=sz/\∀ j (h':j<(M5 sz n l)[i].length),∃ h2:i*sz+j<l.length,(M5 sz n l)[i][j]=l[i*sz+j]
 | 0,_,_,i,h=>by simp [M5] at h
 | n+1,l,hl,i,h=>by
  have hle:sz<=l.length:=by rw [hl,Nat.add_mul];omega
  cases i with
  | zero=>
   refine ⟨by simp [M5];omega,λj hj=>?_⟩
   simp [M5] at hj
   exact ⟨by omega,by simp [M5]⟩
  | succ i=>
   have h':i<(M5 sz n (l.drop sz)).length:=by simpa [M5] using h
   obtain ⟨e1,e2⟩:=T1 sz n (l.drop sz) (by rw [List.length_drop,hl,Nat.add_mul];omega) i h'
   refine ⟨by simpa [M5] using e1,λj hj=>?_⟩
   obtain ⟨h2,e⟩:=e2 j (by simpa [M5] using hj)
   rw [List.length_drop] at h2
   refine ⟨by rw [Nat.add_mul];omega,?_⟩
   have hk:(M5 sz (n+1) l)[i+1][j]=(M5 sz n (l.drop sz))[i][j]'(by simpa [M5] using hj):=rfl
   grind
theorem G6 {sh:Nat->Option Shp}:∀ {l:List PV} {vs:List SV} {As:List Value},Co l=some vs->l.length=As.length->(∀ j (h:j<l.length),∃ U,As[j]? = some U/\VP Γ sh w (l[j]) U)->
  vs.length=As.length/\∀ j (h:j<vs.length),∃ U,As[j]? = some U/\VS Γ.St w (vs[j]) U
 | [],vs,As,h,hl,_=>by
  simp only [Co,Option.some.injEq] at h
  grind
 | v::l,vs,[],h,hl,_=>by simp at hl
 | v::l,vs,A::As,h,hl,hc=>by
  simp only [Co] at h
  split at h
  ·rename_i x y hx hy
   simp only [Option.some.injEq] at h
   subst h
   obtain ⟨e1,e2⟩:=G6 (As:=As) hy (by simpa using hl) (λj hj=>by
    obtain ⟨U,e,k⟩:=hc (j+1) (by simpa using hj)
    exact ⟨U,by simpa using e,by simpa using k⟩)
   refine ⟨by simp [e1],λj hj=>?_⟩
   cases j with
   | zero=>
    obtain ⟨U,e,k⟩:=hc 0 (by simp)
    refine ⟨U,e,?_⟩
    simp only [List.getElem_cons_zero] at k ⊢
    unfold PV.sv? at hx
    split at hx
    ·simp only [Option.some.injEq] at hx;subst hx;exact k.inv_s
    ·simp only [Option.some.injEq] at hx;subst hx;rw [k.inv_nsl];exact .nil _ _
    grind
   | succ j=>
    grind
  ·cases h
theorem BR.row {sh:Nat->Option Shp} {w':World} {b g e sz n:Nat} {z:Bool} {vs:List SV} {A:Array Value} {rest:Array Value} {Γ':Ctx} (hg:Γ'.nm b=some g) (hh:w'.heap[g]? = some (.cells (A++rest) e (0,0))) (hz:z=true->n≠0)
  (hl:vs.length=n*sz) (hA:vs.length=A.size) (hc:∀ j (h:j<vs.length),∃ U,A[j]? = some U/\VS Γ'.St w' (vs[j]) U):BR Γ' sh w' b (.arr z e sz (M5 sz n vs)):=by
 refine .inr ⟨λh=>?_,g,_,hg,hh,?_,λi hi=>(T1 sz n vs hl i hi).1,λi hi j hj=>?_⟩
 ·have:=congrArg List.length h.2
  rw [M7] at this
  exact hz h.1 this
 ·rw [M7,Array.size_append];omega
 ·obtain ⟨h2,e⟩:=(T1 sz n vs hl i hi).2 j hj
  obtain ⟨U,e1,k⟩:=hc _ h2
  refine ⟨U,?_,by rw [e];exact k⟩
  rw [Array.getElem?_append_left (by omega)]
  exact e1
theorem Vc {e:Nat} {V:Value} {cells:List PV} {k:PV->List Blk->Option R} {sl:List PV} {tmps:Array Value} {m:Sem Value} (hH:HR Γ H w) (h:Oq C e cells H k=some r) (hc:CR Γ (A1 H) w cells V.cells) (hn:∀ c∈B3 cells,c<H.length)
  (hm:m.run C.P w = .ok (.pointer (some ⟨w.heap.size,0,none⟩)) (w.alloc (.cells V.cells e))) :
  ∃ v H',k v H'=some r/\WV C Γ H w sl tmps m v sl H':=by
 unfold Oq at h
 split at h
 ·rename_i hok
  split at h
  ·rename_i n el hsh
   split at h
   ·rename_i vs hvs
    split at h
    ·rename_i hlen
     refine ⟨_,_,h,?_⟩
     obtain ⟨e1,e2⟩:=G6 (As:=V.cells.toList) hvs (by simpa using hc.1.symm) (λj hj=>by
      obtain ⟨U,e,k⟩:=hc.2 j hj
      exact ⟨U,by simpa using e,k⟩)
     have hwh:(w.alloc (.cells V.cells e)).heap=w.heap.push (.cells V.cells e):=rfl
     refine Z5 hH hm hwh rfl rfl rfl (BR.row (g:=w.heap.size) (A:=V.cells) (rest:=#[]) (by simp [Ctx.upd]) (by rw [C5 hwh];simp) (by simp) ?_ (by simpa using e1) (λj hj=>?_)) (by simp [Blk.nms]) ?_ (by simp [PV.nms])
     ·rw [e1,Array.length_toList,hc.1,hlen]
     ·obtain ⟨U,e,k⟩:=e2 j hj
      exact ⟨U,by simpa using e,k.mono (λg hg=>C6 hwh (hH.stlt g hg)) (λ_ h=>h)⟩
     ·have:=VP.ptrA (Γ:=Γ.upd H.length w.heap.size) (w:=w.alloc (.cells V.cells e)) (sh:=A1 (H++[Blk.arr false e (C.ti el).ks.length (M5 (C.ti el).ks.length n vs)])) H.length 0 0 w.heap.size _ _ _ _ D4 (by simp [Ctx.upd])
      simpa using this
    ·cases h
   ·cases h
  ·refine ⟨_,_,h,?_⟩
   obtain ⟨T,e1,e2,e3,e4,e5,e6,e7⟩:=L9 (C:=C) (C.nilT e) cells 0 H V.cells.toList hH (by simpa using hc.1.symm) (λj hj=>by
    obtain ⟨U,e,k⟩:=hc.2 j hj
    exact ⟨U,by simpa using e,k⟩) hn
   rw [e1]
   have hwh:(w.alloc (.cells V.cells e)).heap=w.heap.push (.cells V.cells e):=rfl
   have M:=Fi (x:=.box (D6 (C.nilT e) cells 0 H).1) e2 hwh
   have key:WV C Γ (H++T) w sl tmps m (.ptr (H++T).length 0 0) sl ((H++T)++[.box (D6 (C.nilT e) cells 0 H).1]):=by
    refine Z5 e2 hm hwh rfl rfl rfl ⟨w.heap.size,V.cells,e,by simp [Ctx.upd],by rw [C5 hwh],by simpa using e5.symm,λj hj=>?_⟩ (λc hc=>?_) ?_ (by simp [PV.nms])
    ·obtain ⟨U,f1,f2⟩:=e6 j hj
     exact ⟨U,by simpa using f1,f2.mono M λc hc=>e7 c (A8.2 ⟨j,hj,hc⟩)⟩
    ·have:=e7 c hc;omega
    ·exact .ptrB _ 0 w.heap.size D4 (by simp [Ctx.upd])
   obtain ⟨V',w',Γ',k1,k2,k3,k4,k5,k6⟩:=key
   exact ⟨V',w',Γ',k1,e3.trans k2,k3,λhS=>k4 (SR.grow e4 hS),k5,k6⟩
 ·cases h
end
section
variable {Γ : Ctx} {H : List Blk} {w : World} {R : Type} {r : R} {C : Cfg}
theorem KK {α:Type} (l:List α):∀ (n j:Nat),j<n*l.length->((List.replicate n l).flatten)[j]? = l[j % l.length]?
 | 0,j,h=>by simp at h
 | n+1,j,h=>by
  rw [List.replicate_succ,List.flatten_cons]
  by_cases hj:j<l.length
  ·rw [List.getElem?_append_left hj,Nat.mod_eq_of_lt hj]
  ·rw [List.getElem?_append_right (by omega),KK l n (j-l.length) (by rw [Nat.add_mul] at h;omega),<-Nat.mod_eq_sub_mod (by omega)]
theorem Aa {α:Type} (l:List α) (n:Nat):((List.replicate n l).flatten).length=n*l.length:=by
 simp
theorem LS {z:Array Value} {n j:Nat} {U:Value} (hj:j<n) (h0:0<z.size) (h:z[j % z.size]? = some U):(madeCells z n)[j]? = some U:=by
 have hlt:j % z.size<z.size:=Nat.mod_lt _ h0
 have:z[j % z.size]! = U:=by grind
 simp [madeCells,hj,this]
theorem HA {sh:Nat->Option Shp} {zs:List PV} {z:Array Value} (h:CR Γ sh w zs z) (h0:0<zs.length) (n:Nat):CR Γ sh w ((List.replicate n zs).flatten) (madeCells z (n*zs.length)):=by
 refine ⟨by rw [size_madeCells,Aa],λj hj=>?_⟩
 rw [Aa] at hj
 have hm:j % zs.length<zs.length:=Nat.mod_lt _ h0
 obtain ⟨U,e,k⟩:=h.2 _ hm
 refine ⟨U,LS hj (by rw [h.1];exact h0) (by rw [h.1];exact e),?_⟩
 have:=KK zs n j hj
 grind
theorem S7 {P:Program} (w:World) {t e:Nat} (len:Nat) (parts:Array (Nat × Value)) (cells:Array Value) {ie:TypeInfo} {z:Value}
  (hu:P.underlying t=some (.slice e)) (hie:P.info? e=some ie) (hz:ie.zero=some z) (hsmall:len*ie.size<=16777216)
  (h:Instr.fill (λi=>some (i*ie.size,ie.size)) (madeCells z.cells (len*ie.size)) parts.toList=some cells) :
  (Instr.buildSlice t len parts).run P w = .ok (.slice (some ⟨w.heap.size,0,none⟩) len len) (w.alloc (.cells cells e)):=by
 have hs:¬ len*ie.size > 2 ^ 24:=by omega
 by_cases hpos:len*ie.size=0
 ·rw [hpos] at h
  have h':Instr.fill (λi=>some (i*ie.size,ie.size)) #[] parts.toList=some cells:=by simpa [madeCells,Array.range_zero'] using h
  simp [Instr.buildSlice,run_underlying hu,sizeOf,typeInfo,hie,hpos,h',newRow,Array.range_zero']
 ·have h':Instr.fill (λi=>some (i*ie.size,ie.size)) ((Array.range (len*ie.size)).map (z.cells[· % z.cells.size]!)) parts.toList=some cells:=h
  simp [Instr.buildSlice,run_underlying hu,sizeOf,typeInfo,zeroValue,hie,hz,hs,hpos,h',newRow]
theorem Cx {t len:Nat} {parts:List (Nat × PV)} {ps:Array (Nat × Value)} {k:PV->List Blk->Option R} {sl:List PV} {tmps:Array Value} (hH:HR Γ H w) (h:T0 C t len parts H k=some r) (hp:PR Γ (A1 H) w parts ps.toList) :
  ∃ v H',k v H'=some r/\WV C Γ H w sl tmps (Instr.buildSlice t len ps) v sl H'/\∃ V o,(Instr.buildSlice t len ps).run C.P w = .ok V (w.alloc o):=by
 unfold T0 at h
 split at h
 ·rename_i e hsh
  dsimp only at h
  split at h
  ·rename_i hok
   simp only [Bool.and_eq_true,decide_eq_true_eq] at hok
   obtain ⟨⟨hok,hsmall⟩,hlen⟩:=hok
   split at h
   ·rename_i out hf
    split at h
    ·rename_i vs hvs
     refine ⟨_,_,h,?_⟩
     obtain ⟨i,z,hi,hz,hsz,hCR⟩:=Z4 (Γ:=Γ) (sh:=A1 H) (w:=w) hok
     obtain ⟨_,_,_,hpos⟩:=F1 hok
     have hks:0<(C.ti e).ks.length:=by rename_i h1 h2;omega
     have hM:=HA hCR (by simpa using hks) len
     rw [List.length_map] at hM
     obtain ⟨B,e1,e2,e3⟩:=X4 (place':=λj=>some (j*i.size,i.size)) (λj off size hj h0=>by rw [hsz];exact hj) hf hM hp
     obtain ⟨f1,f2⟩:=G6 (As:=B.toList) hvs (by simpa using e2.1.symm) (λj hj=>by
      obtain ⟨U,e,k⟩:=e2.2 j hj
      exact ⟨U,by simpa using e,k⟩)
     have hr:=S7 (P:=C.P) w len ps B (E1 hsh) hi hz (by rw [hsz];exact hsmall) (by rw [hsz] at e1 ⊢;exact e1)
     refine ⟨?_,_,_,hr⟩
     have hwh:(w.alloc (.cells B e)).heap=w.heap.push (.cells B e):=rfl
     have hBs:B.size=len*(C.ti e).ks.length:=by
      have hlenf:∀ {place:Nat->Option (Nat × Nat)} {ps:List (Nat × PV)} {cells out:List PV},W7 place cells ps=some out->out.length=cells.length:=by
       intro place ps
       induction ps with
       | nil=>intro cells out h;simp only [W7,Option.some.injEq] at h;rw [h]
       | cons p ps ih=>
        intro cells out h
        obtain ⟨i,v⟩:=p
        simp only [W7] at h
        split at h
        ·split at h
         ·rw [ih h,B4]
         grind
        grind
      rw [e2.1,hlenf hf,Aa,List.length_map]
     refine Z5 hH hr hwh rfl rfl rfl (BR.row (g:=w.heap.size) (A:=B) (rest:=#[]) (by simp [Ctx.upd]) (by rw [C5 hwh];simp) (by simp) ?_ (by simpa using f1) (λj hj=>?_)) (by simp [Blk.nms]) ?_ (by simp [PV.nms])
     ·rw [f1,Array.length_toList,hBs]
     ·obtain ⟨U,e,k⟩:=f2 j hj
      exact ⟨U,by simpa using e,k.mono (λg hg=>C6 hwh (hH.stlt g hg)) (λ_ h=>h)⟩
     ·refine .fl H.length w.heap.size false e (C.ti e).ks.length len len ?_ (by simp) (by simp [Ctx.upd]) (Nat.le_refl _) (by simp only [maxLen];omega) ?_
      ·rw [D4];simp [Blk.shp,M7]
      ·simp only [World.shape?,C5 hwh,hBs]
    ·cases h
   ·cases h
  ·cases h
 ·cases h
theorem Px {t:Nat} {l c:PV} {L N:Value} {k:PV->List Blk->Option R} {sl:List PV} {tmps:Array Value} (hH:HR Γ H w) (h:Y0 C t l c H k=some r) (hl:VP Γ (A1 H) w l L) (hc:VP Γ (A1 H) w c N) :
  ∃ v H',k v H'=some r/\WV C Γ H w sl tmps (Instr.makeSlice t L N) v sl H':=by
 unfold Y0 at h
 split at h
 ·rename_i e k1 n k2 m hsh
  obtain rfl:=hl.inv_int
  obtain rfl:=hc.inv_int
  split at h
  ·rename_i hok
   split at h
   ·rename_i z' hz'
    obtain ⟨h1,h2⟩:=A7 h
    simp only [Bool.and_eq_true,decide_eq_true_eq,Q5] at h1
    obtain ⟨⟨h3,h4⟩,h5⟩:=h1
    refine ⟨_,_,h2,?_⟩
    obtain ⟨i,d,z,hi,hd,hz,hsz1,hby,hpos,hks,hagg,hlen⟩:=W4 hok
    obtain ⟨i',z2,hi',hz2,hsz,hCR⟩:=Z4 (Γ:=Γ) (sh:=A1 H) (w:=w) hok
    rw [hi] at hi'
    simp only [Option.some.injEq] at hi'
    subst hi'
    rw [hz] at hz2
    simp only [Option.some.injEq] at hz2
    subst hz2
    have hb:(i.bytes:Int)*m<=281474976710656:=by
     have h6:m<=68719476736:=by omega
     have h7:(i.bytes:Int)<=512:=by omega
     have h8:(i.bytes:Int)*m<=512*68719476736:=Int.mul_le_mul h7 h6 (by omega) (by omega)
     omega
    have hr:=run_make (P:=C.P) w t e i z (E1 hsh) hi hz k1 k2 n m h3 h4 hb (by omega)
    obtain ⟨f1,f2⟩:=G6 (As:=z.cells.toList) hz' (by simpa using hCR.1.symm) (λj hj=>by
     obtain ⟨U,e,k⟩:=hCR.2 j hj
     exact ⟨U,by simpa using e,k⟩)
    have hzl:z'.length=i.size:=by rw [f1,Array.length_toList,hsz1]
    have hwh:(w.alloc (.cells (madeCells z.cells (m.toNat*i.size)) e)).heap=w.heap.push (.cells (madeCells z.cells (m.toNat*i.size)) e):=rfl
    refine Z5 hH hr hwh rfl rfl rfl (.inr ⟨by simp,w.heap.size,_,by simp [Ctx.upd],C5 hwh,?_,λa ha=>?_,λa ha b hb=>?_⟩) (by simp [Blk.nms]) ?_ (by simp [PV.nms])
    ·rw [List.length_replicate,size_madeCells,<-hlen]
     exact Nat.mul_le_mul_right _ (by omega)
    ·rw [List.getElem_replicate,hzl,hlen]
    ·rw [List.length_replicate] at ha
     simp only [List.getElem_replicate] at hb ⊢
     obtain ⟨U,e,k⟩:=f2 b hb
     refine ⟨U,LS ?_ (by omega) ?_,k.mono (λg hg=>C6 hwh (hH.stlt g hg)) (λ_ h=>h)⟩
     ·have:(a+1)*i.size<=m.toNat*i.size:=Nat.mul_le_mul_right _ (by omega)
      rw [Nat.add_mul] at this
      rw [<-hlen]
      omega
     ·rw [<-hlen,<-hsz1,Nat.add_comm,Nat.add_mul_mod_self_right,Nat.mod_eq_of_lt (by omega)]
      simpa using e
    ·refine .fl H.length w.heap.size false e (C.ti e).ks.length n.toNat m.toNat ?_ (by simp) (by simp [Ctx.upd]) (by omega) (by simp only [maxLen];omega) ?_
     ·rw [D4];simp [Blk.shp]
     ·simp only [World.shape?,C5 hwh,size_madeCells];rw [hlen]
   ·cases h
  ·cases h
 ·cases h
theorem Ar6 {t:Nat} {s:ByteArray} {sl:List PV} {tmps:Array Value} (hH:HR Γ H w) (hu:C.P.underlying t=some .string) :
  WV C Γ H w sl tmps (Instr.range t (.string s)) (.it H.length) sl (H++[.iter s.data.toList 0]):=by
 have hwh:(w.iter s 0).heap=w.heap.push (.stringIter s 0):=rfl
 refine Z5 hH (run_range_string w t s hu) hwh rfl rfl rfl ⟨w.heap.size,s,by simp [Ctx.upd],C5 hwh,rfl⟩ (by simp [Blk.nms]) ?_ (by simp [PV.nms])
 exact .it _ _ (by rw [D4];rfl) (by simp [Ctx.upd])
theorem Ry {P:Program} {g pos ty:Nat} {s:ByteArray} (hg:w.heap[g]? = some (.stringIter s pos)) :
  (Instr.next (.pointer (some ⟨g,0,none⟩)) true ty).run P w=if pos<s.size then .ok (.tuple #[.bool true,.int .i64 pos,.int .i32 (Utf8.decode s pos).1]) { w with heap:=w.heap.setIfInBounds g (.stringIter s (pos+(Utf8.decode s pos).2)) }
   else .ok (.tuple #[.bool false]) w:=by
 by_cases h:pos<s.size
 ·simp [Instr.next,getObj,setObj,Sem.run,hg,h,goInt,Result.andThen]
 ·simp [Instr.next,getObj,Sem.run,hg,h,Result.andThen]
theorem Y8 {b g:Nat} {x y:Blk} {w':World} (hH:HR Γ H w) (hb:H[b]? = some x) (hg:Γ.nm b=some g) (hsh:y.shp=x.shp) (hoth:∀ k,k≠g->w'.heap[k]? = w.heap[k]?) (hs:w'.shape? g=w.shape? g) :
  P7 Γ (A1 H) w Γ (A1 (H.set b y)) w' (λ_=>True):=by
 have hlt:=(List.getElem?_eq_some_iff.1 hb).1
 refine ⟨λk hk=>hoth k (λe=>(hH.lt b g hg).2.2 (e ▸ hk)),λ_ h=>h,λ_ _=>rfl,λc _=>?_,λc k _ hk=>?_,rfl⟩
 ·rw [CF hlt]
  split
  ·rename_i e;subst e;simp [A1,hb,hsh]
  ·rfl
 ·by_cases e:k=g
  ·subst e;exact hs
  ·exact C3 (hoth k e)
theorem NH {b g:Nat} {x y:Blk} {w':World} (hH:HR Γ H w) (hb:H[b]? = some x) (hg:Γ.nm b=some g) (hsh:y.shp=x.shp) (hoth:∀ k,k≠g->w'.heap[k]? = w.heap[k]?) (hs:w'.shape? g=w.shape? g) (hsz:w.heap.size<=w'.heap.size)
  (hy:BR Γ (A1 (H.set b y)) w' b y) (hn:∀ c∈y.nms,c<H.length):HR Γ (H.set b y) w':=by
 have M:=Y8 hH hb hg hsh hoth hs
 have hlt:=(List.getElem?_eq_some_iff.1 hb).1
 refine ⟨hH.inj,λc k hk=>?_,λk hk=>Nat.lt_of_lt_of_le (hH.stlt k hk) hsz,λc hc d hd=>?_,λc hc=>?_⟩
 ·have:=hH.lt c k hk
  exact ⟨by simpa using this.1,by omega,this.2.2⟩
 ·rw [List.length_set] at hc ⊢
  rw [List.getElem_set] at hd
  split at hd
  ·exact hn d hd
  ·exact hH.nms c hc d hd
 ·rw [List.length_set] at hc
  rw [List.getElem_set]
  split
  ·rename_i e;subst e;exact hy
  ·rename_i e
   exact (hH.blk c hc).mono M rfl (λk hk=>hoth k (λek=>e (hH.inj b c g hg (ek ▸ hk)))) (λ_ _=>trivial)
theorem CO {b g:Nat} {x y:Blk} {w':World} (hH:HR Γ H w) (hb:H[b]? = some x) (hg:Γ.nm b=some g) (hsh:y.shp=x.shp) (hoth:∀ k,k≠g->w'.heap[k]? = w.heap[k]?) (hs:w'.shape? g=w.shape? g) (hsz:w.heap.size<=w'.heap.size)
  (h1:w'.os=w.os) (h2:w'.tape=w.tape) (h3:w'.output=w.output):Stp C Γ H w noΦ Γ (H.set b y) w' noΦ where
 os:=h1
 tape:=h2
 output:=h3
 size:=hsz
 sub:=λ_ h=>h
 stnew:=λ_ h=>.inl h
 own:=λc k hk=>.inl ⟨(hH.lt c k hk).1,hk⟩
 foot:=λ_ h=>.inl h
 frame:=λk _ hk _=>hoth k (λe=>hk b (e ▸ hg))
 yv:=rfl
 len:=by simp
 keep:=λc hc _=>by
  have M:=Y8 hH hb hg hsh hoth hs
  exact ⟨rfl,M.shp c trivial,λk hk=>M.hs c k trivial hk⟩
theorem Fe {m:Sem Value} {b g:Nat} {x y:Blk} {w':World} {V:Value} {v:PV} {sl:List PV} {tmps:Array Value} (hH:HR Γ H w) (hm:m.run C.P w = .ok V w') (hb:H[b]? = some x) (hg:Γ.nm b=some g) (hsh:y.shp=x.shp)
  (hoth:∀ k,k≠g->w'.heap[k]? = w.heap[k]?) (hs:w'.shape? g=w.shape? g) (hsz:w.heap.size<=w'.heap.size) (h1:w'.os=w.os) (h2:w'.tape=w.tape) (h3:w'.output=w.output)
  (hy:BR Γ (A1 (H.set b y)) w' b y) (hn:∀ c∈y.nms,c<H.length) (hv:VP Γ (A1 (H.set b y)) w' v V) (hvn:∀ c∈v.nms,c<H.length):WV C Γ H w sl tmps m v sl (H.set b y):=
 ⟨V,w',Γ,hm,CO hH hb hg hsh hoth hs hsz h1 h2 h3,NH hH hb hg hsh hoth hs hsz hy hn,λhS=>hS.mono (Y8 hH hb hg hsh hoth hs) (λc hc=>⟨trivial,by simpa using hS.nms c hc⟩),hv,by simpa using hvn⟩
theorem Bg9 {b:Nat} {X:Value} (hs:A1 H b=some .iter) (hx:VP Γ (A1 H) w (.it b) X):∃ g,Γ.nm b=some g/\X = .pointer (some ⟨g,0,none⟩):=by
 cases hx with
 | it _ g h hg=>exact ⟨g,hg,rfl⟩
 | mpv _ g h hg=>rw [hs] at h;cases h
theorem LG {b ty:Nat} {l:List UInt8} {pos:Nat} {X:Value} (hH:HR Γ H w) (hx:VP Γ (A1 H) w (.it b) X) (hb:H[b]? = some (.iter l pos)) :
  ∃ g s,Γ.nm b=some g/\X = .pointer (some ⟨g,0,none⟩)/\w.heap[g]? = some (.stringIter s pos)/\s.data.toList=l:=by
 obtain ⟨g,hg,rfl⟩:=Bg9 (by simp [A1,hb,Blk.shp]) hx
 obtain ⟨hlt,hbe⟩:=List.getElem?_eq_some_iff.1 hb
 have:=hH.blk b hlt
 rw [hbe] at this
 obtain ⟨g',s,h1,h2,h3⟩:=this
 rw [hg] at h1;cases h1
 exact ⟨g,s,hg,rfl,h2,h3⟩
theorem LU {b ty:Nat} {l:List UInt8} {pos:Nat} {X:Value} (hH:HR Γ H w) (hx:VP Γ (A1 H) w (.it b) X) (hb:H[b]? = some (.iter l pos)) (hp:¬ pos<l.length):QV C.P Γ H w (Instr.next X true ty) (.tup [.s (.bool false)]):=by
 obtain ⟨g,s,hg,rfl,hh,rfl⟩:=LG (ty:=ty) hH hx hb
 rw [Iz] at hp
 refine .mk1 (by simp [PV.nms,B3]) (V:=.tuple #[.bool false]) (VP.mk_tup rfl λj hj=>?_) λw' hw=>?_
 ·have:j=0:=by simpa using hj
  subst this
  exact ⟨_,rfl,.bool _⟩
 ·rw [Ry ((hw g (Array.getElem?_eq_some_iff.1 hh).1).trans hh),if_neg hp]
theorem A53 {b ty:Nat} {l:List UInt8} {pos:Nat} {X:Value} {sl:List PV} {tmps:Array Value} (hH:HR Γ H w) (hx:VP Γ (A1 H) w (.it b) X) (hb:H[b]? = some (.iter l pos)) (hp:pos<l.length) :
  WV C Γ H w sl tmps (Instr.next X true ty) (.tup [.s (.bool true),.s (.int .i64 pos),.s (.int .i32 (Utf8.decode ⟨l.toArray⟩ pos).1)]) sl (H.set b (.iter l (pos+(Utf8.decode ⟨l.toArray⟩ pos).2))):=by
 obtain ⟨g,s,hg,rfl,hh,rfl⟩:=LG (ty:=ty) hH hx hb
 rw [Iz] at hp
 have hlt:g<w.heap.size:=(hH.lt b g hg).2.1
 have hs:(⟨s.data.toList.toArray⟩:ByteArray)=s:=by cases s;simp
 rw [hs]
 have hr:=Ry (P:=C.P) (ty:=ty) hh
 rw [if_pos hp] at hr
 refine Fe hH hr hb hg rfl (λk hk=>?_) ?_ (by simp) rfl rfl rfl ⟨g,s,hg,?_,rfl⟩ (by simp [Blk.nms]) (VP.mk_tup rfl λj hj=>?_) (by simp [PV.nms,B3])
 ·simp only [Array.getElem?_setIfInBounds];rw [if_neg (by omega)]
 ·simp only [World.shape?,hh,Array.getElem?_setIfInBounds,if_true,hlt]
 ·simp [hlt]
 ·match j,hj with
  | 0,_=>exact ⟨_,rfl,.bool _⟩
  | 1,_=>exact ⟨_,rfl,.int _ _⟩
  | 2,_=>exact ⟨_,rfl,.int _ _⟩
theorem A90 {m:Sem Value} {o:Obj} {w':World} {V:Value} {v:PV} {sl:List PV} {tmps:Array Value} (hH:HR Γ H w) (hr:m.run C.P w = .ok V w') (hwh:w'.heap=w.heap.push o) (e1:w'.os=w.os) (e2:w'.tape=w.tape) (e3:w'.output=w.output)
  (hv:VP { Γ with St:=λg=>Γ.St g\/g=w.heap.size } (A1 H) w' v V) (hn:∀ c∈v.nms,c<H.length):WV C Γ H w sl tmps m v sl H:=by
 let Γ':Ctx:={ Γ with St:=λg=>Γ.St g\/g=w.heap.size }
 have hold:∀ g,g<w.heap.size->w'.heap[g]? = w.heap[g]?:=λg hg=>C6 hwh hg
 have M:P7 Γ (A1 H) w Γ' (A1 H) w' (λ_=>True):=⟨λg hg=>hold g (hH.stlt g hg),λ_ h=>.inl h,λ_ _=>rfl,λ_ _=>rfl,λb g _ hg=>C3 (hold g (hH.lt b g hg).2.1),rfl⟩
 have hsz:w'.heap.size=w.heap.size+1:=by rw [hwh];simp
 have hH':HR Γ' H w':=by
  refine ⟨hH.inj,λb g hg=>?_,λg hg=>?_,hH.nms,λb hb=>(hH.blk b hb).mono M rfl (λg hg=>hold g (hH.lt b g hg).2.1) (λ_ _=>trivial)⟩
  ·have:=hH.lt b g hg
   grind
  ·rcases hg with h | rfl
   ·have:=hH.stlt g h;omega
   ·omega
 exact ⟨V,w',Γ',hr,⟨e1,e2,e3,by omega,λ_ h=>.inl h,λg hg=>by rcases hg with h | rfl;exact .inl h;exact .inr (Nat.le_refl _),λb g hg=>.inl ⟨(hH.lt b g hg).1,hg⟩,λ_ h=>.inl h,λg hg _ _=>hold g hg,rfl,Nat.le_refl _,
  λb hb hf=>⟨rfl,rfl,λg hg=>C3 (hold g (hH.lt b g hg).2.1)⟩⟩,hH',λhS=>hS.mono M (λc hc=>⟨trivial,hS.nms c hc⟩),hv,hn⟩
theorem Gv {t len:Nat} {parts:List (Nat × PV)} {ps:Array (Nat × Value)} {k:PV->Option R} {sl:List PV} {tmps:Array Value} (hH:HR Γ H w) (h:M6 C t len parts k=some r) (hp:PR Γ (A1 H) w parts ps.toList) :
  ∃ v e B,k v=some r/\C.P.underlying t=some (.slice e)/\(Instr.buildSlice t len ps).run C.P w = .ok (.slice (some ⟨w.heap.size,0,none⟩) len len) (w.alloc (.cells B e))/\
   ∀ (m:Sem Value) (tg:Nat × Nat),m.run C.P w = .ok (.slice (some ⟨w.heap.size,0,none⟩) len len) (w.alloc (.cells B e tg))->WV C Γ H w sl tmps m v sl H:=by
 unfold M6 at h
 split at h
 ·rename_i e hsh
  dsimp only at h
  split at h
  ·rename_i hok
   simp only [Bool.and_eq_true,decide_eq_true_eq] at hok
   obtain ⟨⟨hok,hsmall⟩,hlen⟩:=hok
   split at h
   ·rename_i out hf
    split at h
    ·rename_i vs hvs
     obtain ⟨h1,h2⟩:=A7 h
     obtain ⟨i,z,hi,hz,hsz,hCR⟩:=Z4 (Γ:=Γ) (sh:=A1 H) (w:=w) hok
     obtain ⟨_,_,_,hpos⟩:=F1 hok
     have hks:0<(C.ti e).ks.length:=by rename_i h1 h2;omega
     have hM:=HA hCR (by simpa using hks) len
     rw [List.length_map] at hM
     obtain ⟨B,e1,e2,e3⟩:=X4 (place':=λj=>some (j*i.size,i.size)) (λj off size hj h0=>by rw [hsz];exact hj) hf hM hp
     obtain ⟨f1,f2⟩:=G6 (As:=B.toList) hvs (by simpa using e2.1.symm) (λj hj=>by
      obtain ⟨U,e,k⟩:=e2.2 j hj
      exact ⟨U,by simpa using e,k⟩)
     have hr:=S7 (P:=C.P) w len ps B (E1 hsh) hi hz (by rw [hsz];exact hsmall) (by rw [hsz] at e1 ⊢;exact e1)
     refine ⟨_,_,B,h2,E1 hsh,hr,λm tg hr=>?_⟩
     have hwh:(w.alloc (.cells B e tg)).heap=w.heap.push (.cells B e tg):=rfl
     have hBs:B.size=len*(C.ti e).ks.length:=by
      have hlenf:∀ {place:Nat->Option (Nat × Nat)} {ps:List (Nat × PV)} {cells out:List PV},W7 place cells ps=some out->out.length=cells.length:=by
       intro place ps
       induction ps with
       | nil=>intro cells out h;simp only [W7,Option.some.injEq] at h;rw [h]
       | cons p ps ih=>
        intro cells out h
        obtain ⟨i,v⟩:=p
        simp only [W7] at h
        split at h
        ·split at h
         ·rw [ih h,B4]
         grind
        grind
      rw [e2.1,hlenf hf,Aa,List.length_map]
     have hvl:vs.length=len*(C.ti e).ks.length:=by rw [f1,Array.length_toList,hBs]
     refine A90 hH hr hwh rfl rfl rfl (.s _ _ ?_) (by simp [PV.nms])
     refine .sl true (M5 (C.ti e).ks.length len vs) w.heap.size 0 len len (C.ti e).ks.length (λi j=>B.toList.getD (i*(C.ti e).ks.length+j) undef) (M7 _ _ _).symm (Nat.le_refl _) (by simp only [maxLen];omega) (λ_=>rfl) (.inr rfl) (λi hi=>(T1 _ _ _ hvl i hi).1) (λi hi j hj=>?_) (λi hi j hj=>?_)
     all_goals
      obtain ⟨c1,c2⟩:=T1 _ _ _ hvl i hi
      obtain ⟨c3,c4⟩:=c2 j hj
      obtain ⟨U,eU,k⟩:=f2 (i*(C.ti e).ks.length+j) c3
     ·rw [cell_of_row (w.alloc (.cells B e tg)) w.heap.size _ _ _ _ (C5 hwh)]
      have hlt:i*(C.ti e).ks.length+j<B.toList.length:=(List.getElem?_eq_some_iff.1 eU).1
      rw [O7 hlt,show 0+i*(C.ti e).ks.length+j=i*(C.ti e).ks.length+j by omega]
      simp
     ·rw [List.getD_eq_getElem?_getD,eU,c4]
      exact k.mono (λg hg=>C6 hwh (hH.stlt g hg)) (λ_ h=>.inl h)
    ·cases h
   ·cases h
  ·cases h
 ·cases h
theorem El {t len:Nat} {parts:List (Nat × PV)} {ps:Array (Nat × Value)} {k:PV->Option R} {sl:List PV} {tmps:Array Value} (hH:HR Γ H w) (h:M6 C t len parts k=some r) (hp:PR Γ (A1 H) w parts ps.toList) :
  ∃ v,k v=some r/\WV C Γ H w sl tmps (Instr.buildSlice t len ps) v sl H/\∃ V o,(Instr.buildSlice t len ps).run C.P w = .ok V (w.alloc o):=by
 obtain ⟨v,e,B,h1,_,h2,h3⟩:=Gv (sl:=sl) (tmps:=tmps) hH h hp
 exact ⟨v,h1,h3 _ _ h2,_,_,h2⟩
theorem FE {src dst:Nat} {x:PV} {X:Value} {k:PV->Option R} {sl:List PV} {tmps:Array Value} (hH:HR Γ H w) (h:Ov C src dst x k=some r) (hx:VP Γ (A1 H) w x X) :
  ∃ v,k v=some r/\WV C Γ H w sl tmps (convert src dst X) v sl H:=by
 unfold Ov at h
 split at h
 ·rename_i e l h1 h2
  split at h
  ·rename_i h3
   obtain ⟨h4,h5⟩:=A7 h
   simp only [Q5,decide_eq_true_eq] at h4
   obtain ⟨s,rfl,rfl⟩:=hx.inv_str
   rw [Iz] at h4
   refine ⟨_,h5,?_⟩
   have hr:=run_bytes_of_string (P:=C.P) w src dst e s (S8 h1) (E1 h2) (Qj h3)
   generalize hcap:grownCap w s.size 0 e=cap at hr
   have hge:s.size<=cap:=by rw [<-hcap];exact grownCap_ge _ _ _ _
   have hle:cap<=maxLen:=by rw [<-hcap];exact grownCap_le_maxLen _ _ _ _ (by simp only [maxLen];omega)
   generalize hw':w.drew.alloc (.cells (bytesRow s cap) e ((bytesRow s cap).size,(bytesRow s cap).size+1))=w' at hr
   have hwh:w'.heap=w.heap.push (.cells (bytesRow s cap) e ((bytesRow s cap).size,(bytesRow s cap).size+1)):=by rw [<-hw'];rfl
   have e1:w'.os=w.os:=by rw [<-hw'];rfl
   have e2:w'.tape=w.tape:=by rw [<-hw'];rfl
   have e3:w'.output=w.output:=by rw [<-hw'];rfl
   let Γ':Ctx:={ Γ with St:=λg=>Γ.St g\/g=w.heap.size }
   have hold:∀ g,g<w.heap.size->w'.heap[g]? = w.heap[g]?:=λg hg=>C6 hwh hg
   have M:P7 Γ (A1 H) w Γ' (A1 H) w' (λ_=>True):=⟨λg hg=>hold g (hH.stlt g hg),λ_ h=>.inl h,λ_ _=>rfl,λ_ _=>rfl,λb g _ hg=>C3 (hold g (hH.lt b g hg).2.1),rfl⟩
   have hsz:w'.heap.size=w.heap.size+1:=by rw [hwh];simp
   have hH':HR Γ' H w':=by
    refine ⟨hH.inj,λb g hg=>?_,λg hg=>?_,hH.nms,λb hb=>(hH.blk b hb).mono M rfl (λg hg=>hold g (hH.lt b g hg).2.1) (λ_ _=>trivial)⟩
    ·have:=hH.lt b g hg
     grind
    ·rcases hg with h | rfl
     ·have:=hH.stlt g h;omega
     ·omega
   refine ⟨_,w',Γ',hr,⟨e1,e2,e3,by omega,λ_ h=>.inl h,λg hg=>by rcases hg with h | rfl;exact .inl h;exact .inr (Nat.le_refl _),λb g hg=>.inl ⟨(hH.lt b g hg).1,hg⟩,λ_ h=>.inl h,λg hg _ _=>hold g hg,rfl,Nat.le_refl _,
    λb hb hf=>⟨rfl,rfl,λg hg=>C3 (hold g (hH.lt b g hg).2.1)⟩⟩,hH',λhS=>hS.mono M (λc hc=>⟨trivial,hS.nms c hc⟩),.s _ _ ?_,by simp [PV.nms]⟩
   have hlen:s.data.toList.length=s.size:=Iz s
   have hu8:∀ (a:List UInt8) i (hi:i<(a.map I8).length),((a.map I8)[i]).length=1:=λa i hi=>by simp [I8]
   refine .sl false (s.data.toList.map I8) w.heap.size 0 s.size cap 1 (λi _=>.int .u8 ((s.data.toList.getD i 0).toNat)) (by rw [List.length_map,hlen]) hge hle (by simp) (.inr rfl) (hu8 _) (λi hi j hj=>?_) (λi hi j hj=>?_)
   ·have hj0:j=0:=by rw [hu8 _ i hi] at hj;omega
    subst hj0
    have hi':i<s.data.size:=by simpa using hi
    rw [cell_of_row w' w.heap.size _ _ _ _ (C5 hwh)]
    have hlt:i<s.data.toList.length:=by simpa using hi'
    rw [O7 hlt]
    simp only [bytesRow]
    rw [Array.getElem?_append_left (by simpa using hi')]
    rw [Array.getElem?_map,show 0+i*1+0=i by omega,Array.getElem?_eq_getElem hi']
    rfl
   ·have hj0:j=0:=by rw [hu8 _ i hi] at hj;omega
    subst hj0
    have hi':i<s.data.toList.length:=by simpa using hi
    rw [O7 hi']
    simp only [List.getElem_map,I8,List.getElem_cons_zero]
    exact .int _ _
  ·cases h
 ·cases h
end
section
variable {Γ : Ctx} {H : List Blk} {w : World} {R : Type} {r : R} {C : Cfg}
theorem MF {α:Type} (l vs:List α) (off:Nat) (h:off+vs.length<=l.length):D3 l off vs=l.take off++vs++l.drop (off+vs.length):=by
 apply List.ext_getElem?
 intro j
 rw [E7 vs l off h j]
 have h1:(l.take off).length=off:=by rw [List.length_take];omega
 grind
theorem F4 {P:Program} {g o e:Nat} {vs:List Value} {cur:Array Value} (hg:w.heap[g]? = some (.cells cur e (0,0))) (hle:o+vs.length<=cur.size) (h1:∀ v∈vs,v.oneCell'=true) :
  ∃ w',(storeCells ⟨g,o,none⟩ vs).run P w = .ok () w'/\w'.heap[g]? = some (.cells (D3 cur.toList o vs).toArray e (0,0))/\(∀ k,k≠g->w'.heap[k]? = w.heap[k]?)/\w'.heap.size=w.heap.size/\w'.os=w.os/\w'.tape=w.tape/\w'.output=w.output/\
   w'.shape? g=w.shape? g:=by
 have:=run_storeCells_at P g o e vs 0 cur w hg (by simpa using hle) h1
 simp only [Nat.add_zero] at this
 rw [<-MF cur.toList vs o (by simpa using hle)] at this
 have hh:=setRow_heap w g cur (D3 cur.toList o vs).toArray e (0,0) hg
 refine ⟨_,this,hh,λk hk=>setRow_other w g k _ hk,by simp,rfl,rfl,rfl,?_⟩
 simp only [World.shape?,hh,hg]
 simp [B4]
theorem Az {P:Program} {t:Nat} {i:TypeInfo} {a:Addr} {V:Value} (hi:P.info? t=some i) (hs:V.cells.size=i.size) {w w':World} (h:(storeCells a V.cells.toList).run P w = .ok () w') :
  (do Instr.storeAt t (.pointer (some a)) V;pure undef:Sem Value).run P w = .ok undef w':=by
 simp [Instr.storeAt,Instr.sureAddr,storeVar,sizeOf,typeInfo,hi,hs,h]
theorem VU {l:List PV} {As:List Value} {sh:Nat->Option Shp} (hl:l.length=As.length) (h:l.all PV.one=true) (hc:∀ j (h:j<l.length),∃ U,As[j]? = some U/\VP Γ sh w (l[j]) U):∀ v∈As,v.oneCell'=true:=by
 intro v hv
 obtain ⟨j,hj,e⟩:=List.getElem_of_mem hv
 obtain ⟨U,e1,k⟩:=hc j (by omega)
 rw [List.getElem?_eq_getElem hj] at e1
 simp only [Option.some.injEq] at e1
 rw [<-e,e1]
 exact k.oneCell (List.all_eq_true.1 h _ (List.getElem_mem _))
theorem P6 {sh:Nat->Option Shp}:VP Γ sh w (.tup []) undef:=VP.mk_tup (by rfl) λj hj=>by simp at hj
theorem A77 {α:Type} {Rel:α->Value->Prop} {l vs:List α} {A B:List Value} {o:Nat} (hl:l.length=A.length) (hv:vs.length=B.length) (ho:o+vs.length<=l.length) (h1:∀ j (h:j<l.length),∃ U,A[j]? = some U/\Rel (l[j]) U)
  (h2:∀ j (h:j<vs.length),∃ U,B[j]? = some U/\Rel (vs[j]) U):∀ j (h:j<(D3 l o vs).length),∃ U,(D3 A o B)[j]? = some U/\Rel ((D3 l o vs)[j]) U:=by
 intro j hj
 have g:=E7 vs l o ho j
 rw [List.getElem?_eq_getElem hj] at g
 rw [B4] at hj
 rw [E7 B A o (by omega) j]
 by_cases hc:o<=j/\j<o+vs.length
 ·rw [if_pos (by omega)]
  rw [if_pos hc,List.getElem?_eq_getElem (by omega)] at g
  simp only [Option.some.injEq] at g
  obtain ⟨U,e,k⟩:=h2 (j-o) (by omega)
  exact ⟨U,e,by rw [g];exact k⟩
 ·rw [if_neg (by omega)]
  rw [if_neg hc,List.getElem?_eq_getElem hj] at g
  simp only [Option.some.injEq] at g
  obtain ⟨U,e,k⟩:=h1 j hj
  exact ⟨U,e,by rw [g];exact k⟩
theorem HR.box' (hH:HR Γ H w) {b:Nat} {cells:List PV} (hb:H[b]? = some (.box cells)):∃ g cur e,Γ.nm b=some g/\w.heap[g]? = some (.cells cur e (0,0))/\cur.size=cells.length/\(∀ j (h:j<cells.length),∃ V,cur[j]? = some V/\VP Γ (A1 H) w (cells[j]) V)/\∀ c∈B3 cells,c<H.length:=by
 obtain ⟨hlt,hbe⟩:=List.getElem?_eq_some_iff.1 hb
 have:=hH.blk b hlt
 rw [hbe] at this
 obtain ⟨g,cur,e,h1,h2,h3,h4⟩:=this
 exact ⟨g,cur,e,h1,h2,h3,h4,λc hc=>hH.nms b hlt c (by rw [hbe];exact hc)⟩
theorem HR.arr' (hH:HR Γ H w) {b:Nat} {v:Bool} {e sz:Nat} {els:List (List SV)} (hb:H[b]? = some (.arr v e sz els)) (hne:¬ (v=true/\els=[])) :
  ∃ g cur,Γ.nm b=some g/\w.heap[g]? = some (.cells cur e (0,0))/\els.length*sz<=cur.size/\(∀ i (h:i<els.length),(els[i]).length=sz)/\∀ i (h:i<els.length) j (h':j<(els[i]).length),∃ V,cur[i*sz+j]? = some V/\VS Γ.St w (els[i][j]) V:=by
 obtain ⟨hlt,hbe⟩:=List.getElem?_eq_some_iff.1 hb
 have:=hH.blk b hlt
 rw [hbe] at this
 rcases this with h | ⟨_,g,cur,h1,h2,h3,h4,h5⟩
 ·exact absurd h hne
 ·exact ⟨g,cur,h1,h2,h3,h4,h5⟩
theorem An2 {i i' j o n sz:Nat} (hne:i'≠i) (hj:j<sz) (ho:o+n<=sz):¬ (i*sz+o<=i'*sz+j/\i'*sz+j<i*sz+o+n):=by
 rcases Nat.lt_or_gt_of_ne hne with h | h
 ·have:(i'+1)*sz<=i*sz:=Nat.mul_le_mul_right _ h
  grind
 ·have:(i+1)*sz<=i'*sz:=Nat.mul_le_mul_right _ h
  grind
theorem II {f:Nat->Nat × Nat} {tid:Nat} {a v:PV} {A V:Value} {k:List Blk->Option R} {sl:List PV} {tmps:Array Value} (hH:HR Γ H w) (h:Kv f (C.ti tid) a v H k=some r) (ha:VP Γ (A1 H) w a A) (hv:VP Γ (A1 H) w v V) (hn:∀ c∈v.nms,c<H.length) :
  ∃ H',k H'=some r/\WV C Γ H w sl tmps (do Instr.storeAt tid A V;pure undef) (.tup []) sl H':=by
 unfold Kv at h
 split at h
 ·rename_i hc
  obtain ⟨hok,hlen,hone⟩:=hc
  obtain ⟨i0,hi,hsz,hpos⟩:=F1 hok
  have hne:v.cells≠[]:=by intro e;rw [e] at hlen;simp at hlen;omega
  have hvc:=hv.cells' hne
  have hcl:v.cells.length=V.cells.toList.length:=by simpa using hvc.1.symm
  have hcr:∀ j (h:j<v.cells.length),∃ U,V.cells.toList[j]? = some U/\VP Γ (A1 H) w (v.cells[j]) U:=λj hj=>by
   obtain ⟨U,e,k⟩:=hvc.2 j hj
   grind
  have h1c:=VU hcl hone hcr
  have hVs:V.cells.size=i0.size:=by rw [hvc.1,hlen,hsz]
  split at h
  ·rename_i b i off
   split at h
   ·rename_i cells hb
    split at h
    ·rename_i hi0
     subst hi0
     dsimp only at h
     obtain ⟨h2,h3⟩:=A7 h
     simp only [decide_eq_true_eq] at h2
     refine ⟨_,h3,?_⟩
     obtain ⟨T,e1,e2,e3,e4,e5,e6,e7⟩:=L9 (C:=C) f v.cells 0 H V.cells.toList hH hcl hcr (λc hc=>hn c (PV.cells_nms c hc))
     have hb':(H++T)[b]? = some (.box cells):=by rw [List.getElem?_append_left (List.getElem?_eq_some_iff.1 hb).1];exact hb
     obtain ⟨g,cur,e,hg,hh,hcur,hcells,hnms⟩:=e2.box' hb'
     have hA:A = .pointer (some ⟨g,off,none⟩):=by
      cases ha with
      | ptrA _ _ _ g' v e sz n h' hg'=>simp [A1,hb,Blk.shp] at h'
      | ptrB _ _ g' h' hg'=>rw [hg] at hg';cases hg';rfl
     subst hA
     obtain ⟨w',r1,r2,r3,r4,r5,r6,r7,r8⟩:=F4 (P:=C.P) (o:=off) hh (vs:=V.cells.toList) (by rw [<-hcl,hlen,hcur];exact h2) h1c
     have hst:=Az hi hVs r1
     have M:=Y8 (y:=.box (D3 cells off (D6 f v.cells 0 H).1)) e2 hb' hg rfl r3 r8
     rw [e1]
     have key:WV C Γ (H++T) w sl tmps (do Instr.storeAt tid (.pointer (some ⟨g,off,none⟩)) V;pure undef) (.tup []) sl ((H++T).set b (.box (D3 cells off (D6 f v.cells 0 H).1))):=by
      refine Fe e2 hst hb' hg rfl r3 r8 (by omega) r5 r6 r7 ⟨g,_,e,hg,r2,by simp [B4,hcur],λj hj=>?_⟩ (λc hc=>?_) P6 (by simp [PV.nms,B3])
      ·have:=A77 (Rel:=λp U=>VP Γ (A1 ((H++T).set b (.box (D3 cells off (D6 f v.cells 0 H).1)))) w' p U) (l:=cells) (vs:=(D6 f v.cells 0 H).1) (A:=cur.toList) (B:=V.cells.toList) (o:=off)
        (by simpa using hcur.symm) e5 (by rw [e5,<-hcl,hlen];exact h2)
        (λj hj=>by
         obtain ⟨U,f1,f2⟩:=hcells j hj
         exact ⟨U,by simpa using f1,f2.mono M (λ_ _=>trivial)⟩)
        (λj hj=>by
         obtain ⟨U,f1,f2⟩:=e6 j hj
         exact ⟨U,f1,f2.mono M (λ_ _=>trivial)⟩) j hj
       grind
      ·rcases Ko _ _ _ c hc with h | h
       all_goals grind
     obtain ⟨V',w',Γ',k1,k2,k3,k4,k5,k6⟩:=key
     exact ⟨V',w',Γ',k1,e3.trans k2,k3,λhS=>k4 (SR.grow e4 hS),k5,k6⟩
    ·cases h
   ·rename_i z e sz els hb
    split at h
    ·rename_i vs hvs
     obtain ⟨f1,f2⟩:=G6 hvs hcl hcr
     split at h
     ·rename_i hfit
      obtain ⟨h2,h3⟩:=A7 h
      simp only [decide_eq_true_eq] at h2
      refine ⟨_,h3,?_⟩
      obtain ⟨g,cur,hg,hh,hsize,hlens,hels⟩:=hH.arr' hb (by rintro ⟨_,rfl⟩;simp at h2)
      have hA:A = .pointer (some ⟨g,i*sz+off,none⟩):=by
       cases ha with
       | ptrA _ _ _ g' v e sz n h' hg'=>
        rw [hg] at hg';cases hg'
        obtain ⟨_,_,rfl,_⟩:=G5 hb h'
        rfl
       | ptrB _ _ g' h' hg'=>simp [A1,hb,Blk.shp] at h'
      subst hA
      have hin:i*sz+off+V.cells.toList.length<=cur.size:=by
       have:(i+1)*sz<=els.length*sz:=Nat.mul_le_mul_right _ h2
       grind
      obtain ⟨w',r1,r2,r3,r4,r5,r6,r7,r8⟩:=F4 (P:=C.P) (o:=i*sz+off) hh (vs:=V.cells.toList) hin h1c
      have hst:=Az hi hVs r1
      rw [O7 h2]
      have hpl:off+vs.length<=(els[i]).length:=by rw [hlens i h2,f1];omega
      refine Fe hH hst hb hg (by simp [Blk.shp]) r3 r8 (by omega) r5 r6 r7 (.inr ⟨λhz=>?_,g,_,hg,r2,by simpa [B4] using hsize,λa ha=>?_,λa ha j hj=>?_⟩) (by simp [Blk.nms]) P6 (by simp [PV.nms,B3])
      ·have:=congrArg List.length hz.2
       rw [List.length_set] at this
       simp only [List.length_nil] at this
       omega
      ·rw [List.getElem_set]
       rw [List.length_set] at ha
       split
       ·rw [B4];exact hlens i h2
       ·exact hlens a ha
      ·rw [List.length_set] at ha
       have hstw:∀ k,Γ.St k->w'.heap[k]? = w.heap[k]?:=λk hk=>r3 k (λe=>(hH.lt b g hg).2.2 (e ▸ hk))
       simp only [List.getElem?_toArray]
       rw [E7 _ _ _ (by simpa using hin)]
       by_cases hai:i=a
       ·subst hai
        have hge:(els.set i (D3 els[i] off vs))[i]'(by simpa using ha)=D3 els[i] off vs:=by simp
        have hj':j<(D3 els[i] off vs).length:=by rw [<-hge];exact hj
        have hget:(els.set i (D3 els[i] off vs))[i][j]=(D3 els[i] off vs)[j]:=by simp
        rw [hget]
        have g1:=E7 vs els[i] off hpl j
        rw [List.getElem?_eq_getElem hj'] at g1
        rw [B4] at hj'
        by_cases hc:off<=j/\j<off+vs.length
        ·rw [if_pos (by omega)]
         rw [if_pos hc,List.getElem?_eq_getElem (by omega)] at g1
         simp only [Option.some.injEq] at g1
         obtain ⟨U,q1,q2⟩:=f2 (j-off) (by omega)
         refine ⟨U,?_,by rw [g1];exact q2.mono hstw (λ_ h=>h)⟩
         rw [<-q1];congr 1;omega
        ·rw [if_neg (by omega)]
         rw [if_neg hc,List.getElem?_eq_getElem hj'] at g1
         simp only [Option.some.injEq] at g1
         obtain ⟨U,q1,q2⟩:=hels i h2 j hj'
         exact ⟨U,by simpa using q1,by rw [g1];exact q2.mono hstw (λ_ h=>h)⟩
       ·have hge:(els.set i (D3 els[i] off vs))[a]'(by simpa using ha)=els[a]:=by rw [List.getElem_set,if_neg hai]
        have hj':j<(els[a]).length:=by rw [<-hge];exact hj
        have hget:(els.set i (D3 els[i] off vs))[a][j]=els[a][j]:=by congr 1
        rw [hget]
        obtain ⟨U,q1,q2⟩:=hels a ha j hj'
        have hjs:j<sz:=by rw [<-hlens a ha];exact hj'
        rw [if_neg (An2 (λe=>hai e.symm) hjs (by rw [<-f1,<-hlens i h2];exact hpl))]
        exact ⟨U,by simpa using q1,q2.mono hstw (λ_ h=>h)⟩
     ·split at h
      ·rename_i hio
       obtain ⟨rfl,rfl⟩:=hio
       obtain ⟨h2,h3⟩:=A7 h
       simp only [decide_eq_true_eq] at h2
       refine ⟨_,h3,?_⟩
       have hels0:els≠[]:=by rintro rfl;rw [List.length_nil,Nat.zero_mul] at h2;omega
       obtain ⟨g,cur,hg,hh,hsize,hlens,hels⟩:=hH.arr' hb (λhz=>hels0 hz.2)
       have hA:A = .pointer (some ⟨g,0,none⟩):=by
        cases ha with
        | ptrA _ _ _ g' v e sz n h' hg'=>
         grind
        | ptrB _ _ g' h' hg'=>simp [A1,hb,Blk.shp] at h'
       subst hA
       have hin:0+V.cells.toList.length<=cur.size:=by omega
       obtain ⟨w',r1,r2,r3,r4,r5,r6,r7,r8⟩:=F4 (P:=C.P) (o:=0) hh (vs:=V.cells.toList) hin h1c
       have hst:=Az hi hVs r1
       have hstw:∀ k,Γ.St k->w'.heap[k]? = w.heap[k]?:=λk hk=>r3 k (λe=>(hH.lt b g hg).2.2 (e ▸ hk))
       have hrow:w'.heap[g]? = some (.cells (V.cells++(cur.toList.drop V.cells.size).toArray) e (0,0)):=by
        rw [r2,MF _ _ _ (by simpa using hin)]
        simp_all
       refine Fe hH hst hb hg (by simp [Blk.shp,M7]) r3 r8 (by omega) r5 r6 r7 (BR.row hg hrow (λ_=>?_) ?_ ?_ λj hj=>?_) (by simp [Blk.nms]) P6 (by simp [PV.nms,B3])
       ·intro e;exact hels0 (List.length_eq_zero_iff.1 e)
       ·rw [f1,<-hcl,hlen,h2]
       ·rw [f1];simp
       ·obtain ⟨U,q1,q2⟩:=f2 j hj
        exact ⟨U,by simpa using q1,q2.mono hstw (λ_ h=>h)⟩
      ·cases h
    ·cases h
   ·cases h
  ·cases h
 ·cases h
end
section
variable {Γ : Ctx} {H : List Blk} {w : World} {R : Type} {r : R} {C : Cfg}
structure Gp (P:Program) (Γ:Ctx) (w:World) (n:Nat) (X:Value) (news:List (List SV)) (Vs:List Value):Prop where
 len:∀ w',(Builtin.lenOf X).run P w' = .ok news.length w'
 first:∀ k,k<=news.length->∀ w':World,w'.heap=w.heap->(Builtin.firstCells n k X).run P w' = .ok (Vs.take (k*n)).toArray w'
 size:Vs.length=news.length*n
 one:∀ u∈Vs,u.oneCell'=true
 els:∀ i (h:i<news.length),(news[i]).length=n/\∀ j (h':j<(news[i]).length),∃ U,Vs[i*n+j]? = some U/\VS Γ.St w (news[i][j]) U
theorem Gp.nil {P:Program} {n:Nat} {X:Value} (a:Option Addr) (cap:Nat) (hX:X = .slice a 0 cap):Gp P Γ w n X [] []:=by
 subst hX
 refine ⟨λw'=>rfl,λk hk w' hw=>?_,by simp,by simp,λi hi=>by simp at hi⟩
 have:k=0:=by simpa using hk
 subst this
 cases a with
 | none=>simp [Builtin.firstCells]
 | some a=>
  have:=run_loadCells_list (P:=P) w' a [] (by simp)
  simpa [Builtin.firstCells] using this
theorem Pr {q m n:Nat} (h:q<m*n):q / n<m/\q % n<n/\q / n*n+q % n=q:=by
 have hn:0<n:=by grind
 exact ⟨Nat.div_lt_of_lt_mul (by rw [Nat.mul_comm];exact h),Nat.mod_lt _ hn,by rw [Nat.mul_comm];exact Nat.div_add_mod q n⟩
theorem Gp.slice {P:Program} {n:Nat} {X:Value} {els:List (List SV)} (h:SlV Γ w X els) (hn:∀ i (h:i<els.length),(els[i]).length=n):∃ Vs,Gp P Γ w n X els Vs:=by
 obtain ⟨a,cap,rfl,hcap,hm,hnil,hcells⟩:=h.ex
 by_cases he:els=[]
 ·subst he
  exact ⟨[],Gp.nil a cap rfl⟩
 ·obtain ⟨g,o,sz,rfl,hsz,hc⟩:=hcells he
  have hcell:∀ q,q<els.length*n->∃ U,w.cell? ⟨g,o+q,none⟩=some U/\U.oneCell'=true:=λq hq=>by
   obtain ⟨h1,h2,h3⟩:=Pr hq
   have hs:sz=n:=by rw [<-hsz _ h1];exact hn _ h1
   subst hs
   obtain ⟨U,e,k⟩:=hc _ h1 (q % sz) (by rw [hsz _ h1];exact h2)
   exact ⟨U,by rw [<-e];congr 2;omega,k.oneCell⟩
  let Vs:=(List.range (els.length*n)).map λq=>(w.cell? ⟨g,o+q,none⟩).getD undef
  have hVs:∀ q,q<els.length*n->∀ U,w.cell? ⟨g,o+q,none⟩=some U->Vs[q]? = some U:=λq hq U e=>by simp [Vs,hq,e]
  refine ⟨Vs,λw'=>rfl,λk hk w' hw=>?_,by simp [Vs],λu hu=>?_,λi hi=>⟨hn i hi,λj hj=>?_⟩⟩
  ·have hkn:k*n<=els.length*n:=Nat.mul_le_mul_right _ hk
   have hVl:Vs.length=els.length*n:=by simp [Vs]
   have hl:(Vs.take (k*n)).length=k*n:=by rw [List.length_take,hVl];omega
   refine run_firstCells_some (P:=P) w' n k ⟨g,o,none⟩ els.length cap (Vs.take (k*n)) hl (λj v hj=>?_)
   rw [List.getElem?_take] at hj
   split at hj
   ·rename_i hjk
    obtain ⟨U,e,_⟩:=hcell j (by omega)
    rw [hVs j (by omega) U e] at hj
    simp only [Option.some.injEq] at hj
    subst hj
    rw [F6,XQ hw,e]
   grind
  ·grind
  ·have hs:sz=n:=by rw [<-hsz _ hi];exact hn _ hi
   subst hs
   obtain ⟨U,e,k⟩:=hc i hi j hj
   have hj':j<sz:=by rw [<-hsz i hi];exact hj
   have hlt:i*sz+j<els.length*sz:=by
    have:(i+1)*sz<=els.length*sz:=Nat.mul_le_mul_right _ hi
    grind
   grind
theorem CH {n:Nat} {x:PV} {X:Value} {news:List (List SV)} (hH:HR Γ H w) (hx:VP Γ (A1 H) w x X) (hs:V8 n H x=true) (h:Hk H x=some news):∃ Vs,Gp C.P Γ w n X news Vs:=by
 by_cases hstr:∃ l,x = .s (.str l)
 ·obtain ⟨l,rfl⟩:=hstr
  simp only [Hk,Option.some.injEq] at h
  subst h
  simp only [V8,decide_eq_true_eq] at hs
  subst hs
  obtain ⟨s,rfl,rfl⟩:=hx.inv_str
  refine ⟨s.data.toList.map λb=>.int .u8 b.toNat,λw'=>by simp [Builtin.lenOf],λk hk w' hw=>?_,by simp,λu hu=>?_,λi hi=>⟨by simp [I8],λj hj=>?_⟩⟩
  ·simp only [Builtin.firstCells,Sem.run_pure]
   congr 1
   apply Array.ext'
   simp_all
  ·simp only [List.mem_map] at hu
   obtain ⟨b,_,rfl⟩:=hu
   rfl
  ·have hj0:j=0:=by simpa [I8] using hj
   subst hj0
   have hi':i<s.data.toList.length:=by simpa using hi
   refine ⟨.int .u8 (s.data.toList[i]).toNat,by rw [show i*1+0=i by omega,List.getElem?_map,List.getElem?_eq_getElem hi'];rfl,?_⟩
   simp only [List.getElem_map,I8,List.getElem_cons_zero]
   exact .int _ _
 ·have hels:Aj H x=some news:=by
   unfold Hk at h
   grind
  have hSl:=Ng (C:=C) hH hx hels
  refine Gp.slice hSl λi hi=>?_
  unfold V8 at hs
  unfold Aj at hels
  split at hels
  ·grind
  ·simp only [Option.some.injEq] at hels;subst hels
   simp only [Bool.or_eq_true,decide_eq_true_eq] at hs
   have h':=hx.inv_s
   cases h' with
   | nil=>simp at hi
   | emp=>simp at hi
   | sl t els g off n' cap sz Vs hn hcap hm ht hg hl hc hv=>
    grind
  ·split at hels
   ·rename_i b _ v e sz els hb
    simp only [Option.some.injEq] at hels;subst hels
    dsimp only at hs
    rw [hb] at hs
    simp only [Bool.or_eq_true,decide_eq_true_eq,Bool.and_eq_true,List.isEmpty_iff] at hs
    obtain ⟨g,cur,_,_,_,hlens,_⟩:=hH.arr' hb (by rintro ⟨_,rfl⟩;simp at hi)
    grind
   grind
  ·split at hels
   ·rename_i b i' n' _ v e sz els hb
    simp only [Option.some.injEq] at hels;subst hels
    dsimp only at hs
    rw [hb] at hs
    simp only [Bool.or_eq_true,decide_eq_true_eq,Bool.and_eq_true,List.isEmpty_iff] at hs
    have hi2:i'+i<els.length:=by simp at hi;omega
    obtain ⟨g,cur,_,_,_,hlens,_⟩:=hH.arr' hb (by rintro ⟨_,rfl⟩;simp at hi2)
    grind
   grind
  grind
theorem WN {P:Program} {a b:Nat}:Nat.min a b=min a b:=rfl
theorem Nc {P:Program} {t u ty e:Nat} {ie:TypeInfo} {D X:Value} {a:Option Addr} {dLen dCap:Nat} {news:List (List SV)} {Vs:List Value} {w':World} (hu:P.underlying t=some (.slice e)) (hi:P.info? e=some ie) (hD:D = .slice a dLen dCap)
  (hS:Gp P Γ w ie.size X news Vs) (hst:match a with | some a=>(storeCells a (Vs.take (min news.length dLen*ie.size))).run P w = .ok () w' | none=>w'=w) :
  (Builtin.copy_ #[t,u] ty #[D,X]).run P w = .ok (.int .i64 (min news.length dLen:Nat)) w':=by
 subst hD
 have hf:=hS.first (min news.length dLen) (Nat.min_le_left _ _) w rfl
 cases a with
 | none=>
  simp only at hst
  subst hst
  simp [Builtin.copy_,run_underlying hu,hS.len,sizeOf,typeInfo,hi,WN,hf,goInt]
 | some a=>
  simp only at hst
  simp [Builtin.copy_,run_underlying hu,hS.len,sizeOf,typeInfo,hi,WN,hf,hst,goInt]
theorem UL (els news:List (List SV)) (i n:Nat) (hin:i+n<=els.length) (q:Nat) :
  (els.take i++(news.take n++els.drop (i+min news.length n)))[q]? = if i<=q/\q<i+min news.length n then news[q-i]? else els[q]?:=by
 have h1:(els.take i).length=i:=by rw [List.length_take];omega
 have h2:(news.take n).length=min news.length n:=by rw [List.length_take];omega
 by_cases hq:q<i
 ·rw [if_neg (by omega),List.getElem?_append_left (by omega),List.getElem?_take,if_pos hq]
 ·rw [List.getElem?_append_right (by omega),h1]
  by_cases hq2:q<i+min news.length n
  ·rw [if_pos (by omega),List.getElem?_append_left (by omega),List.getElem?_take,if_pos (by omega)]
  ·rw [if_neg (by omega),List.getElem?_append_right (by omega),h2,List.getElem?_drop]
   congr 1;omega
theorem Zc (els news:List (List SV)) (i n:Nat) (hin:i+n<=els.length):(els.take i++(news.take n++els.drop (i+min news.length n))).length=els.length:=by grind
theorem TX {b g i n ps sz e':Nat} {v:Bool} {els news:List (List SV)} {S:Sem Value} {RV:Value} {rv:PV} {Vs:List Value} {sl:List PV} {tmps:Array Value} {cur:Array Value} (hH:HR Γ H w)
  (hsz:ps=sz) (hb:H[b]? = some (.arr v e' sz els)) (hin:i+n<=els.length) (hg:Γ.nm b=some g) (hh:w.heap[g]? = some (.cells cur e' (0,0))) (hsize:els.length*sz<=cur.size) (hlens:∀ i (h:i<els.length),(els[i]).length=sz)
  (hels:∀ i (h:i<els.length) j (h':j<(els[i]).length),∃ V,cur[i*sz+j]? = some V/\VS Γ.St w (els[i][j]) V) (hne:¬ (v=true/\els=[])) (hVs:Vs.length=news.length*ps) (hone:∀ u∈Vs,u.oneCell'=true) (hEls:∀ i (h:i<news.length),(news[i]).length=ps/\∀ j (h':j<(news[i]).length),∃ U,Vs[i*ps+j]? = some U/\VS Γ.St w (news[i][j]) U) (a:Addr) (ha:n≠0->a=⟨g,i*sz,none⟩)
  (hrun:∀ w',(storeCells a (Vs.take (min news.length n*ps))).run C.P w = .ok () w'->S.run C.P w = .ok RV w') (hrv:∀ Γ sh w,VP Γ sh w rv RV) (hrn:rv.nms=[]) :
  WV C Γ H w sl tmps S rv sl (H.set b (.arr v e' sz (els.take i++(news.take n++els.drop (i+min news.length n))))):=by
 subst hsz
 generalize hm:min news.length n=m
 have hml:m<=news.length:=by omega
 have hmn:m<=n:=by omega
 have hVl:(Vs.take (m*ps)).length=m*ps:=by
  have:m*ps<=news.length*ps:=Nat.mul_le_mul_right _ hml
  rw [List.length_take,hVs];omega
 have hin2:i*ps+(Vs.take (m*ps)).length<=cur.size:=by
  have:(i+m)*ps<=els.length*ps:=Nat.mul_le_mul_right _ (by omega)
  grind
 have hlen':=Zc els news i n hin
 rw [hm] at hlen'
 have key:∃ w',(storeCells a (Vs.take (m*ps))).run C.P w = .ok () w'/\w'.heap[g]? = some (.cells (D3 cur.toList (i*ps) (Vs.take (m*ps))).toArray e' (0,0))/\(∀ k,k≠g->w'.heap[k]? = w.heap[k]?)/\w'.heap.size=w.heap.size/\w'.os=w.os/\w'.tape=w.tape/\w'.output=w.output/\
   w'.shape? g=w.shape? g:=by
  by_cases hn0:n=0
  ·have hm0:m=0:=by omega
   subst hm0
   refine ⟨w,by simp [storeCells],by simpa [D3] using hh,λ_ _=>rfl,rfl,rfl,rfl,rfl,rfl⟩
  ·rw [ha hn0]
   exact F4 hh hin2 (λv hv=>hone v (List.mem_of_mem_take hv))
 obtain ⟨w',r1,r2,r3,r4,r5,r6,r7,r8⟩:=key
 have hstw:∀ k,Γ.St k->w'.heap[k]? = w.heap[k]?:=λk hk=>r3 k (λe=>(hH.lt b g hg).2.2 (e ▸ hk))
 have hr:=hrun w' (by rw [hm];exact r1)
 have hget:∀ q (hq:q<(els.take i++(news.take n++els.drop (i+m))).length),(i<=q/\q<i+m/\∃ h:q-i<news.length,(els.take i++(news.take n++els.drop (i+m)))[q]=news[q-i])\/
   (¬ (i<=q/\q<i+m)/\∃ h:q<els.length,(els.take i++(news.take n++els.drop (i+m)))[q]=els[q]):=λq hq=>by
  have:=UL els news i n hin q
  rw [hm,List.getElem?_eq_getElem hq] at this
  rw [hlen'] at hq
  by_cases hc:i<=q/\q<i+m
  ·rw [if_pos hc,List.getElem?_eq_getElem (by omega)] at this
   exact .inl ⟨hc.1,hc.2,by omega,by simpa using this⟩
  ·rw [if_neg hc,List.getElem?_eq_getElem hq] at this
   exact .inr ⟨hc,hq,by simpa using this⟩
 refine Fe hH hr hb hg (by simp only [Blk.shp,hlen']) r3 r8 (by omega) r5 r6 r7 (.inr ⟨λhz=>hne ⟨hz.1,?_⟩,g,_,hg,r2,by rw [hlen'];simpa [B4] using hsize,λq hq=>?_,λq hq j hj=>?_⟩) (by simp [Blk.nms]) (hrv _ _ _) (by simp [hrn])
 ·have:=congrArg List.length hz.2
  rw [hlen'] at this
  exact List.length_eq_zero_iff.1 (by simpa using this)
 ·rcases hget q hq with ⟨h1,h2,h3,e⟩ | ⟨h1,h3,e⟩
  ·rw [e];exact (hEls _ h3).1
  ·rw [e];exact hlens _ h3
 ·simp only [List.getElem?_toArray]
  rw [E7 _ _ _ (by simpa using hin2),hVl]
  rcases hget q hq with ⟨h1,h2,h3,e⟩ | ⟨h1,h3,e⟩
  ·have hj':j<(news[q-i]).length:=by rw [<-e];exact hj
   obtain ⟨U,q1,q2⟩:=(hEls _ h3).2 j hj'
   have hjs:j<ps:=by rw [<-(hEls _ h3).1];exact hj'
   have a1:i*ps<=q*ps:=Nat.mul_le_mul_right _ h1
   have a2:(q+1)*ps<=(i+m)*ps:=Nat.mul_le_mul_right _ h2
   rw [Nat.add_mul,Nat.add_mul] at a2
   have a3:q*ps+j-i*ps=(q-i)*ps+j:=by rw [Nat.sub_mul];omega
   rw [if_pos (by omega),a3]
   refine ⟨U,?_,by simp only [e];exact q2.mono hstw (λ_ h=>h)⟩
   rw [List.getElem?_take,if_pos]
   ·exact q1
   ·rw [<-a3];omega
  ·have hj':j<(els[q]).length:=by rw [<-e];exact hj
   obtain ⟨U,q1,q2⟩:=hels q h3 j hj'
   have hjs:j<ps:=by rw [<-hlens q h3];exact hj'
   rw [if_neg]
   ·exact ⟨U,by simpa using q1,by simp only [e];exact q2.mono hstw (λ_ h=>h)⟩
   ·rintro ⟨b1,b2⟩
    apply h1
    constructor
    ·apply Decidable.byContradiction
     intro hlt
     have:(q+1)*ps<=i*ps:=Nat.mul_le_mul_right _ (by omega)
     rw [Nat.add_mul] at this;omega
    ·apply Decidable.byContradiction
     intro hlt
     have:(i+m)*ps<=q*ps:=Nat.mul_le_mul_right _ (by omega)
     rw [Nat.add_mul] at this;omega
theorem VX {t u ty e b g i n dCap sz e':Nat} {v:Bool} {ie:TypeInfo} {els news:List (List SV)} {D X:Value} {Vs:List Value} {sl:List PV} {tmps:Array Value} {cur:Array Value} (hH:HR Γ H w) (hu:C.P.underlying t=some (.slice e)) (hie:C.P.info? e=some ie)
  (hsz:ie.size=sz) (hb:H[b]? = some (.arr v e' sz els)) (hin:i+n<=els.length) (hg:Γ.nm b=some g) (hh:w.heap[g]? = some (.cells cur e' (0,0))) (hsize:els.length*sz<=cur.size) (hlens:∀ i (h:i<els.length),(els[i]).length=sz)
  (hels:∀ i (h:i<els.length) j (h':j<(els[i]).length),∃ V,cur[i*sz+j]? = some V/\VS Γ.St w (els[i][j]) V) (hne:¬ (v=true/\els=[])) (hS:Gp C.P Γ w ie.size X news Vs) (a:Addr) (ha:n≠0->a=⟨g,i*sz,none⟩) (hD:D = .slice (some a) n dCap) :
  WV C Γ H w sl tmps (Builtin.copy_ #[t,u] ty #[D,X]) (.s (.int .i64 (min news.length n:Nat))) sl (H.set b (.arr v e' sz (els.take i++(news.take n++els.drop (i+min news.length n))))):=by
 have hr:∀ w',(storeCells a (Vs.take (min news.length n*ie.size))).run C.P w = .ok () w'->(Builtin.copy_ #[t,u] ty #[D,X]).run C.P w = .ok (.int .i64 (min news.length n:Nat)) w':=λw' h=>Nc (P:=C.P) (w:=w) (u:=u) (ty:=ty) hu hie hD hS (w':=w') h
 exact TX hH hsz hb hin hg hh hsize hlens hels hne hS.size hS.one hS.els a ha hr (λ_ _ _=>.int _ _) (by simp [PV.nms])
theorem Nj {b n e sz:Nat} {v:Bool} {els:List (List SV)} (hb:H[b]? = some (.arr v e sz els)) (h:(decide (sz=n) || (v&&els.isEmpty))=true) (hne:¬ (v=true/\els=[])):sz=n:=by grind
theorem JW {t u ty:Nat} {d x:PV} {D X:Value} {k:PV->List Blk->Option R} {sl:List PV} {tmps:Array Value} (hH:HR Γ H w) (h:AR C t d x H k=some r) (hd:VP Γ (A1 H) w d D) (hx:VP Γ (A1 H) w x X) :
  ∃ v H',k v H'=some r/\WV C Γ H w sl tmps (Builtin.copy_ #[t,u] ty #[D,X]) v sl H':=by
 unfold AR at h
 split at h
 ·rename_i e hsh
  split at h
  ·rename_i hok
   simp only [Bool.and_eq_true] at hok
   obtain ⟨⟨hok,hsrc⟩,hdst⟩:=hok
   obtain ⟨ie,hie,hsz,hpos⟩:=F1 hok
   split at h
   ·rename_i news hnews
    obtain ⟨Vs,hS⟩:=CH (C:=C) hH hx hsrc hnews
    have hu:=E1 hsh
    have hnone:∀ {H':List Blk},(hn:D = .slice none 0 0)->k (.s (.int .i64 0)) H=some r->∃ v H',k v H'=some r/\WV C Γ H w sl tmps (Builtin.copy_ #[t,u] ty #[D,X]) v sl H':=λhn hk=>by
     have hr:=Nc (P:=C.P) (w:=w) (u:=u) (ty:=ty) hu hie hn (by rw [hsz];exact hS) (w':=w) rfl
     simp only [Nat.min_zero] at hr
     exact ⟨_,_,hk,_,w,Γ,hr,Stp.refl hH,hH,id,.int _ _,by simp [PV.nms]⟩
    split at h
    ·rename_i b
     split at h
     ·rename_i v e' sz els hb
      cases hd with
      | flv _ e2 sz2 h'=>
       obtain ⟨rfl,_,_,h4⟩:=G5 hb h'
       obtain rfl:=List.length_eq_zero_iff.1 h4
       simp only [List.length_nil,Nat.min_zero,List.take_zero,List.drop_nil,List.append_nil] at h
       have hset:H.set b (.arr true e' sz [])=H:=by
        apply List.ext_getElem?
        grind
       rw [hset] at h
       exact hnone (H':=H) rfl h
      | fl _ g v' e2 sz2 n' cap h' hv hg hcap hm hs=>
       obtain ⟨rfl,rfl,rfl,rfl⟩:=G5 hb h'
       have hne:¬ (v=true/\els=[]):=by rintro ⟨q1,q2⟩;exact hv q1 (by rw [q2];rfl)
       simp only [V8,hb] at hdst
       have hsz':=Nj hb hdst hne
       obtain ⟨g',cur,hg',hh,hsize,hlens,hels⟩:=hH.arr' hb hne
       rw [hg] at hg';cases hg'
       have:=VX (C:=C) (u:=u) (ty:=ty) (i:=0) (n:=els.length) (dCap:=cap) (sl:=sl) (tmps:=tmps) hH hu hie (by rw [hsz,hsz']) hb (by omega) hg hh hsize hlens hels hne (by rw [hsz];exact hS) ⟨g,0,none⟩ (λ_=>by simp) rfl
       simp only [List.take_zero,List.nil_append,Nat.zero_add] at this
       exact ⟨_,_,h,this⟩
     ·cases h
    ·rename_i b i n
     split at h
     ·rename_i v e' sz els hb
      obtain ⟨h1,h2⟩:=A7 h
      simp only [decide_eq_true_eq] at h1
      cases hd with
      | vwv _ e2 sz2 _ h'=>
       obtain ⟨rfl,_,_,h4⟩:=G5 hb h'
       obtain rfl:=List.length_eq_zero_iff.1 h4
       simp only [Nat.min_zero,List.take_zero,List.drop_nil,List.append_nil,List.take_nil] at h2
       have hset:H.set b (.arr true e' sz [])=H:=by
        apply List.ext_getElem?
        grind
       rw [hset] at h2
       exact hnone (H':=H) rfl h2
      | vw _ _ _ g a cap v' e2 sz2 m h' hv hg ha hi' hcap hm=>
       obtain ⟨rfl,rfl,rfl,rfl⟩:=G5 hb h'
       have hne:¬ (v=true/\els=[]):=by rintro ⟨q1,q2⟩;exact hv q1 (by rw [q2];rfl)
       simp only [V8,hb] at hdst
       have hsz':=Nj hb hdst hne
       obtain ⟨g',cur,hg',hh,hsize,hlens,hels⟩:=hH.arr' hb hne
       rw [hg] at hg';cases hg'
       have:=VX (C:=C) (u:=u) (ty:=ty) (i:=i) (n:=n) (dCap:=cap) (sl:=sl) (tmps:=tmps) hH hu hie (by rw [hsz,hsz']) hb h1 hg hh hsize hlens hels hne (by rw [hsz];exact hS) a ha rfl
       exact ⟨_,_,h2,this⟩
     ·cases h
    ·exact hnone (H':=H) hd.inv_nsl h
    ·cases h
   ·cases h
  ·cases h
 ·cases h
theorem Ee {P:Program} {t ty e:Nat} {ie:TypeInfo} {z:Value} {a:Option Addr} {n cap:Nat} {w':World} (hu:P.underlying t=some (.slice e)) (hi:P.info? e=some ie) (hz:ie.zero=some z)
  (hst:match a with | some a=>(storeCells a (Builtin.zeroCells z.cells n).toList).run P w = .ok () w' | none=>w'=w) :
  (Builtin.clear_ #[t] ty #[.slice a n cap]).run P w = .ok (.tuple #[]) w':=by
 cases a with
 | none=>
  simp only at hst
  subst hst
  simp [Builtin.clear_,run_underlying hu]
 | some a=>
  simp only at hst
  cases n with
  | zero=>
   have:w'=w:=by
    simp [Builtin.zeroCells,storeCells] at hst
    exact hst.symm
   subst this
   simp [Builtin.clear_,run_underlying hu]
  | succ n=>simp [Builtin.clear_,run_underlying hu,zeroValue,typeInfo,hi,hz,hst]
theorem FW {t ty:Nat} {x:PV} {X:Value} {k:List Blk->Option R} {sl:List PV} {tmps:Array Value} (hH:HR Γ H w) (h:Pf C t x H k=some r) (hx:VP Γ (A1 H) w x X) :
  ∃ H',k H'=some r/\WV C Γ H w sl tmps (Builtin.clear_ #[t] ty #[X]) (.tup []) sl H':=by
 unfold Pf at h
 split at h
 ·rename_i e hsh
  split at h
  ·rename_i hok
   simp only [Bool.and_eq_true] at hok
   obtain ⟨hok,hdst⟩:=hok
   obtain ⟨ie,z,hie,hz,hsz,hCR⟩:=Z4 (Γ:=Γ) (sh:=A1 H) (w:=w) hok
   have hu:=E1 hsh
   split at h
   ·rename_i z' hz'
    obtain ⟨f1,f2⟩:=G6 (As:=z.cells.toList) hz' (by simpa using hCR.1.symm) (λj hj=>by
     obtain ⟨U,e,k⟩:=hCR.2 j hj
     exact ⟨U,by simpa using e,k⟩)
    have hzs:z.cells.size=ie.size:=by rw [hCR.1,List.length_map,hsz]
    have hzl:z'.length=ie.size:=by rw [f1,Array.length_toList,hzs]
    have hVl:∀ n,(Builtin.zeroCells z.cells n).toList.length=n*ie.size:=λn=>by simp [Builtin.zeroCells,hzs]
    have hVg:∀ n q,q<n*ie.size->(Builtin.zeroCells z.cells n).toList[q]? = some (z.cells[q % ie.size]!):=λn q hq=>by simp [Builtin.zeroCells,hzs,hq]
    have hzc:∀ j,j<ie.size->∃ U,z.cells[j]! = U/\(∃ h:j<z'.length,VS Γ.St w (z'[j]) U):=λj hj=>by
     obtain ⟨U,e,k⟩:=f2 j (by omega)
     refine ⟨U,?_,by omega,k⟩
     have e2:z.cells[j]? = some U:=by simpa using e
     have hj2:j<z.cells.size:=by omega
     rw [getElem!_pos z.cells j hj2]
     rw [Array.getElem?_eq_getElem hj2] at e2
     exact Option.some.inj e2
    have hone:∀ n,∀ u∈(Builtin.zeroCells z.cells n).toList,u.oneCell'=true:=λn u hu=>by
     obtain ⟨q,hq,rfl⟩:=List.getElem_of_mem hu
     have hq':=hq
     rw [hVl] at hq'
     have h1:=hVg n q hq'
     rw [List.getElem?_eq_getElem hq] at h1
     obtain ⟨_,h2,_⟩:=Pr hq'
     obtain ⟨U,e,hU,k⟩:=hzc _ h2
     rw [Option.some.inj h1,e]
     exact k.oneCell
    have hE:∀ n,∀ i (h:i<(List.replicate n z').length),((List.replicate n z')[i]).length=ie.size/\∀ j (h':j<((List.replicate n z')[i]).length),∃ U,(Builtin.zeroCells z.cells n).toList[i*ie.size+j]? = some U/\VS Γ.St w ((List.replicate n z')[i][j]) U:=λn i hi=>by
     rw [List.length_replicate] at hi
     simp only [List.getElem_replicate]
     refine ⟨hzl,λj hj=>?_⟩
     have hj2:j<ie.size:=by omega
     obtain ⟨U,e,hU,k⟩:=hzc j hj2
     refine ⟨U,?_,k⟩
     have h3:(i+1)*ie.size<=n*ie.size:=Nat.mul_le_mul_right _ (by omega)
     rw [Nat.add_mul] at h3
     rw [hVg n _ (by omega),Nat.add_comm,Nat.add_mul_mod_self_right,Nat.mod_eq_of_lt hj2,e]
    have htup:∀ (Γ:Ctx) (sh:Nat->Option Shp) (w:World),VP Γ sh w (.tup []) (.tuple #[]):=λΓ sh w=>.tup [] #[] (λ_=>.tuple #[]) rfl (λj hj=>by simp at hj) (λj hj=>by simp at hj)
    have hnone:(hn:X = .slice none 0 0)->k H=some r->∃ H',k H'=some r/\WV C Γ H w sl tmps (Builtin.clear_ #[t] ty #[X]) (.tup []) sl H':=λhn hk=>by
     subst hn
     have hr:=Ee (P:=C.P) (w:=w) (ty:=ty) (a:=none) (n:=0) (cap:=0) hu hie hz (w':=w) rfl
     exact ⟨_,hk,_,w,Γ,hr,Stp.refl hH,hH,id,htup _ _ _,by simp [PV.nms,B3]⟩
    split at h
    ·rename_i b
     split at h
     ·rename_i v e' sz els hb
      cases hx with
      | flv _ e2 sz2 h'=>
       obtain ⟨rfl,_,_,h4⟩:=G5 hb h'
       obtain rfl:=List.length_eq_zero_iff.1 h4
       simp only [List.length_nil,List.replicate_zero] at h
       have hset:H.set b (.arr true e' sz [])=H:=by
        apply List.ext_getElem?
        grind
       rw [hset] at h
       exact hnone rfl h
      | fl _ g v' e2 sz2 n' cap h' hv hg hcap hm hs=>
       obtain ⟨rfl,rfl,rfl,rfl⟩:=G5 hb h'
       have hne:¬ (v=true/\els=[]):=by rintro ⟨q1,q2⟩;exact hv q1 (by rw [q2];rfl)
       simp only [V8,hb] at hdst
       have hsz':=Nj hb hdst hne
       obtain ⟨g',cur,hg',hh,hsize,hlens,hels⟩:=hH.arr' hb hne
       rw [hg] at hg';cases hg'
       have:=TX (C:=C) (S:=Builtin.clear_ #[t] ty #[.slice (some ⟨g,0,none⟩) els.length cap]) (RV:=.tuple #[]) (rv:=.tup []) (i:=0) (n:=els.length) (news:=List.replicate els.length z') (sl:=sl) (tmps:=tmps) hH (by rw [hsz,hsz']) hb (by omega) hg hh hsize hlens hels hne (by rw [List.length_replicate];exact hVl els.length) (hone _) (hE _) ⟨g,0,none⟩ (λ_=>by simp)
        (λw' hw=>Ee hu hie hz (by rw [List.length_replicate,Nat.min_self,List.take_of_length_le (by rw [hVl];exact Nat.le_refl _)] at hw;exact hw)) htup (by simp [PV.nms,B3])
       simp only [List.take_zero,List.nil_append,Nat.zero_add,List.length_replicate,Nat.min_self,List.drop_length,List.append_nil] at this
       rw [List.take_of_length_le (by simp)] at this
       exact ⟨_,h,this⟩
     ·cases h
    ·rename_i b i n
     split at h
     ·rename_i v e' sz els hb
      obtain ⟨h1,h2⟩:=A7 h
      simp only [decide_eq_true_eq] at h1
      cases hx with
      | vwv _ e2 sz2 _ h'=>
       obtain ⟨rfl,_,_,h4⟩:=G5 hb h'
       obtain rfl:=List.length_eq_zero_iff.1 h4
       simp only [List.replicate_zero,List.take_nil,List.drop_nil,List.append_nil] at h2
       have hset:H.set b (.arr true e' sz [])=H:=by
        apply List.ext_getElem?
        grind
       rw [hset] at h2
       exact hnone rfl h2
      | vw _ _ _ g a cap v' e2 sz2 m h' hv hg ha hi' hcap hm=>
       obtain ⟨rfl,rfl,rfl,rfl⟩:=G5 hb h'
       have hne:¬ (v=true/\els=[]):=by rintro ⟨q1,q2⟩;exact hv q1 (by rw [q2];rfl)
       simp only [V8,hb] at hdst
       have hsz':=Nj hb hdst hne
       obtain ⟨g',cur,hg',hh,hsize,hlens,hels⟩:=hH.arr' hb hne
       rw [hg] at hg';cases hg'
       have:=TX (C:=C) (S:=Builtin.clear_ #[t] ty #[.slice (some a) n cap]) (RV:=.tuple #[]) (rv:=.tup []) (i:=i) (n:=n) (news:=List.replicate n z') (sl:=sl) (tmps:=tmps) hH (by rw [hsz,hsz']) hb h1 hg hh hsize hlens hels hne (by rw [List.length_replicate];exact hVl n) (hone _) (hE _) a ha
        (λw' hw=>Ee hu hie hz (by rw [List.length_replicate,Nat.min_self,List.take_of_length_le (by rw [hVl];exact Nat.le_refl _)] at hw;exact hw)) htup (by simp [PV.nms,B3])
       rw [List.length_replicate,Nat.min_self,List.take_replicate,Nat.min_self] at this
       exact ⟨_,h2,this⟩
     ·cases h
    ·exact hnone hx.inv_nsl h
    ·cases h
   ·cases h
  ·cases h
 ·cases h
end
section
variable {Γ : Ctx} {H : List Blk} {w : World} {R : Type} {r : R} {C : Cfg}
theorem BR.kill {sh:Nat->Option Shp} {b c:Nat} {x:Blk} (h:BR Γ sh w c x):BR Γ sh w c (x.kill b):=by
 cases x with
 | box cells=>
  obtain ⟨g,cur,e,h1,h2,h3,h4⟩:=h
  simp only [Blk.kill,U6]
  refine ⟨g,cur,e,h1,h2,by simpa using h3,λj hj=>?_⟩
  obtain ⟨V,e1,e2⟩:=h4 j (by simpa using hj)
  exact ⟨V,e1,by simpa using e2.kill b⟩
 | arr=>exact h
 | iter=>exact h
 | mp ents=>
  obtain ⟨g,es,ck,h1,h2,h3⟩:=h
  exact ⟨g,es,ck,h1,h2,h3.map λv _ V k=>k.kill b⟩
 | ms=>exact h
 | dead=>exact h
theorem Blk.kill_nms' {b:Nat} {x:Blk}:∀ c∈(x.kill b).nms,c≠b/\c∈x.nms:=by
 intro c hc
 cases x with
 | box cells=>
  simp only [Blk.kill,Blk.nms] at hc ⊢
  exact ⟨λe=>L0 b cells (e ▸ hc),T5 b cells c hc⟩
 | arr=>simp [Blk.kill,Blk.nms] at hc
 | iter=>simp [Blk.kill,Blk.nms] at hc
 | ms=>simp [Blk.kill,Blk.nms] at hc
 | mp ents=>
  simp only [Blk.kill,Blk.nms] at hc ⊢
  obtain ⟨j,hj,hc⟩:=A8.1 hc
  simp only [Yw,List.map_map,List.getElem_map,Function.comp_apply] at hc
  exact ⟨λe=>PV.not_mem_kill b _ (e ▸ hc),Pz (List.mem_map.2 ⟨_,List.getElem_mem _,rfl⟩) c (PV.kill_nms b _ c hc)⟩
 | dead=>simp [Blk.kill,Blk.nms] at hc
def Ctx.re (Γ:Ctx) (b:Nat) (ng:Option Nat):Ctx:={ Γ with nm:=λc=>if c=b then ng else Γ.nm c }
theorem Nf {b c:Nat} {y:Blk} (hb:b<H.length):A1 ((H.map (Blk.kill b)).set b y) c=if c=b then some y.shp else A1 H c:=by
 rw [CF (by simpa using hb),Xp]
theorem Xi {b:Nat} {y:Blk} {ng:Option Nat} {w':World} (hH:HR Γ H w) (hb:b<H.length) (hnf:¬ Cb C (A1 H b)) (hng:∀ g,ng=some g->g<w'.heap.size/\¬ Γ.St g/\∀ c,c≠b->Γ.nm c≠some g)
  (hown:∀ g,ng=some g->Γ.nm b=some g\/w.heap.size<=g) (hoth:∀ k,k<w.heap.size->Γ.nm b≠some k->w'.heap[k]? = w.heap[k]?) (hsz:w.heap.size<=w'.heap.size) (h1:w'.os=w.os) (h2:w'.tape=w.tape) (h3:w'.output=w.output)
  (hy:BR (Γ.re b ng) (A1 ((H.map (Blk.kill b)).set b y)) w' b y) (hyn:y.nms=[]) :
  Stp C Γ H w noΦ (Γ.re b ng) ((H.map (Blk.kill b)).set b y) w' noΦ/\HR (Γ.re b ng) ((H.map (Blk.kill b)).set b y) w'/\
   ∀ sl tmps,SR Γ H w sl tmps->SR (Γ.re b ng) ((H.map (Blk.kill b)).set b y) w' (O2 b sl) tmps:=by
 have hst:∀ k,Γ.St k->w'.heap[k]? = w.heap[k]?:=λk hk=>hoth k (hH.stlt k hk) (λe=>(hH.lt b k e).2.2 hk)
 have hnmh:∀ c g,c≠b->Γ.nm c=some g->w'.heap[g]? = w.heap[g]?:=λc g hc hg=>hoth g (hH.lt c g hg).2.1 (λe=>hc (hH.inj c b g hg e))
 have M:P7 Γ (A1 H) w (Γ.re b ng) (A1 ((H.map (Blk.kill b)).set b y)) w' (λc=>c≠b/\c<H.length):=
  ⟨hst,λ_ h=>h,λc hc=>by simp only [Ctx.re];rw [if_neg hc.1],λc hc=>by rw [Nf hb,if_neg hc.1],λc g hc hg=>C3 (hnmh c g hc.1 hg),rfl⟩
 refine ⟨⟨h1,h2,h3,hsz,λ_ h=>h,λ_ h=>.inl h,λc g hg=>?_,λ_ h=>.inl h,λg hg hn _=>hoth g hg (hn b),rfl,by simp,λc hc hf=>?_⟩,⟨λc d g hc hd=>?_,λc g hg=>?_,λk hk=>Nat.lt_of_lt_of_le (hH.stlt k hk) hsz,λc hc d hd=>?_,λc hc=>?_⟩,λsl tmps hS=>⟨?_,λc hc=>?_,λi hi=>?_⟩⟩
 ·simp only [Ctx.re] at hg
  split at hg
  ·rename_i e;subst e
   rcases hown g hg with h | h
   ·exact .inl ⟨hb,h⟩
   ·exact .inr h
  ·exact .inl ⟨(hH.lt c g hg).1,hg⟩
 ·have hcb:c≠b:=λe=>hnf (e ▸ hf)
  exact ⟨M.nm c ⟨hcb,hc⟩,M.shp c ⟨hcb,hc⟩,λg hg=>M.hs c g ⟨hcb,hc⟩ hg⟩
 ·simp only [Ctx.re] at hc hd
  split at hc<;>split at hd
  ·omega
  ·rename_i e1 e2;exact absurd hd ((hng g hc).2.2 d e2)
  ·rename_i e1 e2;exact absurd hc ((hng g hd).2.2 c e1)
  ·exact hH.inj c d g hc hd
 ·simp only [Ctx.re] at hg
  rw [List.length_set,List.length_map]
  split at hg
  ·rename_i e;subst e
   exact ⟨hb,(hng g hg).1,(hng g hg).2.1⟩
  ·have:=hH.lt c g hg
   exact ⟨this.1,by omega,this.2.2⟩
 ·rw [List.length_set,List.length_map] at hc ⊢
  rw [List.getElem_set] at hd
  split at hd
  ·rw [hyn] at hd;simp at hd
  ·rw [List.getElem_map] at hd
   exact hH.nms c hc d (Blk.kill_nms' d hd).2
 ·rw [List.length_set,List.length_map] at hc
  rw [List.getElem_set]
  split
  ·rename_i e;subst e;exact hy
  ·rename_i e
   rw [List.getElem_map]
   have hcb:c≠b:=λe'=>e e'.symm
   exact (BR.kill (hH.blk c hc)).mono M (M.nm c ⟨hcb,hc⟩) (λg hg=>hnmh c g hcb hg) (λd hd=>⟨(Blk.kill_nms' d hd).1,hH.nms c hc d (Blk.kill_nms' d hd).2⟩)
 ·rw [U6,List.length_map];exact hS.size
 ·rw [List.length_set,List.length_map]
  exact hS.nms c (T5 b sl c hc)
 ·have hi':i<sl.length:=by rw [U6] at hi;simpa using hi
  obtain ⟨V,e1,e2⟩:=hS.slot i hi'
  refine ⟨V,e1,?_⟩
  have e3:(O2 b sl)[i]=(sl[i]).kill b:=by simp [U6]
  rw [e3]
  exact (e2.kill b).mono M λc hc=>⟨λe=>PV.not_mem_kill b _ (e ▸ hc),hS.nms c (A8.2 ⟨i,hi',PV.kill_nms b _ c hc⟩)⟩
theorem Mg {u:Nat} (h:BE (C.sh u)=true):∃ d,C.P.underlying u=some d/\(d = .string\/∃ e',d = .slice e'):=by
 unfold BE at h
 split at h
 ·rename_i hs;exact ⟨_,S8 hs,.inl rfl⟩
 ·rename_i e hs;exact ⟨_,E1 hs,.inr ⟨_,rfl⟩⟩
 ·cases h
theorem Q8 {P:Program} {t u ty e n cap:Nat} {ie:TypeInfo} {d:TypeDesc} {base:Option Addr} {X:Value} {news:List (List SV)} {Vs:List Value} {w':World} (ht:P.underlying t=some (.slice e)) (hu:P.underlying u=some d) (hd:d = .string\/∃ e',d = .slice e') (hi:P.info? e=some ie)
  (hS:Gp P Γ w ie.size X news Vs) (hroom:n+news.length<=cap) (hst:match base with | some a=>(storeCells (a.add (n*ie.size)) Vs).run P w = .ok () w' | none=>w'=w) :
  (Builtin.append_ #[t,u] ty #[.slice base n cap,X]).run P w = .ok (.slice base (n+news.length) cap) w':=by
 have hf:=hS.first news.length (Nat.le_refl _) w rfl
 have hV:Vs.take (news.length*ie.size)=Vs:=List.take_of_length_le (by rw [hS.size];exact Nat.le_refl _)
 rw [hV] at hf
 cases base with
 | none=>
  simp only at hst
  subst hst
  rcases hd with rfl | ⟨e',rfl⟩ <;>
   simp [Builtin.append_,run_underlying ht,run_underlying hu,sizeOf,typeInfo,hi,hS.len,hroom,hf]
 | some a=>
  simp only at hst
  rcases hd with rfl | ⟨e',rfl⟩ <;>
   simp [Builtin.append_,run_underlying ht,run_underlying hu,sizeOf,typeInfo,hi,hS.len,hroom,hf,hst]
theorem Ao {P:Program} {t u ty e n cap:Nat} {ie:TypeInfo} {z:Value} {d:TypeDesc} {base:Option Addr} {X:Value} {news:List (List SV)} {Vs olds:List Value} (ht:P.underlying t=some (.slice e)) (hu:P.underlying u=some d) (hd:d = .string\/∃ e',d = .slice e') (hi:P.info? e=some ie) (hz:ie.zero=some z)
  (hS:Gp P Γ w ie.size X news Vs) (hO:∀ w':World,w'.heap=w.heap->(Builtin.firstCells ie.size n (.slice base n cap)).run P w' = .ok olds.toArray w') (hgrow:cap<n+news.length) (h63:n+news.length<=maxLen) (hby:(n+news.length)*ie.bytes<=140737488355328) :
  (Builtin.append_ #[t,u] ty #[.slice base n cap,X]).run P w = .ok (.slice (some ⟨w.heap.size,0,none⟩) (n+news.length) (grownCap w (n+news.length) cap e))
   (w.drew.alloc (.cells (olds.toArray++Vs.toArray++Builtin.zeroCells z.cells (grownCap w (n+news.length) cap e-(n+news.length))) e)):=by
 have hf:=hS.first news.length (Nat.le_refl _) w.drew rfl
 have hV:Vs.take (news.length*ie.size)=Vs:=List.take_of_length_le (by rw [hS.size];exact Nat.le_refl _)
 rw [hV] at hf
 have hO':=hO w.drew rfl
 have hn:¬ (n+news.length<=cap):=by omega
 have hsmall:n+news.length<=9223372036854775807:=by simp only [maxLen] at h63;omega
 have h63':¬ (9223372036854775807<((n:Int)+(news.length:Int))):=by omega
 have h48':¬ (281474976710656<Builtin.nextslicecap (n+news.length) cap*ie.bytes):=by have:=growslice_fits hgrow hby;omega
 rcases hd with rfl | ⟨e',rfl⟩ <;>
 ·simp [Builtin.append_,run_underlying ht,run_underlying hu,sizeOf,typeInfo,zeroValue,hi,hz,hS.len,hn,h63',h48',Question.forced,hf,hO',newRow,grownCap]
  congr 2
  apply Array.ext'
  simp [List.append_assoc]
end
end
end Go.Proofs.YtbpokbigoebocaaGreatDoor.E
