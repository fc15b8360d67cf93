/-
  Parts of the proof, merged by a program of the prover's own; no condition.
-/
import Derived.Below
import Derived.Control
import Derived.Laws.AppendOwn
import Derived.Laws.BytesString
import Derived.Laws.CopyRow
import Derived.Laws.IdiomStrings
import Derived.Laws.MakeOwn
import Derived.Laws.RangeString
import Derived.Laws.Runes
import Derived.Laws.Tables
import Derived.Lib.Strings
import Derived.MapKept
import Derived.WalkKit
import Derived.WalkLawsBesides
import Derived.WalkSpells
open Option.some renaming injEq->c8,inj->ai0
open Bool renaming and_eq_true->c9,false_eq_true->ab2,or_eq_true->ac1,not_eq_true->ah0,true_and->ai4
open List renaming getElem?_eq_getElem->j0,getElem?_eq_some_iff->j1,replicate->j4,length_eq_zero_iff->j6,length_map->j7,length_replicate->o0,mem_append->o5,length_append->o7,getElem_cons_zero->o8,getElem?_map->s8,getElem_set->v7,length_set->v8,getElem?_append_left->w6,getElem_append_left->w8,eq_nil_of_length_eq_zero->w9,take_of_length_le->x5,all_eq_true->x6,getElem_map->x7,getD_eq_getElem?_getD->y7,length_singleton->y8,mem_zipIdx_iff_getElem?->aa2,append_assoc->aa5,ext_getElem?->aa6,getElem?_append_right->aa7,length_take->aa9,getElem?_take->ab3,getElem_replicate->ab6,getElem?_toArray->ab7,append_nil->ac2,length_nil->ac3,getElem_of_mem->ac5,replicate_zero->ac6,range->ad3,take_zero->ad4,flatten_cons->ad8,getElem_mem->ae3,isEmpty_iff->ae4,length_cons->ae5,map_map->af1,mem_map->af2,getElem?_eq_none->af6,drop_nil->ag2,mem_cons->ag3,getD->ah1,length_drop->ah2,length->ah4,range'->ah5,foldl_cons->ah8,nil_append->ah9,all_cons->ai7,take_nil->ai8
open Nat renaming le_refl->j2,mul_le_mul_right->j5,add_mul->o6,zero_add->aa1,add_zero->ab0,lt_of_lt_of_le->ab4,zero_le->ab5,ble->ac8,le_trans->ac9,min_self->ad0,add_mul_mod_self_right->ad5,beq->ad9,le_of_not_lt->ae6,mod_eq_of_lt->ae7,add_assoc->ag4,min_zero->ag8,mod_lt->ai1,add_comm->aj1,mul_comm->aj2,zero_mul->aj3
open Array renaming length_toList->j8,getElem?_setIfInBounds->x4,getElem?_eq_some_iff->x8,getElem?_append_left->ad2,getElem?_eq_getElem->ad7,getElem?_eq_none->ae8,ext'->ak3
open Go.Result renaming andThen_ok->j9,andThen->ai3
open Go.Op renaming equalIn->k9,bytesLess->af4,equal->ag9,eqFields->ah6,unary->ak0
open Option renaming map_eq_some_iff->o9,map_some->af5,getD_some->ah3,map_map->ai2
open Go.Sem renaming run_bind->p7,run_pure->s9
open Go.Builtin renaming zeroCells->p9,clear_->x9,firstCells->aa0,copy_->aa3,len_->aa8,append_->ab1,lenOf->ai5
open Go.Instr renaming buildSlice->w7,sureAddr->y5,sliceAt->aa4,indexAt->ab8,loadAt->ac7,storeAt->ae2,fill->ae9,next->af0,fieldAt->ag1,sliceBounds->ag7,field->aj5,index->aj6,slice->aj7
open Decidable renaming byContradiction->y9
open BitVec renaming ofInt->z7
open Int renaming ofNat_eq_natCast->ab9,negSucc_lt_zero->af9,toNat_of_nonneg->ag0
open Go.World renaming cell?->ac0,shape?->ad1
open Go.ByteArray renaming toList_eq->ac4
open Prod renaming snd->ad6
open UInt8 renaming ofNat->ae0
open Go.Utf8 renaming decode->ae1,encode->ak2
open Go.MapKept renaming run_getObj_map->af3
open Std.Legacy.Range renaming forIn_eq_forIn_range'->af7,size->aj4
open Function renaming comp_apply->af8,comp->ai6
open Prod.mk renaming injEq->ag5
open Go.Array renaming range_zero'->ag6
open ByteArray renaming empty->ah7
open Go.Program renaming built->ai9
open Go.Value renaming int->aj0
namespace Go.Proofs.YtiodfnbjmmdlmaaGreatDoor.E
set_option linter.all false
section
open Go
inductive SV where
 | bool (b:Bool)
 | int (k:IntKind) (n:Int)
 | str (l:List UInt8)
 | nilp
 | nilm
 | nilf
 | sl (z t:Bool) (k:Nat) (els:List (List SV))
 | sp (els:List (List SV)) (i off:Nat)
 | fn (f:Fn) (first caps:List SV)
 deriving Inhabited
inductive PV where
 | s (v:SV)
 | nsl
 | fl (b:Nat)
 | vw (b i n:Nat)
 | ptr (b i off:Nat)
 | fnr (f:Fn) (first caps:List PV)
 | it (b:Nat)
 | yd
 | agg (l:List PV)
 | tup (l:List PV)
 | bad
 deriving Inhabited
inductive Blk where
 | arr (v:Bool) (e sz:Nat) (els:List (List SV))
 | box (cells:List PV)
 | iter (s:List UInt8) (pos:Nat)
 | mp (ents:List (List UInt8 × PV))
 | ms (a:Bool) (ents:List (List UInt8 × List SV))
 | dead
 deriving Inhabited
inductive CK where
 | bool
 | int (k:IntKind)
 | str
 | sl (k:Nat)
 | ptr
 | map
 | fn
 deriving DecidableEq,Inhabited
structure TI where
 ok:Bool
 agg:Bool
 ks:List CK
 deriving Inhabited
inductive Sh where
 | int (k:IntKind)
 | str
 | bool
 | slice (e:Nat)
 | array (n e:Nat)
 | struct (fs:List (Nat × Nat))
 | ptr (e:Nat)
 | map (k e:Nat)
 | fn
 | other
 deriving Inhabited
def As7:CK->Value->Bool
 | .bool,.bool b=>!b
 | .int k,.int a n=>decide (k=a)&&decide (n=0)
 | .str,.string s=>s.data.toList.isEmpty
 | .sl _,.slice none 0 0=>true
 | .ptr,.pointer none=>true
 | .map,.map none=>true
 | .fn,.nilFunc=>true
 | _,_=>false
def Av:List CK->List Value->Bool
 | [],[]=>true
 | c::r,v::q=>As7 c v&&Av r q
 | _,_=>false
def ksF(f:Nat->Option (List CK)):List Field->Nat->Option (List CK)
 | [],_=>some []
 | x::r,off=>if x.offset==off then match f x.type with
   | some a=>match ksF f r (off+a.length) with
    | some b=>some (a++b)
    | none=>none
   | none=>none else none
def GS(P:Program):Nat->Nat->Option (List CK)
 | 0,_=>none
 | d+1,t=>match P.underlying t with
  | some .bool=>some [.bool]
  | some (.int k)=>some [.int k]
  | some .string=>some [.str]
  | some (.slice e)=>match P.info? e with
   | some i=>some [.sl i.size]
   | none=>none
  | some (.pointer _)=>some [.ptr]
  | some (.map _ _)=>some [.map]
  | some (.func _ _ _)=>some [.fn]
  | some (.struct b)=>ksF (GS P d) b.toList 0
  | some (.array n e)=>match GS P d e with
   | some a=>some (j4 n a).flatten
   | none=>none
  | _=>none
def Cb0(P : Program)(t : Nat) : TI :=
  match P.info? t, P.underlying t, GS P 20 t with
  | some i, some d, some a => match i.zero with
    | some z => { ok := i.size==z.cells.size&&decide (i.bytes <= 512)&&decide (0 < i.size)&&Av a z.cells.toList, ks := a
                  agg := match d with | .struct _ => true | .array _ _ => true|_ => false }
    | none => { ok := false, agg := false, ks := [] }
  | _, _, _ => { ok := false, agg := false, ks := [] }
def FM(P:Program)(t:Nat):Sh:=
 match P.underlying t with
 | some (.slice e)=>.slice e
 | some (.array n e)=>.array n e
 | some (.struct a)=>.struct (a.toList.map λf=>(f.offset,f.type))
 | some (.pointer e)=>.ptr e
 | some (.map k e)=>.map k e
 | some (.func _ _ _)=>.fn
 | some (.bool)=>.bool
 | some (.int k)=>.int k
 | some (.string)=>.str
 | _=>.other
def ED(f:Nat->Option (List CK)):List Field->Nat->Option (List CK)
 | [],_=>some []
 | x::r,off=>if x.offset==off&&x.name != "_" then match f x.type with
   | some a=>match ED f r (off+a.length) with
    | some b=>some (a++b)
    | none=>none
   | none=>none else none
def JG(P:Program):Nat->Nat->Option (List CK)
 | 0,_=>none
 | d+1,t=>match P.underlying t with
  | some .bool=>some [.bool]
  | some (.int k)=>some [.int k]
  | some .string=>some [.str]
  | some (.struct c)=>if P.stoodInHeld t then none else match ED (JG P d) c.toList 0 with
   | some b=>if (P.info? t).map (·.size)==some b.length then some b else none
   | none=>none
  | some (.array n e)=>match JG P d e with
   | some a=>if (P.info? e).map (·.size)==some a.length&&(P.info? t).map (·.size)==some (j4 n a).flatten.length then some (j4 n a).flatten else none
   | none=>none
  | _=>none
def B20(P:Program)(t:Nat):Bool:=JG P 20 t==some (Cb0 P t).ks&&!(P.eqGuardType P.depth t)
inductive Tr where
 | ret (v:PV) (H:List Blk)
 | need (c:Bool) (t:Tr)
 | split (c:Bool) (a b:Tr)
 | fail
def Dd{R:Type}:Tr->(PV->List Blk->Option R)->Option R
 | .ret v H,k=>k v H
 | .need c t,k=>cond c (Dd t k) none
 | .split c a b,k=>cond c (Dd a k) (Dd b k)
 | .fail,_=>none
def J2(t:Tr):Option (PV × List Blk):=Dd t λv H=>some (v,H)
theorem Y6{R:Type}{r:R}:∀{t:Tr} {k:PV->List Blk->Option R},Dd t k=some r->∃v H,J2 t=some (v,H)/\k v H=some r
 | .ret v H,k,h=>⟨v,H,rfl,h⟩
 | .need c t,k,h=>by
  cases c with
  | true=>exact Y6 (t:=t) h
  | false=>cases h
 | .split c a b,k,h=>by
  cases c with
  | true=>exact Y6 (t:=a) h
  | false=>exact Y6 (t:=b) h
 | .fail,_,h=>by cases h
def SV.det:SV->Bool
 | .bool _=>true
 | .int _ _=>true
 | .str _=>true
 | _=>false
def PV.det1:PV->Bool
 | .s x=>x.det
 | _=>false
def PV.det:PV->Bool
 | .s x=>x.det
 | .tup l=>l.all PV.det1
 | _=>false
def Oa:Tr->Tr
 | .ret v H=>cond (v.det&&H.isEmpty) (.ret v H) .fail
 | .need c t=>.need c (Oa t)
 | .split c a b=>.split c (Oa a) (Oa b)
 | .fail=>.fail
theorem Z5:∀{t:Tr} {v:PV} {H:List Blk},J2 (Oa t)=some (v,H)->J2 t=some (v,H)/\v.det=true/\H=[]
 | .ret e H',v,H,h=>by
  simp only[Oa] at h;cases d:(e.det&&H'.isEmpty) with
  | false=>rw[d] at h;cases h
  | true=>
   rw[d] at h;simp only[c9,ae4] at d;simp only[cond_true,J2,Dd,c8,ag5] at h;obtain⟨rfl,rfl⟩:=h;exact⟨rfl,d.1,d.2⟩
 | .need c t,v,H,h=>by
  cases c with
  | true=>exact Z5 (t:=t) h
  | false=>cases h
 | .split c a b,v,H,h=>by
  cases c with
  | true=>exact Z5 (t:=a) h
  | false=>exact Z5 (t:=b) h
 | .fail,_,_,h=>by cases h
structure GT where
 tab:Nat->Option (IntKind × List Int)
 gi:Nat->Bool
structure Cfg where
 P:Program
 G:GT
 X:Nat->Option (List PV->Tr)
 lend:Nat->Bool
 okf:Nat->Bool
 lf:Nat
 keep:Nat->Option (List Nat):=λ_=>none
 keepR:Nat->Option (List Nat):=λ_=>none
 xp:Nat->Bool:=λ_=>false
 keepE:Nat->Option (List Nat):=λ_=>none
 keepT:Option (List Nat):=none
 Y:Nat->Option (List PV->List Blk->Tr):=λ_=>none
 S:Nat->Option (List PV->List Blk->Option (Bool × List (List PV))):=λ_=>none
 nilT:Nat->Nat->Nat × Nat:=λ_ _=>(0,0)
 rowR:Nat->Option Nat:=λ_=>none
 farR:Nat->Option (List Nat × List Nat):=λ_=>none
 Z:Nat->Option (SV->List (List SV)->Bool × List (List SV)):=λ_=>none
 stab:Nat->Bool:=λ_=>false
 rowsR:Nat->Option (List Nat):=λ_=>none
def Cfg.ti(C:Cfg)(t:Nat):TI:=Cb0 C.P t
def Cfg.sh(C:Cfg)(t:Nat):Sh:=FM C.P t
def SV.gB:SV->Bool | .bool b=>b|_=>false
def SV.gI:SV->Int | .int _ n=>n|_=>0
def SV.gS:SV->List UInt8 | .str l=>l|_=>[]
def SV.gZ:SV->Bool | .sl z _ _ _=>z|_=>false
def SV.gT:SV->Bool | .sl _ t _ _=>t|_=>false
def SV.gE:SV->List (List SV) | .sl _ _ _ e=>e|_=>[]
def SV.has:CK->SV->Bool
 | .bool,.bool _=>true
 | .int k,.int k' _=>k=k'
 | .str,.str _=>true
 | .sl k,.sl z _ k' _=>decide (k=k')||z
 | .ptr,.nilp=>true
 | .ptr,.sp _ _ _=>true
 | .map,.nilm=>true
 | .fn,.nilf=>true
 | .fn,.fn _ _ _=>true
 | _,_=>false
def SV.as:CK->SV->PV
 | .bool,x=>.s (.bool x.gB)
 | .int k,x=>.s (.int k x.gI)
 | .str,x=>.s (.str x.gS)
 | .sl k,x=>.s (.sl x.gZ x.gT k x.gE)
 | _,x=>.s x
def PV.has:CK->PV->Bool
 | .bool,.s x=>x.has .bool
 | .int k,.s x=>x.has (.int k)
 | .str,.s x=>x.has .str
 | .sl k,.s x=>x.has (.sl k)
 | .sl _,.nsl=>true
 | .sl _,.fl _=>true
 | .sl _,.vw _ _ _=>true
 | .ptr,.s x=>x.has .ptr
 | .ptr,.ptr _ _ _=>true
 | .map,.s x=>x.has .map
 | .map,.it _=>true
 | .fn,.s x=>x.has .fn
 | .fn,.fnr _ _ _=>true
 | .fn,.yd=>true
 | _,_=>false
def PV.toS:PV->SV
 | .s x=>x
 | _=>.nilp
def PV.as:CK->PV->PV
 | .bool,v=>.s (.bool v.toS.gB)
 | .int k,v=>.s (.int k v.toS.gI)
 | .str,v=>.s (.str v.toS.gS)
 | .sl k,.s x=>x.as (.sl k)
 | _,v=>v
def PV.sv?:PV->Option SV
 | .s v=>some v
 | .nsl=>some (.sl true true 0 [])
 | _=>none
def PV.cells:PV->List PV
 | .agg l=>l
 | .bad=>[]
 | v=>[v]
def PV.one:PV->Bool
 | .bad=>false
 | .agg _=>false
 | .tup _=>false
 | _=>true
def Ge:List PV->Option (List SV)
 | []=>some []
 | v::r=>match v.sv?,Ge r with
  | some x,some y=>some (x::y)
  | _,_=>none
def need{R:Type}(c:Bool)(k:Option R):Option R:=cond c k none
def Cx{R:Type}(b:Bool)(k:Bool->Option R):Option R:=cond b (k true) (k false)
def Mt:Value->PV
 | .bool b=>.s (.bool b)
 | .int k n=>.s (.int k n)
 | .string s=>.s (.str s.data.toList)
 | .pointer none=>.s .nilp
 | .slice none 0 0=>.nsl
 | .map none=>.s .nilm
 | .nilFunc=>.s .nilf
 | _=>.bad
def Zw:Value->PV
 | .agg b=>.agg (b.toList.map Mt)
 | .tuple a=>if a.size=0 then .tup [] else .bad
 | v=>Mt v
def opnd(C:Cfg)(sl:List PV):Operand->PV
 | .tmp t=>sl.getD t (.tup [])
 | .const v=>Zw v
 | .global g=>match C.G.tab g with
  | some (k,a)=>.s (.sp [a.map (SV.int k)] 0 0)
  | none=>.bad
 | .func f=>.s (.fn (.func f) [] [])
def P3:CK->PV
 | .bool=>.s (.bool false)
 | .int k=>.s (.int k 0)
 | .str=>.s (.str [])
 | .sl _=>.nsl
 | .ptr=>.s .nilp
 | .map=>.s .nilm
 | .fn=>.s .nilf
def Kw(t:TI)(cells:List PV)(off:Nat):PV:=
 if t.agg then .agg (t.ks.zipIdx.map λ(c,j)=>(cells.getD (off+j) .bad).as c)
 else match t.ks with
  | [c]=>(cells.getD off .bad).as c
  | _=>.bad
def okP(t:TI)(cells:List PV)(off:Nat):Bool:=
 t.ok&&t.ks.zipIdx.all λ(c,j)=>(cells.getD (off+j) .bad).has c
def WW(t:TI)(cells:List SV)(off:Nat):PV:=
 if t.agg then .agg (t.ks.zipIdx.map λ(c,j)=>(cells.getD (off+j) .nilp).as c)
 else match t.ks with
  | [c]=>(cells.getD off .nilp).as c
  | _=>.bad
def okS(t:TI)(cells:List SV)(off:Nat):Bool:=
 t.ok&&decide (off+t.ks.length<=cells.length)&&t.ks.zipIdx.all λ(c,j)=>(cells.getD (off+j) .nilp).has c
def F9{a:Type}:List a->Nat->List a->List a
 | l,_,[]=>l
 | l,off,v::b=>F9 (l.set off v) (off+1) b
def F5(f:Nat->Nat × Nat):List PV->Nat->List Blk->List PV × List Blk
 | [],_,H=>([],H)
 | .nsl::r,j,H=>let(r',H'):=F5 f r (j+1) (H++[.arr true (f j).1 (f j).2 []]);(.fl H.length::r',H')
 | v::r,j,H=>let(r',H'):=F5 f r (j+1) H;(v::r',H')
def Cz(H:List Blk):PV->Option (List (List SV))
 | .nsl=>some []
 | .s (.sl _ _ _ a)=>some a
 | .fl b=>match H[b]? with|some (.arr _ _ _ a)=>some a|_=>none
 | .vw b i n=>match H[b]? with|some (.arr _ _ _ a)=>some ((a.drop i).take n)|_=>none
 | _=>none
def Bj(H:List Blk):PV->Option Nat
 | .nsl=>some 0
 | .s (.sl _ _ _ a)=>some a.length
 | .s (.str l)=>some l.length
 | .fl b=>match H[b]? with|some (.arr _ _ _ a)=>some a.length|_=>none
 | .vw _ _ n=>some n
 | _=>none
def Ax1(H:List Blk):PV->Option Bool
 | .nsl=>some true
 | .s (.sl z _ _ _)=>some z
 | .fl b=>match H[b]? with|some (.arr v _ _ a)=>some (v&&a.isEmpty)|_=>none
 | .vw b _ _=>match H[b]? with|some (.arr v _ _ a)=>some (v&&a.isEmpty)|_=>none
 | _=>none
def H7(b:UInt8):List SV:=[.int .u8 b.toNat]
def Zd(a:List SV):UInt8:=ae0 (a.getD 0 .nilp).gI.toNat
def DY:List SV->Bool|[.int .u8 n]=>decide (0<=n)&&decide (n<256)|_=>false
def Aq(n:Nat)(H:List Blk):PV->Bool
 | .nsl=>true
 | .s (.str _)=>decide (n=1)
 | .s (.sl z _ d _)=>decide (d=n)||z
 | .fl b=>match H[b]? with|some (.arr v _ c a)=>decide (c=n)||(v&&a.isEmpty)|_=>false
 | .vw b _ _=>match H[b]? with|some (.arr v _ c a)=>decide (c=n)||(v&&a.isEmpty)|_=>false
 | _=>false
def Mr(H:List Blk):PV->Option (List (List SV))
 | .s (.str l)=>some (l.map H7)
 | v=>Cz H v
mutual
def PV.kill(b:Nat):PV->PV
 | .fl c=>if c=b then .bad else .fl c
 | .vw c i n=>if c=b then .bad else .vw c i n
 | .ptr c i o=>if c=b then .bad else .ptr c i o
 | .it c=>if c=b then .bad else .it c
 | .fnr f x y=>.fnr f (U0 b x) (U0 b y)
 | .agg l=>.agg (U0 b l)
 | .tup l=>.tup (U0 b l)
 | v=>v
def U0(b:Nat):List PV->List PV
 | []=>[]
 | v::r=>v.kill b::U0 b r
end
def HB(f:PV->PV)(l:List (List UInt8 × PV)):List (List UInt8 × PV):=l.map λe=>(e.1,f e.2)
def Blk.kill(b:Nat):Blk->Blk
 | .box cells=>.box (U0 b cells)
 | .mp ents=>.mp (HB (PV.kill b) ents)
 | x=>x
def ltI(a b:Int):Bool:=match a,b with
 | .ofNat m,.ofNat n=>ac8 (m+1) n
 | .ofNat _,.negSucc _=>false
 | .negSucc _,.ofNat _=>true
 | .negSucc m,.negSucc n=>ac8 (n+1) m
theorem V2(a b:Int):ltI a b=decide (a<b):=by
 rw[Bool.eq_iff_iff];cases a with
 | ofNat m=>
  cases b with
  | ofNat n=>simp only[ltI,Nat.ble_eq,decide_eq_true_eq,ab9];omega
  | negSucc n=>
   have:=af9 n;simp only[ltI,ab2,decide_eq_true_eq,ab9,false_iff];omega
 | negSucc m=>
  cases b with
  | ofNat n=>
   have:=af9 m;simp only[ltI,decide_eq_true_eq,ab9,true_iff];omega
  | negSucc n=>simp only[ltI,Nat.ble_eq,decide_eq_true_eq,Int.negSucc_eq];omega
def Ch8(op:BinOp)(k:IntKind)(a b:Int):Option PV:=
 match op with
 | .add=>some (.s (.int k (k.wrap (a+b))))
 | .sub=>some (.s (.int k (k.wrap (a-b))))
 | .mul=>some (.s (.int k (k.wrap (a*b))))
 | .and=>some (.s (.int k (k.wrap (z7 k.bits a &&& z7 k.bits b).toNat)))
 | .or=>some (.s (.int k (k.wrap (z7 k.bits a ||| z7 k.bits b).toNat)))
 | .xor=>some (.s (.int k (k.wrap (z7 k.bits a ^^^ z7 k.bits b).toNat)))
 | .andNot=>some (.s (.int k (k.wrap (z7 k.bits a &&& ~~~(z7 k.bits b)).toNat)))
 | .eql=>some (.s (.bool (a==b)))
 | .neq=>some (.s (.bool (a !=b)))
 | .lss=>some (.s (.bool (ltI a b)))
 | .leq=>some (.s (.bool (!ltI b a)))
 | .gtr=>some (.s (.bool (ltI b a)))
 | .geq=>some (.s (.bool (!ltI a b)))
 | _=>none
def bytesLess:List UInt8->List UInt8->Bool
 | _,[]=>false
 | [],_::_=>true
 | a::x,b::y=>decide (a<b)||(a==b&&bytesLess x y)
def Ch9(op:BinOp)(a b:List UInt8):Option PV:=
 match op with
 | .add=>some (.s (.str (a++b)))
 | .eql=>some (.s (.bool (a==b)))
 | .neq=>some (.s (.bool (!(a==b))))
 | .lss=>some (.s (.bool (bytesLess a b)))
 | .leq=>some (.s (.bool (bytesLess a b||a==b)))
 | .gtr=>some (.s (.bool (!(bytesLess a b||a==b))))
 | .geq=>some (.s (.bool (!bytesLess a b)))
 | _=>none
def DE:PV->PV->Option Bool
 | .s (.bool a),.s (.bool b)=>some (a==b)
 | .s (.int k a),.s (.int c b)=>if k=c then some (a==b) else none
 | .s (.str a),.s (.str b)=>some (a==b)
 | _,_=>none
def L6:List PV->List PV->Option Bool
 | [],[]=>some true
 | a::x,b::y=>match DE a b,L6 x y with
  | some p,some q=>some (p&&q)
  | _,_=>none
 | _,_=>none
def B51(H:List Blk)(b:Nat):Option Bool:=match H[b]? with
 | some (.mp _)=>some false
 | some (.ms _ _)=>some false
 | _=>none
def B21(H:List Blk)(sh:Sh)(x y:PV):Option Bool:=
 match sh,x,y with
 | .ptr _,.s .nilp,.s .nilp=>some true
 | .ptr _,.s .nilp,.s (.sp _ _ _)=>some false
 | .ptr _,.s (.sp _ _ _),.s .nilp=>some false
 | .ptr _,.s .nilp,.ptr _ _ _=>some false
 | .ptr _,.ptr _ _ _,.s .nilp=>some false
 | .fn,.s .nilf,.s .nilf=>some true
 | .fn,.s .nilf,.s (.fn _ _ _)=>some false
 | .fn,.s (.fn _ _ _),.s .nilf=>some false
 | .fn,.s .nilf,.fnr _ _ _=>some false
 | .fn,.fnr _ _ _,.s .nilf=>some false
 | .bool,.s (.bool a),.s (.bool b)=>some (a==b)
 | .map _ _,.s .nilm,.s .nilm=>some true
 | .map _ _,.s .nilm,.it b=>B51 H b
 | .map _ _,.it b,.s .nilm=>B51 H b
 | .slice _,x,.nsl=>Ax1 H x
 | .slice _,.nsl,y=>Ax1 H y
 | _,_,_=>none
def Q7(a:Nat):Nat->List SV->List (List SV)
 | 0,_=>[]
 | n+1,l=>l.take a::Q7 a n (l.drop a)
section ops
variable {R : Type} (C : Cfg)
def A08(op:BinOp)(t:Nat)(x y:PV)(H:List Blk)(k:PV->Option R):Option R:=
 match op,x,y with
 | .shl,.s (.int c a),.s (.int _ b)=>need (decide (0<=b)) (k (.s (.int c (c.wrap (a*2 ^ min b.toNat c.bits)))))
 | .shr,.s (.int c a),.s (.int _ b)=>need (decide (0<=b)) (k (.s (.int c (a.fdiv (2 ^ min b.toNat c.bits)))))
 | .quo,.s (.int c a),.s (.int d b)=>need (decide (c=d)&&b !=0) (k (.s (.int c (c.wrap (a.tdiv b)))))
 | .rem,.s (.int c a),.s (.int d b)=>need (decide (c=d)&&b !=0) (k (.s (.int c (a.tmod b))))
 | op,.s (.int c a),.s (.int d b)=>if c=d then match Ch8 op c a b with|some v=>k v|none=>none else none
 | .add,.s (.str a),.s (.str b)=>need (decide (a.length+b.length<4611686018427387904)) (k (.s (.str (a++b))))
 | op,.s (.str a),.s (.str b)=>match Ch9 op a b with|some v=>k v|none=>none
 | .eql,.agg x,.agg y=>if B20 C.P t&&(C.ti t).agg&&okP (C.ti t) x 0&&okP (C.ti t) y 0&&decide (x.length=(C.ti t).ks.length) then match L6 x y with|some b=>k (.s (.bool b))|none=>none else none
 | .neq,.agg x,.agg y=>if B20 C.P t&&(C.ti t).agg&&okP (C.ti t) x 0&&okP (C.ti t) y 0&&decide (x.length=(C.ti t).ks.length) then match L6 x y with|some b=>k (.s (.bool (!b)))|none=>none else none
 | .eql,x,y=>match B21 H (C.sh t) x y with|some b=>k (.s (.bool b))|none=>none
 | .neq,x,y=>match B21 H (C.sh t) x y with|some b=>k (.s (.bool (!b)))|none=>none
 | _,_,_=>none
def unK(op:UnOp)(x:PV)(k:PV->Option R):Option R:=
 match op,x with
 | .not,.s (.bool b)=>k (.s (.bool (!b)))
 | .neg,.s (.int a n)=>k (.s (.int a (a.wrap (0-n))))
 | _,_=>none
def Ol(t:TI)(a:PV)(H:List Blk)(k:PV->Option R):Option R:=
 match a with
 | .ptr b i off=>match H[b]? with
  | some (.box cells)=>if i=0 then need (okP t cells off) (k (Kw t cells off)) else none
  | some (.arr _ _ d c)=>
   if off+t.ks.length<=d then need (decide (i<c.length)&&okS t (c.getD i []) off) (k (WW t (c.getD i []) off))
   else if i=0/\off=0 then need (decide (t.ks.length=c.length*d)&&okS t c.flatten 0) (k (WW t c.flatten 0)) else none
  | _=>none
 | .s (.sp c i off)=>need (decide (i<c.length)&&okS t (c.getD i []) off) (k (WW t (c.getD i []) off))
 | _=>none
def Qg(f:Nat->Nat × Nat)(t:TI)(a v:PV)(H:List Blk)(k:List Blk->Option R):Option R:=
 if t.ok=true/\v.cells.length=t.ks.length/\v.cells.all PV.one=true then
  match a with
  | .ptr b i off=>match H[b]? with
   | some (.box cells)=>if i=0 then let(g,H'):=F5 f v.cells 0 H;need (decide (off+t.ks.length<=cells.length)) (k (H'.set b (.box (F9 cells off g)))) else none
   | some (.arr z e d c)=>match Ge v.cells with
    | some g=>
     if off+t.ks.length<=d then need (decide (i<c.length)) (k (H.set b (.arr z e d (c.set i (F9 (c.getD i []) off g)))))
     else if i=0/\off=0 then need (decide (t.ks.length=c.length*d)) (k (H.set b (.arr z e d (Q7 d c.length g)))) else none
    | none=>none
   | _=>none
  | _=>none
 else none
def Bg(t:Nat)(x i:PV)(H:List Blk)(k:PV->Option R):Option R:=
 match i with
 | .s (.int _ n)=>match x with
  | .fl b=>match H[b]?,C.sh t with
   | some (.arr _ _ c a),.slice e=>if (C.ti e).ok/\(C.ti e).ks.length=c then need (decide (0<=n)&&decide (n<a.length)) (k (.ptr b n.toNat 0)) else none
   | _,_=>none
  | .vw b o m=>match H[b]?,C.sh t with
   | some (.arr _ _ c _),.slice e=>if (C.ti e).ok/\(C.ti e).ks.length=c then need (decide (0<=n)&&decide (n<m)) (k (.ptr b (o+n.toNat) 0)) else none
   | _,_=>none
  | .s (.sl _ _ d a)=>match C.sh t with
   | .slice e=>if (C.ti e).ok/\(C.ti e).ks.length=d then need (decide (0<=n)&&decide (n<a.length)) (k (.s (.sp a n.toNat 0))) else none
   | _=>none
  | .ptr b j off=>match C.sh t with
   | .array m e=>match H[b]? with
    | some (.arr _ _ c _)=>if j=0/\off=0/\(C.ti e).ok/\c=(C.ti e).ks.length then need (decide (0<=n)&&decide (n<m)) (k (.ptr b n.toNat 0)) else none
    | some (.box _)=>if (C.ti e).ok then need (decide (0<=n)&&decide (n<m)) (k (.ptr b j (off+n.toNat*(C.ti e).ks.length))) else none
    | _=>none
   | _=>none
  | .s (.sp a j off)=>match C.sh t with
   | .array m e=>if (C.ti e).ok then need (decide (0<=n)&&decide (n<m)) (k (.s (.sp a j (off+n.toNat*(C.ti e).ks.length)))) else none
   | _=>none
  | _=>none
 | _=>none
def Wd(t:Nat)(x i:PV)(k:PV->Option R):Option R:=
 match i with
 | .s (.int _ n)=>match x with
  | .s (.str l)=>match C.sh t with
   | .str=>need (decide (0<=n)&&decide (n<l.length)) (k (.s (.int .u8 (l.getD n.toNat 0).toNat)))
   | _=>none
  | .agg cells=>match C.sh t with
   | .array m e=>need (decide (0<=n)&&decide (n<m)&&okP (C.ti e) cells (n.toNat*(C.ti e).ks.length)) (k (Kw (C.ti e) cells (n.toNat*(C.ti e).ks.length)))
   | _=>none
  | _=>none
 | _=>none
def Vb(len:Nat):Option PV->Option Int
 | none=>some len
 | some (.s (.int _ n))=>some n
 | _=>none
def Cp(t:Nat)(H:List Blk)(x:PV):Bool:=
 match x with
 | .s (.str _)=>match C.sh t with | .str=>true|_=>false
 | .nsl=>match C.sh t with | .slice e=>(C.ti e).ok|_=>false
 | .s (.sl _ _ c _)=>match C.sh t with | .slice e=>(C.ti e).ok&&decide ((C.ti e).ks.length=c)|_=>false
 | .fl b=>match H[b]?,C.sh t with|some (.arr _ _ a _),.slice e=>(C.ti e).ok&&decide ((C.ti e).ks.length=a)|_,_=>false
 | .vw b _ _=>match H[b]?,C.sh t with|some (.arr _ _ a _),.slice e=>(C.ti e).ok&&decide ((C.ti e).ks.length=a)|_,_=>false
 | _=>false
def Wv(t:Nat)(x:PV)(e d f:Option PV)(H:List Blk)(k:PV->Option R):Option R:=
 if Cp C t H x then match Bj H x with
 | none=>none
 | some len=>match Vb 0 e,Vb len d with
  | some l,some h=>match f with
   | none=>need (decide (0<=l)&&decide (l<=h)&&decide (h<=len)) (match x with
    | .s (.str s)=>k (.s (.str ((s.take h.toNat).drop l.toNat)))
    | .s (.sl z _ c a)=>k (.s (.sl z z c ((a.take h.toNat).drop l.toNat)))
    | .nsl=>k .nsl
    | .fl b=>k (.vw b l.toNat (h.toNat-l.toNat))
    | .vw b i _=>k (.vw b (i+l.toNat) (h.toNat-l.toNat))
    | _=>none)
   | some (.s (.int _ m))=>need (decide (0<=l)&&decide (l<=h)&&decide (h=m)&&decide (m<=len)) (match x with
    | .s (.sl z _ c a)=>k (.s (.sl z true c ((a.take h.toNat).drop l.toNat)))
    | .nsl=>k .nsl
    | _=>none)
   | _=>none
  | _,_=>none else none
def Ev(b n:Nat)(c a d:Option PV)(k:PV->Option R):Option R:=
 match Vb 0 c,Vb n a,d with
 | some l,some h,none=>need (decide (0<=l)&&decide (l<=h)&&decide (h<=n)) (k (.vw b l.toNat (h.toNat-l.toNat)))
 | _,_,_=>none
def Bc3(t:Nat):Nat:=if (C.ti t).ok then (C.ti t).ks.length else 0
def Cu(e:Nat):Bool:=match C.sh e with | .array _ _=>true|_=>false
def I4(n:Nat):Bool:=decide (n<=68719476736)
def Dg(t:Nat)(sl:List PV)(s x:PV)(H:List Blk)(k:PV->List PV->List Blk->Option R):Option R:=
 match C.sh t with
 | .slice e=>if (C.ti e).ok&&Aq (C.ti e).ks.length H x then match Mr H x with
  | some a=>match s with
   | .nsl=>need (I4 a.length) (k (.fl H.length) sl (H++[.arr true e (C.ti e).ks.length a]))
   | .s (.sl z true f c)=>if f=(C.ti e).ks.length then need ((z||!a.isEmpty)&&I4 (c.length+a.length)) (k (.fl H.length) sl (H++[.arr z e (C.ti e).ks.length (c++a)])) else none
   | .fl b=>match H[b]? with
    | some (.arr v d g c)=>if !Cu C d&&(decide (d=e/\g=(C.ti e).ks.length)||(v&&c.isEmpty)) then need (I4 (c.length+a.length)) (k (.fl b) (U0 b sl) ((H.map (Blk.kill b)).set b (.arr v e (C.ti e).ks.length (c++a)))) else none
    | _=>none
   | _=>none
  | none=>none else none
 | _=>none
def II(t:Nat)(d x:PV)(H:List Blk)(k:PV->List Blk->Option R):Option R:=
 match C.sh t with
 | .slice e=>if (C.ti e).ok&&Aq (C.ti e).ks.length H x&&Aq (C.ti e).ks.length H d then match Mr H x with
  | some a=>match d with
   | .fl b=>match H[b]? with
    | some (.arr v f g c)=>k (.s (.int .i64 ((min a.length c.length:Nat):Int))) (H.set b (.arr v f g (a.take c.length++c.drop (min a.length c.length))))
    | _=>none
   | .vw b i n=>match H[b]? with
    | some (.arr v f g c)=>need (decide (i+n<=c.length)) (k (.s (.int .i64 ((min a.length n:Nat):Int))) (H.set b (.arr v f g (c.take i++(a.take n++c.drop (i+min a.length n))))))
    | _=>none
   | .nsl=>k (.s (.int .i64 0)) H
   | _=>none
  | none=>none else none
 | _=>none
def Vp(t:Nat)(x:PV)(H:List Blk)(k:List Blk->Option R):Option R:=
 match C.sh t with
 | .slice e=>if (C.ti e).ok&&Aq (C.ti e).ks.length H x then match Ge ((C.ti e).ks.map P3) with
  | some z=>match x with
   | .fl b=>match H[b]? with
    | some (.arr v c d a)=>k (H.set b (.arr v c d (j4 a.length z)))
    | _=>none
   | .vw b i n=>match H[b]? with
    | some (.arr v c d a)=>need (decide (i+n<=a.length)) (k (H.set b (.arr v c d (a.take i++(j4 n z++a.drop (i+n))))))
    | _=>none
   | .nsl=>k H
   | _=>none
  | none=>none else none
 | _=>none
def IH(c b:Nat)(x:PV)(H:List Blk)(k:PV->Option R):Option R:=
 match C.sh c,C.sh b,x with
 | .int _,.int d,.s (.int _ n)=>k (.s (.int d (d.wrap n)))
 | .str,.str,.s (.str l)=>k (.s (.str l))
 | .int _,.str,.s (.int _ n)=>k (.s (.str (ak2 n).data.toList))
 | .slice e,.str,v=>match C.sh e,Cz H v with
  | .int .u8,some a=>need (a.all DY) (k (.s (.str (a.map Zd))))
  | _,_=>none
 | _,_,_=>none
def Vg(b a:Nat)(x:PV)(k:PV->Option R):Option R:=
 match C.sh b,C.sh a,x with
 | .str,.slice e,.s (.str l)=>match C.sh e with
  | .int .u8=>need (I4 l.length) (k (.s (.sl false false 1 (l.map H7))))
  | _=>none
 | _,_,_=>none
def A67(x:PV)(t:Nat)(H:List Blk)(k:PV->Option R):Option R:=
 match C.sh t,x with
 | .array n _,_=>k (.s (.int .i64 n))
 | .str,.s (.str l)=>k (.s (.int .i64 l.length))
 | .slice _,.s (.str _)=>none
 | .slice _,x=>match Bj H x with
  | some n=>k (.s (.int .i64 n))
  | none=>none
 | .map _ _,.s .nilm=>k (.s (.int .i64 0))
 | .map _ _,.it b=>match H[b]? with
  | some (.mp a)=>k (.s (.int .i64 a.length))
  | some (.ms _ a)=>k (.s (.int .i64 a.length))
  | _=>none
 | _,_=>none
section maps
variable {L : Type}
def V3:List (List UInt8 × L)->List UInt8->Bool
 | [],_=>false
 | e::r,q=>cond (q==e.1) true (V3 r q)
def U1(d:L):List (List UInt8 × L)->List UInt8->L
 | [],_=>d
 | e::r,q=>cond (q==e.1) e.2 (U1 d r q)
def Ah:List (List UInt8 × L)->List UInt8->L->List (List UInt8 × L)
 | [],q,v=>[(q,v)]
 | e::r,q,v=>cond (q==e.1) ((e.1,v)::r) (e::Ah r q v)
def Gu:List (List UInt8 × L)->List UInt8->List (List UInt8 × L)
 | [],_=>[]
 | e::r,q=>cond (q==e.1) r (e::Gu r q)
end maps
def PV.isAgg:PV->Bool
 | .agg _=>true
 | _=>false
def okV(t:TI)(v:PV):Bool:=(v.isAgg==t.agg)&&(ad9 v.cells.length t.ks.length&&okP t v.cells 0)
def asV(t:TI)(v:PV):PV:=Kw t v.cells 0
def Za(t:TI):PV:=if t.agg then .agg (t.ks.map P3) else match t.ks with
 | [c]=>P3 c
 | _=>.bad
def CK.scal:CK->Bool
 | .bool=>true
 | .int _=>true
 | .str=>true
 | _=>false
def svV(a:Bool)(l:List SV):PV:=cond a (.agg (l.map .s)) (match l with
 | [x]=>.s x
 | _=>.bad)
def msP(a:Bool)(l:List (List UInt8 × List SV)):List (List UInt8 × PV):=l.map λe=>(e.1,svV a e.2)
def Ca4(h:Bool)(x:SV):CK->PV
 | .bool=>.s (.bool (h&&x.gB))
 | .int k=>.s (.int k (cond h x.gI 0))
 | .str=>.s (.str (cond h x.gS []))
 | _=>.bad
def RF(t:TI)(h:Bool)(l:List SV):PV:=
 if t.agg then .agg (t.ks.zipIdx.map λ(c,j)=>Ca4 h (l.getD j .nilp) c)
 else match t.ks with
  | [c]=>Ca4 h (l.getD 0 .nilp) c
  | _=>.bad
def B82(t:TI)(l:List SV):Bool:=ad9 l.length t.ks.length&&t.ks.zipIdx.all λ(c,j)=>(l.getD j .nilp).has c
def plC(a:Bool)(v:PV):Option (List SV):=match a,v with
 | true,.agg l=>Ge l
 | false,.s x=>some [x]
 | _,_=>none
def Yc:Bool->PV->Bool->PV
 | true,v,b=>.tup [v,.s (.bool b)]
 | false,v,_=>v
def SU(t:Nat):Bool:=match (C.P.info? t).map TypeInfo.zero with
 | some (some (.agg _))=>(C.ti t).agg
 | some (some _)=>!(C.ti t).agg
 | _=>false
def It(t:Nat)(H:List Blk)(k:PV->List Blk->Option R):Option R:=
 match C.sh t with
 | .map a e=>match C.sh a with
  | .str=>k (.it H.length) (H++[cond ((C.ti e).ks.all CK.scal) (.ms (C.ti e).agg []) (.mp [])])
  | _=>none
 | _=>none
def Ns(t:Nat)(x i:PV)(ok:Bool)(H:List Blk)(k:PV->Option R):Option R:=
 match C.sh t,i with
 | .map d e,.s (.str q)=>match C.sh d with
  | .str=>if (C.ti e).ok&&SU C e then match x with
   | .s .nilm=>k (Yc ok (Za (C.ti e)) false)
   | .it b=>match H[b]? with
    | some (.ms a c)=>if (C.ti e).ks.all CK.scal&&(a==(C.ti e).agg) then need (!(V3 c q)||B82 (C.ti e) (U1 [] c q)) (k (Yc ok (RF (C.ti e) (V3 c q) (U1 [] c q)) (V3 c q))) else none
    | some (.mp c)=>Cx (V3 c q) λh=>cond h (need (okV (C.ti e) (U1 .bad c q)) (k (Yc ok (asV (C.ti e) (U1 .bad c q)) true))) (k (Yc ok (Za (C.ti e)) false))
    | _=>none
   | _=>none else none
  | _=>none
 | _,_=>none
def Nu(t:Nat)(m x v:PV)(H:List Blk)(k:List Blk->Option R):Option R:=
 match C.sh t,m,x with
 | .map d _,.it b,.s (.str q)=>match C.sh d,H[b]? with
  | .str,some (.ms a c)=>match plC a v with
   | some l=>k (H.set b (.ms a (Ah c q l)))
   | none=>none
  | .str,some (.mp c)=>k (H.set b (.mp (Ah c q v)))
  | _,_=>none
 | _,_,_=>none
def Nt(t:Nat)(m x:PV)(H:List Blk)(k:List Blk->Option R):Option R:=
 match C.sh t,x with
 | .map d _,.s (.str q)=>match C.sh d,m with
  | .str,.s .nilm=>k H
  | .str,.it b=>match H[b]? with
   | some (.ms a c)=>k (H.set b (.ms a (Gu c q)))
   | some (.mp c)=>k (H.set b (.mp (Gu c q)))
   | _=>none
  | _,_=>none
 | _,_=>none
def Ax(place:Nat->Option (Nat × Nat)):List PV->List (Nat × PV)->Option (List PV)
 | cells,[]=>some cells
 | cells,(i,v)::r=>match place i with
  | some (off,size)=>if v.cells.length=size&&decide (0<size)&&decide (off+v.cells.length<=cells.length) then Ax place (F9 cells off v.cells) r else none
  | none=>none
def Vf(t:Nat)(parts:List (Nat × PV))(k:PV->Option R):Option R:=
 let zero:=(C.ti t).ks.map P3
 if (C.ti t).ok then match C.sh t with
 | .struct a=>match Ax (λi=>(a[i]?).map λp=>(p.1,Bc3 C p.2)) zero parts with
  | some cells=>k (.agg cells)
  | none=>none
 | .array _ e=>match Ax (λi=>some (i*Bc3 C e,Bc3 C e)) zero parts with
  | some cells=>k (.agg cells)
  | none=>none
 | _=>none else none
def Z0(t len:Nat)(parts:List (Nat × PV))(H:List Blk)(k:PV->List Blk->Option R):Option R:=
 match C.sh t with
 | .slice e=>
  let a:=(C.ti e).ks.length
  if (C.ti e).ok&&decide (len*a<=16777216)&&decide (len<=16777216) then match Ax (λi=>some (i*a,a)) ((j4 len ((C.ti e).ks.map P3)).flatten) parts with
  | some cells=>match Ge cells with
   | some b=>k (.fl H.length) (H++[.arr false e a (Q7 a len b)])
   | none=>none
  | none=>none else none
 | _=>none
def R5(t len:Nat)(parts:List (Nat × PV))(k:PV->Option R):Option R:=
 match C.sh t with
 | .slice e=>
  let a:=(C.ti e).ks.length
  if (C.ti e).ok&&decide (len*a<=16777216)&&decide (len<=16777216) then match Ax (λi=>some (i*a,a)) ((j4 len ((C.ti e).ks.map P3)).flatten) parts with
  | some cells=>match Ge cells with
   | some b=>need (ac8 1 len) (k (.s (.sl false true a (Q7 a len b))))
   | none=>none
  | none=>none else none
 | _=>none
def Bl(t:Nat)(l c:PV)(H:List Blk)(k:PV->List Blk->Option R):Option R:=
 match C.sh t,l,c with
 | .slice e,.s (.int _ n),.s (.int _ m)=>
  if (C.ti e).ok then match Ge ((C.ti e).ks.map P3) with
  | some z=>need (decide (0<=n)&&decide (n<=m)&&I4 m.toNat) (k (.fl H.length) (H++[.arr false e (C.ti e).ks.length (j4 n.toNat z)]))
  | none=>none else none
 | _,_,_=>none
def Kh(e:Bool):List PV->(PV->Option R)->Option R
 | [.s (.int d a),.s (.int c b)],k=>if d=c then k (.s (.int d (cond e (if b > a then b else a) (if b<a then b else a)))) else none
 | _,_=>none
def Bd(t:Nat)(x:PV)(f:Nat)(k:PV->Option R):Option R:=
 match C.sh t with
 | .struct c=>match c[f]?,x with
  | some (o,u),.ptr b i off=>if (C.ti u).ok then k (.ptr b i (off+o)) else none
  | some (o,u),.s (.sp a i off)=>if (C.ti u).ok then k (.s (.sp a i (off+o))) else none
  | _,_=>none
 | _=>none
def Vy(t:Nat)(x:PV)(f:Nat)(k:PV->Option R):Option R:=
 match C.sh t,x with
 | .struct a,.agg cells=>match a[f]? with
  | some (o,u)=>need (okP (C.ti u) cells o) (k (Kw (C.ti u) cells o))
  | none=>none
 | _,_=>none
end ops
structure St (σ:Type) where
 sl:List PV
 hp:List Blk
 s:σ
inductive Out where
 | normal
 | exit (id:Nat)
 | ret
 deriving DecidableEq,Inhabited
def L0(a:Option Nat)(v:PV)(sl:List PV):List PV:=
 match a with
 | some d=>sl.set d v
 | none=>sl
mutual
def PV.nms:PV->List Nat
 | .fl b=>[b]
 | .vw b _ _=>[b]
 | .ptr b _ _=>[b]
 | .it b=>[b]
 | .fnr _ x y=>C6 x++C6 y
 | .agg l=>C6 l
 | .tup l=>C6 l
 | _=>[]
def C6:List PV->List Nat
 | []=>[]
 | v::r=>v.nms++C6 r
end
mutual
def PV.rn(f:Nat->Nat):PV->PV
 | .fl b=>.fl (f b)
 | .vw b i n=>.vw (f b) i n
 | .ptr b i o=>.ptr (f b) i o
 | .it b=>.it (f b)
 | .fnr g x y=>.fnr g (rnL f x) (rnL f y)
 | .agg l=>.agg (rnL f l)
 | .tup l=>.tup (rnL f l)
 | v=>v
def rnL(f:Nat->Nat):List PV->List PV
 | []=>[]
 | v::r=>v.rn f::rnL f r
end
def Blk.nms:Blk->List Nat
 | .box cells=>C6 cells
 | .mp ents=>C6 (ents.map ad6)
 | _=>[]
def Blk.rn(f:Nat->Nat):Blk->Blk
 | .box cells=>.box (rnL f cells)
 | .mp ents=>.mp (HB (PV.rn f) ents)
 | b=>b
def Cr(l:List Nat)(b:Nat):List Nat:=if l.contains b then l else l++[b]
def FH(H:List Blk)(l:List Nat):List Nat:=l.foldl (λa b=>((H.getD b .dead).nms).foldl Cr a) l
def RA(H:List Blk):Nat->List Nat->List Nat
 | 0,l=>l
 | n+1,l=>cond (ad9 (FH H l).length l.length) l (RA H n (FH H l))
def Az(H:List Blk)(l:List Nat):List Nat:=RA H 30 (l.foldl Cr [])
def Cg(H:List Blk)(a:List Nat):Bool:=a.all λb=>((H.getD b .dead).nms).all λc=>a.contains c
mutual
def PV.snap(H:List Blk):PV->PV
 | .nsl=>.s (.sl true true 0 [])
 | .fl b=>match H[b]? with|some (.arr v _ sz els)=>.s (.sl (v&&els.isEmpty) (v&&els.isEmpty) sz els)|_=>.bad
 | .vw b i n=>match H[b]? with|some (.arr v _ sz els)=>.s (.sl (v&&els.isEmpty) (v&&els.isEmpty) sz ((els.drop i).take n))|_=>.bad
 | .agg l=>.agg (O2 H l)
 | v=>v
def O2(H:List Blk):List PV->List PV
 | []=>[]
 | v::r=>v.snap H::O2 H r
end
def PV.snapP(H:List Blk):PV->PV
 | .ptr b 0 off=>match H[b]? with
  | some (.box cells)=>match Ge (O2 H cells) with
   | some vs=>.s (.sp [vs] 0 off)
   | none=>.ptr b 0 off
  | _=>.ptr b 0 off
 | v=>v.snap H
def PV.snapA(H:List Blk):PV->PV
 | .fnr f x y=>match Ge (x.map (PV.snapP H)),Ge (y.map (PV.snapP H)) with
  | some a,some b=>.s (.fn f a b)
  | _,_=>.fnr f x y
 | v=>v.snapP H
def argX(H:List Blk)(args:List PV):List PV:=cond (C6 (O2 H args)).isEmpty (O2 H args) (args.map (PV.snapA H))
mutual
def PV.rows:PV->Bool
 | .fl _=>true
 | .vw _ _ _=>true
 | .agg l=>Ym l
 | _=>false
def Ym:List PV->Bool
 | []=>false
 | v::r=>v.rows||Ym r
end
def Wm(H:List Blk)(args:List PV):Bool:=(C6 (O2 H args)).isEmpty&&!Ym args
mutual
def PV.clean:PV->Bool
 | .s (.sl _ _ _ _)=>false
 | .s (.sp _ _ _)=>false
 | .s (.fn _ _ _)=>false
 | .s _=>true
 | .fnr _ x y=>Hm x&&Hm y
 | .agg l=>Hm l
 | .tup l=>Hm l
 | .yd=>false
 | _=>true
def Hm:List PV->Bool
 | []=>true
 | v::r=>v.clean&&Hm r
end
def SV.plain:SV->Bool
 | .sl _ _ _ _=>false
 | .sp _ _ _=>false
 | .fn _ _ _=>false
 | _=>true
def Blk.clean:Blk->Bool
 | .arr _ _ _ els=>els.all λel=>el.all SV.plain
 | .box cells=>Hm cells
 | .mp ents=>Hm (ents.map ad6)
 | .ms _ ents=>ents.all λe=>e.2.all SV.plain
 | _=>true
def PV.low(H:List Blk)(L:Nat):PV->PV
 | .fl b=>if b<L then .fl b else (PV.fl b).snap H
 | .vw b i n=>if b<L then .vw b i n else (PV.vw b i n).snap H
 | .s v=>.s v
 | .nsl=>.nsl
 | .yd=>.yd
 | .ptr b i o=>if b<L then .ptr b i o else .bad
 | .it b=>if b<L then .it b else .bad
 | v=>if v.nms.all (· < L) then v else .bad
def A71(L:Nat)(H:List Blk):Bool:=H.all λb=>b.nms.all (· < L)
def T2{b:Type}(L:Nat)(a:St b):St b:=
 if A71 L (a.hp.take L) then { sl:=a.sl.map (PV.low a.hp L),hp:=a.hp.take L,s:=a.s } else a
abbrev Yh(a:Type):=List PV->a->Option (Bool × a)
abbrev E3:=∀(a:Type),Yh a->Nat->List PV->List Blk->a->Option (PV × List Blk × a)
def Dl:List Nat->List PV->List PV
 | _,[]=>[]
 | [],_::l=>.bad::Dl [] l
 | 0::g,v::l=>v::Dl g l
 | (n+1)::g,_::l=>.bad::Dl (n::g) l
def Ka{b:Type}(ds:Option (List Nat))(a:St b):St b:=match ds with
 | some g=>{ sl:=Dl g a.sl,hp:=a.hp,s:=a.s }
 | none=>a
def Ap8:List Nat->Nat->Nat
 | [],m=>m
 | b::r,m=>Ap8 r (cond (ac8 m b) (b+1) m)
def Bc5:List Blk->Nat->Nat
 | [],m=>m
 | b::r,m=>Bc5 r (Ap8 b.nms m)
def Bs4{b:Type}(m:Nat)(a:St b):St b:=cond (ac8 (m+1) a.hp.length) (T2 m a) a
def Cs4{b:Type}(L:Nat)(a:St b):St b:=Bs4 (Bc5 a.hp (Ap8 (C6 a.sl) L)) a
def Rv{b:Type}(ds:Option (List Nat))(L:Nat)(a:St b):St b:=match ds with
 | some g=>Cs4 L { sl:=Dl g a.sl,hp:=a.hp,s:=a.s }
 | none=>a
def G1{c R:Type}(L:Nat)(ds:Option (List Nat))(a:St c->(Out->St c->Option R)->Option R):Nat->St c->(Out->St c->Option R)->Option R
 | 0,_,_=>none
 | n+1,st,k=>a st λo b=>match o with
  | .normal=>G1 L ds a n (Ka ds (T2 L b)) k
  | o=>k o (Ka ds b)
def VV:Code->Nat
 | .region id _ _=>id
 | .seq (.label _) b=>VV b
 | .seq a _=>VV a
 | .scope a=>VV a
 | .block _ a=>VV a
 | .loop a=>VV a
 | _=>0
def F7(a:List Nat)(b:Nat):Nat:=a.idxOf b
def Jp(a:List Nat)(L:Nat)(i:Nat):Nat:=if i<a.length then a.getD i 0 else L+(i-a.length)
def S8:List Blk->List Nat->List Blk->List Blk
 | H,b::a,x::xs=>S8 (H.set b x) a xs
 | H,_,_=>H
section calls
variable {L R : Type} (C : Cfg)
def Ci:Blk->Bool
 | .arr _ e _ _=>Cu C e
 | _=>true
def J4(a:List Nat)(sl:List PV):List PV:=a.foldl (λsl b=>U0 b sl) sl
def O9(a:List Nat)(H:List Blk):List Blk:=a.foldl (λH b=>H.map (Blk.kill b)) H
def Ga(H:List Blk)(a:List Nat)(ret:PV)(b:List Blk):PV × List Blk:=
 (ret.rn (Jp a H.length),
  cond ((ret.rn (Jp a H.length)).nms.all (· < H.length)&&A71 H.length ((b.take a.length).map (Blk.rn (Jp a H.length))))
  (S8 H a ((b.take a.length).map (Blk.rn (Jp a H.length))))
  (S8 H a ((b.take a.length).map (Blk.rn (Jp a H.length)))++(b.drop a.length).map (Blk.rn (Jp a H.length))))
def By4(C:Cfg)(g:Nat)(args:List PV):Option ((SV->List (List SV)->Bool × List (List SV)) × Nat × SV):=match C.Z g,args with
 | some a,[.fl b,.s x]=>match x with
  | .nilp=>none
  | x=>some (a,b,x)
 | some a,[.fl b]=>some (a,b,.nilp)
 | _,_=>none
def Rd(j:E3)(n:Yh L)(g:Nat)(args:List PV)(a:St L)(k:PV->St L->Option R):Option R:=
 match C.X g with
 | some f=>
  if (C6 (argX a.hp args)).isEmpty then Dd (cond (C.xp g) (Oa (f (argX a.hp args))) (f (argX a.hp args))) λret d=>
   need (Wm a.hp args||(ret.clean&&d.all Blk.clean)) (k (ret.rn (a.hp.length + ·)) { sl:=a.sl,hp:=a.hp++d.map (Blk.rn (a.hp.length + ·)),s:=a.s })
  else none
 | none=>match By4 C g args with
 | some (f,b,x)=>match a.hp[b]? with
  | some (.arr v e m h)=>need (f x h).1 (k (.tup []) { sl:=a.sl,hp:=a.hp.set b (.arr v e m (f x h).2),s:=a.s })
  | _=>none
 | none=>
  if C.lend g||!Ym args then
   let i:=cond (C.lend g) args (O2 a.hp args);let c:=Az a.hp (C6 i)
   if Cg a.hp c then
    match C.Y g with
    | some f=>Dd (f (rnL (F7 c) i) (c.map λb=>(a.hp.getD b .dead).rn (F7 c))) λret d=>k (Ga (O9 (c.filter λb=>!Ci C (a.hp.getD b .dead)) a.hp) c ret d).1
      { sl:=J4 (c.filter λb=>!Ci C (a.hp.getD b .dead)) a.sl,hp:=(Ga (O9 (c.filter λb=>!Ci C (a.hp.getD b .dead)) a.hp) c ret d).2,s:=a.s }
    | none=>match j L n g (rnL (F7 c) i) (c.map λb=>(a.hp.getD b .dead).rn (F7 c)) a.s with
     | some (ret,d,l)=>k (Ga (O9 (c.filter λb=>!Ci C (a.hp.getD b .dead)) a.hp) c ret d).1
       { sl:=J4 (c.filter λb=>!Ci C (a.hp.getD b .dead)) a.sl,hp:=(Ga (O9 (c.filter λb=>!Ci C (a.hp.getD b .dead)) a.hp) c ret d).2,s:=l }
     | none=>none
   else none
  else if (C6 (O2 a.hp args)).isEmpty then
   match j Unit (λ_ _=>none) g (O2 a.hp args) [] () with
   | some (ret,d,_)=>if ret.clean then need (d.all Blk.clean) (k (ret.rn (a.hp.length + ·)) { sl:=a.sl,hp:=a.hp++d.map (Blk.rn (a.hp.length + ·)),s:=a.s }) else none
   | none=>none
  else none
def Hv:List PV->Bool
 | []=>true
 | .s _::r=>Hv r
 | .agg l::r=>(Ge l).isSome&&Hv r
 | _::_=>false
def ydK(x:Option (Bool × L))(k:Bool->L->Option R):Option R:=match x with
 | some (b,a)=>k b a
 | none=>none
def Xk(d:E3)(c:Yh L)(f:PV)(args:List PV)(a:St L)(k:PV->St L->Option R):Option R:=
 match f with
 | .s (.fn (.func g) first caps)=>Rd C d c g (first.map .s++args++caps.map .s) a k
 | .fnr (.func g) first caps=>Rd C d c g (first++args++caps) a k
 | .yd=>if Hv args then ydK (c args a.s) λb e=>k (.s (.bool b)) { sl:=a.sl,hp:=a.hp,s:=e } else none
 | _=>none
def Mu{b c:Type}(f:b->c):Option b->Option c
 | some a=>some (f a)
 | none=>none
def JA:Sh->Bool
 | .str=>true
 | .slice _=>true
 | _=>false
def Ce(b:Builtin)(e:List Nat)(args:List PV)(a:St L)(k:PV->St L->Option R):Option R:=
 match b,e,args with
 | .len,t::_,[x]=>A67 C x t a.hp λv=>k v a
 | .append,[t,u],[s,x]=>if JA (C.sh u) then Dg C t a.sl s x a.hp λv c H'=>k v { a with sl:=c,hp:=H' } else none
 | .copy,[t,_],[d,x]=>II C t d x a.hp λv H'=>k v { a with hp:=H' }
 | .min,_,args=>Kh false args λv=>k v a
 | .max,_,args=>Kh true args λv=>k v a
 | .clear,[t],[x]=>Vp C t x a.hp λH'=>k (.tup []) { a with hp:=H' }
 | .delete,t::_,[m,x]=>Nt C t m x a.hp λH'=>k (.tup []) { a with hp:=H' }
 | _,_,_=>none
def Vd(e:Nat)(cells:List PV)(H:List Blk)(k:PV->List Blk->Option R):Option R:=
 if (C.ti e).ok then match C.sh e with
 | .array n a=>match Ge cells with
  | some b=>if cells.length=n*(C.ti a).ks.length then k (.ptr H.length 0 0) (H++[.arr false e (C.ti a).ks.length (Q7 (C.ti a).ks.length n b)]) else none
  | none=>none
 | _=>
  k (.ptr (F5 (C.nilT e) cells 0 H).2.length 0 0) ((F5 (C.nilT e) cells 0 H).2++[.box (F5 (C.nilT e) cells 0 H).1])
 else none
def Ak7(x:PV):Bool:=
 match x with
 | .ptr _ _ _=>true
 | .s (.sp _ _ _)=>true
 | .s (.fn (.func _) _ _)=>true
 | .fnr (.func _) _ _=>true
 | _=>false
def Bo3(f:Fn)(x y:List PV):PV:=
 match Ge x,Ge y with
 | some a,some b=>.s (.fn f a b)
 | _,_=>.fnr f x y
def nilT(t:Nat):Nat × Nat:=match C.sh t with
 | .slice e=>(e,(C.ti e).ks.length)
 | _=>(0,0)
def opK(D:E3)(I:Yh L)(o:Oper)(d:St L)(k:St L->Option R):Option R:=
 let ρ:=opnd C d.sl;let h (v:PV):Option R:=k { d with sl:=L0 o.dst v d.sl };let q (v:PV) (H:List Blk):Option R:=k { d with sl:=L0 o.dst v d.sl,hp:=H }
 match o.op with
 | .move x=>h (ρ x)
 | .assign x=>match ρ x with
  | .nsl=>q (.fl d.hp.length) (d.hp++[.arr true (nilT C o.type).1 (nilT C o.type).2 []])
  | v=>h v
 | .pick c a b=>match ρ c with
  | .s (.bool t)=>Cx t λt=>h (cond t (ρ a) (ρ b))
  | _=>none
 | .alloc e=>Vd C e ((C.ti e).ks.map P3) d.hp q
 | .box e x=>if (ρ x).cells.length=(C.ti e).ks.length then Vd C e (ρ x).cells d.hp q else none
 | .build t parts=>Vf C t (parts.toList.map λ(i,x)=>(i,ρ x)) h
 | .buildSlice t len parts=>cond (C.stab t) (R5 C t len (parts.toList.map λ(i,x)=>(i,ρ x)) h) (Z0 C t len (parts.toList.map λ(i,x)=>(i,ρ x)) d.hp q)
 | .load t a=>Ol (C.ti t) (ρ a) d.hp h
 | .store t a x=>Qg (C.nilT (1000000+t)) (C.ti t) (ρ a) (ρ x) d.hp λH=>q (.tup []) H
 | .nilCheck x=>if Ak7 (ρ x) then h (ρ x) else none
 | .binOp op t x y _=>A08 C op t (ρ x) (ρ y) d.hp h
 | .unOp op _ x=>unK op (ρ x) h
 | .convert u r x=>match C.sh r with
  | .slice _=>Vg C u r (ρ x) h
  | _=>IH C u r (ρ x) d.hp h
 | .makeFunc (.func g) x y=>h (Bo3 (.func g) (x.toList.map ρ) (y.toList.map ρ))
 | .makeSlice t l c=>Bl C t (ρ l) (ρ c) d.hp q
 | .slice t x B z A=>match C.sh t,ρ x with
  | .array n e,.ptr b 0 0=>match d.hp[b]? with
   | some (.arr _ _ F w)=>if (C.ti e).ok/\(C.ti e).ks.length=F/\0<n/\n<=65536 then need (decide (w.length=n)) (Ev b n (Mu ρ B) (Mu ρ z) (Mu ρ A) h) else none
   | _=>none
  | _,v=>if A.isSome=true->z.isSome=true then Wv C t v (Mu ρ B) (Mu ρ z) (Mu ρ A) d.hp h else none
 | .fieldAddr t x f=>Bd C t (ρ x) f h
 | .field t x f=>Vy C t (ρ x) f h
 | .indexAddr t x i=>Bg C t (ρ x) (ρ i) d.hp h
 | .index t x i=>Wd C t (ρ x) (ρ i) h
 | .range t x=>match ρ x with
  | .s (.str l)=>match C.sh t with
   | .str=>q (.it d.hp.length) (d.hp++[.iter l 0])
   | _=>none
  | _=>none
 | .next it true=>match ρ it with
  | .it b=>match d.hp[b]? with
   | some (.iter l p)=>Cx (decide (p<l.length)) λt=>
    cond t (let(c,wd):=ae1 ⟨l.toArray⟩ p
     q (.tup [.s (.bool true),.s (.int .i64 p),.s (.int .i32 c)]) (d.hp.set b (.iter l (p+wd)))) (h (.tup [.s (.bool false)]))
   | _=>none
  | _=>none
 | .makeMap t none=>It C t d.hp q
 | .lookup t x i ok=>Ns C t (ρ x) (ρ i) ok d.hp h
 | .mapUpdate t m x v=>Nu C t (ρ m) (ρ x) (ρ v) d.hp λH=>q (.tup []) H
 | .extract t i=>match ρ t with
  | .tup G=>match G[i]? with
   | some v=>h v
   | none=>none
  | _=>none
 | .call c=>match c.callee with
  | .builtin b=>Ce C b c.argTypes.toList (c.args.toList.map ρ) d λv j=>k { j with sl:=L0 o.dst v j.sl }
  | .value f=>Xk C D I (ρ f) (c.args.toList.map ρ) d λv j=>k { j with sl:=L0 o.dst v j.sl }
  | _=>none
 | _=>none
def Bn(e:E3)(f:Yh L)(all:Array Oper):List Oper->St L->(St L->Option R)->Option R
 | [],c,k=>k c
 | o::a,c,k=>match o.guard with
  | none=>opK C e f o c λd=>Bn e f all a d k
  | some (j,h)=>match ((all[j]?).bind (·.dst)) with
   | some g=>match c.sl.getD g (.tup []) with
    | .s (.bool b)=>Cx b λb=>
     if b==h then opK C e f o { c with sl:=c.sl.set g (.s (.bool b)) } λd=>Bn e f all a d k
     else Bn e f all a { c with sl:=L0 o.dst (.tup []) (c.sl.set g (.s (.bool b))) } k
    | .tup []=>Bn e f all a { c with sl:=L0 o.dst (.tup []) c.sl } k
    | _=>none
   | none=>none
def Ix:List PV->List Nat->List PV->List PV
 | sl,t::a,v::b=>Ix (sl.set t v) a b
 | sl,_,_=>sl
end calls
mutual
def PV.yf:PV->Bool
 | .yd=>false
 | .fnr _ x y=>yfL x&&yfL y
 | .agg l=>yfL l
 | .tup l=>yfL l
 | _=>true
def yfL:List PV->Bool
 | []=>true
 | v::r=>v.yf&&yfL r
end
def Blk.yf:Blk->Bool
 | .box cells=>yfL cells
 | .mp ents=>yfL (ents.map ad6)
 | _=>true
def Vx(P:Program)(g:Nat):Bool:=match P.funcs[g]? with
 | some fn=>fn.body.isSome && !(fn.name == "runtime.NumGoroutine")
 | none=>false
def Oc:PV->Option (Nat × List PV × List PV)
 | .s (.fn (.func g) first caps)=>some (g,first.map .s,caps.map .s)
 | .fnr (.func g) first caps=>some (g,first,caps)
 | _=>none
def Bq:Out->Option Out
 | .normal=>none
 | o=>some o
def Z4(C:Cfg):List Blk->Nat->List Nat
 | [],_=>[]
 | b::r,n=>cond (Ci C b) (Z4 C r (n+1)) (n::Z4 C r (n+1))
def K9(a:List Nat)(H:List Blk):List Blk:=S8 (O9 a H) a (j4 a.length .dead)
def Gf:Blk->Blk
 | .box cells=>.box (cells.map λ_=>.bad)
 | .mp a=>.mp (HB (λ_=>.bad) a)
 | b=>b
def UC(C:Cfg)(a:List Nat)(H d c:List Blk):List Blk:=S8 c a (a.map λb=>cond (Ci C (H.getD b .dead)) (Gf (d.getD (F7 a b) .dead)) .dead)
def DU:Blk->Bool | .box _=>true|_=>false
def PK:Blk->Bool | .box _=>true | .mp _=>true|_=>false
def Cj8(C:Cfg):Blk->Bool | .box _=>true | .arr _ e _ _=>Cu C e|_=>false
def Hs{c:Type}(i:Array Tmp)(f:List PV)(d e:St c->(Out->St c->Option (Bool × (List Blk × Option Out × c)))->Option (Bool × (List Blk × Option Out × c))):Yh (List Blk × Option Out × c):=λa x=>match x with
 | (H,none,s)=>if a.length=i.size then
   d { sl:=Ix f i.toList a,hp:=H,s:=s } λo g=>match o with
    | .normal=>e g λh b=>some ((Bq h).isNone,((T2 H.length b).hp,Bq h,b.s))
    | _=>none
  else none
 | _=>none
def Td{g R:Type}(C:Cfg)(j:E3)(f:Nat)(first d:List PV)(a:List Nat)(c:St g)(m:List PV->Yh (List Blk × Option Out × g))(k:Out->St g->Option R):Option R:=
 if Cg c.hp a&&yfL (first++d)&&(a.all λb=>(c.hp.getD b .dead).yf)&&Vx C.P f then
  match j (List Blk × Option Out × g) (m (J4 (a++Z4 C c.hp 0) c.sl)) f (rnL (F7 a) first++.yd::rnL (F7 a) d) (a.map λb=>(c.hp.getD b .dead).rn (F7 a)) (K9 a c.hp,none,c.s) with
  | some (_,i,(h,e,l))=>k (e.getD .normal) { sl:=J4 (a++Z4 C c.hp 0) c.sl,hp:=UC C a c.hp i h,s:=l }
  | none=>none
 else none
def Q6{e R:Type}(g:Array Tmp)(d:List PV)(b c:St e->(Out->St e->Option R)->Option R):List (List PV)->List Blk->e->(Option Out->List Blk->e->Option R)->Option R
 | [],H,s,k=>k none H s
 | x::xs,H,s,k=>if x.length=g.size then
   b { sl:=Ix d g.toList x,hp:=H,s:=s } λo h=>match o with
    | .normal=>c h λf a=>match f with
     | .normal=>Q6 g d b c xs (T2 H.length a).hp a.s k
     | f=>k (some f) (T2 H.length a).hp a.s
    | _=>none
  else none
def rgK{c R:Type}(b:List PV)(d:List Blk->List Blk)(k:Out->St c->Option R):Option Out->List Blk->c->Option R:=λa H s=>k (a.getD .normal) { sl:=b,hp:=d H,s:=s }
def An6{g R:Type}(C:Cfg)(h:List PV->List Blk->Option (Bool × List (List PV)))(f:Nat)(first e:List PV)(a:List Nat)(d:St g)(i:List PV->List (List PV)->List Blk->g->(Option Out->List Blk->g->Option R)->Option R)(k:Out->St g->Option R):Option R:=
 if Cg d.hp a&&yfL (first++e)&&(a.all λb=>(d.hp.getD b .dead).yf)&&Vx C.P f&&(a.all λb=>DU (d.hp.getD b .dead)) then match h (rnL (F7 a) first++.yd::rnL (F7 a) e) (a.map λb=>(d.hp.getD b .dead).rn (F7 a)) with
  | some (c,L)=>need c (i (J4 (a++Z4 C d.hp 0) d.sl) L (K9 a d.hp) d.s (rgK (J4 (a++Z4 C d.hp 0) d.sl) (UC C a d.hp ((a.map λb=>(d.hp.getD b .dead).rn (F7 a)).map Gf)) k))
  | none=>none
 else none
def Qc{a R:Type}(C:Cfg)(c:E3)(g:PV)(b:St a)(h:List PV->Yh (List Blk × Option Out × a))(e:List PV->List (List PV)->List Blk->a->(Option Out->List Blk->a->Option R)->Option R)(k:Out->St a->Option R):Option R:=match Oc g with
 | some (f,first,caps)=>match C.S f with
  | some d=>An6 C d f first caps (Az b.hp (C6 (first++caps))) b e k
  | none=>Td C c f first caps (Az b.hp (C6 (first++caps))) b h k
 | none=>none
def I9(C:Cfg):Op->Bool
 | .move _=>true
 | .assign _=>true
 | .pick _ _ _=>true
 | .build _ _=>true
 | .load _ _=>true
 | .nilCheck _=>true
 | .binOp _ _ _ _ _=>true
 | .unOp _ _ _=>true
 | .convert _ a _=>match C.sh a with | .slice _=>false|_=>true
 | .makeFunc (.func _) _ _=>true
 | .slice _ _ _ _ _=>true
 | .fieldAddr _ _ _=>true
 | .field _ _ _=>true
 | .indexAddr _ _ _=>true
 | .index _ _ _=>true
 | .lookup _ _ _ _=>true
 | .extract _ _=>true
 | .call c=>match c.callee with
  | .builtin .len=>true
  | .builtin .min=>true
  | .builtin .max=>true
  | _=>false
 | _=>false
def Iv(C:Cfg):Op->Bool
 | .call c=>match c.callee with
  | .value (.func g)=>C.xp g&&(C.X g).isSome&&Vx C.P g
  | _=>false
 | _=>false
def Tc(C:Cfg)(op:Op):Bool:=I9 C op||Iv C op
def VH(C:Cfg):Op->Bool
 | .buildSlice _ _ _=>true
 | .alloc _=>true
 | .makeMap _ none=>true
 | .call c=>match c.callee with
  | .value (.func g)=>(C.X g).isSome&&Vx C.P g
  | _=>false
 | _=>false
def Y3(C:Cfg)(op:Op):Nat:=match op with
 | .move _=>0
 | .assign _=>0
 | .pick _ _ _=>0
 | .extract _ _=>0
 | .slice _ _ _ _ _=>0
 | .binOp _ _ _ _ _=>0
 | .fieldAddr _ _ _=>0
 | .indexAddr _ _ _=>0
 | .build _ _=>0
 | .nilCheck _=>0
 | op=>cond (Tc C op) 1 (cond (VH C op) 2 3)
def Cl4(C:Cfg):List Oper->List (Nat × Bool)->Nat->List (Nat × Bool)
 | [],a,_=>a
 | o::r,a,n=>cond (ac8 2 (Y3 C o.op)) (Cl4 C r (a++[(n,true)]) (n+1))
   (Cl4 C r (a++[(o.after.toList.foldl (λm e=>cond (Region.binds .any e) (match a[e.on]? with|some (s,b)=>Nat.max m (cond b (s+1) s)|none=>m) m) 0,false)]) n)
def QX(s:Nat)(b:Bool):List (Nat × Bool)->Nat->List Nat
 | [],_=>[]
 | (t,c)::r,i=>cond (ad9 t s&&(c==b)) (i::QX s b r (i+1)) (QX s b r (i+1))
def Bs0(l:List (Nat × Bool)):Nat->Nat->List Nat
 | 0,_=>[]
 | f+1,s=>QX s false l 0++(QX s true l 0++Bs0 l f (s+1))
def Oq(C:Cfg)(a:List Oper):List Nat:=
 let l:=Cl4 C a [] 0
 Bs0 l ((l.filter (·.2)).length+1) 0
def E2(C:Cfg)(a:Array Oper)(i:Nat):Nat:=match a[i]? with
 | some o=>Y3 C o.op
 | none=>1
inductive Trn where
 | row (v:SV)
 | var (e:Nat)
def XY{R:Type}(C:Cfg)(o:Oper)(sl:List PV)(k:Trn->Option R):Option R:=match o.guard,o.op with
 | none,.alloc e=>match C.sh e with
  | .array _ _=>none
  | _=>need (C.ti e).ok (k (.var e))
 | none,.buildSlice t len parts=>match C.sh t with
  | .slice e=>if (C.ti e).ok&&decide (len*(C.ti e).ks.length<=16777216)&&decide (len<=16777216) then match Ax (λi=>some (i*(C.ti e).ks.length,(C.ti e).ks.length)) ((j4 len ((C.ti e).ks.map P3)).flatten) (parts.toList.map λ(i,x)=>(i,opnd C sl x)) with
   | some cells=>match Ge cells with
    | some a=>k (.row (.sl false true (C.ti e).ks.length (Q7 (C.ti e).ks.length len a)))
    | none=>none
   | none=>none else none
  | _=>none
 | _,_=>none
def Jf{b R:Type}(C:Cfg)(d:Option Nat)(t:Trn)(a:St b)(k:St b->Option R):Option R:=match t with
 | .row v=>k { a with sl:=L0 d (.s v) a.sl }
 | .var e=>Vd C e ((C.ti e).ks.map P3) a.hp λv H=>k { a with hp:=H,sl:=L0 d v a.sl }
def ltK(C:Cfg)(c:Array Oper):List Nat->List Nat × List Nat
 | []=>([],[])
 | i::r=>cond (ac8 (E2 C c i) 1) (let(a,b):=ltK C c r;(i::a,b)) ([],i::r)
def Cm0(i:Nat):List Nat->List Nat × List Nat
 | []=>([],[])
 | j::r=>cond (ad9 j i) ([],r) (let(a,b):=Cm0 i r;(j::a,b))
def R1(C:Cfg)(a:Array Oper):List Nat:=(ltK C a (Oq C a.toList)).1
def Fu(C:Cfg)(a:Array Oper)(i:Nat):List Nat:=(Cm0 i (ltK C a (Oq C a.toList)).2).1
def Bz(C:Cfg)(a:Array Oper)(i:Nat):List Nat:=(Cm0 i (ltK C a (Oq C a.toList)).2).2
def okN:List Nat->Nat->Bool
 | [],_=>false
 | a::r,n=>ad9 n a||okN r n
def Xs(C:Cfg)(d:List Nat × List Nat)(p:Bool)(a H:List Blk)(sl:List PV)(o:Oper):Bool:=match o.op with
 | .load _ x=>match opnd C sl x with
  | .ptr b _ _=>o.guard.isNone&&(Cj8 C (a.getD b .dead)&&(Cj8 C (H.getD b .dead)&&!(okN d.2 b)))
  | .s (.sp _ _ _)=>o.guard.isNone&&p
  | _=>false
 | .store _ x _=>match opnd C sl x with
  | .ptr b 0 _=>o.guard.isNone&&(DU (H.getD b .dead)&&(okN d.2 b||ac8 a.length b))
  | _=>false
 | .call c=>match c.callee with
  | .builtin .append=>o.guard.isNone&&(ad3 a.length).all λb=>okN d.2 b||PK (H.getD b .dead)
  | _=>false
 | _=>false
def Sx{e R:Type}(C:Cfg)(g:E3)(h:Yh e)(all:Array Oper)(c:List Nat × List Nat)(f:List Blk):Bool->List Nat->St e->(St e->Option R)->Option R
 | _,[],b,k=>k b
 | p,i::a,b,k=>need (match all[i]? with|some o=>!(okN c.1 i)||Xs C c p f b.hp b.sl o|none=>false) (Bn C g h all ([i].filterMap (all[·]?)) b λd=>Sx C g h all c f (p&&ac8 (E2 C all i) 1) a d k)
def Db{a R:Type}(C:Cfg)(b:E3)(d:Yh a)(all:Array Oper)(g:Option (List Nat × List Nat))(e:List Blk)(p:Bool)(l:List Nat)(c:St a)(k:St a->Option R):Option R:=match g with
 | none=>Bn C b d all (l.filterMap (all[·]?)) c k
 | some f=>Sx C b d all f e p l c k
def Ky{e R:Type}(C:Cfg)(g:E3)(j:Yh e)(all:Array Oper)(h:Option (List Nat × List Nat))(f:List Blk)(d:Option Nat):List Nat->St e->(St e->Option R)->Option R
 | [],c,k=>k c
 | i::a,c,k=>Db C g j all h f false [i] c λb=>Ky C g j all h f d a { b with sl:=L0 d .bad b.sl } k
def lkT:List (Nat × Option Nat × Trn)->Nat->Option (Option Nat × Trn)
 | [],_=>none
 | e::r,i=>cond (ad9 i e.1) (some e.2) (lkT r i)
def Mp(a:List (Nat × Option Nat × Trn))(seq:List Nat)(sl:List PV):List PV:=match a with
 | []=>sl
 | e::r=>cond (okN seq e.1) (L0 e.2.1 .bad (Mp r seq sl)) (Mp r seq sl)
def Oo{l R:Type}(C:Cfg)(g:E3)(j:Yh l)(all:Array Oper)(h:Option (List Nat × List Nat))(f:List Blk)(e:List (Nat × Option Nat × Trn)):List Nat->St l->(St l->Option R)->Option R
 | [],c,k=>k c
 | i::a,c,k=>match lkT e i with
  | some (d,t)=>Jf C d t c λb=>Oo C g j all h f e a b k
  | none=>Db C g j all h f false [i] c λb=>Oo C g j all h f e a { b with sl:=Mp e a b.sl } k
def Yu{R:Type}(C:Cfg)(a:Array Oper)(sl:List PV):List Nat->(List (Nat × Option Nat × Trn)->Option R)->Option R
 | [],k=>k []
 | f::r,k=>match a[f]? with
  | some o=>XY C o sl λt=>Yu C a sl r λb=>k ((f,o.dst,t)::b)
  | none=>none
def O0(C:Cfg)(a:Array Oper):List Nat:=(ltK C a (Oq C a.toList)).2
def WL(C:Cfg)(a b:Oper):Bool:=match a.guard,b.guard,a.op,b.op with
 | none,none,.buildSlice t _ _,.convert s d (.tmp x)=>ad9 s t&&(ad9 d t&&(a.dst==some x&&match C.sh t with
  | .slice e=>match C.sh e with
   | .int .u8=>true
   | _=>false
  | _=>false))
 | _,_,_,_=>false
def A69{R:Type}(C:Cfg)(a b:Oper)(sl:List PV)(k:PV->Option R):Option R:=match a.op,b.op with
 | .buildSlice t len parts,.convert _ _ (.tmp x)=>need (ac8 (x+1) sl.length) (R5 C t len (parts.toList.map λ(i,y)=>(i,opnd C sl y)) k)
 | _,_=>none
def An7{h R:Type}(C:Cfg)(f:E3)(g:Yh h)(b:Array Oper)(c:St h)(k:St h->Option R):List Oper->Option R
 | d::e::a=>cond (WL C d e) (A69 C d e c.sl λv=>Bn C f g b a { c with sl:=L0 e.dst v (L0 d.dst .bad c.sl) } k) (Bn C f g b (d::e::a) c k)
 | l=>Bn C f g b l c k
def An8{j R:Type}(C:Cfg)(e:E3)(f:Yh j)(id:Nat)(a:Array Oper)(d:Bool)(c:St j)(k:St j->Option R):Option R:=match C.rowR id with
 | none=>match d with
  | true=>match C.rowsR id with
   | none=>Db C e f a (C.farR id) c.hp true (Oq C a.toList) c k
   | some fl=>Db C e f a (C.farR id) c.hp true (R1 C a) c λb=>Yu C a b.sl fl λl=>
     Oo C e f a (C.farR id) c.hp l (O0 C a) { b with sl:=Mp l (O0 C a) b.sl } k
  | false=>An7 C e f a c k a.toList
 | some i=>match d,a[i]? with
  | true,some o=>Db C e f a (C.farR id) c.hp true (R1 C a) c λb=>XY C o b.sl λt=>
    Ky C e f a (C.farR id) c.hp o.dst (Fu C a i) { b with sl:=L0 o.dst .bad b.sl } λg=>Jf C o.dst t g λh=>
     Db C e f a (C.farR id) c.hp false (Bz C a i) h k
  | _,_=>none
def A7(C:Cfg)(h:E3){p:Type}(i:Yh p):Code->{R:Type}->St p->(Out->St p->Option R)->Option R
 | .skip,_,e,k=>k .normal e
 | .label _,_,e,k=>k .normal e
 | .region id n d,_,e,k=>An8 C h i id n d e λf=>k .normal (Rv (C.keepR id) e.hp.length f)
 | .seq a b,_,e,k=>A7 C h i a e λo f=>match o with
  | .normal=>A7 C h i b f k
  | o=>k o f
 | .cond c a b,_,e,k=>match opnd C e.sl c with
  | .s (.bool t)=>Cx t λt=>cond t (A7 C h i a e k) (A7 C h i b e k)
  | _=>none
 | .block id a,_,e,k=>A7 C h i a e λo f=>match o with
  | .exit j=>if j=id then k .normal f else k (.exit j) f
  | o=>k o f
 | .loop a,_,e,k=>G1 e.hp.length (C.keep (VV a)) (λe k=>A7 C h i a e k) C.lf (Ka (C.keep (VV a)) e) k
 | .scope a,_,e,k=>A7 C h i a e k
 | .exit id,_,e,k=>k (.exit id) (Ka (C.keepE id) e)
 | .ret,_,e,k=>k .ret (Ka C.keepT e)
 | .rangeFunc g r q l,_,e,k=>Qc C h (opnd C e.sl g) e (λm=>Hs r m (λe k=>A7 C h i q e k) (λe k=>A7 C h i l e k)) (λm=>Q6 r m (λe k=>A7 C h i q e k) (λe k=>A7 C h i l e k)) k
 | _,_,_,_=>none
def Zj{R:Type}(C:Cfg)(sl:List PV)(H:List Blk):List ResultVar->(List PV->Option R)->Option R
 | [],k=>k []
 | .tmp t::r,k=>Zj C sl H r λb=>k (sl.getD t (.tup [])::b)
 | .cell a t::r,k=>Ol (C.ti t) (sl.getD a (.tup [])) H λv=>Zj C sl H r λb=>k (v::b)
def Aj:List PV->PV
 | [v]=>v
 | a=>.tup a
def evC(C:Cfg):Nat->E3
 | 0=>λ_ _ _ _ _ _=>none
 | d+1=>λ_ e f args H s=>
  match C.okf f,C.P.funcs[f]? with
  | true,some fn=>match fn.body with
   | some c=>A7 C (evC C d) e c { sl:=args++j4 (fn.ntmps-args.length) (.tup []),hp:=H,s:=s } λo a=>match o with
    | .normal=>Zj C a.sl a.hp fn.results.toList λb=>some (Aj b,a.hp,a.s)
    | .ret=>Zj C a.sl a.hp fn.results.toList λb=>some (Aj b,a.hp,a.s)
    | _=>none
   | none=>none
  | _,_=>none
structure Ctx where
 St:Nat->Prop
 nm:Nat->Option Nat
 yv:Value
 yv1:yv.oneCell'=true
inductive Shp where
 | arr (v:Bool) (e sz n:Nat)
 | box
 | iter
 | mp
 | dead
def Blk.shp:Blk->Shp
 | .arr v e sz els=>.arr v e sz els.length
 | .box _=>.box
 | .iter _ _=>.iter
 | .mp _=>.mp
 | .ms _ _=>.mp
 | .dead=>.dead
def A1(H:List Blk)(b:Nat):Option Shp:=(H[b]?).map Blk.shp
inductive VS (St:Nat->Prop) (w:World):SV->Value->Prop
 | bool (b:Bool):VS St w (.bool b) (.bool b)
 | int (k:IntKind) (n:Int):VS St w (.int k n) (.int k n)
 | str (s:ByteArray):VS St w (.str s.data.toList) (.string s)
 | nilp:VS St w .nilp (.pointer none)
 | nilm:VS St w .nilm (.map none)
 | nilf:VS St w .nilf .nilFunc
 | nil (t:Bool) (k:Nat):VS St w (.sl true t k []) (.slice none 0 0)
 | emp (t:Bool) (k:Nat) (a:Addr) (cap:Nat) (ht:t=true->cap=0) (hm:cap<=maxLen):VS St w (.sl false t k []) (.slice (some a) 0 cap)
 | sl (t:Bool) (els:List (List SV)) (g off n cap sz:Nat) (Vs:Nat->Nat->Value) (hn:n=els.length) (hcap:n<=cap) (hm:cap<=maxLen) (ht:t=true->cap=n) (hg:St g)
   (hl:∀i (h:i<els.length),(els[i]).length=sz)
   (hc:∀i (h:i<els.length) j (h':j<(els[i]).length),w.cell? ⟨g,off+i*sz+j,none⟩=some (Vs i j))
   (hv:∀i (h:i<els.length) j (h':j<(els[i]).length),VS St w (els[i][j]) (Vs i j)) :
   VS St w (.sl false t sz els) (.slice (some ⟨g,off,none⟩) n cap)
 | sp (els:List (List SV)) (i o:Nat) (g off sz:Nat) (Vs:Nat->Nat->Value) (hg:St g)
   (hl:∀i (h:i<els.length),(els[i]).length=sz)
   (hc:∀i (h:i<els.length) j (h':j<(els[i]).length),w.cell? ⟨g,off+i*sz+j,none⟩=some (Vs i j))
   (hv:∀i (h:i<els.length) j (h':j<(els[i]).length),VS St w (els[i][j]) (Vs i j)) :
   VS St w (.sp els i o) (.pointer (some ⟨g,off+i*sz+o,none⟩))
 | fn (f:Fn) (x y:List SV) (A B:Array Value) (As Bs:Nat->Value) (hf:∀l,f≠.yield l) (hA:A.size=x.length) (hB:B.size=y.length)
   (ha:∀j,j<x.length->A[j]? = some (As j)) (hb:∀j,j<y.length->B[j]? = some (Bs j))
   (hx:∀j (h:j<x.length),VS St w (x[j]) (As j)) (hy:∀j (h:j<y.length),VS St w (y[j]) (Bs j)) :
   VS St w (.fn f x y) (.func f A B)
theorem VS.mono{St St':Nat->Prop}{w w':World}(hs:∀g,St g->w'.heap[g]? = w.heap[g]?)(hsub:∀g,St g->St' g){s:SV}{V:Value}(h:VS St w s V):VS St' w' s V:=by
 have hcell:∀g o,St g->w'.cell? ⟨g,o,none⟩=w.cell? ⟨g,o,none⟩:=λg o hg=>by simp[ac0,hs g hg]
 induction h with
 | bool b=>exact .bool b
 | int k n=>exact .int k n
 | str s=>exact .str s
 | nilp=>exact .nilp
 | nilm=>exact .nilm
 | nilf=>exact .nilf
 | nil t k=>exact .nil t k
 | emp t k a cap ht hm=>exact .emp t k a cap ht hm
 | sl t els g off n cap sz Vs hn hcap hm ht hg hl hc hv ih=>
  exact .sl t els g off n cap sz Vs hn hcap hm ht (hsub g hg) hl (λi h j h'=>by rw[hcell g _ hg];exact hc i h j h') ih
 | sp els i o g off sz Vs hg hl hc hv ih=>
  exact .sp els i o g off sz Vs (hsub g hg) hl (λi h j h'=>by rw[hcell g _ hg];exact hc i h j h') ih
 | fn f x y A B As Bs hf hA hB ha hb hx hy ihx ihy=>exact .fn f x y A B As Bs hf hA hB ha hb ihx ihy
inductive VP (Γ:Ctx) (sh:Nat->Option Shp) (w:World):PV->Value->Prop
 | s (v:SV) (V:Value) (h:VS Γ.St w v V):VP Γ sh w (.s v) V
 | nsl:VP Γ sh w .nsl (.slice none 0 0)
 | flv (b e sz:Nat) (h:sh b=some (.arr true e sz 0)):VP Γ sh w (.fl b) (.slice none 0 0)
 | fl (b g:Nat) (v:Bool) (e sz n cap:Nat) (h:sh b=some (.arr v e sz n)) (hv:v=true->n≠0) (hg:Γ.nm b=some g) (hcap:n<=cap) (hm:cap<=maxLen)
   (hs:w.shape? g=some (e,cap*sz)):VP Γ sh w (.fl b) (.slice (some ⟨g,0,none⟩) n cap)
 | vwv (b e sz i:Nat) (h:sh b=some (.arr true e sz 0)):VP Γ sh w (.vw b i 0) (.slice none 0 0)
 | vw (b i n g:Nat) (a:Addr) (cap:Nat) (v:Bool) (e sz m:Nat) (h:sh b=some (.arr v e sz m)) (hv:v=true->m≠0) (hg:Γ.nm b=some g)
   (ha:n≠0->a=⟨g,i*sz,none⟩) (hi:i+n<=m) (hcap:n<=cap) (hm:cap<=maxLen):VP Γ sh w (.vw b i n) (.slice (some a) n cap)
 | ptrA (b i off g:Nat) (v:Bool) (e sz n:Nat) (h:sh b=some (.arr v e sz n)) (hg:Γ.nm b=some g):VP Γ sh w (.ptr b i off) (.pointer (some ⟨g,i*sz+off,none⟩))
 | ptrB (b off g:Nat) (h:sh b=some .box) (hg:Γ.nm b=some g):VP Γ sh w (.ptr b 0 off) (.pointer (some ⟨g,off,none⟩))
 | fnr (f:Fn) (x y:List PV) (A B:Array Value) (As Bs:Nat->Value) (hf:∀l,f≠.yield l) (hA:A.size=x.length) (hB:B.size=y.length)
   (ha:∀j,j<x.length->A[j]? = some (As j)) (hb:∀j,j<y.length->B[j]? = some (Bs j))
   (hx:∀j (h:j<x.length),VP Γ sh w (x[j]) (As j)) (hy:∀j (h:j<y.length),VP Γ sh w (y[j]) (Bs j)) :
   VP Γ sh w (.fnr f x y) (.func f A B)
 | it (b g:Nat) (h:sh b=some .iter) (hg:Γ.nm b=some g):VP Γ sh w (.it b) (.pointer (some ⟨g,0,none⟩))
 | mpv (b g:Nat) (h:sh b=some .mp) (hg:Γ.nm b=some g):VP Γ sh w (.it b) (.map (some g))
 | yd:VP Γ sh w .yd Γ.yv
 | agg (l:List PV) (A:Array Value) (As:Nat->Value) (hA:A.size=l.length) (ha:∀j,j<l.length->A[j]? = some (As j)) (hl:∀j (h:j<l.length),VP Γ sh w (l[j]) (As j)) :
   VP Γ sh w (.agg l) (.agg A)
 | tup (l:List PV) (A:Array Value) (As:Nat->Value) (hA:A.size=l.length) (ha:∀j,j<l.length->A[j]? = some (As j)) (hl:∀j (h:j<l.length),VP Γ sh w (l[j]) (As j)) :
   VP Γ sh w (.tup l) (.tuple A)
 | bad (V:Value):VP Γ sh w .bad V
theorem C4{l:List PV}{b:Nat}:b∈C6 l↔∃j,∃h:j<l.length,b∈(l[j]).nms:=by
 induction l with
 | nil=>simp[C6]
 | cons v r a=>
  simp only[C6,o5,a];constructor
  ·rintro(h|⟨j,hj,h⟩)
   ·exact⟨0,by simp,by simpa using h⟩
   ·exact⟨j+1,by simpa using hj,by simpa using h⟩
  grind
structure V8 (Γ:Ctx) (sh:Nat->Option Shp) (w:World) (Γ':Ctx) (sh':Nat->Option Shp) (w':World) (ok:Nat->Prop):Prop where
 st:∀g,Γ.St g->w'.heap[g]? = w.heap[g]?
 sub:∀g,Γ.St g->Γ'.St g
 nm:∀b,ok b->Γ'.nm b=Γ.nm b
 shp:∀b,ok b->sh' b=sh b
 hs:∀b g,ok b->Γ.nm b=some g->w'.shape? g=w.shape? g
 yv:Γ'.yv=Γ.yv
theorem VP.mono{Γ Γ':Ctx}{sh sh':Nat->Option Shp}{w w':World}{ok:Nat->Prop}(M:V8 Γ sh w Γ' sh' w' ok){v:PV}{V:Value}(h:VP Γ sh w v V) :
  (∀b∈v.nms,ok b)->VP Γ' sh' w' v V:=by
 induction h with
 | s v V h=>intro _;exact .s v V (h.mono M.st M.sub)
 | nsl=>intro _;exact .nsl
 | flv b e sz h=>intro hok;exact .flv b e sz (by rw[M.shp b (hok b (by simp[PV.nms]))];exact h)
 | fl b g v e sz n cap h hv hg hcap hm hs=>
  intro hok;have o:=hok b (by simp[PV.nms]);exact .fl b g v e sz n cap (by rw[M.shp b o];exact h) hv (by rw[M.nm b o];exact hg) hcap hm (by rw[M.hs b g o hg];exact hs)
 | vwv b e sz i h=>intro hok;exact .vwv b e sz i (by rw[M.shp b (hok b (by simp[PV.nms]))];exact h)
 | vw b i n g a cap v e sz m h hv hg ha hi hcap hm=>
  intro hok;have o:=hok b (by simp[PV.nms]);exact .vw b i n g a cap v e sz m (by rw[M.shp b o];exact h) hv (by rw[M.nm b o];exact hg) ha hi hcap hm
 | ptrA b i off g v e sz n h hg=>
  intro hok;have o:=hok b (by simp[PV.nms]);exact .ptrA b i off g v e sz n (by rw[M.shp b o];exact h) (by rw[M.nm b o];exact hg)
 | ptrB b off g h hg=>
  intro hok;have o:=hok b (by simp[PV.nms]);exact .ptrB b off g (by rw[M.shp b o];exact h) (by rw[M.nm b o];exact hg)
 | fnr f x y A B As Bs hf hA hB ha hb hx hy ihx ihy=>
  intro hok;exact .fnr f x y A B As Bs hf hA hB ha hb
   (λj h=>ihx j h λb hb=>hok b (by simp only[PV.nms,o5];exact .inl (C4.2 ⟨j,h,hb⟩)))
   (λj h=>ihy j h λb hb=>hok b (by simp only[PV.nms,o5];exact .inr (C4.2 ⟨j,h,hb⟩)))
 | it b g h hg=>
  intro hok;have o:=hok b (by simp[PV.nms]);exact .it b g (by rw[M.shp b o];exact h) (by rw[M.nm b o];exact hg)
 | mpv b g h hg=>
  intro hok;have o:=hok b (by simp[PV.nms]);exact .mpv b g (by rw[M.shp b o];exact h) (by rw[M.nm b o];exact hg)
 | yd=>intro _;rw[<-M.yv];exact .yd
 | agg l A As hA ha hl ih=>intro hok;exact .agg l A As hA ha λj h=>ih j h λb hb=>hok b (by simp only[PV.nms];exact C4.2 ⟨j,h,hb⟩)
 | tup l A As hA ha hl ih=>intro hok;exact .tup l A As hA ha λj h=>ih j h λb hb=>hok b (by simp only[PV.nms];exact C4.2 ⟨j,h,hb⟩)
 | bad V=>intro _;exact .bad V
theorem Ag(b:Nat)(l:List PV):U0 b l=l.map (PV.kill b):=by
 induction l with
 | nil=>rfl
 | cons v r a=>simp[U0,a]
theorem VP.kill{Γ:Ctx}{sh:Nat->Option Shp}{w:World}(c:Nat){v:PV}{V:Value}(h:VP Γ sh w v V):VP Γ sh w (v.kill c) V:=by
 induction h with
 | s v V h=>exact .s v V h
 | nsl=>exact .nsl
 | flv b e sz h=>unfold PV.kill;split;exact .bad _;exact .flv b e sz h
 | fl b g v e sz n cap h hv hg hcap hm hs=>unfold PV.kill;split;exact .bad _;exact .fl b g v e sz n cap h hv hg hcap hm hs
 | vwv b e sz i h=>unfold PV.kill;split;exact .bad _;exact .vwv b e sz i h
 | vw b i n g a cap v e sz m h hv hg ha hi hcap hm=>unfold PV.kill;split;exact .bad _;exact .vw b i n g a cap v e sz m h hv hg ha hi hcap hm
 | ptrA b i off g v e sz n h hg=>unfold PV.kill;split;exact .bad _;exact .ptrA b i off g v e sz n h hg
 | ptrB b off g h hg=>unfold PV.kill;split;exact .bad _;exact .ptrB b off g h hg
 | fnr f x y A B As Bs hf hA hB ha hb hx hy ihx ihy=>
  simp only[PV.kill,Ag];exact .fnr f _ _ A B As Bs hf (by simpa using hA) (by simpa using hB) (λj h=>ha j (by simpa using h)) (λj h=>hb j (by simpa using h))
   (λj h=>by simpa using ihx j (by simpa using h)) (λj h=>by simpa using ihy j (by simpa using h))
 | it b g h hg=>unfold PV.kill;split;exact .bad _;exact .it b g h hg
 | mpv b g h hg=>unfold PV.kill;split;exact .bad _;exact .mpv b g h hg
 | yd=>exact .yd
 | agg l A As hA ha hl ih=>
  simp only[PV.kill,Ag];exact .agg _ A As (by simpa using hA) (λj h=>ha j (by simpa using h)) (λj h=>by simpa using ih j (by simpa using h))
 | tup l A As hA ha hl ih=>
  simp only[PV.kill,Ag];exact .tup _ A As (by simpa using hA) (λj h=>ha j (by simpa using h)) (λj h=>by simpa using ih j (by simpa using h))
 | bad V=>exact .bad V
mutual
theorem PV.not_mem_kill(c:Nat):∀v:PV,c∉(v.kill c).nms
 | .s _=>by simp[PV.kill,PV.nms]
 | .nsl=>by simp[PV.kill,PV.nms]
 | .fl b=>by unfold PV.kill;split<;>simp_all [PV.nms,eq_comm]
 | .vw b _ _=>by unfold PV.kill;split<;>simp_all [PV.nms,eq_comm]
 | .ptr b _ _=>by unfold PV.kill;split<;>simp_all [PV.nms,eq_comm]
 | .fnr _ x y=>by simp only[PV.kill,PV.nms,o5,not_or];exact⟨Q1 c x,Q1 c y⟩
 | .it b=>by unfold PV.kill;split<;>simp_all [PV.nms,eq_comm]
 | .yd=>by simp[PV.kill,PV.nms]
 | .agg l=>by simp only[PV.kill,PV.nms];exact Q1 c l
 | .tup l=>by simp only[PV.kill,PV.nms];exact Q1 c l
 | .bad=>by simp[PV.kill,PV.nms]
theorem Q1(c:Nat):∀l:List PV,c∉C6 (U0 c l)
 | []=>by simp[U0,C6]
 | v::r=>by simp only[U0,C6,o5,not_or];exact⟨PV.not_mem_kill c v,Q1 c r⟩
end
mutual
theorem PV.kill_nms(c:Nat):∀(v:PV) b,b∈(v.kill c).nms->b∈v.nms
 | .s _,b=>by simp[PV.kill,PV.nms]
 | .nsl,b=>by simp[PV.kill,PV.nms]
 | .fl a,b=>by unfold PV.kill;split<;>simp_all [PV.nms]
 | .vw a _ _,b=>by unfold PV.kill;split<;>simp_all [PV.nms]
 | .ptr a _ _,b=>by unfold PV.kill;split<;>simp_all [PV.nms]
 | .fnr _ x y,b=>by
  simp only[PV.kill,PV.nms,o5];rintro(h|h)
  ·exact .inl (Z3 c x b h)
  ·exact .inr (Z3 c y b h)
 | .it a,b=>by unfold PV.kill;split<;>simp_all [PV.nms]
 | .yd,b=>by simp[PV.kill,PV.nms]
 | .agg l,b=>by simp only[PV.kill,PV.nms];exact Z3 c l b
 | .tup l,b=>by simp only[PV.kill,PV.nms];exact Z3 c l b
 | .bad,b=>by simp[PV.kill,PV.nms]
theorem Z3(c:Nat):∀(l:List PV) b,b∈C6 (U0 c l)->b∈C6 l
 | [],b=>by simp[U0,C6]
 | v::r,b=>by
  simp only[U0,C6,o5];rintro(h|h)
  ·exact .inl (PV.kill_nms c v b h)
  ·exact .inr (Z3 c r b h)
end
def MR(a:Ctx)(sh:Nat->Option Shp)(w:World):List (List UInt8 × PV)->List MapEntry->Prop
 | [],[]=>True
 | e::r,E::q=>((∃s:ByteArray,E.key = .string s/\s.data.toList=e.1)/\VP a sh w e.2 E.val)/\MR a sh w r q
 | _,_=>False
theorem MR.map{Γ Γ':Ctx}{sh sh':Nat->Option Shp}{w w':World}{f:PV->PV}:∀{l:List (List UInt8 × PV)} {es:List MapEntry},MR Γ sh w l es->(∀v∈l.map ad6,∀V,VP Γ sh w v V->VP Γ' sh' w' (f v) V)->MR Γ' sh' w' (HB f l) es
 | [],[],_,_=>trivial
 | e::r,E::q,h,hf=>⟨⟨h.1.1,hf _ (by simp) _ h.1.2⟩,h.2.map λv hv V=>hf v (by simp only[List.map_cons,ag3];exact .inr hv) V⟩
 | [],_::_,h,_=>h.elim
 | _::_,[],h,_=>h.elim
theorem MR.len{Γ:Ctx}{sh:Nat->Option Shp}{w:World}:∀{l:List (List UInt8 × PV)} {es:List MapEntry},MR Γ sh w l es->es.length=l.length
 | [],[],_=>rfl
 | e::r,E::q,h=>by rw[ae5,ae5,h.2.len]
 | [],_::_,h=>h.elim
 | _::_,[],h=>h.elim
theorem MR.imp{Γ Γ':Ctx}{sh sh':Nat->Option Shp}{w w':World}{l:List (List UInt8 × PV)}{es:List MapEntry}(h:MR Γ sh w l es)(hf:∀v∈l.map ad6,∀V,VP Γ sh w v V->VP Γ' sh' w' v V):MR Γ' sh' w' l es:=by have:=h.map (f:=id) hf;simpa[HB] using this
theorem B76(l:List SV):C6 (l.map PV.s)=[]:=by induction l with
 | nil=>rfl
 | cons a l b=>simp[C6,PV.nms,b]
theorem RU(a:Bool)(l:List SV):(svV a l).nms=[]:=by
 cases a with
 | true=>simp only[svV,cond_true,PV.nms,B76]
 | false=>simp only[svV,cond_false];split<;>rfl
theorem Zu{a:Bool}{b:List (List UInt8 × List SV)}{v:PV}(h:v∈(msP a b).map ad6):∃e∈b,v=svV a e.2:=by simp only[msP,af1,af2,af8] at h;obtain⟨e,c,rfl⟩:=h;exact⟨e,c,rfl⟩
theorem B74{a:Bool}{b:List (List UInt8 × List SV)}{v:PV}(h:v∈(msP a b).map ad6):v.nms=[]:=by obtain⟨e,_,rfl⟩:=Zu h;exact RU a _
theorem MR.vals{Γ:Ctx}{sh:Nat->Option Shp}{w:World}:∀{l:List (List UInt8 × PV)} {es:List MapEntry},MR Γ sh w l es->∀v∈l.map ad6,∀{p:Prop},(∀V,VP Γ sh w v V->p)->p
 | e::r,E::q,h,v,hv,p,hf=>by
  rcases ag3.1 hv with rfl|hv
  ·exact hf _ h.1.2
  ·exact h.2.vals v hv hf
 | [],_,_,v,hv,_,_=>by simp at hv
 | _::_,[],h,_,_,_,_=>h.elim
theorem Wi{l:List PV}{v:PV}(h:v∈l):∀c∈v.nms,c∈C6 l:=λc a=>by
 obtain⟨j,b,rfl⟩:=ac5 h;exact C4.2 ⟨j,b,a⟩
def BR(Γ:Ctx)(sh:Nat->Option Shp)(w:World)(b:Nat):Blk->Prop
 | .arr v e k c=>(v=true/\c=[])\/(¬(v=true/\c=[])/\∃g cur,Γ.nm b=some g/\w.heap[g]? = some (.cells cur e (0,0))/\c.length*k<=cur.size/\
   (∀i (h:i<c.length),(c[i]).length=k)/\∀i (h:i<c.length) j (m:j<(c[i]).length),∃V,cur[i*k+j]? = some V/\VS Γ.St w (c[i][j]) V)
 | .box cells=>∃g cur e,Γ.nm b=some g/\w.heap[g]? = some (.cells cur e (0,0))/\cur.size=cells.length/\∀j (h:j<cells.length),∃V,cur[j]? = some V/\VP Γ sh w (cells[j]) V
 | .iter s p=>∃g l,Γ.nm b=some g/\w.heap[g]? = some (.stringIter l p)/\l.data.toList=s
 | .mp d=>∃g f clock,Γ.nm b=some g/\w.heap[g]? = some (.map f clock)/\MR Γ sh w d f.toList
 | .ms a d=>∃g f clock,Γ.nm b=some g/\w.heap[g]? = some (.map f clock)/\MR Γ sh w (msP a d) f.toList
 | .dead=>True
structure HR (Γ:Ctx) (H:List Blk) (w:World):Prop where
 inj:∀b b' g,Γ.nm b=some g->Γ.nm b'=some g->b=b'
 lt:∀b g,Γ.nm b=some g->b<H.length/\g<w.heap.size/\¬ Γ.St g
 stlt:∀g,Γ.St g->g<w.heap.size
 nms:∀b (h:b<H.length),∀c∈(H[b]).nms,c<H.length
 blk:∀b (h:b<H.length),BR Γ (A1 H) w b (H[b])
structure SR (Γ:Ctx) (H:List Blk) (w:World) (sl:List PV) (tmps:Array Value):Prop where
 size:tmps.size=sl.length
 nms:∀c∈C6 sl,c<H.length
 slot:∀i (h:i<sl.length),∃V,tmps[i]? = some V/\VP Γ (A1 H) w (sl[i]) V
theorem BR.mono{Γ Γ':Ctx}{sh sh':Nat->Option Shp}{w w':World}{ok:Nat->Prop}(M:V8 Γ sh w Γ' sh' w' ok){b:Nat}{x:Blk}
  (h:BR Γ sh w b x) (hnm:Γ'.nm b=Γ.nm b) (hheap:∀g,Γ.nm b=some g->w'.heap[g]? = w.heap[g]?) (hok:∀c∈x.nms,ok c):BR Γ' sh' w' b x:=by
 cases x with
 | arr v e sz els=>
  rcases h with h|⟨hn,g,cur,h1,h2,h3,h4,h5⟩
  ·exact .inl h
  ·refine .inr ⟨hn,g,cur,by rw[hnm];exact h1,by rw[hheap g h1];exact h2,h3,h4,λi h j h'=>?_⟩;obtain⟨V,e1,e2⟩:=h5 i h j h';exact⟨V,e1,e2.mono M.st M.sub⟩
 | box cells=>
  obtain⟨g,cur,e,h1,h2,h3,h4⟩:=h;refine⟨g,cur,e,by rw[hnm];exact h1,by rw[hheap g h1];exact h2,h3,λj h=>?_⟩;obtain⟨V,e1,e2⟩:=h4 j h;exact⟨V,e1,e2.mono M λc hc=>hok c (by simp only[Blk.nms];exact C4.2 ⟨j,h,hc⟩)⟩
 | iter s p=>
  obtain⟨g,s',h1,h2,h3⟩:=h;exact⟨g,s',by rw[hnm];exact h1,by rw[hheap g h1];exact h2,h3⟩
 | mp ents=>
  obtain⟨g,es,ck,h1,h2,h3⟩:=h;exact⟨g,es,ck,by rw[hnm];exact h1,by rw[hheap g h1];exact h2,h3.imp λv hv V k=>k.mono M λc hc=>hok c (Wi hv c hc)⟩
 | ms a ents=>
  obtain⟨g,es,ck,h1,h2,h3⟩:=h;exact⟨g,es,ck,by rw[hnm];exact h1,by rw[hheap g h1];exact h2,h3.imp λv hv V k=>k.mono M λc hc=>by rw[B74 hv] at hc;simp at hc⟩
 | dead=>trivial
theorem SR.mono{Γ Γ':Ctx}{H H':List Blk}{w w':World}{ok:Nat->Prop}{sl:List PV}{tmps:Array Value}(M:V8 Γ (A1 H) w Γ' (A1 H') w' ok)
  (h:SR Γ H w sl tmps) (hok:∀c∈C6 sl,ok c/\c<H'.length):SR Γ' H' w' sl tmps:=by
 refine⟨h.size,λc hc=>(hok c hc).2,λi hi=>?_⟩;obtain⟨V,e1,e2⟩:=h.slot i hi;exact⟨V,e1,e2.mono M λc hc=>(hok c (C4.2 ⟨i,hi,hc⟩)).1⟩
def Ext(w w':World):Prop:=∀g,g<w.heap.size->w'.heap[g]? = w.heap[g]?
theorem Ext.refl(w:World):Ext w w:=λ_ _=>rfl
theorem CT{w w':World}(h:Ext w w'){a:Addr}{v:Value}(c:w.cell? a=some v):w'.cell? a=some v:=by
 have b:a.block<w.heap.size:=y9 λd=>by
  simp[ac0,ae8 (ae6 d)] at c
 rw[<-c];simp only[ac0,h a.block b]
def Cp8(P:Program)(w:World)(m:Sem Value)(V:Value):Prop:=∀w':World,Ext w w'->m.run P w' = .ok V w'
def QV(P:Program)(a:Ctx)(H:List Blk)(w:World)(m:Sem Value)(v:PV):Prop:=
 (∀c∈v.nms,c<H.length)/\∃V,VP a (A1 H) w v V/\Cp8 P w m V
def QV0(P:Program)(a:Ctx)(H:List Blk)(w:World)(m:Sem Value)(v:PV):Prop:=
 (∀c∈v.nms,c<H.length)/\∃V,VP a (A1 H) w v V/\∀w':World,m.run P w' = .ok V w'
theorem QV0.qv{P:Program}{Γ:Ctx}{H:List Blk}{w:World}{m:Sem Value}{v:PV}(h:QV0 P Γ H w m v):QV P Γ H w m v:=
 ⟨h.1,h.2.imp λV k=>⟨k.1,λw' _=>k.2 w'⟩⟩
theorem QV0.mk0{P:Program}{Γ:Ctx}{H:List Blk}{w:World}{m:Sem Value}{v:PV}{V:Value}(hn:∀c∈v.nms,c<H.length)(h:VP Γ (A1 H) w v V)(hm:∀w':World,m.run P w' = .ok V w'):QV0 P Γ H w m v:=⟨hn,V,h,hm⟩
section inv
variable {Γ : Ctx} {sh : Nat -> Option Shp} {w : World} {V : Value} {St : Nat -> Prop}
theorem VP.inv_s{x:SV}(h:VP Γ sh w (.s x) V):VS Γ.St w x V:=by cases h;assumption
theorem VS.inv_bool{b:Bool}(h:VS St w (.bool b) V):V = .bool b:=by cases h;rfl
theorem VS.inv_int{k:IntKind}{n:Int}(h:VS St w (.int k n) V):V = .int k n:=by cases h;rfl
theorem VS.inv_str{l:List UInt8}(h:VS St w (.str l) V):∃s:ByteArray,V = .string s/\s.data.toList=l:=by cases h;exact⟨_,rfl,rfl⟩
theorem VP.inv_bool{b:Bool}(h:VP Γ sh w (.s (.bool b)) V):V = .bool b:=h.inv_s.inv_bool
theorem VP.inv_int{k:IntKind}{n:Int}(h:VP Γ sh w (.s (.int k n)) V):V = .int k n:=h.inv_s.inv_int
theorem VP.inv_str{l:List UInt8}(h:VP Γ sh w (.s (.str l)) V):∃s:ByteArray,V = .string s/\s.data.toList=l:=h.inv_s.inv_str
theorem VP.inv_agg{l:List PV}(h:VP Γ sh w (.agg l) V):∃A:Array Value,V = .agg A/\A.size=l.length/\∀j (h:j<l.length),∃U,A[j]? = some U/\VP Γ sh w (l[j]) U:=by
 cases h with
 | agg l A As hA ha hl=>exact⟨A,rfl,hA,λj h=>⟨As j,ha j h,hl j h⟩⟩
theorem VP.inv_tup{l:List PV}(h:VP Γ sh w (.tup l) V):∃A:Array Value,V = .tuple A/\A.size=l.length/\∀j (h:j<l.length),∃U,A[j]? = some U/\VP Γ sh w (l[j]) U:=by
 cases h with
 | tup l A As hA ha hl=>exact⟨A,rfl,hA,λj h=>⟨As j,ha j h,hl j h⟩⟩
theorem VP.mk_agg{l:List PV}{A:Array Value}(hA:A.size=l.length)(h:∀j (h:j<l.length),∃U,A[j]? = some U/\VP Γ sh w (l[j]) U):VP Γ sh w (.agg l) (.agg A):=
 .agg l A (λj=>A.getD j undef) hA (λj hj=>by obtain⟨U,e,_⟩:=h j hj;simp[e]) (λj hj=>by obtain⟨U,e,k⟩:=h j hj;simpa[e] using k)
theorem VP.mk_tup{l:List PV}{A:Array Value}(hA:A.size=l.length)(h:∀j (h:j<l.length),∃U,A[j]? = some U/\VP Γ sh w (l[j]) U):VP Γ sh w (.tup l) (.tuple A):=
 .tup l A (λj=>A.getD j undef) hA (λj hj=>by obtain⟨U,e,_⟩:=h j hj;simp[e]) (λj hj=>by obtain⟨U,e,k⟩:=h j hj;simpa[e] using k)
theorem VP.bool(b:Bool):VP Γ sh w (.s (.bool b)) (.bool b):=.s _ _ (.bool b)
theorem VP.int(k:IntKind)(n:Int):VP Γ sh w (.s (.int k n)) (.int k n):=.s _ _ (.int k n)
theorem VP.str{l:List UInt8}(s:ByteArray)(h:s.data.toList=l):VP Γ sh w (.s (.str l)) (.string s):=by subst h;exact .s _ _ (.str s)
end inv
theorem C3{R:Type}{c:Bool}{k:Option R}{r:R}(h:need c k=some r):c=true/\k=some r:=by cases c<;>simp_all [need]
theorem NG(a b:List UInt8):bytesLess a b=af4 a b:=by
 induction a generalizing b with
 | nil=>cases b<;>simp[bytesLess,af4]
 | cons x a c=>
  cases b with
  | nil=>simp[bytesLess,af4]
  | cons y b=>simp[bytesLess,af4,c]
section ops
variable {P : Program} {Γ : Ctx} {H : List Blk} {w : World} {R : Type} {r : R}
theorem QV.val{m:Sem Value}{v:PV}{V:Value}(hn:v.nms=[])(h:VP Γ (A1 H) w v V)(hm:∀w':World,Ext w w'->m.run P w' = .ok V w'):QV P Γ H w m v:=
 ⟨by simp[hn],V,h,hm⟩
theorem QV0.val{m:Sem Value}{v:PV}{V:Value}(hn:v.nms=[])(h:VP Γ (A1 H) w v V)(hm:∀w':World,m.run P w' = .ok V w'):QV0 P Γ H w m v:=
 ⟨by simp[hn],V,h,hm⟩
theorem Bc7{op:UnOp}{x:PV}{X:Value}{k:PV->Option R}(h:unK op x k=some r)(a:VP Γ (A1 H) w x X) :
  ∃v,k v=some r/\QV P Γ H w (ak0 op X) v:=by
 unfold unK at h;split at h
 ·obtain rfl:=a.inv_bool;exact⟨_,h,.val rfl (.bool _) λw' _=>by simp[ak0]⟩
 ·obtain rfl:=a.inv_int;exact⟨_,h,.val rfl (.int _ _) λw' _=>by simp[ak0,Op.intArith]⟩
 ·cases h
theorem Bo8(a b:Int):(!decide (b<a))=decide (a<=b):=by grind
theorem Ab9{op:BinOp}{t:Nat}{d e:Operand}{c:IntKind}{a b:Int}{v:PV}(h:Ch8 op c a b=some v) :
  QV0 P Γ H w (do eqGuard op t d e (.int c a) (.int c b);binOp op t (.int c a) (.int c b)) v:=by
 cases op<;>simp only[Ch8,c8,reduceCtorEq] at h<;>subst h <;>
  first
  | exact .val rfl (.int _ _) λw'=>by simp[eqGuard,binOp,Op.intArith,Op.intBits]
  | exact .val rfl (.bool _) λw'=>by simp[eqGuard,binOp,Op.intCmp,V2,Bo8]
theorem Ac0{op:BinOp}{t:Nat}{d e:Operand}{a b:ByteArray}{v:PV}(h:Ch9 op a.data.toList b.data.toList=some v)(c:op≠.add) :
  QV0 P Γ H w (do eqGuard op t d e (.string a) (.string b);binOp op t (.string a) (.string b)) v:=by
 cases op<;>simp only[Ch9,c8,reduceCtorEq,ne_eq,not_true_eq_false] at h c<;>subst h <;>
  exact .val rfl (.bool _) λw'=>by simp[eqGuard,binOp,Op.stringOp,ac4,NG]
theorem Ye{x:PV}{X:Value}{z:Bool}(o:VP Γ (A1 H) w x X)(h:Ax1 H x=some z) :
  ∃a n c,X = .slice a n c/\a.isNone=z/\(a=none->n=0/\c=0):=by
 unfold Ax1 at h;split at h
 ·cases o;simp at h;exact⟨none,0,0,rfl,by simp[h],λ_=>⟨rfl,rfl⟩⟩
 ·have A:=o.inv_s;cases A<;>simp at h<;>subst h<;>first|exact⟨_,_,_,rfl,rfl,λh=>⟨rfl,rfl⟩⟩|exact⟨_,_,_,rfl,rfl,λh=>by simp at h⟩
 ·rename_i b;split at h
  ·rename_i v e y f t;have j:A1 H b=some (.arr v e y f.length):=by simp[A1,t,Blk.shp]
   simp only[c8] at h;subst h;cases o with
   | flv _ p k d=>
    rw[j] at d;simp only[c8,Shp.arr.injEq] at d;obtain⟨rfl,_,_,q⟩:=d;exact⟨none,0,0,rfl,by simp[j6.1 q],λ_=>⟨rfl,rfl⟩⟩
   | fl _ g D p k n cap d u B l C A=>
    rw[j] at d;simp only[c8,Shp.arr.injEq] at d;obtain⟨rfl,_,_,rfl⟩:=d;refine⟨_,_,_,rfl,?_,λh=>by simp at h⟩;cases v
    ·rfl
    ·have:=u rfl;cases f<;>simp_all
  ·cases h
 ·rename_i b i n;split at h
  ·rename_i v e y f t;have j:A1 H b=some (.arr v e y f.length):=by simp[A1,t,Blk.shp]
   simp only[c8] at h;subst h;cases o with
   | vwv _ p k _ d=>
    rw[j] at d;simp only[c8,Shp.arr.injEq] at d;obtain⟨rfl,_,_,q⟩:=d;exact⟨none,0,0,rfl,by simp[j6.1 q],λ_=>⟨rfl,rfl⟩⟩
   | vw _ _ _ g a cap D p k m d u B F G l C=>
    rw[j] at d;simp only[c8,Shp.arr.injEq] at d;obtain⟨rfl,_,_,rfl⟩:=d;refine⟨_,_,_,rfl,?_,λh=>by simp at h⟩;cases v
    ·rfl
    ·have:=u rfl;cases f<;>simp_all
  ·cases h
 ·cases h
theorem G5{C:Cfg}{t e:Nat}(h:C.sh t = .slice e):C.P.underlying t=some (.slice e):=by simp only[Cfg.sh,FM] at h;split at h<;>simp_all
theorem Fv{C:Cfg}{t n e:Nat}(h:C.sh t = .array n e):C.P.underlying t=some (.array n e):=by simp only[Cfg.sh,FM] at h;split at h<;>simp_all
theorem FN{C:Cfg}{t e:Nat}(h:C.sh t = .ptr e):C.P.underlying t=some (.pointer e):=by simp only[Cfg.sh,FM] at h;split at h<;>simp_all
theorem Wu{C:Cfg}{t:Nat}{a:List (Nat × Nat)}(h:C.sh t = .struct a):∃F:Array Field,C.P.underlying t=some (.struct F)/\a=F.toList.map λf=>(f.offset,f.type):=by simp only[Cfg.sh,FM] at h;split at h<;>simp_all
theorem YD{C:Cfg}{t:Nat}(h:C.sh t = .fn):∃a b c,C.P.underlying t=some (.func a b c):=by simp only[Cfg.sh,FM] at h;split at h<;>simp_all
theorem Ca6{C:Cfg}{t:Nat}(h:C.sh t = .bool):C.P.underlying t=some .bool:=by simp only[Cfg.sh,FM] at h;split at h<;>simp_all
theorem P6{P:Program}{t:Nat}{X Y:Value}{b:Bool}{w':World}(e:(ag9 t X Y).run P w' = .ok b w')
  (d:∀op a c,(eqGuard op t a c X Y).run P w' = .ok () w') (f:binOp .eql t X Y=(do pure (.bool (<-ag9 t X Y)))) (g:binOp .neq t X Y=(do pure (.bool (!(<-ag9 t X Y))))) :
  (∀a c,(do eqGuard .eql t a c X Y;binOp .eql t X Y).run P w' = .ok (.bool b) w')/\(∀a c,(do eqGuard .neq t a c X Y;binOp .neq t X Y).run P w' = .ok (.bool (!b)) w'):=by
 refine⟨λa c=>?_,λa c=>?_⟩
 ·rw[f];simp[d,e]
 ·rw[g];simp[d,e]
theorem Of{P:Program}{t:Nat}{X Y:Value}{b:Bool}{w':World}(h:∀d,(k9 (d+1) t X Y).run P w' = .ok b w'):(ag9 t X Y).run P w' = .ok b w':=h 9999
theorem VP.inv_nilp{Γ:Ctx}{sh:Nat->Option Shp}{w:World}{V:Value}(h:VP Γ sh w (.s .nilp) V):V = .pointer none:=by have:=h.inv_s;cases this;rfl
theorem VP.inv_nilf{Γ:Ctx}{sh:Nat->Option Shp}{w:World}{V:Value}(h:VP Γ sh w (.s .nilf) V):V = .nilFunc:=by have:=h.inv_s;cases this;rfl
theorem VP.inv_sp{Γ:Ctx}{sh:Nat->Option Shp}{w:World}{V:Value}{els i o}(h:VP Γ sh w (.s (.sp els i o)) V):∃a,V = .pointer (some a):=by have:=h.inv_s;cases this;exact⟨_,rfl⟩
theorem VP.inv_ptr{Γ:Ctx}{sh:Nat->Option Shp}{w:World}{V:Value}{b i o}(h:VP Γ sh w (.ptr b i o) V):∃a,V = .pointer (some a):=by cases h<;>exact⟨_,rfl⟩
theorem VP.inv_fn{Γ:Ctx}{sh:Nat->Option Shp}{w:World}{V:Value}{f x y}(h:VP Γ sh w (.s (.fn f x y)) V):∃A B,V = .func f A B:=by have:=h.inv_s;cases this;exact⟨_,_,rfl⟩
theorem VP.inv_fnr{Γ:Ctx}{sh:Nat->Option Shp}{w:World}{V:Value}{f x y}(h:VP Γ sh w (.fnr f x y) V):∃A B,V = .func f A B:=by cases h;exact⟨_,_,rfl⟩
theorem VP.inv_nsl{Γ:Ctx}{sh:Nat->Option Shp}{w:World}{V:Value}(h:VP Γ sh w .nsl V):V = .slice none 0 0:=by cases h;rfl
theorem Km{C:Cfg}{t k e:Nat}(h:C.sh t = .map k e):C.P.underlying t=some (.map k e):=by simp only[Cfg.sh,FM] at h;split at h<;>simp_all
theorem VP.inv_nilm{Γ:Ctx}{sh:Nat->Option Shp}{w:World}{V:Value}(h:VP Γ sh w (.s .nilm) V):V = .map none:=by have:=h.inv_s;cases this;rfl
theorem Ak3{b:Nat}{V:Value}{a:Bool}{c:List (List UInt8 × List SV)}(e:H[b]? = some (.ms a c))(f:VP Γ (A1 H) w (.it b) V):∃g,Γ.nm b=some g/\V = .map (some g):=by
 cases f with
 | it _ g h d=>simp[A1,e,Blk.shp] at h
 | mpv _ g h d=>exact⟨g,d,rfl⟩
theorem Ak2{b:Nat}{V:Value}{a:List (List UInt8 × PV)}(d:H[b]? = some (.mp a))(e:VP Γ (A1 H) w (.it b) V):∃g,Γ.nm b=some g/\V = .map (some g):=by
 cases e with
 | it _ g h c=>simp[A1,d,Blk.shp] at h
 | mpv _ g h c=>exact⟨g,c,rfl⟩
theorem DV{b:Nat}{V:Value}{r:Bool}(h:B51 H b=some r)(e:VP Γ (A1 H) w (.it b) V):∃g,V = .map (some g)/\false=r:=by
 unfold B51 at h;split at h
 ·rename_i c d;obtain⟨g,_,rfl⟩:=Ak2 d e;exact⟨g,rfl,by simpa using h⟩
 ·rename_i a c d;obtain⟨g,_,rfl⟩:=Ak3 d e;exact⟨g,rfl,by simpa using h⟩
 ·cases h
theorem DF{C:Cfg}{t:Nat}{x y:PV}{X Y:Value}{b:Bool}(h:B21 H (C.sh t) x y=some b)(i:VP Γ (A1 H) w x X)(j:VP Γ (A1 H) w y Y)(w':World) :
  (∀u v,(do eqGuard .eql t u v X Y;binOp .eql t X Y).run C.P w' = .ok (.bool b) w')/\(∀u v,(do eqGuard .neq t u v X Y;binOp .neq t X Y).run C.P w' = .ok (.bool (!b)) w'):=by
 unfold B21 at h;split at h
 ·rename_i e f;obtain rfl:=i.inv_nilp;obtain rfl:=j.inv_nilp;simp only[c8] at h;subst h;exact P6 (Of λd=>by simp[k9,run_underlying (FN f)]) (by intros;simp[eqGuard]) (by simp[binOp]) (by simp[binOp])
 ·rename_i e _ _ _ f;obtain rfl:=i.inv_nilp;obtain⟨a,rfl⟩:=j.inv_sp;simp only[c8] at h;subst h;exact P6 (Of λd=>by simp[k9,run_underlying (FN f)]) (by intros;simp[eqGuard]) (by simp[binOp]) (by simp[binOp])
 ·rename_i e _ _ _ f;obtain rfl:=j.inv_nilp;obtain⟨a,rfl⟩:=i.inv_sp;simp only[c8] at h;subst h;exact P6 (Of λd=>by simp[k9,run_underlying (FN f)]) (by intros;simp[eqGuard]) (by simp[binOp]) (by simp[binOp])
 ·rename_i e _ _ _ f;obtain rfl:=i.inv_nilp;obtain⟨a,rfl⟩:=j.inv_ptr;simp only[c8] at h;subst h;exact P6 (Of λd=>by simp[k9,run_underlying (FN f)]) (by intros;simp[eqGuard]) (by simp[binOp]) (by simp[binOp])
 ·rename_i e _ _ _ f;obtain rfl:=j.inv_nilp;obtain⟨a,rfl⟩:=i.inv_ptr;simp only[c8] at h;subst h;exact P6 (Of λd=>by simp[k9,run_underlying (FN f)]) (by intros;simp[eqGuard]) (by simp[binOp]) (by simp[binOp])
 ·rename_i f;obtain⟨l,m,o,k⟩:=YD f;obtain rfl:=i.inv_nilf;obtain rfl:=j.inv_nilf;simp only[c8] at h;subst h;exact P6 (Of λd=>by simp[k9,run_underlying k]) (by intros;simp[eqGuard]) (by simp[binOp]) (by simp[binOp])
 ·rename_i f;obtain⟨l,m,o,k⟩:=YD f;obtain rfl:=i.inv_nilf;obtain⟨A,B,rfl⟩:=j.inv_fn;simp only[c8] at h;subst h;exact P6 (Of λd=>by simp[k9,run_underlying k]) (by intros;simp[eqGuard]) (by simp[binOp]) (by simp[binOp])
 ·rename_i f;obtain⟨l,m,o,k⟩:=YD f;obtain rfl:=j.inv_nilf;obtain⟨A,B,rfl⟩:=i.inv_fn;simp only[c8] at h;subst h;exact P6 (Of λd=>by simp[k9,run_underlying k]) (by intros;simp[eqGuard]) (by simp[binOp]) (by simp[binOp])
 ·rename_i f;obtain⟨l,m,o,k⟩:=YD f;obtain rfl:=i.inv_nilf;obtain⟨A,B,rfl⟩:=j.inv_fnr;simp only[c8] at h;subst h;exact P6 (Of λd=>by simp[k9,run_underlying k]) (by intros;simp[eqGuard]) (by simp[binOp]) (by simp[binOp])
 ·rename_i f;obtain⟨l,m,o,k⟩:=YD f;obtain rfl:=j.inv_nilf;obtain⟨A,B,rfl⟩:=i.inv_fnr;simp only[c8] at h;subst h;exact P6 (Of λd=>by simp[k9,run_underlying k]) (by intros;simp[eqGuard]) (by simp[binOp]) (by simp[binOp])
 ·rename_i p q f;obtain rfl:=i.inv_bool;obtain rfl:=j.inv_bool;simp only[c8] at h;subst h;exact P6 (Of λd=>by simp[k9,run_underlying (Ca6 f)]) (by intros;simp[eqGuard]) (by simp[binOp]) (by simp[binOp])
 ·rename_i f;obtain rfl:=i.inv_nilm;obtain rfl:=j.inv_nilm;simp only[c8] at h;subst h;exact P6 (Of λd=>by simp[k9,run_underlying (Km f)]) (by intros;simp[eqGuard]) (by simp[binOp]) (by simp[binOp])
 ·rename_i f;obtain⟨g,rfl,rfl⟩:=DV h j;obtain rfl:=i.inv_nilm;exact P6 (Of λd=>by simp[k9,run_underlying (Km f)]) (by intros;simp[eqGuard]) (by simp[binOp]) (by simp[binOp])
 ·rename_i f;obtain⟨g,rfl,rfl⟩:=DV h i;obtain rfl:=j.inv_nilm;exact P6 (Of λd=>by simp[k9,run_underlying (Km f)]) (by intros;simp[eqGuard]) (by simp[binOp]) (by simp[binOp])
 ·rename_i e f;obtain rfl:=j.inv_nsl;obtain⟨a,n,c,rfl,rfl,z⟩:=Ye i h;refine P6 ?_ (by intros;simp[eqGuard]) (by simp[binOp]) (by simp[binOp]);exact Of λd=>by cases a<;>simp[k9,run_underlying (G5 f)]
 ·rename_i e f _;obtain rfl:=i.inv_nsl;obtain⟨a,n,c,rfl,rfl,z⟩:=Ye j h;refine P6 ?_ (by intros;simp[eqGuard]) (by simp[binOp]) (by simp[binOp]);exact Of λd=>by cases a<;>simp[k9,run_underlying (G5 f)]
 ·cases h
end ops
theorem Fk:∀{x y:List PV} {b:Bool},L6 x y=some b->x.length=y.length
 | [],[],_,_=>rfl
 | a::x,c::y,b,h=>by
  simp only[L6] at h;split at h
  ·rename_i p q e d;simp[Fk d]
  ·cases h
 | [],_::_,_,h=>by simp[L6] at h
 | _::_,[],_,h=>by simp[L6] at h
theorem Fj:∀{x e y f:List PV} {b:Bool},x.length=y.length->L6 (x++e) (y++f)=some b->∃p q,L6 x y=some p/\L6 e f=some q/\b=(p&&q)
 | [],e,[],f,b,_,h=>⟨true,b,rfl,h,by simp⟩
 | a::x,e,c::y,f,b,d,h=>by
  simp only[List.cons_append,L6] at h;split at h
  ·rename_i p q j k;obtain⟨l,m,g,i,rfl⟩:=Fj (by simpa using d) k;refine⟨p&&l,m,by simp[L6,j,g],i,?_⟩;grind
  ·cases h
 | [],_,_::_,_,_,d,_=>by simp at d
 | _::_,_,[],_,_,d,_=>by simp at d
def KS(a:List CK)(x:List PV):Prop:=x.length=a.length/\∀j (h:j<a.length) (b:j<x.length),(x[j]).has (a[j])=true
theorem KS.append_inv{a b:List CK}{x:List PV}(h:KS (a++b) x):∃y z,x=y++z/\KS a y/\KS b z:=by obtain⟨hl,hk⟩:=h;refine⟨x.take a.length,x.drop a.length,(List.take_append_drop _ _).symm,⟨by simp at hl ⊢;omega,λj h h'=>?_⟩,⟨by simp at hl ⊢;omega,λj h h'=>?_⟩⟩;all_goals grind
def At(a:Ctx)(sh:Nat->Option Shp)(w:World)(A:Array Value)(off:Nat)(x:List PV):Prop:=∀j (h:j<x.length),∃U,A[off+j]? = some U/\VP a sh w (x[j]) U
theorem At.append_inv{Γ:Ctx}{sh:Nat->Option Shp}{w:World}{A:Array Value}{off:Nat}{x y:List PV}(h:At Γ sh w A off (x++y)):At Γ sh w A off x/\At Γ sh w A (off+x.length) y:=by
 refine⟨λj hj=>?_,λj hj=>?_⟩
 ·obtain⟨U,e,k⟩:=h j (by simp;omega);grind
 ·obtain⟨U,e,k⟩:=h (x.length+j) (by simp;omega);grind
def Fp:TypeDesc->Bool
 | .struct _=>true
 | .array _ _=>true
 | _=>false
theorem Et{P:Program}{t:TypeId}{d:TypeDesc}(h:P.underlying t=some d)(w:World):(isAgg t).run P w = .ok (Fp d) w:=by unfold isAgg;rw[p7,run_underlying h w];cases d<;>simp[Fp]
theorem W4{P:Program}{t:TypeId}{d:TypeDesc}{i:TypeInfo}(h:P.underlying t=some d)(a:Fp d=true)(b:P.info? t=some i)(A:Array Value)(off:Nat)(w:World) :
  (part t A off).run P w = .ok (.agg (A.extract off (off+i.size))) w:=by
 simp[part,Et h,a,sizeOf,typeInfo,b]
theorem Dr{P:Program}{t:TypeId}{d:TypeDesc}(h:P.underlying t=some d)(b:Fp d=false){A:Array Value}{off:Nat}{U:Value}(a:A[off]? = some U)(w:World) :
  (part t A off).run P w = .ok U w:=by
 simp[part,Et h,b,a]
theorem At.extract{Γ:Ctx}{sh:Nat->Option Shp}{w:World}{A:Array Value}{off n:Nat}{x:List PV}(h:At Γ sh w A off x)(hn:x.length<=n):At Γ sh w (A.extract off (off+n)) 0 x:=by intro j hj;obtain⟨U,e,k⟩:=h j hj;grind
def Cg9(P:Program)(d:Nat)(t:TypeId)(f:List CK):Prop:=
 ∀(g:Ctx) (sh:Nat->Option Shp) (w:World) (A B:Array Value) (off e:Nat) (x y:List PV) (b:Bool),KS f x->KS f y->At g sh w A off x->At g sh w B e y->L6 x y=some b->
  ∀(D:Nat),d<=D->∀w',∃a c,(part t A off).run P w' = .ok a w'/\(part t B e).run P w' = .ok c w'/\(k9 D t a c).run P w' = .ok b w'
theorem Af6{P:Program}{t:TypeId}{h:TypeDesc}{ck:CK}(m:P.underlying t=some h)(l:Fp h=false)
  (v:∀(p q:PV) (b:Bool),p.has ck=true->q.has ck=true->DE p q=some b->∀(c:Ctx) (sh:Nat->Option Shp) (w:World) U V,VP c sh w p U->VP c sh w q V->∀D w',(k9 (D+1) t U V).run P w' = .ok b w') :
  Cg9 P 1 t [ck]:=by
 intro c sh w A B off n x y b d e hA u a D I w';obtain⟨f,z⟩:=d;obtain⟨g,C⟩:=e
 match x,y,f,g with
 | [p],[q],_,_=>
  obtain⟨U,i,F⟩:=hA 0 (by simp);obtain⟨V,j,G⟩:=u 0 (by simp);simp only[ab0] at i j;obtain⟨D,rfl⟩:∃o,D=o+1:=⟨D-1,by omega⟩
  simp only[L6] at a;split at a
  ·rename_i H J r k;simp only[c8] at k a;subst k a;refine⟨U,V,Dr m l i w',Dr m l j w',?_⟩;rw[Bool.and_true];exact v p q H (by simpa using z 0 (by simp) (by simp)) (by simpa using C 0 (by simp) (by simp)) r c sh w U V F G D w'
  ·cases a
theorem IS{c:CK}{p:PV}(h:p.has c=true)(a:c = .bool\/(∃k,c = .int k)\/c = .str):∃x,p = .s x/\x.has c=true:=by rcases a with rfl|⟨k,rfl⟩|rfl<;>cases p<;>simp_all [PV.has]
theorem Rs{P:Program}{d:Nat}{f:Nat->Option (List CK)}(I:∀t e,f t=some e->Cg9 P d t e){Γ:Ctx}{sh:Nat->Option Shp}{w:World}{A B:Array Value}{D:Nat}(H:d<=D)(w':World) :
  ∀(m:List Field) (off:Nat) (e:List CK) (x y:List PV) (b:Bool),ED f m off=some e->KS e x->KS e y->At Γ sh w A off x->At Γ sh w B off y->L6 x y=some b->
   (ah6 D A B m).run P w' = .ok b w'
 | [],off,e,x,y,b,h,z,F,_,_,n=>by
  simp only[ED,c8] at h;subst h;obtain rfl:=w9 z.1;obtain rfl:=w9 F.1;simp only[L6,c8] at n;subst n;simp[ah6]
 | g::m,off,e,x,y,b,h,z,F,hA,L,n=>by
  simp only[ED] at h;split at h
  ·rename_i o;simp only[c9,beq_iff_eq,bne_iff_ne,ne_eq] at o;split at h
   ·rename_i a M;split at h
    ·rename_i c r;simp only[c8] at h;subst h;obtain⟨S,T,rfl,i,C⟩:=z.append_inv;obtain⟨U,V,rfl,j,G⟩:=F.append_inv;obtain⟨p,q,J,K,rfl⟩:=Fj (by rw[i.1,j.1]) n;have k:=hA.append_inv;have l:=L.append_inv;obtain⟨u,v,O,Q,R⟩:=I g.type a M Γ sh w A B off off S U p i j k.1 l.1 J D H w';have N:=Rs I H w' m (off+a.length) c T V q r C G (by rw[<-i.1];exact k.2) (by rw[<-j.1];exact l.2) K;simp only[ah6];rw[if_pos o.2,o.1];simp only[p7,O,Q,R,j9,Sem.run_ite,s9,N];grind
    grind
   ·cases h
  ·cases h
theorem RE{P:Program}{D:Nat}{t e:TypeId}{n:Nat}{i:TypeInfo}(k:P.underlying t=some (.array n e))(f:P.info? e=some i){A B:Array Value}(w':World)(q:Nat->Bool)
  (h:∀j,j<n->∃a c,(part e A (j*i.size)).run P w' = .ok a w'/\(part e B (j*i.size)).run P w' = .ok c w'/\(k9 D e a c).run P w' = .ok (q j) w') :
  (k9 (D+1) t (.agg A) (.agg B)).run P w' = .ok ((ad3 n).all q) w':=by
 simp only[k9,p7,run_underlying k,j9,sizeOf,typeInfo,run_program,f,s9];rw[af7];simp only[aj4,Nat.sub_zero,Nat.add_sub_cancel,Nat.div_one];have key:∀(m s:Nat),s+m=n->
   (Sem.run P (forIn (m:=Sem) (ah5 s m 1) ((none,()):Option Bool × Unit) λb __s=>do
      let __do_lift <-part e A (b*i.size);let __do_lift_1 <-part e B (b*i.size);let __do_lift <-k9 D e __do_lift __do_lift_1
      if (!__do_lift)=true then pure (ForInStep.done (some false,())) else pure (ForInStep.yield (none,()))) w') =
    .ok (if ((ah5 s m).all q) then (none,()) else (some false,())) w':=by
  intro m
  induction m with
  | zero=>intro s g;simp
  | succ m l=>
   intro s g;obtain⟨a,c,o,p,r⟩:=h s (by omega);simp only[List.range'_succ,List.forIn_cons,p7,o,p,r,j9,Sem.run_ite,s9];cases d:q s
   ·simp[d]
   ·simp only[Bool.not_true,ab2,if_false,j9];rw[l (s+1) (by omega)];simp only[ai7,d,ai4]
 have:=key n 0 (by omega);rw[List.range_eq_range'];rw[this];cases (ah5 0 n).all q<;>simp
theorem Jz{b:Type}(n:Nat)(a:List b):(j4 (n+1) a).flatten=a++(j4 n a).flatten:=by grind
theorem Me:∀(n:Nat) (a:List CK) (x y:List PV) (b:Bool),KS (j4 n a).flatten x->KS (j4 n a).flatten y->L6 x y=some b->
  ∃q:Nat->Bool,b=(ad3 n).all q/\∀j,j<n->∃u v,KS a u/\KS a v/\L6 u v=some (q j)/\
   (∃p r,x=p++(u++r)/\p.length=j*a.length)/\(∃p r,y=p++(v++r)/\p.length=j*a.length)
 | 0,a,x,y,b,e,f,g=>by
  simp only[ac6,List.flatten_nil] at e f;obtain rfl:=w9 e.1;obtain rfl:=w9 f.1;simp only[L6,c8] at g;simp_all
 | n+1,a,x,y,b,e,f,g=>by
  rw[Jz] at e f;obtain⟨k,l,rfl,c,h⟩:=e.append_inv;obtain⟨m,o,rfl,d,i⟩:=f.append_inv;obtain⟨p,q,t,w,rfl⟩:=Fj (by rw[c.1,d.1]) g;obtain⟨K,rfl,D⟩:=Me n a l o q h i w;refine⟨λj=>match j with|0=>p|j+1=>K j,?_,λj N=>?_⟩
  ·rw[List.range_succ_eq_map,ai7,List.all_map];rfl
  ·cases j with
   | zero=>exact⟨k,m,c,d,t,⟨[],l,rfl,by simp⟩,⟨[],o,rfl,by simp⟩⟩
   | succ j=>
    obtain⟨u,v,F,G,H,⟨I,L,z,A⟩,⟨J,M,B,C⟩⟩:=D j (by omega);exact⟨u,v,F,G,H,⟨k++I,L,by rw[z,aa5],by rw[o7,A,c.1,o6];omega⟩,⟨m++J,M,by rw[B,aa5],by rw[o7,C,d.1,o6];omega⟩⟩
theorem At.mid{Γ:Ctx}{sh:Nat->Option Shp}{w:World}{A:Array Value}{off:Nat}{p u r:List PV}(h:At Γ sh w A off (p++(u++r))):At Γ sh w A (off+p.length) u:=
 (h.append_inv.2).append_inv.1
theorem DD{P:Program}:∀(d t:Nat) (S:List CK),JG P d t=some S->Cg9 P d t S
 | 0,t,S,h=>by simp[JG] at h
 | d+1,t,S,h=>by
  have ih:=DD (P:=P) d;simp only[JG] at h;split at h
  ·rename_i g;simp only[c8] at h;subst h;have:=Af6 (P:=P) (ck:=.bool) g rfl (λp q b Q F l Γ sh w U V N hV D w'=>by
    obtain⟨x,rfl,I⟩:=IS Q (.inl rfl);obtain⟨y,rfl,J⟩:=IS F (.inl rfl);cases x<;>simp[SV.has] at I
    cases y<;>simp[SV.has] at J
    obtain rfl:=N.inv_bool;obtain rfl:=hV.inv_bool;simp only[DE,c8] at l;subst l;exact run_equalIn_bool' w' D t _ _ g)
   exact λΓ sh w A B off c x y b z G C H K D R=>this Γ sh w A B off c x y b z G C H K D (by omega)
  ·rename_i k g;simp only[c8] at h;subst h;have:=Af6 (P:=P) (ck:=.int k) g rfl (λp q b Q F l Γ sh w U V N hV D w'=>by
    obtain⟨x,rfl,I⟩:=IS Q (.inr (.inl ⟨k,rfl⟩));obtain⟨y,rfl,J⟩:=IS F (.inr (.inl ⟨k,rfl⟩));cases x<;>simp[SV.has] at I
    cases y<;>simp[SV.has] at J
    subst I J;obtain rfl:=N.inv_int;obtain rfl:=hV.inv_int;simp only[DE,if_true,c8] at l;subst l;exact run_equalIn_int w' D t _ _ _ _ g)
   exact λΓ sh w A B off c x y b z G C H K D R=>this Γ sh w A B off c x y b z G C H K D (by omega)
  ·rename_i g;simp only[c8] at h;subst h;have:=Af6 (P:=P) (ck:=.str) g rfl (λp q b Q F l Γ sh w U V N hV D w'=>by
    obtain⟨x,rfl,I⟩:=IS Q (.inr (.inr rfl));obtain⟨y,rfl,J⟩:=IS F (.inr (.inr rfl));cases x<;>simp[SV.has] at I
    cases y<;>simp[SV.has] at J
    obtain⟨s1,rfl,rfl⟩:=N.inv_str;obtain⟨s2,rfl,rfl⟩:=hV.inv_str;simp only[DE,c8] at l;subst l;rw[<-ac4,<-ac4];exact run_equalIn_string w' D t _ _ g)
   exact λΓ sh w A B off c x y b z G C H K D R=>this Γ sh w A B off c x y b z G C H K D (by omega)
  ·rename_i Y g;split at h
   ·cases h
   ·rename_i r;split at h
    ·rename_i a1 hl;split at h
     ·rename_i f;simp only[c8] at h;subst h;simp only[beq_iff_eq,o9] at f;obtain⟨i,hi,f⟩:=f;intro Γ sh w A B off c x y b m o hA W l D R w';obtain⟨D,rfl⟩:∃T,D=T+1:=⟨D-1,by omega⟩
      refine⟨_,_,W4 g rfl hi A off w',W4 g rfl hi B c w',?_⟩;have Z:P.fieldsOf t=Y:=by simp[Program.fieldsOf,g]
      rw[run_equalIn_struct w' D t _ _ (by rw[Z];exact g) (by simpa using r),Z];exact Rs ih (Γ:=Γ) (sh:=sh) (w:=w) (by omega) w' Y.toList 0 _ x y b hl m o (hA.extract (by rw[m.1,f];exact j2 _)) (W.extract (by rw[o.1,f];exact j2 _)) l
     grind
    grind
  ·rename_i n e g;split at h
   ·rename_i a ha;split at h
    ·rename_i f;simp only[c8] at h;subst h;simp only[c9,beq_iff_eq,o9] at f;obtain⟨⟨ie,X,a0⟩,it,O,r⟩:=f;intro Γ sh w A B off c x y b m o hA W l D R w';obtain⟨D,rfl⟩:∃T,D=T+1:=⟨D-1,by omega⟩
     refine⟨_,_,W4 g rfl O A off w',W4 g rfl O B c w',?_⟩;obtain⟨q,rfl,F⟩:=Me n a x y b m o l;have L:At Γ sh w (A.extract off (off+it.size)) 0 x:=hA.extract (by rw[m.1,r];exact j2 _);have M:At Γ sh w (B.extract c (c+it.size)) 0 y:=W.extract (by rw[o.1,r];exact j2 _);refine RE g X w' q λj hj=>?_
     obtain⟨u,v,k1,k2,k3,⟨p1,r1,z,G⟩,⟨p2,r2,C,H⟩⟩:=F j hj;have m1:At Γ sh w (A.extract off (off+it.size)) (j*ie.size) u:=by
      have:=(by rw[z] at L;exact L.mid:At Γ sh w (A.extract off (off+it.size)) (0+p1.length) u)
      grind
     have m2:At Γ sh w (B.extract c (c+it.size)) (j*ie.size) v:=by
      have:=(by rw[C] at M;exact M.mid:At Γ sh w (B.extract c (c+it.size)) (0+p2.length) v)
      grind
     exact ih e a ha Γ sh w _ _ _ _ u v (q j) k1 k2 m1 m2 k3 D (by omega) w'
    grind
   ·cases h
  ·cases h
theorem Bp2{t:TI}{x:List PV}(h:okP t x 0=true)(c:x.length=t.ks.length):KS t.ks x:=by refine⟨c,λj a b=>?_⟩;simp only[okP,c9,x6] at h;have:=h.2 (t.ks[j],j) (by rw[aa2];simp[a]);grind
section
variable {L : Ctx} {H : List Blk} {w : World} {R : Type} {r : R}
theorem Nc:∀{a:List CK} {l:List Value},Av a l=true->a.length=l.length
 | [],[],_=>rfl
 | c::r,v::q,h=>by
  simp only[Av,c9] at h;simp[Nc h.2]
 | [],_::_,h=>by simp[Av] at h
 | _::_,[],h=>by simp[Av] at h
theorem Au{C:Cfg}{t:Nat}(h:(C.ti t).ok=true):∃i d z,C.P.info? t=some i/\C.P.underlying t=some d/\i.zero=some z/\i.size=z.cells.size/\i.bytes<=512/\0<i.size/\
  Av (C.ti t).ks z.cells.toList=true/\(C.ti t).agg=Fp d/\i.size=(C.ti t).ks.length:=by
 simp only[Cfg.ti,Cb0] at h ⊢;split at h
 ·rename_i i d f b a c;split at h
  ·rename_i z e;simp only[c9,beq_iff_eq,decide_eq_true_eq] at h;refine⟨i,d,z,b,a,e,h.1.1.1,h.1.1.2,h.1.2,h.2,?_,?_⟩
   ·cases d<;>rfl
   ·rw[h.1.1.1,Nc h.2];simp
  ·cases h
 ·cases h
theorem Xq{C:Cfg}{t:Nat}{x y:List PV}{X Y:Value}{b:Bool}(M:(B20 C.P t&&(C.ti t).agg&&okP (C.ti t) x 0&&okP (C.ti t) y 0&&decide (x.length=(C.ti t).ks.length))=true)(F:L6 x y=some b)
  (W:VP L (A1 H) w (.agg x) X) (Z:VP L (A1 H) w (.agg y) Y) (w':World) :
  (∀f g,(do eqGuard .eql t f g X Y;binOp .eql t X Y).run C.P w' = .ok (.bool b) w')/\(∀f g,(do eqGuard .neq t f g X Y;binOp .neq t X Y).run C.P w' = .ok (.bool (!b)) w'):=by
 simp only[c9,decide_eq_true_eq,B20,beq_iff_eq,Bool.not_eq_true'] at M;obtain⟨⟨⟨⟨⟨O,Q⟩,h6⟩,n⟩,S⟩,K⟩:=M;have o:y.length=(C.ti t).ks.length:=by rw[<-Fk F];exact K
 obtain⟨A,rfl,p,q⟩:=W.inv_agg;obtain⟨B,rfl,u,v⟩:=Z.inv_agg;have D:=DD (P:=C.P) 20 t _ O L (A1 H) w A B 0 0 x y b (Bp2 n K) (Bp2 S o) (λj h=>by simpa using q j h) (λj h=>by simpa using v j h) F 10000 (by omega) w';obtain⟨a,c,k,l,r3⟩:=D;have e:∃i m,C.P.info? t=some i/\C.P.underlying t=some m/\Fp m=true/\i.size=x.length:=by
  have G:(C.ti t).ok=true:=by simp only[okP,c9] at n;exact n.1
  obtain⟨i,d,z,I,J,e3,e4,e5,e6,e7,e8,e9⟩:=Au G;grind
 obtain⟨i,m,U,V,T,N⟩:=e;rw[W4 V T U] at k l;simp only[Result.ok.injEq,and_true] at k l;have I:A.extract 0 (0+i.size)=A:=by rw[N,aa1,<-p];simp
 have J:B.extract 0 (0+i.size)=B:=by rw[N,aa1,Fk F,<-u];simp
 rw[I] at k;rw[J] at l;subst k l;have r4:(ag9 t (.agg A) (.agg B)).run C.P w' = .ok b w':=r3;exact P6 r4 (λop f g=>run_eqGuard_agg w' op t f g A B Q) (by simp[binOp]) (by simp[binOp])
theorem CF{C:Cfg}{op:BinOp}{t:Nat}{ox oy:Operand}{x y:PV}{X Y:Value}{k:PV->Option R}(h:A08 C op t x y H k=some r)(d:VP L (A1 H) w x X)(e:VP L (A1 H) w y Y) :
  ∃v,k v=some r/\QV0 C.P L H w (do eqGuard op t ox oy X Y;binOp op t X Y) v:=by
 unfold A08 at h;split at h
 ·obtain rfl:=d.inv_int;obtain rfl:=e.inv_int;obtain⟨c,f⟩:=C3 h;simp only[decide_eq_true_eq] at c;refine⟨_,f,.val rfl (.int _ _) λw'=>?_⟩;simp[eqGuard,binOp,Op.shift,Int.not_lt.2 c]
 ·obtain rfl:=d.inv_int;obtain rfl:=e.inv_int;obtain⟨c,f⟩:=C3 h;simp only[decide_eq_true_eq] at c;refine⟨_,f,.val rfl (.int _ _) λw'=>?_⟩;simp[eqGuard,binOp,Op.shift,Int.not_lt.2 c]
 ·obtain rfl:=d.inv_int;obtain rfl:=e.inv_int;obtain⟨c,f⟩:=C3 h;simp only[c9,decide_eq_true_eq,bne_iff_ne,ne_eq] at c;obtain⟨rfl,c⟩:=c;refine⟨_,f,.val rfl (.int _ _) λw'=>?_⟩;simp[eqGuard,binOp,Op.intDiv,c]
 ·obtain rfl:=d.inv_int;obtain rfl:=e.inv_int;obtain⟨c,f⟩:=C3 h;simp only[c9,decide_eq_true_eq,bne_iff_ne,ne_eq] at c;obtain⟨rfl,c⟩:=c;refine⟨_,f,.val rfl (.int _ _) λw'=>?_⟩;simp[eqGuard,binOp,Op.intDiv,c]
 ·obtain rfl:=d.inv_int;obtain rfl:=e.inv_int;split at h
  ·rename_i o;subst o;split at h
   ·rename_i v l;exact⟨v,h,Ab9 l⟩
   ·cases h
  ·cases h
 ·obtain⟨a,rfl,rfl⟩:=d.inv_str;obtain⟨b,rfl,rfl⟩:=e.inv_str;obtain⟨c,f⟩:=C3 h;simp only[decide_eq_true_eq] at c;refine⟨_,f,.val rfl (.str (a++b) (by simp)) λw'=>?_⟩;have m:a.size=a.data.toList.length:=by rw[j8];rfl
  have n:b.size=b.data.toList.length:=by rw[j8];rfl
  have:¬(((a.size+b.size:Nat):Int) > IntKind.i64.max):=by rw[m,n];simp[IntKind.max,IntKind.signed,IntKind.bits];omega
  simp only[eqGuard,binOp,Op.stringOp,p7];rw[if_neg this];simp
 ·rename_i j;obtain⟨a,rfl,rfl⟩:=d.inv_str;obtain⟨b,rfl,rfl⟩:=e.inv_str;split at h
  ·rename_i v l;exact⟨v,h,Ac0 l (by rintro rfl;exact j rfl)⟩
  ·cases h
 ·split at h
  ·rename_i i;split at h
   ·rename_i b g;exact⟨_,h,.val rfl (.bool _) λw'=>(Xq i g d e w').1 ox oy⟩
   ·cases h
  ·cases h
 ·split at h
  ·rename_i i;split at h
   ·rename_i b g;exact⟨_,h,.val rfl (.bool _) λw'=>(Xq i g d e w').2 ox oy⟩
   ·cases h
  ·cases h
 ·split at h
  ·rename_i b g;exact⟨_,h,.val rfl (.bool _) λw'=>(DF g d e w').1 ox oy⟩
  ·cases h
 ·split at h
  ·rename_i b g;exact⟨_,h,.val rfl (.bool _) λw'=>(DF g d e w').2 ox oy⟩
  ·cases h
 ·cases h
end
theorem VS.as{St:Nat->Prop}{Γ:Ctx}{sh:Nat->Option Shp}{w:World}(hSt:Γ.St=St){c:CK}{x:SV}{V:Value}(hx:VS St w x V)(h:x.has c=true):VP Γ sh w (x.as c) V:=by
 subst hSt;cases c with
 | bool=>cases x<;>simp[SV.has] at h;exact .s _ _ hx
 | int k=>cases x<;>simp[SV.has] at h;subst h;exact .s _ _ hx
 | str=>cases x<;>simp[SV.has] at h;exact .s _ _ hx
 | ptr=>exact .s _ _ hx
 | map=>exact .s _ _ hx
 | fn=>exact .s _ _ hx
 | sl k=>
  cases x<;>simp[SV.has] at h
  rename_i z t k' els;show VP Γ sh w (.s (.sl z t k els)) V;rcases h with rfl|rfl
  ·exact .s _ _ hx
  ·cases hx;exact .s _ _ (.nil t k)
theorem VP.as{Γ:Ctx}{sh:Nat->Option Shp}{w:World}{c:CK}{x:PV}{V:Value}(hx:VP Γ sh w x V)(h:x.has c=true):VP Γ sh w (x.as c) V:=by
 cases x with
 | s x=>
  have h':x.has c=true:=by cases c<;>simpa[PV.has] using h
  have:=VS.as (Γ:=Γ) (sh:=sh) rfl hx.inv_s h';cases c<;>simpa[PV.as,SV.as,PV.toS] using this
 | _=>cases c<;>simp_all [PV.has,PV.as]
theorem PV.as_nms{c:CK}{x:PV}:∀b∈(x.as c).nms,b∈x.nms:=by
 intro b;cases x with
 | s x=>cases c<;>simp[PV.as,SV.as,PV.nms]
 | _=>cases c<;>simp[PV.as,PV.nms]
theorem A15{w w':World}(h:w'.heap=w.heap)(a:Addr):w'.cell? a=w.cell? a:=by simp[ac0,h]
theorem U8{a:Type}{l:List a}{i:Nat}{d:a}(h:i<l.length):l.getD i d=l[i]:=by simp[ah1,j0 h]
section
variable {Γ : Ctx} {H : List Blk} {w : World} {R : Type} {r : R}
def Bv(Γ:Ctx)(sh:Nat->Option Shp)(w:World)(g o:Nat)(x:List PV):Prop:=∀j (h:j<x.length),∃U,w.cell? ⟨g,o+j,none⟩=some U/\VP Γ sh w (x[j]) U
theorem J9(g o j:Nat):(⟨g,o,none⟩:Addr).add j=⟨g,o+j,none⟩:=by unfold Addr.add;split<;>simp_all
theorem GV{C:Cfg}{tid g o:Nat}{x:List PV}(y:(C.ti tid).ok=true)(F:x.length=(C.ti tid).ks.length)(u:Bv Γ (A1 H) w g o x)
  (G:∀c∈C6 x,c<H.length):QV C.P Γ H w (loadVar tid ⟨g,o,none⟩) (if (C.ti tid).agg then .agg x else x.getD 0 .bad):=by
 obtain⟨i,d,z,O,D,T,S,N,I,Q,h,t⟩:=Au y;rw[<-t] at F;let f:Nat->Value:=λj=>(w.cell? ⟨g,o+j,none⟩).getD undef
 have l:∀j,j<x.length->w.cell? ⟨g,o+j,none⟩=some (f j):=λj p=>by obtain⟨U,e,_⟩:=u j p;simp[f,e]
 have m:∀j (p:j<x.length),VP Γ (A1 H) w (x[j]) (f j):=λj p=>by obtain⟨U,e,k⟩:=u j p;simpa[f,e] using k
 by_cases n:Fp d=true
 ·rw[h,if_pos n];refine⟨by simpa[PV.nms] using G,.agg ((ad3 i.size).map f).toArray,.agg x _ f (by simp[F]) (λj p=>by simp[List.getElem?_range (by omega:j<i.size)]) m,λw' A=>?_⟩;have q:=run_loadCells_list (P:=C.P) w' ⟨g,o,none⟩ ((ad3 i.size).map f) (λj v J=>by
   rw[J9];refine CT A ?_;simp only[s8,o9] at J;obtain⟨a,K,L⟩:=J;have:=j1.1 K;obtain⟨M,B⟩:=this;simp at M B;subst B L;exact l j (by omega))
  simp only[j7,List.length_range] at q;simp[loadVar,Et D,n,sizeOf,typeInfo,O,q]
 ·simp only[ah0] at n;rw[h,n];have b:0<x.length:=by omega
  have e0:x.getD 0 .bad=x[0]:=by simp[ah1,j0 b]
  simp only[ab2,if_false];rw[e0];refine⟨λc u=>G c (C4.2 ⟨0,b,u⟩),f 0,m 0 b,λw' A=>?_⟩;have:=l 0 b;simp only[ab0] at this;simp[loadVar,Et D,n,CT A this]
def W7(t:TI)(cells:List PV)(off:Nat):List PV:=t.ks.zipIdx.map λ(c,j)=>(cells.getD (off+j) .bad).as c
theorem M5(t:TI)(cells:List PV)(off:Nat):(W7 t cells off).length=t.ks.length:=by simp[W7]
theorem QM{t:TI}{cells:List PV}{off:Nat}(h:okP t cells off=true)(j:Nat)(a:j<t.ks.length):(cells.getD (off+j) .bad).has (t.ks[j])=true:=by simp only[okP,c9,x6] at h;exact h.2 (t.ks[j],j) (by rw[aa2];simp[a])
theorem EF{t:TI}{cells:List PV}{off:Nat}:Kw t cells off=(if t.agg then .agg (W7 t cells off) else if t.ks.length=1 then (W7 t cells off).getD 0 .bad else .bad):=by
 unfold Kw W7;split
 ·rfl
 ·split
  ·grind
  ·rename_i a;split
   ·rename_i b
    match d:t.ks,b with
    | [c],_=>exact absurd d (a c)
   ·rfl
theorem QN{t:TI}{cells:List PV}{off:Nat}(h:okP t cells off=true):∀j,j<t.ks.length->off+j<cells.length:=by intro j a;simp only[okP,c9,x6] at h;have:=h.2 (t.ks[j],j) (by rw[aa2];simp[a]);apply y9;intro b;rw[y7,af6 (by omega)] at this;generalize t.ks[j]=c at this;cases c<;>simp[PV.has] at this
theorem Sj{C:Cfg}{tid g o off:Nat}{cells:List PV}(h:okP (C.ti tid) cells off=true)(u:Bv Γ (A1 H) w g o cells)(v:∀c∈C6 cells,c<H.length) :
  QV C.P Γ H w (loadVar tid ⟨g,o+off,none⟩) (Kw (C.ti tid) cells off):=by
 have l:(C.ti tid).ok=true:=by simp only[okP,c9] at h;exact h.1
 have f:=QN h;have q:∀j (a:j<(W7 (C.ti tid) cells off).length),∃(d:off+j<cells.length) (k:j<(C.ti tid).ks.length),(W7 (C.ti tid) cells off)[j]=(cells[off+j]).as ((C.ti tid).ks[j]):=by
  intro j a;have b:j<(C.ti tid).ks.length:=by rw[M5] at a;exact a
  exact⟨f j b,b,by simp[W7,j0 (f j b)]⟩
 have key:=GV (Γ:=Γ) (H:=H) (w:=w) (C:=C) (tid:=tid) (g:=g) (o:=o+off) (x:=W7 (C.ti tid) cells off) l (M5 _ _ _)
  (λj a=>by
   obtain⟨d,k,e⟩:=q j a;obtain⟨U,t,z⟩:=u (off+j) d;have:=QM h j k;rw[U8 d] at this;exact⟨U,by rw[<-t];congr 2;omega,by rw[e];exact z.as this⟩)
  (λc i=>by
   obtain⟨j,a,p⟩:=C4.1 i;obtain⟨d,k,e⟩:=q j a;rw[e] at p;exact v c (C4.2 ⟨off+j,d,PV.as_nms c p⟩))
 rw[EF];by_cases n:(C.ti tid).agg=true
 ·simpa[n] using key
 ·simp only[n] at key ⊢;by_cases m:(C.ti tid).ks.length=1
  ·rw[if_pos m];simpa using key
  ·rw[if_neg m];refine⟨by simp[PV.nms],?_⟩;obtain⟨_,V,_,y⟩:=key;exact⟨V,.bad V,y⟩
theorem HR.box{C:Cfg}(hH:HR Γ H w){b:Nat}{cells:List PV}(hb:H[b]? = some (.box cells)):∃g,Γ.nm b=some g/\Bv Γ (A1 H) w g 0 cells/\∀c∈C6 cells,c<H.length:=by obtain⟨hlt,hbe⟩:=j1.1 hb;have:=hH.blk b hlt;rw[hbe] at this;obtain⟨g,cur,e,h1,h2,h3,h4⟩:=this;refine⟨g,h1,λj hj=>?_,λc hc=>hH.nms b hlt c (by rw[hbe];exact hc)⟩;obtain⟨V,e1,e2⟩:=h4 j hj;exact⟨V,by rw[cell_of_row w g _ cur e (0,0) h2,aa1];exact e1,e2⟩
theorem EN(l:List SV):C6 (l.map PV.s)=[]:=by induction l with
 | nil=>rfl
 | cons a l b=>simp[C6,PV.nms,b]
theorem HR.arr{C:Cfg}(hH:HR Γ H w){b:Nat}{v:Bool}{e sz:Nat}{els:List (List SV)}(hb:H[b]? = some (.arr v e sz els))(hne:¬(v=true/\els=[])) :
  ∃g cur,Γ.nm b=some g/\w.heap[g]? = some (.cells cur e (0,0))/\els.length*sz<=cur.size/\(∀i (h:i<els.length),(els[i]).length=sz)/\∀i (h:i<els.length),Bv Γ (A1 H) w g (i*sz) ((els[i]).map .s):=by
 obtain⟨hlt,hbe⟩:=j1.1 hb;have:=hH.blk b hlt;rw[hbe] at this;rcases this with h|⟨_,g,cur,h1,h2,h3,h4,h5⟩
 ·exact absurd h hne
 ·refine⟨g,cur,h1,h2,h3,h4,λi hi j hj=>?_⟩;simp at hj;obtain⟨V,e1,e2⟩:=h5 i hi j hj;exact⟨V,by rw[cell_of_row w g _ cur e (0,0) h2];exact e1,by simpa using .s _ _ e2⟩
theorem Bv.flatten{sh:Nat->Option Shp}{g sz:Nat}:∀(els:List (List SV)) (o:Nat),(∀i (h:i<els.length),(els[i]).length=sz)->(∀i (h:i<els.length),Bv Γ sh w g (o+i*sz) ((els[i]).map .s))->
  Bv Γ sh w g o (els.flatten.map .s)
 | [],o,_,_=>λj hj=>by simp at hj
 | el::els,o,hl,hc=>by
  have ih:=Bv.flatten (sh:=sh) (g:=g) (sz:=sz) els (o+sz) (λi h=>hl (i+1) (by simpa using h)) (λi h=>by
   have:=hc (i+1) (by simpa using h);simp only[List.getElem_cons_succ] at this;rw[show o+(i+1)*sz=o+sz+i*sz by rw[o6];omega] at this;exact this)
  have h0:=hc 0 (by simp);simp only[aj3,ab0,o8] at h0;have hsz:=hl 0 (by simp);simp only[o8] at hsz;intro j hj;rw[j7,ad8,o7] at hj;by_cases hlt:j<el.length
  ·obtain⟨U,e,k⟩:=h0 j (by simpa using hlt);exact⟨U,e,by simpa[w8,hlt] using k⟩
  ·obtain⟨U,e,k⟩:=ih (j-sz) (by rw[j7];omega);refine⟨U,by rw[<-e];congr 2;omega,?_⟩;simp only[ad8,List.map_append];rw[List.getElem_append_right (by simp;omega)];simpa[hsz] using k
theorem VS.sp_cells{sh:Nat->Option Shp}{els:List (List SV)}{i o:Nat}{V:Value}(h:VS Γ.St w (.sp els i o) V)(hi:i<els.length) :
  ∃g off,V = .pointer (some ⟨g,off+o,none⟩)/\Bv Γ sh w g off ((els[i]).map .s):=by
 cases h with
 | sp _ _ _ g off sz Vs hg hl hc hv=>
  exact⟨g,off+i*sz,rfl,λj hj=>by
   simp at hj;exact⟨_,hc i hi j hj,by simpa using .s _ _ (hv i hi j hj)⟩⟩
theorem Rw{a:Type}{l:List a}{i:Nat}{d:a}(h:i<l.length):l.getD i d=l[i]:=by simp[ah1,j0 h]
theorem QO{t:TI}{cells:List SV}{off:Nat}(h:okS t cells off=true):okP t (cells.map .s) off=true/\WW t cells off=Kw t (cells.map .s) off:=by
 simp only[okS,c9,decide_eq_true_eq,x6] at h;obtain⟨⟨d,k⟩,f⟩:=h;have a:∀j,j<t.ks.length->(cells.map PV.s).getD (off+j) .bad = .s (cells.getD (off+j) .nilp):=λj b=>by grind
 have g:∀(c:CK) (x:SV),(PV.s x).as c=x.as c:=λc x=>by cases c<;>rfl
 refine⟨?_,?_⟩
 ·simp only[okP,d,ai4,x6];rintro⟨c,j⟩ i;have b:j<t.ks.length:=by grind
  have:=f _ i;dsimp only at this ⊢;rw[a j b];cases c<;>exact this
 ·unfold WW Kw;have e:(t.ks.zipIdx.map λ(c,j)=>(cells.getD (off+j) .nilp).as c)=t.ks.zipIdx.map λ(c,j)=>((cells.map PV.s).getD (off+j) .bad).as c:=by
   apply List.map_congr_left;grind
  grind
theorem Yb{C:Cfg}{tid:Nat}{a:PV}{A:Value}{k:PV->Option R}(G:HR Γ H w)(h:Ol (C.ti tid) a H k=some r)(B:VP Γ (A1 H) w a A) :
  ∃v,k v=some r/\QV C.P Γ H w (ac7 tid A) v:=by
 unfold Ol at h;split at h
 ·rename_i b i off;split at h
  ·rename_i cells l;split at h
   ·rename_i m;subst m;obtain⟨c,f⟩:=C3 h;obtain⟨g,D,q,O⟩:=G.box (C:=C) l;have hA:A = .pointer (some ⟨g,0+off,none⟩):=by
     cases B with
     | ptrA _ _ _ u v e M n j d=>simp[A1,l,Blk.shp] at j
     | ptrB _ _ u j d=>rw[D] at d;cases d;simp
    subst hA;refine⟨_,f,?_⟩;have:=Sj (C:=C) (tid:=tid) c q O;exact⟨this.1,let⟨V,x,y⟩:=this.2;⟨V,x,λw' t=>by simp only[ac7,y5,p7,s9,j9];exact y w' t⟩⟩
   ·cases h
  ·rename_i v e M p l;split at h
   ·obtain⟨c,f⟩:=C3 h;simp only[c9,decide_eq_true_eq] at c;obtain⟨m,c⟩:=c;obtain⟨c,z⟩:=QO c;rw[z] at f;obtain⟨g,F,D,_,_,_,q⟩:=G.arr (C:=C) l (by rintro⟨_,rfl⟩;simp at m);have hA:A = .pointer (some ⟨g,i*M+off,none⟩):=by
     cases B with
     | ptrA _ _ _ u Q N L P j d=>
      rw[D] at d;cases d;simp[A1,l,Blk.shp] at j;grind
     | ptrB _ _ u j d=>simp[A1,l,Blk.shp] at j
    subst hA;rw[Rw m] at c f;refine⟨_,f,?_⟩;have:=Sj (C:=C) (tid:=tid) c (q i m) (by rw[EN];simp);exact⟨this.1,let⟨V,x,y⟩:=this.2;⟨V,x,λw' t=>by simp only[ac7,y5,p7,s9,j9];exact y w' t⟩⟩
   ·split at h
    ·rename_i I;obtain⟨rfl,rfl⟩:=I;obtain⟨c,f⟩:=C3 h;simp only[c9,decide_eq_true_eq] at c;obtain⟨S,c⟩:=c;obtain⟨c,z⟩:=QO c;rw[z] at f;have J:¬(v=true/\p=[]):=by grind
     obtain⟨g,F,D,_,_,K,q⟩:=G.arr (C:=C) l J;have hA:A = .pointer (some ⟨g,0+0,none⟩):=by
      cases B with
      | ptrA _ _ _ u Q N L P j d=>
       grind
      | ptrB _ _ u j d=>simp[A1,l,Blk.shp] at j
     subst hA;refine⟨_,f,?_⟩;have:=Sj (C:=C) (tid:=tid) c (Bv.flatten p 0 K (λi h=>by simpa using q i h)) (by rw[EN];simp);exact⟨this.1,let⟨V,x,y⟩:=this.2;⟨V,x,λw' t=>by simp only[ac7,y5,p7,s9,j9];exact y w' t⟩⟩
    ·cases h
  ·cases h
 ·rename_i p i off;obtain⟨c,f⟩:=C3 h;simp only[c9,decide_eq_true_eq] at c;obtain⟨m,c⟩:=c;obtain⟨c,z⟩:=QO c;rw[z] at f;obtain⟨g,o,rfl,q⟩:=VS.sp_cells (sh:=A1 H) B.inv_s m;rw[Rw m] at c f;refine⟨_,f,?_⟩;have:=Sj (C:=C) (tid:=tid) c q (by rw[EN];simp);exact⟨this.1,let⟨V,x,y⟩:=this.2;⟨V,x,λw' t=>by simp only[ac7,y5,p7,s9,j9];exact y w' t⟩⟩
 ·cases h
end
section
variable {Γ : Ctx} {H : List Blk} {w : World} {R : Type} {r : R}
theorem Fr{sh:Nat->Option Shp}(v:Value):VP Γ sh w (Mt v) v/\(Mt v).nms=[]:=by
 unfold Mt;split<;>first
  | exact⟨.bool _,rfl⟩
  | exact⟨.int _ _,rfl⟩
  | exact⟨.str _ rfl,rfl⟩
  | exact⟨.s _ _ .nilp,rfl⟩
  | exact⟨.nsl,rfl⟩
  | exact⟨.s _ _ .nilm,rfl⟩
  | exact⟨.s _ _ .nilf,rfl⟩
  | exact⟨.bad _,rfl⟩
theorem Bo7{l:List PV}(h:∀v∈l,v.nms=[]):C6 l=[]:=by
 induction l with
 | nil=>rfl
 | cons a l c=>simp[C6,h a (by simp),c (λv b=>h v (by simp[b]))]
theorem HC{sh:Nat->Option Shp}(v:Value):VP Γ sh w (Zw v) v/\(Zw v).nms=[]:=by
 unfold Zw;split
 ·rename_i c;refine⟨VP.mk_agg (by simp) λj b=>?_,?_⟩
  ·simp at b;exact⟨c[j],by simp[b],by simpa using(Fr c[j]).1⟩
  ·simp only[PV.nms];refine Bo7 λv d=>?_
   simp only[af2] at d;obtain⟨u,_,rfl⟩:=d;exact(Fr (Γ:=Γ) (w:=w) (sh:=sh) u).2
 ·rename_i a;split
  ·rename_i h;obtain rfl:a = #[]:=Array.eq_empty_of_size_eq_zero h;exact⟨VP.mk_tup (by simp) λj b=>by simp at b,rfl⟩
  ·exact⟨.bad _,rfl⟩
 ·exact Fr v
def GOK(C:Cfg)(St:Nat->Prop)(w:World):Prop:=
 (∀g k a,C.G.tab g=some (k,a)->St g/\∃e x,w.heap[g]? = some (.cells (a.map λz=>aj0 k z).toArray e x))/\∀g,C.G.gi g=true->St g/\∃m,w.cell? ⟨g,0,none⟩=some (.int .i64 m)
theorem GOK.congr{C C':Cfg}{St:Nat->Prop}{w:World}(h:C'.G=C.G)(hg:GOK C St w):GOK C' St w:=by unfold GOK at hg ⊢;rw[h];exact hg
theorem Cl7{St:Nat->Prop}{w:World}{g:Nat}{k:IntKind}{b:List Int}(d:St g){e:Nat}{x:Nat × Nat}(h:w.heap[g]? = some (.cells (b.map λz=>aj0 k z).toArray e x)):VS St w (.sp [b.map (SV.int k)] 0 0) (.pointer (some ⟨g,0,none⟩)):=by
 have e:(0:Nat)=0+0*b.length+0:=by omega
 rw[show(some (⟨g,0,none⟩:Addr))=some ⟨g,0+0*b.length+0,none⟩ by rw[<-e]];refine VS.sp [b.map (SV.int k)] 0 0 g 0 b.length (λ_ j=>.int k (b.getD j 0)) d (λi a=>?_) (λi a j c=>?_) (λi a j c=>?_)
 ·simp at a;subst a;simp
 ·simp at a;subst a;simp at c;simp[ac0,h,y7,j0 c]
 ·simp at a;subst a;simp at c;simp only[o8,x7,y7,j0 c,ah3];exact .int _ _
theorem Al1{C:Cfg}{sl:List PV}{a:Array Value}{ds:List Deferred}(o:GOK C Γ.St w)(l:SR Γ H w sl a)(x:Operand) :
  VP Γ (A1 H) w (opnd C sl x) (({ tmps:=a,defers:=ds }:Act).eval x)/\∀c∈(opnd C sl x).nms,c<H.length:=by
 cases x with
 | tmp t=>
  simp only[opnd,Act.eval];by_cases b:t<sl.length
  ·obtain⟨V,e,k⟩:=l.slot t b;rw[Rw b];refine⟨by simpa[e] using k,λc p=>l.nms c (C4.2 ⟨t,b,p⟩)⟩
  ·have d:sl.getD t (.tup []) = .tup []:=by simp[ah1,af6 (ae6 b)]
   have i:a.getD t undef=undef:=by
    have m:a.size<=t:=by rw[l.size];exact ae6 b
    rw[Array.getD_eq_getD_getElem?,ae8 m];rfl
   rw[d,i];exact⟨VP.mk_tup (by simp) λj u=>by simp at u,by simp[PV.nms,C6]⟩
 | const v=>
  have:=HC (Γ:=Γ) (w:=w) (sh:=A1 H) v;exact⟨this.1,by simp only[opnd];rw[this.2];simp⟩
 | global g=>
  simp only[opnd,Act.eval];cases q:C.G.tab g with
  | none=>exact⟨.bad _,by simp[PV.nms]⟩
  | some n=>
   obtain⟨d,e,x,i⟩:=o.1 g n.1 n.2 q;exact⟨.s _ _ (Cl7 d i),by simp[PV.nms]⟩
 | func f=>exact⟨.s _ _ (.fn (.func f) [] [] #[] #[] (λ_=>undef) (λ_=>undef) (by simp) rfl rfl (by simp) (by simp) (λj h=>by simp at h) (λj h=>by simp at h)),by simp[opnd,PV.nms]⟩
theorem Wt{C:Cfg}{t:Nat}{k:IntKind}(h:C.sh t = .int k):C.P.underlying t=some (.int k):=by simp only[Cfg.sh,FM] at h;split at h<;>simp_all
theorem Y8{C:Cfg}{t:Nat}(h:C.sh t = .str):C.P.underlying t=some .string:=by simp only[Cfg.sh,FM] at h;split at h<;>simp_all
structure SlV (Γ:Ctx) (w:World) (X:Value) (els:List (List SV)):Prop where
 ex:∃a cap,X = .slice a els.length cap/\els.length<=cap/\cap<=maxLen/\(a=none->cap=0)/\
  (els≠[]->∃g o sz,a=some ⟨g,o,none⟩/\(∀i (h:i<els.length),(els[i]).length=sz)/\∀i (h:i<els.length) j (h':j<(els[i]).length),∃U,w.cell? ⟨g,o+i*sz+j,none⟩=some U/\VS Γ.St w (els[i][j]) U)
theorem K6{b:Nat}{v:Bool}{e g:Nat}{a:List (List SV)}(j:H[b]? = some (.arr v e g a)){i:Bool}{d c f:Nat}(h:A1 H b=some (.arr i d c f)) :
  v=i/\e=d/\g=c/\a.length=f:=by
 simp[A1,j,Blk.shp] at h;exact h
theorem Tk{C:Cfg}{x:PV}{X:Value}{u:List (List SV)}(Y:HR Γ H w)(K:VP Γ (A1 H) w x X)(h:Cz H x=some u):SlV Γ w X u:=by
 unfold Cz at h;split at h
 ·cases K;simp only[c8] at h;subst h;exact⟨none,0,rfl,j2 _,ab5 _,λ_=>rfl,λh=>absurd rfl h⟩
 ·simp only[c8] at h;subst h;have hs:=K.inv_s;cases hs with
  | nil t k=>exact⟨none,0,rfl,j2 _,ab5 _,λ_=>rfl,λh=>absurd rfl h⟩
  | emp t k a cap ht A=>exact⟨some a,cap,rfl,ab5 _,A,by simp,λh=>absurd rfl h⟩
  | sl t u g off n cap L Vs hn d A ht J hl hc W=>
   subst hn;exact⟨_,cap,rfl,d,A,by simp,λ_=>⟨g,off,_,rfl,hl,λi h j f=>⟨_,hc i h j f,W i h j f⟩⟩⟩
 ·rename_i b;split at h
  ·rename_i v e L c D;simp only[c8] at h;subst h;cases K with
   | flv _ M B f=>
    obtain⟨_,_,_,I⟩:=K6 D f;obtain rfl:=j6.1 I;exact⟨none,0,rfl,j2 _,ab5 _,λ_=>rfl,λh=>absurd rfl h⟩
   | fl _ g v' M B n cap f W J d A hs=>
    obtain⟨rfl,rfl,rfl,rfl⟩:=K6 D f;refine⟨_,cap,rfl,d,A,by simp,λo=>?_⟩;obtain⟨z,y⟩:=j1.1 D;have:=Y.blk b z;rw[y] at this;rcases this with h|⟨_,g',q,G,P,h3,I,Q⟩
    ·exact absurd h.2 o
    ·rw[J] at G;cases G;refine⟨g,0,_,rfl,I,λi Z j S=>?_⟩;obtain⟨V,N,O⟩:=Q i Z j S;exact⟨V,by rw[cell_of_row w g _ q _ (0,0) P,aa1];exact N,O⟩
  ·cases h
 ·rename_i b i n;split at h
  ·rename_i v e L c D;simp only[c8] at h;subst h;cases K with
   | vwv _ M B _ f=>exact⟨none,0,by simp,by simp,ab5 _,λ_=>rfl,λh=>absurd (by simp) h⟩
   | vw _ _ _ g a cap v' M B m f W J ha Z d A=>
    obtain⟨rfl,rfl,rfl,rfl⟩:=K6 D f;have l:((c.drop i).take n).length=n:=by simp;omega
    refine⟨some a,cap,by rw[l],by rw[l];exact d,A,by simp,λo=>?_⟩;have U:n≠0:=by rintro rfl;simp at o
    obtain⟨z,y⟩:=j1.1 D;have:=Y.blk b z;rw[y] at this;rcases this with h|⟨_,g',q,G,P,h3,I,Q⟩
    ·exact absurd (by simp[h.2]) o
    ·rw[J] at G;cases G;have p:∀k (F:k<((c.drop i).take n).length),∃f:i+k<c.length,((c.drop i).take n)[k]=c[i+k]:=λk F=>by
      rw[l] at F;exact⟨by omega,by simp⟩
     refine⟨g,i*L,L,by rw[ha U],λk F=>?_,λk F j S=>?_⟩
     ·obtain⟨f,e⟩:=p k F;rw[e];exact I _ f
     ·obtain⟨f,e⟩:=p k F;have T:j<(c[i+k]).length:=by rw[<-e];exact S
      obtain⟨V,N,O⟩:=Q (i+k) f j T;refine⟨V,?_,by simp only[e];exact O⟩;rw[cell_of_row w g _ q _ (0,0) P,<-N]
      congr 1
      rw[o6]
  ·cases h
 ·cases h
theorem Ai8{x:PV}{n:Nat}(h:Bj H x=some n)(j:∀l,x≠.s (.str l))(d:∀b i m,x = .vw b i m->∃v e f a,H[b]? = some (.arr v e f a)/\i+m<=a.length):∃a,Cz H x=some a/\a.length=n:=by
 unfold Bj at h;split at h
 ·simp only[c8] at h;subst h;exact⟨[],rfl,rfl⟩
 ·simp only[c8] at h;subst h;exact⟨_,rfl,rfl⟩
 ·exact absurd rfl (j _)
 ·split at h
  ·rename_i c;simp only[c8] at h;subst h;exact⟨_,by simp[Cz,c],rfl⟩
  ·cases h
 ·rename_i b i m;simp only[c8] at h;subst h;obtain⟨v,e,f,a,c,g⟩:=d b i m rfl;exact⟨(a.drop i).take m,by simp only[Cz,c],by simp;omega⟩
 ·cases h
theorem PP{C:Cfg}{x:PV}{X:Value}{n:Nat}(t:HR Γ H w)(f:VP Γ (A1 H) w x X)(h:Bj H x=some n)(u:∀l,x≠.s (.str l)):∃a cap,X = .slice a n cap/\n<=cap:=by
 by_cases d:∃b i m,x = .vw b i m
 ·obtain⟨b,i,m,rfl⟩:=d;simp only[Bj,c8] at h;subst h;cases f with
  | vwv=>exact⟨none,0,rfl,j2 _⟩
  | vw _ _ _ g a cap G y v m z d B A D c F=>exact⟨some a,cap,rfl,c⟩
 ·obtain⟨q,j,k⟩:=Ai8 h u (λb i m e=>absurd ⟨b,i,m,e⟩ d);obtain⟨a,cap,o,p,_⟩:=(Tk (C:=C) t f j).ex;subst k;exact⟨a,cap,o,p⟩
theorem Ai7{C:Cfg}{x:PV}{X:Value}{t ty:Nat}{ts:List Nat}{k:PV->Option R}(A:HR Γ H w)(h:A67 C x t H k=some r)(y:VP Γ (A1 H) w x X) :
  ∃v,k v=some r/\QV C.P Γ H w (aa8 (t::ts).toArray ty #[X]) v:=by
 unfold A67 at h;split at h
 ·rename_i n e c;exact⟨_,h,.val rfl (.int _ _) λw' _=>by simp[aa8,run_underlying (Fv c),goInt]⟩
 ·rename_i l c;obtain⟨s,rfl,rfl⟩:=y.inv_str;exact⟨_,h,.val rfl (.int _ _) λw' _=>by simp[aa8,run_underlying (Y8 c),goInt]⟩
 ·cases h
 ·rename_i e c D;split at h
  ·rename_i n K;obtain⟨a,cap,rfl,_⟩:=PP (C:=C) A y K (λl e=>D l e);exact⟨_,h,.val rfl (.int _ _) λw' _=>by simp[aa8,run_underlying (G5 c),goInt]⟩
  ·cases h
 ·rename_i c;obtain rfl:=y.inv_nilm;exact⟨_,h,.val rfl (.int _ _) λw' _=>by simp[aa8,run_underlying (Km c),goInt]⟩
 ·rename_i b c;split at h
  ·rename_i d u;obtain⟨g,B,rfl⟩:=Ak2 u y;obtain⟨j,i⟩:=j1.1 u;have q:=A.blk b j;rw[i] at q;obtain⟨J,I,G,o,p,z⟩:=q;rw[B] at o;cases o;refine⟨_,h,.val rfl (.int _ _) λw' F=>?_⟩;have f:=(F g (x8.1 p).1).trans p;have m:=z.len;rw[j8] at m;simp[aa8,run_underlying (Km c),af3 f,goInt,m]
  ·rename_i a d u;obtain⟨g,B,rfl⟩:=Ak3 u y;obtain⟨j,i⟩:=j1.1 u;have q:=A.blk b j;rw[i] at q;obtain⟨J,I,G,o,p,z⟩:=q;rw[B] at o;cases o;refine⟨_,h,.val rfl (.int _ _) λw' F=>?_⟩;have f:=(F g (x8.1 p).1).trans p;have m:=z.len;rw[show(msP a d).length=d.length from j7 _] at m;rw[j8] at m;simp[aa8,run_underlying (Km c),af3 f,goInt,m]
  ·cases h
 ·cases h
theorem On{P:Program}{d:Bool}{xs:List PV}{k:PV->Option R}(e:Array TypeId)(f:TypeId)(h:Kh d xs k=some r) :
  ∃v a b c,k v=some r/\xs=[.s (.int c a),.s (.int c b)]/\QV P Γ H w (if d then Builtin.max_ e f #[.int c a,.int c b] else Builtin.min_ e f #[.int c a,.int c b]) v:=by
 unfold Kh at h;split at h
 ·rename_i c a i b;split at h
  ·rename_i g;subst g;refine⟨_,a,b,c,h,rfl,.val rfl (.int _ _) λw' _=>?_⟩;cases d
   ·simp[run_min_int2]
   ·simp[run_max_int2]
  ·cases h
 ·cases h
end
section
variable {L : Ctx} {H : List Blk} {w : World} {R : Type} {r : R}
theorem I8{C:Cfg}{t:Nat}(h:(C.ti t).ok=true):∃i,C.P.info? t=some i/\i.size=(C.ti t).ks.length/\0<i.size:=by obtain⟨i,d,z,k,j,l,g,e,c,f,a,b⟩:=Au h;grind
theorem An{P:Program}{t e:Nat}{i:TypeInfo}{g:IntKind}{a:Addr}{len cap:Nat}{n:Int}(f:P.underlying t=some (.slice e))(d:P.info? e=some i)(b:0<=n)(c:n<len)(w':World) :
  (ab8 t (.slice (some a) len cap) (.int g n)).run P w' = .ok (.pointer (some (a.add (n.toNat*i.size)))) w':=by
 simp[ab8,asIntOf,run_underlying f,b,c,sizeOf,typeInfo,d]
theorem Am{P:Program}{t e m:Nat}{i:TypeInfo}{g:IntKind}{a:Addr}{n:Int}(f:P.underlying t=some (.array m e))(d:P.info? e=some i)(b:0<=n)(c:n<m)(w':World) :
  (ab8 t (.pointer (some a)) (.int g n)).run P w' = .ok (.pointer (some (a.add (n.toNat*i.size)))) w':=by
 simp[ab8,asIntOf,run_underlying f,b,c,sizeOf,typeInfo,d,y5]
theorem Wn{b i off:Nat}{A:Value}(a:VP L (A1 H) w (.ptr b i off) A) :
  (∃g v e j d,H[b]? = some (.arr v e j d)/\L.nm b=some g/\A = .pointer (some ⟨g,i*j+off,none⟩))\/(∃g cells,i=0/\H[b]? = some (.box cells)/\L.nm b=some g/\A = .pointer (some ⟨g,off,none⟩)):=by
 have key:∀{s:Shp},A1 H b=some s->∃x,H[b]? = some x/\x.shp=s:=λh=>by simpa[A1] using h
 cases a with
 | ptrA _ _ _ g v e j n h f=>
  obtain⟨x,a,c⟩:=key h;cases x<;>simp[Blk.shp] at c
  obtain⟨rfl,rfl,rfl,rfl⟩:=c;exact .inl ⟨g,_,_,_,_,a,f,rfl⟩
 | ptrB _ _ g h f=>
  obtain⟨x,a,c⟩:=key h;cases x<;>simp[Blk.shp] at c
  exact .inr ⟨g,_,rfl,a,f,rfl⟩
theorem QV.mk1{P:Program}{m:Sem Value}{v:PV}{V:Value}(hn:∀c∈v.nms,c<H.length)(h:VP L (A1 H) w v V)(hm:∀w':World,Ext w w'->m.run P w' = .ok V w'):QV P L H w m v:=⟨hn,V,h,hm⟩
theorem Iq{C:Cfg}{t:Nat}{x i:PV}{X I:Value}{k:PV->Option R}(hH:HR L H w)(h:Bg C t x i H k=some r)(Q:VP L (A1 H) w x X)(u:VP L (A1 H) w i I)
  (J:∀c∈x.nms,c<H.length):∃v,k v=some r/\QV0 C.P L H w (ab8 t X I) v:=by
 unfold Bg at h;split at h
 ·rename_i kd n;obtain rfl:=u.inv_int;split at h
  ·rename_i b;split at h
   ·rename_i v U G p e D l;split at h
    ·rename_i F;obtain⟨d,y⟩:=C3 h;simp only[c9,decide_eq_true_eq] at d;obtain⟨i,u,f,q⟩:=I8 F.1;refine⟨_,y,?_⟩;cases Q with
     | flv _ W O K=>obtain⟨_,_,_,h4⟩:=K6 D K;omega
     | fl _ g v' W O n' cap K P A M Z S=>
      obtain⟨rfl,rfl,rfl,rfl⟩:=K6 D K;refine .mk0 J (V:=.pointer (some ⟨g,n.toNat*G+0,none⟩)) (.ptrA b _ 0 g _ _ G _ K A) λw'=>?_
      rw[An (G5 l) u d.1 d.2,J9,f,F.2];simp
    ·cases h
   ·cases h
  ·rename_i b o m;split at h
   ·rename_i v U G p e D l;split at h
    ·rename_i F;obtain⟨d,y⟩:=C3 h;simp only[c9,decide_eq_true_eq] at d;obtain⟨i,u,f,q⟩:=I8 F.1;refine⟨_,y,?_⟩;cases Q with
     | vwv _ W O _ K=>omega
     | vw _ _ _ g a cap v' W O m' K P A ha a0 M Z=>
      obtain⟨rfl,rfl,rfl,rfl⟩:=K6 D K;refine .mk0 J (V:=.pointer (some ⟨g,(o+n.toNat)*G+0,none⟩)) (.ptrA b _ 0 g _ _ G _ K A) λw'=>?_
      rw[An (G5 l) u d.1 d.2,ha (by omega),J9,f,F.2,o6];rfl
    ·cases h
   ·cases h
  ·rename_i z tt kk p;split at h
   ·rename_i e l;split at h
    ·rename_i F;obtain⟨d,y⟩:=C3 h;simp only[c9,decide_eq_true_eq] at d;obtain⟨i,u,f,q⟩:=I8 F.1;refine⟨_,y,?_⟩;have S:=Q.inv_s;cases S with
     | nil=>simp at d;omega
     | emp=>simp at d;omega
     | sl t' p g off n' cap G T hn M Z ht A Y N P=>
      refine .mk0 (by simp[PV.nms]) (V:=.pointer (some ⟨g,off+n.toNat*kk+0,none⟩)) (.s _ _ (.sp p n.toNat 0 g off kk T A Y N P)) λw'=>?_
      rw[An (G5 l) u d.1 (by omega),J9,f,F.2];rfl
    ·cases h
   ·cases h
  ·rename_i b j off;split at h
   ·rename_i m e l;rcases Wn Q with⟨g,v,U,G,p,D,A,rfl⟩|⟨g,cells,rfl,D,A,rfl⟩
    ·rw[D] at h;dsimp only at h;split at h
     ·rename_i F;obtain⟨rfl,rfl,B,rfl⟩:=F;obtain⟨d,y⟩:=C3 h;simp only[c9,decide_eq_true_eq] at d;obtain⟨i,u,f,q⟩:=I8 B;refine⟨_,y,.mk0 J (V:=.pointer (some ⟨g,n.toNat*(C.ti e).ks.length+0,none⟩)) (.ptrA b _ 0 g v U _ p.length (by simp[A1,D,Blk.shp]) A) λw'=>?_⟩;rw[Am (Fv l) u d.1 d.2,J9,f];simp
     ·cases h
    ·rw[D] at h;dsimp only at h;split at h
     ·rename_i B;obtain⟨d,y⟩:=C3 h;simp only[c9,decide_eq_true_eq] at d;obtain⟨i,u,f,q⟩:=I8 B;refine⟨_,y,.mk0 J (V:=.pointer (some ⟨g,off+n.toNat*(C.ti e).ks.length,none⟩)) (.ptrB b _ g (by simp[A1,D,Blk.shp]) A) λw'=>?_⟩;rw[Am (Fv l) u d.1 d.2,J9,f]
     ·cases h
   ·cases h
  ·rename_i p j off;split at h
   ·rename_i m e l;split at h
    ·rename_i B;obtain⟨d,y⟩:=C3 h;simp only[c9,decide_eq_true_eq] at d;obtain⟨i,u,f,q⟩:=I8 B;refine⟨_,y,?_⟩;have S:=Q.inv_s;cases S with
     | sp _ _ _ g o G T A Y N P=>
      refine .mk0 (by simp[PV.nms]) (V:=.pointer (some ⟨g,o+j*G+(off+n.toNat*(C.ti e).ks.length),none⟩)) (.s _ _ (.sp p j _ g o G T A Y N P)) λw'=>?_
      rw[Am (Fv l) u d.1 d.2,J9,f];simp[ag4]
    ·cases h
   ·cases h
  ·cases h
 ·cases h
theorem QV.part{C:Cfg}{u o:Nat}{cells:List PV}{A:Array Value}(h:okP (C.ti u) cells o=true)(hA:A.size=cells.length)(hc:∀j (h:j<cells.length),∃U,A[j]? = some U/\VP L (A1 H) w (cells[j]) U)
  (hn:∀c∈C6 cells,c<H.length):QV C.P L H w (part u A o) (Kw (C.ti u) cells o):=by
 have hok:(C.ti u).ok=true:=by simp only[okP,c9] at h;exact h.1
 obtain⟨i,d,z,hi,hd,hz,hsz,hby,hpos,hks,hagg,hlen⟩:=Au hok;have hlt:=QN h;have hx:∀j (hj:j<(W7 (C.ti u) cells o).length),∃(h':o+j<cells.length) (hk:j<(C.ti u).ks.length),(W7 (C.ti u) cells o)[j]=(cells[o+j]).as ((C.ti u).ks[j]):=by
  intro j hj;have hj':j<(C.ti u).ks.length:=by rw[M5] at hj;exact hj
  exact⟨hlt j hj',hj',by simp[W7,j0 (hlt j hj')]⟩
 have hvp:∀j (hj:j<(W7 (C.ti u) cells o).length),∃U,A[o+j]? = some U/\VP L (A1 H) w ((W7 (C.ti u) cells o)[j]) U:=λj hj=>by
  obtain⟨h',hk,e⟩:=hx j hj;obtain⟨U,e1,k1⟩:=hc (o+j) h';have:=QM h j hk;rw[U8 h'] at this;exact⟨U,e1,by rw[e];exact k1.as this⟩
 have hnm:∀c∈C6 (W7 (C.ti u) cells o),c<H.length:=λc hc'=>by
  obtain⟨j,hj,hm⟩:=C4.1 hc';obtain⟨h',hk,e⟩:=hx j hj;rw[e] at hm;exact hn c (C4.2 ⟨o+j,h',PV.as_nms c hm⟩)
 rw[EF];have hpos':0<(W7 (C.ti u) cells o).length:=by rw[M5,<-hlen];exact hpos
 by_cases ha:Fp d=true
 ·rw[hagg,if_pos ha];refine .mk1 (by simpa[PV.nms] using hnm) (VP.mk_agg (A:=A.extract o (o+i.size)) ?_ λj hj=>?_) λw' hw=>W4 hd ha hi A o w'
  ·have:=hlt ((C.ti u).ks.length-1) (by omega);rw[Array.size_extract,M5,hlen];omega
  ·obtain⟨U,e,k⟩:=hvp j hj;refine⟨U,?_,k⟩;rw[Array.getElem?_extract,if_pos]
   ·exact e
   ·have:=(x8.1 e).1;rw[M5,<-hlen] at hj;omega
 ·simp only[ah0] at ha;rw[hagg,ha];simp only[ab2,if_false];obtain⟨U,e,k⟩:=hvp 0 hpos';simp only[ab0] at e;split
  ·rw[U8 hpos'];exact .mk1 (λc hc'=>hnm c (C4.2 ⟨0,hpos',hc'⟩)) k λw' hw=>Dr hd ha e w'
  ·exact .mk1 (by simp[PV.nms]) (.bad U) λw' hw=>Dr hd ha e w'
theorem PA{C:Cfg}{t f:Nat}{x:PV}{X:Value}{k:PV->Option R}(h:Vy C t x f k=some r)(z:VP L (A1 H) w x X)(l:∀c∈x.nms,c<H.length) :
  ∃v,k v=some r/\QV C.P L H w (aj5 t X f) v:=by
 unfold Vy at h;split at h
 ·rename_i B cells j;split at h
  ·rename_i o u d;obtain⟨m,n⟩:=C3 h;obtain⟨A,rfl,e,g⟩:=z.inv_agg;obtain⟨F,q,rfl⟩:=Wu j;simp only[s8,o9] at d;obtain⟨fl,d,p⟩:=d;cases p;have:=QV.part (C:=C) m e g (by simpa[PV.nms] using l);refine⟨_,n,this.1,let⟨V,a,b⟩:=this.2;⟨V,a,λw' y=>?_⟩⟩;have i:F[f]? = some fl:=by simpa using d
   simp only[aj5,p7,run_underlying q,j9,i,asAgg,s9];exact b w' y
  ·cases h
 ·cases h
theorem Mv{P:Program}{t f:Nat}{F:Array Field}{fl:Field}{i:TypeInfo}{a:Addr}(e:P.underlying t=some (.struct F))(c:F[f]? = some fl)(d:P.info? fl.type=some i)(b:0<i.size)(w':World) :
  (ag1 t (.pointer (some a)) f).run P w' = .ok (.pointer (some (a.add fl.offset))) w':=by
 have:¬i.size=0:=by omega
 simp[ag1,run_underlying e,c,y5,fieldPlace,sizeOf,typeInfo,d,this]
theorem Im{C:Cfg}{t f:Nat}{x:PV}{X:Value}{k:PV->Option R}(h:Bd C t x f k=some r)(I:VP L (A1 H) w x X)(n:∀c∈x.nms,c<H.length) :
  ∃v,k v=some r/\QV0 C.P L H w (ag1 t X f) v:=by
 unfold Bd at h;split at h
 ·rename_i P B;obtain⟨F,G,rfl⟩:=Wu B;split at h
  ·rename_i o u b i off d;split at h
   ·rename_i l;simp only[s8,o9] at d;obtain⟨fl,d,A⟩:=d;cases A;have e:F[f]? = some fl:=by simpa using d
    obtain⟨ii,p,D,a⟩:=I8 l;refine⟨_,h,?_⟩;rcases Wn I with⟨g,v,K,q,j,y,m,rfl⟩|⟨g,cells,rfl,y,m,rfl⟩
    ·refine .mk0 n (V:=.pointer (some ⟨g,i*q+(off+fl.offset),none⟩)) (.ptrA b _ _ g v K _ j.length (by simp[A1,y,Blk.shp]) m) λw'=>?_
     rw[Mv G e p a,J9,ag4]
    ·refine .mk0 n (V:=.pointer (some ⟨g,off+fl.offset,none⟩)) (.ptrB b _ g (by simp[A1,y,Blk.shp]) m) λw'=>?_
     rw[Mv G e p a,J9]
   ·cases h
  ·rename_i o u j i off d;split at h
   ·rename_i l;simp only[s8,o9] at d;obtain⟨fl,d,A⟩:=d;cases A;have e:F[f]? = some fl:=by simpa using d
    obtain⟨ii,p,D,a⟩:=I8 l;refine⟨_,h,?_⟩;have N:=I.inv_s;cases N with
    | sp _ _ _ g o q J m M z O=>
     refine .mk0 (by simp[PV.nms]) (V:=.pointer (some ⟨g,o+i*q+(off+fl.offset),none⟩)) (.s _ _ (.sp j i _ g o q J m M z O)) λw'=>?_
     rw[Mv G e p a,J9];simp[ag4]
   ·cases h
  ·cases h
 ·cases h
theorem PI{C:Cfg}{t:Nat}{x i:PV}{X I:Value}{k:PV->Option R}(h:Wd C t x i k=some r)(F:VP L (A1 H) w x X)(G:VP L (A1 H) w i I)(z:∀c∈x.nms,c<H.length) :
  ∃v,k v=some r/\QV C.P L H w (aj6 t X I) v:=by
 unfold Wd at h;split at h
 ·rename_i J n;obtain rfl:=G.inv_int;split at h
  ·rename_i l;split at h
   ·rename_i f;obtain⟨s,rfl,rfl⟩:=F.inv_str;obtain⟨d,j⟩:=C3 h;simp only[c9,decide_eq_true_eq] at d;refine⟨_,j,.val rfl (.int _ _) λw' D=>?_⟩;have g:s.size=s.data.toList.length:=by rw[j8];rfl
    rw[run_index_string w' t s J n (Y8 f),dif_pos ⟨d.1,by rw[g];exact d.2⟩]
    congr 2
    have u:n.toNat<s.data.toList.length:=by omega
    rw[U8 u];rfl
   ·cases h
  ·rename_i cells;split at h
   ·rename_i m e f;obtain⟨d,j⟩:=C3 h;simp only[c9,decide_eq_true_eq] at d;obtain⟨A,rfl,o,p⟩:=F.inv_agg;have y:(C.ti e).ok=true:=by have:=d.2;simp only[okP,c9] at this;exact this.1
    obtain⟨ii,q,g,B⟩:=I8 y;have:=QV.part (C:=C) d.2 o p (by simpa[PV.nms] using z);refine⟨_,j,this.1,let⟨V,a,b⟩:=this.2;⟨V,a,λw' D=>?_⟩⟩;have:=b w' D;simp only[aj6,asIntOf,p7,s9,run_underlying (Fv f),j9];rw[if_pos d.1];simp only[sizeOf,typeInfo,p7,run_program,q,j9,s9,g];exact this
   ·cases h
  ·cases h
 ·cases h
end
section
variable {Γ : Ctx} {H : List Blk} {w : World} {R : Type} {r : R}
def BV(d:Nat)(n:Nat):Option Value->Prop
 | none=>n=d
 | some v=>∃k,v = .int k n
theorem BV.none(d:Nat):BV d d none:=rfl
theorem Qe{P:Program}{isSlice:Bool}{len cap l h m:Nat}{f a mx:Option Value}(c:BV 0 l f)(b:BV len h a)(d:BV cap m mx)(e:mx.isSome=true->a.isSome=true)(g:l<=h)(i:h<=m)(j:m<=cap)(w':World) :
  (ag7 isSlice len cap f a mx).run P w' = .ok (l,h,m) w':=by
 cases f<;>cases a<;>cases mx<;>simp only[BV] at c b d<;>simp at e <;>
  (try (obtain⟨n,rfl⟩:=c))<;>(try (obtain⟨k,rfl⟩:=b))<;>(try (obtain⟨o,rfl⟩:=d))<;>(try subst c)<;>(try subst b)<;>(try subst d) <;>
  simp[ag7,run_sliceBound_if,Int.ofNat_le,g,i,j]
def OV(Γ:Ctx)(sh:Nat->Option Shp)(w:World)(p:Option PV)(V:Option Value):Prop:=
 match p,V with
 | none,none=>True
 | some p,some V=>VP Γ sh w p V
 | _,_=>False
theorem Eb{sh:Nat->Option Shp}{d:Nat}{p:Option PV}{V:Option Value}{n:Int}(a:Vb d p=some n)(b:OV Γ sh w p V)(f:0<=n):BV d n.toNat V:=by
 unfold Vb at a;split at a
 ·simp only[c8] at a;subst a;cases V with
  | none=>simp[BV]
  | some V=>exact b.elim
 ·simp only[c8] at a;subst a;cases V with
  | none=>exact b.elim
  | some V=>
   rename_i e g;have c:VP Γ sh w (.s (.int e g)) V:=b;obtain rfl:=c.inv_int;exact⟨e,by simp[ag0 f]⟩
 ·cases a
theorem M9{P:Program}{t e:Nat}{i:TypeInfo}{a:Option Addr}{len cap l h m:Nat}{g b f:Option Value}(u:P.underlying t=some (.slice e))(c:P.info? e=some i)
  (p:BV 0 l g) (o:BV len h b) (q:BV cap m f) (d:f.isSome=true->b.isSome=true) (j:l<=h) (k:h<=m) (n:m<=cap) (w':World) :
  (aa4 t (.slice a len cap) g b f).run P w' = .ok (.slice (if m=l then a else a.map (·.add (l*i.size))) (h-l) (m-l)) w':=by
 simp only[aa4,aj7,p7,run_underlying u,j9,Qe p o q d j k n,sizeOf,typeInfo,run_program,c,s9]
theorem HE{P:Program}{t:Nat}{s:ByteArray}{l h:Nat}{b a:Option Value}(i:P.underlying t=some .string)
  (g:BV 0 l b) (f:BV s.size h a) (c:l<=h) (d:h<=s.size) (w':World) :
  (aa4 t (.string s) b a none).run P w' = .ok (.string (s.extract l h)) w':=by
 have e:=Qe (P:=P) (isSlice:=false) (mx:=none) (m:=s.size) (cap:=s.size) g f rfl (by simp) c d (j2 _) w';simp[aa4,aj7,run_underlying i,e]
theorem OZ(s:ByteArray)(a b:Nat):(s.extract a b).data.toList=(s.data.toList.take b).drop a:=by rw[Lib.extract_data,List.drop_take]
theorem OV.none{sh:Nat->Option Shp}{V:Option Value}(h:OV Γ sh w none V):V=none:=by
 cases V with
 | none=>rfl
 | some V=>exact h.elim
theorem OV.int{sh:Nat->Option Shp}{V:Option Value}{kd:IntKind}{n:Int}(h:OV Γ sh w (some (.s (.int kd n))) V):V=some (.int kd n):=by
 cases V with
 | none=>exact h.elim
 | some V=>
  have hv':VP Γ sh w (.s (.int kd n)) V:=h;rw[hv'.inv_int]
theorem OV.isSome{sh:Nat->Option Shp}{p:Option PV}{V:Option Value}(h:OV Γ sh w p V):V.isSome=p.isSome:=by cases p<;>cases V<;>first|rfl|exact h.elim
theorem DB{c:Type}{l:List c}{a b:Nat}(h:a<=b)(e:b<=l.length):((l.take b).drop a).length=b-a/\∀i (f:i<((l.take b).drop a).length),∃d:a+i<l.length,((l.take b).drop a)[i]=l[a+i]:=by grind
theorem VS.slice{St:Nat->Prop}{z t:Bool}{kk:Nat}{els:List (List SV)}{A:Option Addr}{len cap:Nat}(hs:VS St w (.sl z t kk els) (.slice A len cap)){l h m:Nat}(h1:l<=h)(h2:h<=len)(hm1:h<=m)(hm2:m<=cap){t':Bool}(ht':t'=true->m=h\/cap=0){size:Nat}(hsz:size=kk\/z=true) :
  len=els.length/\VS St w (.sl z t' kk ((els.take h).drop l)) (.slice (if m=l then A else A.map (·.add (l*size))) (h-l) (m-l)):=by
 cases hs with
 | nil=>
  refine⟨rfl,?_⟩;have:h=0:=by omega
  have:m=0:=by omega
  subst h m;have:l=0:=by omega
  subst l;simpa using VS.nil t' kk
 | emp _ _ a _ ht hmx=>
  refine⟨rfl,?_⟩;have:h=0:=by omega
  subst h;have:l=0:=by omega
  subst l;have:=VS.emp (St:=St) (w:=w) t' kk (if m=0 then a else a.add (0*size)) m (λe=>by rcases ht' e with h|h<;>omega) (by omega);split at this
  ·rename_i e;simpa[e] using this
  ·rename_i e;simpa[e] using this
 | sl _ _ g off n _ _ Vs hn hcap hm ht hg hl hc hv=>
  refine⟨hn,?_⟩;obtain⟨e1,e2⟩:=DB (l:=els) h1 (by omega);have hsz':size=kk:=by rcases hsz with h|h<;>first|exact h|cases h
  subst hsz';by_cases he:h=l
  ·subst he;have e3:(els.take h).drop h=[]:=by simp
   rw[e3,Nat.sub_self];by_cases hml:m=h
   ·rw[if_pos hml];exact .emp t' _ _ _ (λ_=>by omega) (by omega)
   ·rw[if_neg hml];exact .emp t' _ _ _ (λe=>by rcases ht' e with h|h<;>omega) (by omega)
  ·have hml:¬m=l:=by omega
   rw[if_neg hml];simp only[af5];rw[J9];refine .sl t' _ g (off+l*size) (h-l) (m-l) size (λi j=>Vs (l+i) j) (by omega) (by omega) (by omega) (λe=>by rcases ht' e with h|h<;>omega) hg (λi hi=>?_) (λi hi j hj=>?_) (λi hi j hj=>?_)
   ·obtain⟨h',e⟩:=e2 i hi;rw[e];exact hl _ h'
   ·obtain⟨h',e⟩:=e2 i hi;rw[show off+l*size+i*size+j=off+(l+i)*size+j by rw[o6];omega];exact hc _ h' j (by rw[<-e];exact hj)
   ·obtain⟨h',e⟩:=e2 i hi;simp only[e];exact hv _ h' j (by rw[<-e];exact hj)
theorem Od(s:ByteArray):s.data.toList.length=s.size:=by rw[j8];rfl
theorem Tl{C:Cfg}{t:Nat}{x:PV}{X:Value}{lo u mx:Option PV}{LO HI MX:Option Value}{k:PV->Option R}(hH:HR Γ H w)(h:Wv C t x lo u mx H k=some r)(Q:VP Γ (A1 H) w x X)(M:∀c∈x.nms,c<H.length)
  (Z:OV Γ (A1 H) w lo LO) (O:OV Γ (A1 H) w u HI) (a0:OV Γ (A1 H) w mx MX) (hm:mx.isSome=true->u.isSome=true):∃v,k v=some r/\QV0 C.P Γ H w (aa4 t X LO HI MX) v:=by
 unfold Wv at h;split at h
 ·rename_i f;split at h
  ·cases h
  ·rename_i len j;split at h
   ·rename_i I N hl hh;split at h
    ·obtain⟨h1,G⟩:=C3 h;simp only[c9,decide_eq_true_eq] at h1;obtain rfl:=a0.none;have L:=Eb hl Z (by omega);have J:=Eb hh O (by omega);split at G
     ·rename_i s;simp only[Cp] at f;split at f
      ·rename_i p;obtain⟨s',rfl,rfl⟩:=Q.inv_str;simp only[Bj,c8] at j;subst j;rw[Od] at J;refine⟨_,G,.mk0 (by simp[PV.nms]) (.str (s'.extract I.toNat N.toNat) (OZ _ _ _)) λw'=>?_⟩;rw[HE (Y8 p) L J (by omega) (by rw[<-Od];omega)]
      ·cases f
     ·rename_i z tt kk B;simp only[Cp] at f;split at f
      ·rename_i e p;simp only[c9,decide_eq_true_eq] at f;obtain⟨i,u,F,y⟩:=I8 f.1;simp only[Bj,c8] at j;subst j;have U:=Q.inv_s;have key:∃A cap,X = .slice A B.length cap/\B.length<=cap/\(z=true->cap=0):=by
        cases U with
        | nil=>exact⟨_,_,rfl,j2 _,λ_=>rfl⟩
        | emp=>exact⟨_,_,rfl,ab5 _,by simp⟩
        | sl _ _ g off n cap _ Vs hn q hm ht Y hl hc hv=>subst hn;exact⟨_,_,rfl,q,by simp⟩
       obtain⟨A,cap,rfl,q,hz⟩:=key;have:=VS.slice U (l:=I.toNat) (h:=N.toNat) (m:=cap) (by omega) (by omega) (by omega) (j2 _) (t':=z) (λe=>.inr (hz e)) (size:=i.size) (.inl (by omega));refine⟨_,G,.mk0 (by simp[PV.nms]) (.s _ _ this.2) λw'=>?_⟩;rw[M9 (G5 p) u L J (BV.none cap) (by simp) (by omega) (by omega) (j2 _)]
      ·cases f
     ·simp only[Cp] at f;split at f
      ·rename_i e p;obtain⟨i,u,F,y⟩:=I8 f;obtain rfl:=Q.inv_nsl;simp only[Bj,c8] at j;subst j;refine⟨_,G,.mk0 (by simp[PV.nms]) .nsl λw'=>?_⟩;rw[M9 (G5 p) u L J (m:=0) (cap:=0) (BV.none _) (by simp) (by omega) (by omega) (j2 _)];simp;omega
      ·cases f
     ·rename_i b;simp only[Cp] at f;split at f
      ·rename_i v e' sz B e T p;simp only[c9,decide_eq_true_eq] at f;obtain⟨i,u,F,y⟩:=I8 f.1;simp only[Bj,T,c8] at j;subst j;cases Q with
       | flv _ e2 S K=>
        obtain⟨_,_,_,h4⟩:=K6 T K;have P:I.toNat=0:=by omega
        have D:N.toNat=0:=by omega
        refine⟨_,G,.mk0 M (V:=.slice none 0 0) ?_ λw'=>?_⟩
        ·rw[P,D];exact .vwv b _ _ _ K
        ·rw[M9 (G5 p) u L (by rw[h4] at J;exact J) (m:=0) (cap:=0) (BV.none _) (by simp) (by omega) (by omega) (j2 _)];simp[D]
       | fl _ g v' e2 S n' cap K hv Y q hm U=>
        obtain⟨rfl,rfl,rfl,rfl⟩:=K6 T K;refine⟨_,G,.mk0 M (V:=.slice (some (if cap=I.toNat then ⟨g,0,none⟩ else (⟨g,0,none⟩:Addr).add (I.toNat*i.size))) (N.toNat-I.toNat) (cap-I.toNat)) ?_ λw'=>?_⟩
        ·refine .vw b _ _ g _ _ _ _ _ _ K hv Y (λa2=>?_) (by omega) (by omega) (by omega);rw[if_neg (by omega),J9,F,f.2,aa1]
        ·rw[M9 (G5 p) u L J (m:=cap) (BV.none _) (by simp) (by omega) (by omega) (j2 _)]
         congr 2
         split<;>simp
      ·cases f
     ·rename_i b o n;simp only[Cp] at f;split at f
      ·rename_i v e' sz B e T p;simp only[c9,decide_eq_true_eq] at f;obtain⟨i,u,F,y⟩:=I8 f.1;simp only[Bj,c8] at j;subst j;cases Q with
       | vwv _ e2 S _ K=>
        obtain⟨_,_,_,h4⟩:=K6 T K;have P:I.toNat=0:=by omega
        have D:N.toNat=0:=by omega
        refine⟨_,G,.mk0 M (V:=.slice none 0 0) ?_ λw'=>?_⟩
        ·rw[P,D];exact .vwv b _ _ _ K
        ·rw[M9 (G5 p) u L J (m:=0) (cap:=0) (BV.none _) (by simp) (by omega) (by omega) (j2 _)];simp[D]
       | vw _ _ _ g a cap v' e2 S m K hv Y ha a3 q hm=>
        obtain⟨rfl,rfl,rfl,rfl⟩:=K6 T K;refine⟨_,G,.mk0 M (V:=.slice (some (if cap=I.toNat then a else a.add (I.toNat*i.size))) (N.toNat-I.toNat) (cap-I.toNat)) ?_ λw'=>?_⟩
        ·refine .vw b _ _ g _ _ _ _ _ _ K hv Y (λa2=>?_) (by omega) (by omega) (by omega);rw[if_neg (by omega),ha (by omega),J9,F,f.2,o6]
        ·rw[M9 (G5 p) u L J (m:=cap) (BV.none _) (by simp) (by omega) (by omega) (j2 _)]
         congr 2
         split<;>simp
      ·cases f
     ·cases G
    ·rename_i kd m;obtain⟨h1,G⟩:=C3 h;simp only[c9,decide_eq_true_eq] at h1;obtain rfl:=a0.int;have W:HI.isSome=true:=by rw[O.isSome];exact hm rfl
     have L:=Eb hl Z (by omega);have J:=Eb hh O (by omega);have bm:∀d,BV d m.toNat (some (.int kd m)):=λd=>⟨kd,by rw[ag0 (by omega)]⟩
     split at G
     ·rename_i z tt kk B;simp only[Cp] at f;split at f
      ·rename_i e p;simp only[c9,decide_eq_true_eq] at f;obtain⟨i,u,F,y⟩:=I8 f.1;simp only[Bj,c8] at j;subst j;have U:=Q.inv_s;have key:∃A cap,X = .slice A B.length cap/\B.length<=cap:=by
        cases U with
        | nil=>exact⟨_,_,rfl,j2 _⟩
        | emp=>exact⟨_,_,rfl,ab5 _⟩
        | sl _ _ g off n cap _ Vs hn q hm ht Y hl hc hv=>subst hn;exact⟨_,_,rfl,q⟩
       obtain⟨A,cap,rfl,q⟩:=key;have:=VS.slice U (l:=I.toNat) (h:=N.toNat) (m:=m.toNat) (by omega) (by omega) (by omega) (by omega) (t':=true) (λe=>.inl (by omega)) (size:=i.size) (.inl (by omega));refine⟨_,G,.mk0 (by simp[PV.nms]) (.s _ _ this.2) λw'=>?_⟩;rw[M9 (G5 p) u L J (bm _) (λ_=>W) (by omega) (by omega) (by omega)]
      ·cases f
     ·simp only[Cp] at f;split at f
      ·rename_i e p;obtain⟨i,u,F,y⟩:=I8 f;obtain rfl:=Q.inv_nsl;simp only[Bj,c8] at j;subst j;refine⟨_,G,.mk0 (by simp[PV.nms]) .nsl λw'=>?_⟩;rw[M9 (G5 p) u L J (bm _) (λ_=>W) (by omega) (by omega) (by omega)];have D:N.toNat=0:=by omega
       have a1:m.toNat=0:=by omega
       simp[D,a1]
      ·cases f
     ·cases G
    ·cases h
   ·cases h
 ·cases h
theorem Kz{C:Cfg}{t e b n:Nat}{v:Bool}{D z:Nat}{c:List (List SV)}{X:Value}{J f K:Option PV}{A HI B:Option Value}{k:PV->Option R}(hH:HR Γ H w)(h:Ev b n J f K k=some r)
  (x:C.sh t = .array n e) (u:(C.ti e).ok=true) (o:(C.ti e).ks.length=z) (d:H[b]? = some (.arr v D z c)) (hn:c.length=n) (T:n≠0) (W:n<=maxLen) (Y:VP Γ (A1 H) w (.ptr b 0 0) X)
  (p:OV Γ (A1 H) w J A) (l:OV Γ (A1 H) w f HI) (q:OV Γ (A1 H) w K B):∃v,k v=some r/\QV0 C.P Γ H w (aa4 t X A HI B) v:=by
 unfold Ev at h;split at h
 ·rename_i j N S Q;obtain⟨O,P⟩:=C3 h;simp only[c9,decide_eq_true_eq] at O;obtain rfl:=q.none;have M:=Eb S p (by omega);have L:=Eb Q l (by omega);obtain⟨i,f,y,I⟩:=I8 u;rcases Wn Y with⟨g,v',e2,Z,F,a,G,rfl⟩|⟨g,cells,_,a,G,rfl⟩
  ·rw[d] at a;simp only[c8,Blk.arr.injEq] at a;obtain⟨rfl,rfl,rfl,rfl⟩:=a;refine⟨_,P,.mk0 (by simp[PV.nms];exact(j1.1 d).1) (V:=.slice (some (if n=j.toNat then ⟨g,0,none⟩ else (⟨g,0,none⟩:Addr).add (j.toNat*i.size))) (N.toNat-j.toNat) (n-j.toNat)) ?_ λw'=>?_⟩
   ·refine .vw b _ _ g _ _ v D z c.length (by simp[A1,d,Blk.shp]) (λ_=>by omega) G (λU=>?_) (by omega) (by omega) (by omega);rw[if_neg (by omega),J9,y,o,aa1]
   ·simp only[aa4,p7,run_underlying (Fv x),j9,y5,s9];rw[Qe M L (m:=n) (BV.none _) (by simp) (by omega) (by omega) (j2 _)];simp[sizeOf,typeInfo,f]
  ·rw[d] at a;cases a
 ·cases h
end
def CR(a:Ctx)(sh:Nat->Option Shp)(w:World)(l:List PV)(A:Array Value):Prop:=A.size=l.length/\∀j (h:j<l.length),∃U,A[j]? = some U/\VP a sh w (l[j]) U
section
variable {Γ : Ctx} {sh : Nat -> Option Shp} {H : List Blk} {w : World} {R : Type} {r : R}
theorem CR.one{v:PV}{V:Value}(h:VP Γ sh w v V):CR Γ sh w [v] #[V]:=by refine⟨rfl,λj hj=>?_⟩;grind
theorem A17{V:Value}(h:V.oneCell'=true):V.cells = #[V]:=by cases V<;>first|rfl|simp[Value.oneCell'] at h
theorem VS.oneCell{St:Nat->Prop}{v:SV}{V:Value}(h:VS St w v V):V.oneCell'=true:=by cases h<;>rfl
theorem VP.oneCell{v:PV}{V:Value}(h:VP Γ sh w v V)(h1:v.one=true):V.oneCell'=true:=by
 cases h with
 | s v V h=>exact h.oneCell
 | yd=>exact Γ.yv1
 | agg=>simp[PV.one] at h1
 | tup=>simp[PV.one] at h1
 | bad=>simp[PV.one] at h1
 | _=>rfl
theorem VP.cells{v:PV}{V:Value}(h:VP Γ sh w v V)(hb:v.cells≠[])(ht:∀l,v≠.tup l):CR Γ sh w v.cells V.cells:=by
 by_cases ha:∃l,v = .agg l
 ·obtain⟨l,rfl⟩:=ha;obtain⟨A,rfl,hA,hc⟩:=h.inv_agg;exact⟨hA,hc⟩
 ·have h1:v.one=true:=by
   cases v<;>simp_all [PV.cells,PV.one]
  have hv:v.cells=[v]:=by cases v<;>simp_all [PV.cells,PV.one]
  rw[hv,A17 (h.oneCell h1)];exact CR.one h
theorem VP.cells'{v:PV}{V:Value}(h:VP Γ sh w v V)(hb:v.cells≠[]):CR Γ sh w v.cells V.cells:=by
 by_cases ht:∃l,v = .tup l
 ·obtain⟨l,rfl⟩:=ht;obtain⟨A,rfl,hA,hc⟩:=h.inv_tup;exact CR.one h
 ·exact h.cells hb (λl e=>ht ⟨l,e⟩)
theorem PV.cells_nms{v:PV}:∀c∈C6 v.cells,c∈v.nms:=by intro c;cases v<;>simp[PV.cells,C6,PV.nms]
theorem Bs3{Γ':Ctx}{sh':Nat->Option Shp}{w':World}(c:∀g,Γ.St g->w'.heap[g]? = w.heap[g]?)(b:∀g,Γ.St g->Γ'.St g){a:Bool}{l:List SV}{V:Value}(h:VP Γ sh w (svV a l) V):VP Γ' sh' w' (svV a l) V:=by
 cases a with
 | true=>
  simp only[svV,cond_true] at h ⊢;obtain⟨A,rfl,hA,d⟩:=h.inv_agg;refine VP.mk_agg hA λj f=>?_
  obtain⟨U,e,k⟩:=d j f;simp only[x7] at k ⊢;exact⟨U,e,.s _ _ (k.inv_s.mono c b)⟩
 | false=>
  match l with
  | []=>exact .bad _
  | [x]=>exact .s _ _ (h.inv_s.mono c b)
  | _::_::_=>exact .bad _
theorem SW{c:CK}{V:Value}(h:As7 c V=true):VP Γ sh w (P3 c) V:=by
 unfold As7 at h;split at h
 ·rename_i b;cases b<;>simp at h;exact .bool _
 ·simp only[c9,decide_eq_true_eq] at h;obtain⟨rfl,rfl⟩:=h;exact .int _ _
 ·exact .str _ (by simpa using h)
 ·exact .nsl
 ·exact .s _ _ .nilp
 ·exact .s _ _ .nilm
 ·exact .s _ _ .nilf
 ·cases h
theorem Ov:∀{a:List CK} {l:List Value},Av a l=true->∀j (h:j<a.length),∃U,l[j]? = some U/\VP Γ sh w (P3 a[j]) U
 | [],[],_=>λj h=>by simp at h
 | c::r,v::q,h=>by
  simp only[Av,c9] at h;intro j b;cases j with
  | zero=>exact⟨v,rfl,by simpa using SW h.1⟩
  | succ j=>
   obtain⟨U,e,k⟩:=Ov h.2 j (by simpa using b);exact⟨U,by simpa using e,by simpa using k⟩
 | [],_::_,h=>by simp[Av] at h
 | _::_,[],h=>by simp[Av] at h
theorem Cc{C:Cfg}{t:Nat}(h:(C.ti t).ok=true):∃i z,C.P.info? t=some i/\i.zero=some z/\i.size=(C.ti t).ks.length/\CR Γ sh w ((C.ti t).ks.map P3) z.cells:=by obtain⟨i,d,z,m,p,o,c,l,g,b,f,a⟩:=Au h;refine⟨i,z,m,o,a,by rw[j7,<-a,c],λj n=>?_⟩;obtain⟨U,e,k⟩:=Ov b j (by simpa using n);exact⟨U,by simpa using e,by simpa using k⟩
theorem D4{b:Type}:∀(a:List b) (l:List b) (off:Nat),(F9 l off a).length=l.length
 | [],l,off=>by simp[F9]
 | v::a,l,off=>by simp[F9,D4 a]
theorem K7{b:Type}:∀(a:List b) (l:List b) (off:Nat),off+a.length<=l.length->∀j,(F9 l off a)[j]? = if off<=j/\j<off+a.length then a[j-off]? else l[j]?
 | [],l,off,_,j=>by simp[F9];intro c d;omega
 | v::a,l,off,h,j=>by
  simp only[ae5] at h;rw[F9,K7 a _ _ (by simp;omega)];grind
theorem IO:∀(a:List Value) (k:Nat) (off:Nat) (A:Array Value),(((a.zipIdx k).foldl (λb (c,j)=>b.setIfInBounds (off+j) c) A).toList=F9 A.toList (off+k) a)
 | [],k,off,A=>by simp[F9]
 | v::a,k,off,A=>by
  rw[List.zipIdx_cons,ah8,IO a (k+1) off,F9];grind
theorem CR.put{l x:List PV}{A X:Array Value}{off:Nat}(h:CR Γ sh w l A)(hx:CR Γ sh w x X)(hl:off+x.length<=l.length) :
  CR Γ sh w (F9 l off x) (X.zipIdx.foldl (λcs (c,j)=>cs.setIfInBounds (off+j) c) A):=by
 have e:(X.zipIdx.foldl (λcs (c,j)=>cs.setIfInBounds (off+j) c) A).toList=F9 A.toList off X.toList:=by
  have:=IO X.toList 0 off A;rw[ab0] at this;rw[<-this,<-Array.foldl_toList,Array.toList_zipIdx]
 have hAl:A.toList.length=l.length:=by simpa using h.1
 have hXl:X.toList.length=x.length:=by simpa using hx.1
 refine⟨?_,λj hj=>?_⟩
 ·rw[<-j8,e,D4,D4,hAl]
 ·rw[D4] at hj;have g1:(X.zipIdx.foldl (λcs (c,j)=>cs.setIfInBounds (off+j) c) A)[j]? = (F9 A.toList off X.toList)[j]?:=by rw[<-e,Array.getElem?_toList]
  rw[g1,K7 _ _ _ (by omega)];have g2:=K7 x l off hl j;have hj':j<(F9 l off x).length:=by rw[D4];exact hj
  rw[j0 hj'] at g2;by_cases hc:off<=j/\j<off+x.length
  ·rw[if_pos (by omega)];rw[if_pos hc] at g2;obtain⟨U,e1,k1⟩:=hx.2 (j-off) (by omega);refine⟨U,by simpa using e1,?_⟩;rw[j0 (by omega)] at g2;simp only[c8] at g2;rw[g2];exact k1
  ·rw[if_neg (by omega)];rw[if_neg hc] at g2;obtain⟨U,e1,k1⟩:=h.2 j hj;refine⟨U,by simpa using e1,?_⟩;rw[j0 hj] at g2;simp only[c8] at g2;rw[g2];exact k1
def PR(Γ:Ctx)(sh:Nat->Option Shp)(w:World):List (Nat × PV)->List (Nat × Value)->Prop
 | [],[]=>True
 | (i,v)::r,(a,V)::q=>i=a/\VP Γ sh w v V/\PR Γ sh w r q
 | _,_=>False
theorem Pz:∀(b l:List PV) (off:Nat),∀c∈C6 (F9 l off b),c∈C6 l\/c∈C6 b
 | [],l,off,c,h=>.inl (by simpa[F9] using h)
 | v::b,l,off,c,h=>by
  rw[F9] at h;rcases Pz b _ _ c h with h|h
  ·obtain⟨j,d,a⟩:=C4.1 h;rw[v7] at a;split at a
   ·exact .inr (by simp only[C6,o5];exact .inl a)
   ·exact .inl (C4.2 ⟨j,by simpa using d,a⟩)
  ·exact .inr (by simp only[C6,o5];exact .inr h)
theorem Be{place:Nat->Option (Nat × Nat)}{place':Nat->Option (Nat × Nat)}(k:∀i off size,place i=some (off,size)->0<size->place' i=some (off,size)) :
  ∀{parts:List (Nat × PV)} {n:List (Nat × Value)} {cells out:List PV} {A:Array Value},Ax place cells parts=some out->CR Γ sh w cells A->PR Γ sh w parts n->
   ∃B,ae9 place' A n=some B/\CR Γ sh w out B/\∀c∈C6 out,c∈C6 cells\/∃p∈parts,c∈p.2.nms
 | [],[],cells,out,A,h,b,_=>by
  simp only[Ax,c8] at h;subst h;exact⟨A,rfl,b,λc b=>.inl b⟩
 | (i,v)::r,(z,V)::q,cells,out,A,h,b,d=>by
  obtain⟨rfl,y,d⟩:=d;simp only[Ax] at h;split at h
  ·rename_i off size l;split at h
   ·rename_i a;simp only[c9,decide_eq_true_eq] at a;obtain⟨⟨m,o⟩,t⟩:=a;have j:v.cells≠[]:=by intro e;rw[e] at m;simp at m;omega
    have f:=y.cells' j;obtain⟨B,e,u,x⟩:=Be k h (b.put f t) d;refine⟨B,?_,u,λc g=>?_⟩
    ·simp only[ae9,k i off size l o];rw[if_neg,e];simp only[ac1,decide_eq_true_eq,not_or];rw[f.1,b.1];omega
    ·rcases x c g with h|⟨p,k,b⟩
     ·rcases Pz _ _ _ c h with h|h
      ·grind
      ·exact .inr ⟨(i,v),by simp,PV.cells_nms c h⟩
     grind
   ·cases h
  ·cases h
 | [],_::_,_,_,_,_,_,d=>d.elim
 | _::_,[],_,_,_,_,_,d=>by simp[PR] at d
theorem Jj(a:List CK):C6 (a.map P3)=[]:=by
 induction a with
 | nil=>rfl
 | cons c r b=>cases c<;>simp[C6,P3,PV.nms,b]
theorem Zk{P:Program}{t:Nat}{d:TypeDesc}(h:P.underlying t=some d):∃i,P.info? t=some i:=by unfold Program.underlying at h;grind
theorem JC{P:Program}{d t:Nat}{b:List CK}(h:GS P d t=some b):∃i,P.info? t=some i:=by
 cases d with
 | zero=>simp[GS] at h
 | succ d=>
  unfold GS at h;cases a:P.underlying t with
  | none=>simp[a] at h
  | some x=>exact Zk a
theorem WN{P:Program}{d:Nat}:∀{e:List Field} {off:Nat} {g:List CK},ksF (GS P d) e off=some g->∀f∈e,∃i,P.info? f.type=some i
 | [],_,_,_,f,c=>by simp at c
 | x::r,off,g,h,f,c=>by
  simp only[ksF] at h;split at h
  ·split at h
   ·rename_i a j;split at h
    ·rename_i b k;rcases ag3.1 c with rfl|c
     ·exact JC j
     ·exact WN k f c
    grind
   ·cases h
  ·cases h
theorem JI{a b:Type}{f:a->Option b}{g:a->b}:∀(l:List a),(∀x∈l,f x=some (g x))->l.mapM f=some (l.map g)
 | [],_=>rfl
 | x::r,h=>by
  rw[List.mapM_cons,h x (by simp),JI r (λy c=>h y (by simp[c]))];rfl
theorem YU{C:Cfg}{t:Nat}(h:0<Bc3 C t):∃i,C.P.info? t=some i/\i.size=Bc3 C t:=by
 unfold Bc3 at h ⊢;split at h
 ·rename_i a;obtain⟨i,b,c,_⟩:=I8 a;grind
 ·omega
theorem Cg6{C:Cfg}{t:Nat}(h:(C.ti t).ok=true):GS C.P 20 t=some (C.ti t).ks:=by simp only[Cfg.ti,Cb0] at h ⊢;grind
theorem Rc{C:Cfg}{t:Nat}{parts:List (Nat × PV)}{ps:Array (Nat × Value)}{k:PV->Option R}(h:Vf C t parts k=some r)(u:PR Γ (A1 H) w parts ps.toList)(N:∀p∈parts,∀c∈p.2.nms,c<H.length) :
  ∃v,k v=some r/\QV0 C.P Γ H w (Instr.build t ps) v:=by
 unfold Vf at h;split at h
 ·rename_i o;obtain⟨i,z,a,O,S,y⟩:=Cc (Γ:=Γ) (sh:=A1 H) (w:=w) o;split at h
  ·rename_i T q;obtain⟨F,D,rfl⟩:=Wu q;dsimp only at h;split at h
   ·rename_i out l;have m:∀f∈F.toList,∃i,C.P.info? f.type=some i:=by
     have:=Cg6 o;unfold GS at this;rw[D] at this;exact WN this
    let g:Field->Nat × Nat:=λf=>(f.offset,((C.P.info? f.type).map (·.size)).getD 0)
    have Q:F.toList.mapM (λf=>(C.P.info? f.type).map λi=>(f.offset,i.size))=some (F.toList.map g):=JI _ λf l=>by
     obtain⟨i,a⟩:=m f l;simp[g,a]
    obtain⟨B,I,x,J⟩:=Be (place':=λj=>((F.toList.map g).toArray)[j]?) (λj off size A K=>by
     simp only[s8,ai2,o9] at A;obtain⟨f,l,M⟩:=A;simp only[ai6,ag5] at M;obtain⟨rfl,rfl⟩:=M;obtain⟨i,a,L⟩:=YU K;simp only[ab7,s8,l,af5,g,a,ah3,L]) l y u
    refine⟨_,h,.mk0 (λc d=>?_) (VP.mk_agg x.1 x.2) λw'=>run_build w' t ps B ?_⟩
    ·rcases J c (by simpa[PV.nms] using d) with h|⟨p,u,d⟩
     ·rw[Jj] at h;simp at h
     ·exact N p u c d
    ·simp only[ai9,a,D,O,Q];exact I
   ·cases h
  ·rename_i n e q;dsimp only at h;split at h
   ·rename_i out l;have D:=Fv q;have b:∃G,C.P.info? e=some G:=by
     have:=Cg6 o;unfold GS at this;rw[D] at this;dsimp only at this;split at this
     ·rename_i P;exact JC P
     ·cases this
    obtain⟨G,b⟩:=b;obtain⟨B,I,x,J⟩:=Be (place':=λj=>some (j*G.size,G.size)) (λj off size A K=>by
     simp only[c8,ag5] at A;obtain⟨rfl,rfl⟩:=A;obtain⟨i,a,L⟩:=YU K;rw[b] at a;simp only[c8] at a;subst a;rw[L]) l y u
    refine⟨_,h,.mk0 (λc d=>?_) (VP.mk_agg x.1 x.2) λw'=>run_build w' t ps B ?_⟩
    ·rcases J c (by simpa[PV.nms] using d) with h|⟨p,u,d⟩
     ·rw[Jj] at h;simp at h
     ·exact N p u c d
    ·simp only[ai9,a,D,O,b];exact I
   ·cases h
  ·cases h
 ·cases h
theorem UW{C:Cfg}{f d:Nat}{x:PV}{X:Value}{k:PV->Option R}(hH:HR Γ H w)(h:IH C f d x H k=some r)(J:VP Γ (A1 H) w x X) :
  ∃v,k v=some r/\QV C.P Γ H w (convert f d X) v:=by
 unfold IH at h;split at h
 ·rename_i k1 kd Q n t u;obtain rfl:=J.inv_int;refine⟨_,h,.val rfl (.int _ _) λw' I=>?_⟩;have Y:=Wt u;have hk:C.P.intKind d=kd:=by simp[Program.intKind,Y]
  have:=run_convert_int (P:=C.P) (w:=w') f d Q n (by rw[Wt t];rfl) (by rw[hk];exact Y);rw[hk] at this;exact this
 ·rename_i l t u;obtain⟨s,rfl,rfl⟩:=J.inv_str;refine⟨_,h,.val rfl (.str s rfl) λw' I=>?_⟩;simp[convert,run_underlying (Y8 t),run_underlying (Y8 u)]
 ·rename_i k1 Q n t u;obtain rfl:=J.inv_int;refine⟨_,h,.val rfl (.str (ak2 n) rfl) λw' I=>?_⟩;exact run_convert_int_string w' f d Q n (by rw[Wt t];rfl) (Y8 u)
 ·rename_i v e t u;split at h
  ·rename_i c D y;obtain⟨h3,h4⟩:=C3 h;obtain⟨a,cap,rfl,W,hm,A,q⟩:=(Tk (C:=C) hH J y).ex;have B:∀w':World,(convert f d (.slice a c.length cap)).run C.P w'=(Conv.bytesToString (.slice a c.length cap)).run C.P w':=
    λw'=>run_convert_bytes_string w' f d e a _ cap (G5 t) (Wt D) (Y8 u)
   have O:∀i (Z:i<c.length),∃n:Int,c[i]=[.int .u8 n]:=λi Z=>by
    have:=x6.1 h3 (c[i]) (ae3 Z);unfold DY at this;grind
   let p:List Int:=c.map λel=>(el.getD 0 .nilp).gI
   have F:(p.foldl (λr n=>r.push (ae0 n.toNat)) ah7).data.toList=c.map Zd:=by
    have key:∀(l:List Int) (b:ByteArray),(l.foldl (λr n=>r.push (ae0 n.toNat)) b).data.toList=b.data.toList++l.map λn=>ae0 n.toNat:=by
     intro l
     induction l with
     | nil=>intro b;simp
     | cons n l ih=>intro b;rw[ah8,ih];simp[ByteArray.push]
    rw[key];simp only[p,af1];rfl
   refine⟨_,h4,.val rfl (.str (p.foldl (λr n=>r.push (ae0 n.toNat)) ah7) F) λw' I=>?_⟩;rw[B w'];cases a with
   | none=>
    have a0:=A rfl;have:c=[]:=j6.1 (by omega);subst this;rfl
   | some a=>
    have z:p.length=c.length:=by simp[p]
    rw[<-z];refine run_bytesToString w' a p.length cap p ?_;have:=run_loadCells_list (P:=C.P) w' a (p.map (aj0 .u8)) (λj v K=>?_)
    ·simpa using this
    ·have m:j<c.length:=by
      have:=(j1.1 K).1;simpa[p] using this
     have L:c≠[]:=by rintro rfl;simp at m
     obtain⟨g,o,sz,V,N,hc⟩:=q L;simp only[c8] at V;subst V;obtain⟨n,G⟩:=O j m;have M:sz=1:=by rw[<-N j m,G];rfl
     subst M;obtain⟨U,S,T⟩:=hc j m 0 (by rw[G];simp);simp only[G,o8] at T;have:=T.inv_int;subst this;rw[Nat.mul_one,ab0] at S;rw[J9];refine(CT I S).trans ?_;have:v = .int .u8 n:=by
      simp only[p,af1,s8,j0 m,af5,ai6,G,c8] at K;exact K.symm
     rw[this]
  ·cases h
 ·cases h
end
def Fl(C:Cfg):Option Shp->Prop
 | some (.arr _ e _ _)=>Cu C e=true
 | some _=>True
 | none=>False
structure Stp (C:Cfg) (Γ:Ctx) (H:List Blk) (w:World) (Φ:Nat->Prop) (Γ':Ctx) (H':List Blk) (w':World) (Φ':Nat->Prop):Prop where
 os:w'.os=w.os
 tape:w'.tape=w.tape
 output:w'.output=w.output
 size:w.heap.size<=w'.heap.size
 sub:∀g,Γ.St g->Γ'.St g
 stnew:∀g,Γ'.St g->Γ.St g\/w.heap.size<=g
 own:∀b g,Γ'.nm b=some g->(b<H.length/\Γ.nm b=some g)\/w.heap.size<=g
 foot:∀g,Φ' g->Φ g\/w.heap.size<=g
 frame:∀g,g<w.heap.size->(∀b,Γ.nm b≠some g)->¬ Φ g->w'.heap[g]? = w.heap[g]?
 yv:Γ'.yv=Γ.yv
 len:H.length<=H'.length
 keep:∀b,b<H.length->Fl C (A1 H b)->Γ'.nm b=Γ.nm b/\A1 H' b=A1 H b/\∀g,Γ.nm b=some g->w'.shape? g=w.shape? g
theorem Stp.refl{C:Cfg}{Γ:Ctx}{H:List Blk}{w:World}{Φ:Nat->Prop}(hH:HR Γ H w):Stp C Γ H w Φ Γ H w Φ where
 os:=rfl
 tape:=rfl
 output:=rfl
 size:=j2 _
 sub:=λ_ h=>h
 stnew:=λ_ h=>.inl h
 own:=λb g h=>.inl ⟨(hH.lt b g h).1,h⟩
 foot:=λ_ h=>.inl h
 frame:=λ_ _ _ _=>rfl
 yv:=rfl
 len:=j2 _
 keep:=λ_ _ _=>⟨rfl,rfl,λ_ _=>rfl⟩
theorem Stp.trans{C:Cfg}{Γ Γ' Γ'':Ctx}{H H' H'':List Blk}{w w' w'':World}{Φ Φ' Φ'':Nat->Prop}(h:Stp C Γ H w Φ Γ' H' w' Φ')(k:Stp C Γ' H' w' Φ' Γ'' H'' w'' Φ''):Stp C Γ H w Φ Γ'' H'' w'' Φ'' where
 os:=k.os.trans h.os
 tape:=k.tape.trans h.tape
 output:=k.output.trans h.output
 size:=ac9 h.size k.size
 sub:=λg hg=>k.sub g (h.sub g hg)
 stnew:=λg hg=>by
  rcases k.stnew g hg with hg|hg
  ·exact h.stnew g hg
  ·exact .inr (ac9 h.size hg)
 own:=λb g hg=>by
  rcases k.own b g hg with⟨_,hg⟩|hg
  ·exact h.own b g hg
  ·exact .inr (ac9 h.size hg)
 foot:=λg hg=>by
  rcases k.foot g hg with hg|hg
  ·exact h.foot g hg
  ·exact .inr (ac9 h.size hg)
 frame:=λg hg hn hp=>by
  rw[k.frame g (ab4 hg h.size) (λb hb=>by rcases h.own b g hb with⟨_,e⟩|e;exact hn b e;omega) (λhp'=>by rcases h.foot g hp' with e|e;exact hp e;omega),h.frame g hg hn hp]
 yv:=k.yv.trans h.yv
 len:=ac9 h.len k.len
 keep:=λb hb hf=>by
  obtain⟨e1,e2,e3⟩:=h.keep b hb hf;obtain⟨f1,f2,f3⟩:=k.keep b (ab4 hb h.len) (by rw[e2];exact hf);grind
structure HI {σ:Type} (I:σ->(Nat->Prop)->(Nat->Prop)->World->Prop):Prop where
 foot:∀s St Φ w,I s St Φ w->∀g,Φ g->g<w.heap.size/\¬St g
 mono:∀s St Φ w St' w',I s St Φ w->(∀g,St g->St' g)->(∀g,St' g->¬ Φ g)->(∀g,St' g->g<w'.heap.size)->(∀g,St g\/Φ g->w'.heap[g]? = w.heap[g]?)->w.heap.size<=w'.heap.size->
  w'.os=w.os->w'.tape=w.tape->w'.output=w.output->I s St' Φ w'
structure SI {σ:Type} (C:Cfg) (I:σ->(Nat->Prop)->(Nat->Prop)->World->Prop) (Γ:Ctx) (Φ:Nat->Prop) (st:St σ) (tmps:Array Value) (w:World):Prop where
 hr:HR Γ st.hp w
 sr:SR Γ st.hp w st.sl tmps
 g:GOK C Γ.St w
 inv:I st.s Γ.St Φ w
 dis:∀b g,Γ.nm b=some g->¬ Φ g
def Ctx.upd(Γ:Ctx)(b g:Nat):Ctx:={ Γ with nm:=λc=>if c=b then some g else Γ.nm c }
section
variable {L : Ctx} {H : List Blk} {w w' : World} {R : Type} {r : R} {C : Cfg}
theorem L9{b:Nat}{T:List Blk}(h:b<H.length):A1 (H++T) b=A1 H b:=by simp[A1,w6 h]
theorem F3{x:Blk}:A1 (H++[x]) H.length=some x.shp:=by simp[A1]
theorem KB{b c:Nat}{x:Blk}(h:b<H.length):A1 (H.set b x) c=if c=b then some x.shp else A1 H c:=by simp only[A1,List.getElem?_set];grind
theorem Blk.kill_shp(b:Nat)(x:Blk):(x.kill b).shp=x.shp:=by cases x<;>rfl
theorem FO(b c:Nat):A1 (H.map (Blk.kill b)) c=A1 H c:=by
 simp only[A1,s8,ai2]
 congr 1
 funext x
 exact Blk.kill_shp b x
theorem E7{o:Obj}(a:w'.heap=w.heap.push o){g:Nat}(h:g<w.heap.size):w'.heap[g]? = w.heap[g]?:=by grind
theorem E6{o:Obj}(a:w'.heap=w.heap.push o):w'.heap[w.heap.size]? = some o:=by grind
theorem D8{g:Nat}(h:w'.heap[g]? = w.heap[g]?):w'.shape? g=w.shape? g:=by simp[ad1,h]
theorem Jn{x:Blk}{o:Obj}(d:HR L H w)(e:w'.heap=w.heap.push o):V8 L (A1 H) w (L.upd H.length w.heap.size) (A1 (H++[x])) w' (· < H.length) where
 st:=λg c=>E7 e (d.stlt g c)
 sub:=λ_ h=>h
 nm:=λb a=>by simp only[Ctx.upd];rw[if_neg (by omega)]
 shp:=λb a=>L9 a
 hs:=λb g a c=>D8 (E7 e (d.lt b g c).2.1)
 yv:=rfl
theorem Bh1{x:Blk}{o:Obj}(d:HR L H w)(m:w'.heap=w.heap.push o)(u:BR (L.upd H.length w.heap.size) (A1 (H++[x])) w' H.length x)(p:∀c∈x.nms,c<H.length+1) :
  HR (L.upd H.length w.heap.size) (H++[x]) w':=by
 have M:=Jn (x:=x) d m;have t:w'.heap.size=w.heap.size+1:=by rw[m];simp
 refine⟨λb n g i j=>?_,λb g h=>?_,λg l=>?_,λb k c f=>?_,λb k=>?_⟩
 ·simp only[Ctx.upd] at i j;split at i<;>split at j
  ·omega
  ·simp only[c8] at i;have:=(d.lt n g j).2.1;omega
  ·simp only[c8] at j;have:=(d.lt b g i).2.1;omega
  ·exact d.inj b n g i j
 ·simp only[Ctx.upd] at h;split at h
  ·simp only[c8] at h;subst h;refine⟨by simp;omega,by omega,λq=>?_⟩;have:=d.stlt _ q;omega
  ·have:=d.lt b g h;exact⟨by simp;omega,by omega,this.2.2⟩
 ·have:=d.stlt g l;omega
 ·rw[o7,y8];rw[o7,y8] at k;by_cases e:b=H.length
  ·subst e;simp at f;exact p c f
  ·have a:b<H.length:=by omega
   rw[w8 a] at f;have:=d.nms b a c f;omega
 ·rw[o7,y8] at k;by_cases e:b=H.length
  ·subst e;simpa using u
  ·have a:b<H.length:=by omega
   rw[w8 a];exact(d.blk b a).mono M (M.nm b a) (λg l=>E7 m (d.lt b g l).2.1) (λc f=>d.nms b a c f)
theorem A06{x:Blk}{o:Obj}{f:Nat->Prop}(e:HR L H w)(d:w'.heap=w.heap.push o)(i:w'.os=w.os)(j:w'.tape=w.tape)(k:w'.output=w.output) :
  Stp C L H w f (L.upd H.length w.heap.size) (H++[x]) w' f where
 os:=i
 tape:=j
 output:=k
 size:=by rw[d];simp
 sub:=λ_ h=>h
 stnew:=λ_ h=>.inl h
 own:=λb g h=>by
  simp only[Ctx.upd] at h;split at h
  ·grind
  ·exact .inl ⟨(e.lt b g h).1,h⟩
 foot:=λ_ h=>.inl h
 frame:=λg c _ _=>E7 d c
 yv:=rfl
 len:=by simp
 keep:=λb a l=>by
  have M:=Jn (x:=x) e d;exact⟨M.nm b a,M.shp b a,λg c=>M.hs b g a c⟩
theorem Sq(x:Blk)(c:HR L H w):V8 L (A1 H) w L (A1 (H++[x])) w (· < H.length) where
 st:=λ_ _=>rfl
 sub:=λ_ h=>h
 nm:=λ_ _=>rfl
 shp:=λb a=>L9 a
 hs:=λ_ _ _ _=>rfl
 yv:=rfl
theorem Ak8{x:Blk}(f:HR L H w)(l:x.nms=[])(j:BR L (A1 (H++[x])) w H.length x):HR L (H++[x]) w:=by
 have M:=Sq x f;refine⟨f.inj,λb g h=>?_,f.stlt,λb j c i=>?_,λb d=>?_⟩
 ·have:=f.lt b g h;grind
 ·rw[o7,y8] at j ⊢;by_cases e:b=H.length
  ·grind
  ·have d:b<H.length:=by omega
   rw[w8 d] at i;have:=f.nms b d c i;omega
 ·rw[o7,y8] at d;by_cases e:b=H.length
  ·grind
  ·have a:b<H.length:=by omega
   rw[w8 a];exact(f.blk b a).mono M rfl (λg k=>rfl) (λc i=>f.nms b a c i)
theorem QD{x:Blk}{a:Nat->Prop}(c:HR L H w):Stp C L H w a L (H++[x]) w a where
 os:=rfl
 tape:=rfl
 output:=rfl
 size:=j2 _
 sub:=λ_ h=>h
 stnew:=λ_ h=>.inl h
 own:=λb g h=>.inl ⟨(c.lt b g h).1,h⟩
 foot:=λ_ h=>.inl h
 frame:=λ_ _ _ _=>rfl
 yv:=rfl
 len:=by simp
 keep:=λb d e=>⟨rfl,L9 d,λ_ _=>rfl⟩
theorem GOK.mono{St St':Nat->Prop}(h:GOK C St w)(hs:∀g,St g->w'.heap[g]? = w.heap[g]?)(hsub:∀g,St g->St' g):GOK C St' w':=
 ⟨λg k zs hg=>by
  obtain⟨h1,e,x,h2⟩:=h.1 g k zs hg;exact⟨hsub g h1,e,x,by rw[hs g h1];exact h2⟩,λg hg=>by
  obtain⟨h1,m,h2⟩:=h.2 g hg;exact⟨hsub g h1,m,by rw[<-h2];simp[ac0,hs g h1]⟩⟩
theorem Stp.st{Φ Φ':Nat->Prop}{Γ':Ctx}{H':List Blk}(h:Stp C L H w Φ Γ' H' w' Φ')(hH:HR L H w)(hΦ:∀g,Φ g->¬L.St g)(g:Nat)(hg:L.St g):w'.heap[g]? = w.heap[g]?:=
 h.frame g (hH.stlt g hg) (λb hb=>(hH.lt b g hb).2.2 hg) (λhp=>hΦ g hp hg)
theorem SI.step{σ:Type}{I:σ->(Nat->Prop)->(Nat->Prop)->World->Prop}(hI:HI I){Φ:Nat->Prop}{st:St σ}{tmps:Array Value}{Γ':Ctx}{H':List Blk}(S:SI C I L Φ st tmps w)(h:Stp C L st.hp w Φ Γ' H' w' Φ)
  (hΦ:∀g,Φ g->w'.heap[g]? = w.heap[g]?) (hr:HR Γ' H' w') {sl':List PV} {tmps':Array Value} (sr:SR Γ' H' w' sl' tmps') :
  SI C I Γ' Φ { sl:=sl',hp:=H',s:=st.s } tmps' w':=by
 have hf:=hI.foot _ _ _ _ S.inv;have hst:=h.st S.hr (λg hg=>(hf g hg).2);refine⟨hr,sr,S.g.mono hst h.sub,hI.mono _ _ _ _ _ _ S.inv h.sub (λg hg hp=>?_) hr.stlt (λg hg=>?_) h.size h.os h.tape h.output,λb g hb hp=>?_⟩
 ·rcases h.stnew g hg with hg|hg
  ·exact(hf g hp).2 hg
  ·have:=(hf g hp).1;omega
 ·rcases hg with hg|hg
  ·exact hst g hg
  ·exact hΦ g hg
 ·rcases h.own b g hb with⟨_,e⟩|e
  ·exact S.dis b g e hp
  ·have:=(hf g hp).1;omega
theorem SR.put{sl:List PV}{tmps:Array Value}(h:SR L H w sl tmps)(o:Oper){v:PV}{V:Value}(hv:VP L (A1 H) w v V)(hn:∀c∈v.nms,c<H.length){ds:List Deferred} :
  SR L H w (L0 o.dst v sl) (({ tmps:=tmps,defers:=ds }:Act).put o.dst V).tmps:=by
 cases hd:o.dst with
 | none=>exact h
 | some d=>
  simp only[L0,Act.put];refine⟨by simp[h.size],λc hc=>?_,λi hi=>?_⟩
  ·obtain⟨j,hj,hc⟩:=C4.1 hc;rw[v7] at hc;split at hc
   ·exact hn c hc
   ·exact h.nms c (C4.2 ⟨j,by simpa using hj,hc⟩)
  ·have hi':i<sl.length:=by simpa using hi
   rw[v7];by_cases e:d=i
   ·subst e;rw[if_pos rfl];exact⟨V,by rw[x4,if_pos rfl,if_pos (by rw[h.size];exact hi')],hv⟩
   ·rw[if_neg e];obtain⟨U,e1,e2⟩:=h.slot i hi';exact⟨U,by rw[x4,if_neg e];exact e1,e2⟩
end
section
variable {Γ : Ctx} {H : List Blk} {w : World} {R : Type} {r : R} {C : Cfg}
abbrev noΦ:Nat->Prop:=λ_=>False
def WV(C:Cfg)(Γ:Ctx)(H:List Blk)(w:World)(sl:List PV)(a:Array Value)(m:Sem Value)(v:PV)(b:List PV)(H':List Blk):Prop:=
 ∃V w' Γ',m.run C.P w = .ok V w'/\Stp C Γ H w noΦ Γ' H' w' noΦ/\HR Γ' H' w'/\(SR Γ H w sl a->SR Γ' H' w' b a)/\VP Γ' (A1 H') w' v V/\∀c∈v.nms,c<H'.length
theorem QV.wv{m:Sem Value}{v:PV}{sl:List PV}{tmps:Array Value}(hH:HR Γ H w)(h:QV C.P Γ H w m v):WV C Γ H w sl tmps m v sl H:=by obtain⟨hn,V,hV,hq⟩:=h;exact⟨V,w,Γ,hq w (Ext.refl w),Stp.refl hH,hH,id,hV,hn⟩
theorem SR.grow{Γ':Ctx}{T:List Blk}{w':World}{sl:List PV}{tmps:Array Value}(M:V8 Γ (A1 H) w Γ' (A1 (H++T)) w' (· < H.length))(h:SR Γ H w sl tmps):SR Γ' (H++T) w' sl tmps:=
 h.mono M λc hc=>⟨h.nms c hc,by rw[o7];have:=h.nms c hc;omega⟩
theorem CR.mono{Γ':Ctx}{H':List Blk}{w':World}{ok:Nat->Prop}{l:List PV}{A:Array Value}(M:V8 Γ (A1 H) w Γ' (A1 H') w' ok)(h:CR Γ (A1 H) w l A)(hn:∀c∈C6 l,ok c):CR Γ' (A1 H') w' l A:=
 ⟨h.1,λj hj=>by
  obtain⟨U,e,k⟩:=h.2 j hj;exact⟨U,e,k.mono M λc hc=>hn c (C4.2 ⟨j,hj,hc⟩)⟩⟩
theorem Cd{m:Sem Value}{x:Blk}{o:Obj}{w':World}{V:Value}{v:PV}{sl:List PV}{a:Array Value}(b:HR Γ H w)(h:m.run C.P w = .ok V w')(d:w'.heap=w.heap.push o)(e:w'.os=w.os)(f:w'.tape=w.tape)(g:w'.output=w.output)
  (k:BR (Γ.upd H.length w.heap.size) (A1 (H++[x])) w' H.length x) (i:∀c∈x.nms,c<H.length+1) (j:VP (Γ.upd H.length w.heap.size) (A1 (H++[x])) w' v V) (hvn:∀c∈v.nms,c<H.length+1) :
  WV C Γ H w sl a m v sl (H++[x]):=
 ⟨V,w',_,h,A06 b d e f g,Bh1 b d k i,SR.grow (Jn b d),j,by simpa using hvn⟩
theorem V8.trans{Γ1 Γ2 Γ3:Ctx}{s1 s2 s3:Nat->Option Shp}{w1 w2 w3:World}{ok ok':Nat->Prop}(M:V8 Γ1 s1 w1 Γ2 s2 w2 ok)(N:V8 Γ2 s2 w2 Γ3 s3 w3 ok')(hok:∀b,ok b->ok' b):V8 Γ1 s1 w1 Γ3 s3 w3 ok where
 st:=λg hg=>(N.st g (M.sub g hg)).trans (M.st g hg)
 sub:=λg hg=>N.sub g (M.sub g hg)
 nm:=λb hb=>(N.nm b (hok b hb)).trans (M.nm b hb)
 shp:=λb hb=>(N.shp b (hok b hb)).trans (M.shp b hb)
 hs:=λb g hb hg=>(N.hs b g (hok b hb) ((M.nm b hb).trans hg)).trans (M.hs b g hb hg)
 yv:=N.yv.trans M.yv
theorem V8.refl{Γ:Ctx}{s:Nat->Option Shp}{w:World}{ok:Nat->Prop}:V8 Γ s w Γ s w ok:=
 ⟨λ_ _=>rfl,λ_ h=>h,λ_ _=>rfl,λ_ _=>rfl,λ_ _ _ _=>rfl,rfl⟩
theorem Q9(f:Nat->Nat × Nat):∀(cells:List PV) (i:Nat) (H:List Blk) (a:List Value),HR Γ H w->cells.length=a.length->(∀j (h:j<cells.length),∃U,a[j]? = some U/\VP Γ (A1 H) w (cells[j]) U)->(∀c∈C6 cells,c<H.length)->
  ∃T,(F5 f cells i H).2=H++T/\HR Γ (H++T) w/\Stp C Γ H w noΦ Γ (H++T) w noΦ/\V8 Γ (A1 H) w Γ (A1 (H++T)) w (· < H.length)/\(F5 f cells i H).1.length=a.length/\
   (∀j (h:j<(F5 f cells i H).1.length),∃U,a[j]? = some U/\VP Γ (A1 (H++T)) w ((F5 f cells i H).1[j]) U)/\∀c∈C6 (F5 f cells i H).1,c<(H++T).length
 | [],i,H,a,g,q,_,_=>⟨[],by simp[F5],by simpa using g,by simpa using Stp.refl g,by simpa using V8.refl,by simpa[F5] using q,by simp[F5],by simp[F5,C6]⟩
 | v::cells,i,H,[],g,q,_,_=>by simp at q
 | v::cells,i,H,A::a,g,q,d,I=>by
  have J:VP Γ (A1 H) w v A:=by
   obtain⟨U,e,k⟩:=d 0 (by simp);grind
  have t:cells.length=a.length:=by simpa using q
  have p:∀j (h:j<cells.length),∃U,a[j]? = some U/\VP Γ (A1 H) w (cells[j]) U:=λj o=>by
   obtain⟨U,e,k⟩:=d (j+1) (by simpa using o);grind
  have D:∀c∈v.nms,c<H.length:=λc h=>I c (by simp only[C6,o5];exact .inl h)
  have m:∀c∈C6 cells,c<H.length:=λc h=>I c (by simp only[C6,o5];exact .inr h)
  by_cases l:v = .nsl
  ·subst l;have B:HR Γ (H++[.arr true (f i).1 (f i).2 []]) w:=Ak8 g rfl (.inl ⟨rfl,rfl⟩);have F:=Sq (.arr true (f i).1 (f i).2 []) g;obtain⟨T,u,x,y,n,z,K,G⟩:=Q9 f cells (i+1) (H++[.arr true (f i).1 (f i).2 []]) a B t (λj o=>by
    obtain⟨U,e,k⟩:=p j o;exact⟨U,e,k.mono F λc d=>m c (C4.2 ⟨j,o,d⟩)⟩) (λc d=>by have:=m c d;simp;omega)
   have key:F5 f (.nsl::cells) i H=(.fl H.length::(F5 f cells (i+1) (H++[.arr true (f i).1 (f i).2 []])).1,(F5 f cells (i+1) (H++[.arr true (f i).1 (f i).2 []])).2):=rfl;rw[key];rw[aa5] at u x y n G;have L:=n;refine⟨[.arr true (f i).1 (f i).2 []]++T,u,x,(QD g).trans y,F.trans n (λb M=>by simp;omega),by simpa using z,λj o=>?_,λc d=>?_⟩
   ·cases j with
    | zero=>
     refine⟨A,rfl,?_⟩;rw[J.inv_nsl];refine .flv _ (f i).1 (f i).2 ?_;rw[<-aa5,L9 (by simp),F3];rfl
    | succ j=>
     grind
   ·simp only[C6,o5,PV.nms,List.mem_singleton] at d;grind
  ·have key:F5 f (v::cells) i H=(v::(F5 f cells (i+1) H).1,(F5 f cells (i+1) H).2):=by
    cases v<;>first|rfl|exact absurd rfl l
   rw[key];obtain⟨T,u,x,y,n,z,K,G⟩:=Q9 f cells (i+1) H a g t p m;refine⟨T,u,x,y,n,by simpa using z,λj o=>?_,λc d=>?_⟩
   ·cases j with
    | zero=>exact⟨A,rfl,J.mono n D⟩
    | succ j=>
     grind
   ·simp only[C6,o5] at d;grind
theorem R8(a:Nat):∀(n:Nat) (l:List SV),(Q7 a n l).length=n
 | 0,_=>rfl
 | n+1,l=>by simp[Q7,R8 a n]
theorem Z1(a:Nat):∀(n:Nat) (l:List SV),l.length=n*a->∀i (h:i<(Q7 a n l).length),(Q7 a n l)[i].length=a/\∀j (c:j<(Q7 a n l)[i].length),∃d:i*a+j<l.length,(Q7 a n l)[i][j]=l[i*a+j]
 | 0,_,_,i,h=>by simp[Q7] at h
 | n+1,l,hl,i,h=>by
  have k:a<=l.length:=by rw[hl,o6];omega
  cases i with
  | zero=>
   refine⟨by simp[Q7];omega,λj b=>?_⟩;simp[Q7] at b;exact⟨by omega,by simp[Q7]⟩
  | succ i=>
   have c:i<(Q7 a n (l.drop a)).length:=by simpa[Q7] using h
   obtain⟨f,g⟩:=Z1 a n (l.drop a) (by rw[ah2,hl,o6];omega) i c;refine⟨by simpa[Q7] using f,λj b=>?_⟩;obtain⟨d,e⟩:=g j (by simpa[Q7] using b);rw[ah2] at d;refine⟨by rw[o6];omega,?_⟩;have m:(Q7 a (n+1) l)[i+1][j]=(Q7 a n (l.drop a))[i][j]'(by simpa[Q7] using b):=rfl;grind
theorem L8{sh:Nat->Option Shp}:∀{l:List PV} {a:List SV} {As:List Value},Ge l=some a->l.length=As.length->(∀j (h:j<l.length),∃U,As[j]? = some U/\VP Γ sh w (l[j]) U)->
  a.length=As.length/\∀j (h:j<a.length),∃U,As[j]? = some U/\VS Γ.St w (a[j]) U
 | [],a,As,h,c,_=>by
  simp only[Ge,c8] at h;grind
 | v::l,a,[],h,c,_=>by simp at c
 | v::l,a,A::As,h,c,d=>by
  simp only[Ge] at h;split at h
  ·rename_i x y b i;simp only[c8] at h;subst h;obtain⟨g,m⟩:=L8 (As:=As) i (by simpa using c) (λj f=>by
    obtain⟨U,e,k⟩:=d (j+1) (by simpa using f);exact⟨U,by simpa using e,by simpa using k⟩)
   refine⟨by simp[g],λj f=>?_⟩;cases j with
   | zero=>
    obtain⟨U,e,k⟩:=d 0 (by simp);refine⟨U,e,?_⟩;simp only[o8] at k ⊢;unfold PV.sv? at b;split at b
    ·simp only[c8] at b;subst b;exact k.inv_s
    ·simp only[c8] at b;subst b;rw[k.inv_nsl];exact .nil _ _
    grind
   | succ j=>
    grind
  ·cases h
theorem BR.row{sh:Nat->Option Shp}{w':World}{b g e sz n:Nat}{z:Bool}{vs:List SV}{A:Array Value}{rest:Array Value}{Γ':Ctx}(hg:Γ'.nm b=some g)(hh:w'.heap[g]? = some (.cells (A++rest) e (0,0)))(hz:z=true->n≠0)
  (hl:vs.length=n*sz) (hA:vs.length=A.size) (hc:∀j (h:j<vs.length),∃U,A[j]? = some U/\VS Γ'.St w' (vs[j]) U):BR Γ' sh w' b (.arr z e sz (Q7 sz n vs)):=by
 refine .inr ⟨λh=>?_,g,_,hg,hh,?_,λi hi=>(Z1 sz n vs hl i hi).1,λi hi j hj=>?_⟩
 ·have:=congrArg ah4 h.2;rw[R8] at this;exact hz h.1 this
 ·rw[R8,Array.size_append];omega
 ·obtain⟨h2,e⟩:=(Z1 sz n vs hl i hi).2 j hj;obtain⟨U,e1,k⟩:=hc _ h2;refine⟨U,?_,by rw[e];exact k⟩;rw[ad2 (by omega)];exact e1
theorem CG{e:Nat}{V:Value}{cells:List PV}{k:PV->List Blk->Option R}{sl:List PV}{tmps:Array Value}{m:Sem Value}(o:HR Γ H w)(h:Vd C e cells H k=some r)(b:CR Γ (A1 H) w cells V.cells)(L:∀c∈C6 cells,c<H.length)
  (u:m.run C.P w = .ok (.pointer (some ⟨w.heap.size,0,none⟩)) (w.alloc (.cells V.cells e))) :
  ∃v H',k v H'=some r/\WV C Γ H w sl tmps m v sl H':=by
 unfold Vd at h;split at h
 ·rename_i N;split at h
  ·rename_i n t O;split at h
   ·rename_i Z p;split at h
    ·rename_i f;refine⟨_,_,h,?_⟩;obtain⟨i,l⟩:=L8 (As:=V.cells.toList) p (by simpa using b.1.symm) (λj d=>by
      obtain⟨U,e,k⟩:=b.2 j d;exact⟨U,by simpa using e,k⟩)
     have a:(w.alloc (.cells V.cells e)).heap=w.heap.push (.cells V.cells e):=rfl;refine Cd o u a rfl rfl rfl (BR.row (g:=w.heap.size) (A:=V.cells) (rest:=#[]) (by simp[Ctx.upd]) (by rw[E6 a];simp) (by simp) ?_ (by simpa using i) (λj d=>?_)) (by simp[Blk.nms]) ?_ (by simp[PV.nms])
     ·rw[i,j8,b.1,f]
     ·obtain⟨U,e,k⟩:=l j d;exact⟨U,by simpa using e,k.mono (λg K=>E7 a (o.stlt g K)) (λ_ h=>h)⟩
     ·have:=VP.ptrA (Γ:=Γ.upd H.length w.heap.size) (w:=w.alloc (.cells V.cells e)) (sh:=A1 (H++[Blk.arr false e (C.ti t).ks.length (Q7 (C.ti t).ks.length n Z)])) H.length 0 0 w.heap.size _ _ _ _ F3 (by simp[Ctx.upd]);simpa using this
    ·cases h
   ·cases h
  ·refine⟨_,_,h,?_⟩;obtain⟨T,i,l,z,B,D,F,q⟩:=Q9 (C:=C) (C.nilT e) cells 0 H V.cells.toList o (by simpa using b.1.symm) (λj d=>by
    obtain⟨U,e,k⟩:=b.2 j d;exact⟨U,by simpa using e,k⟩) L
   rw[i];have a:(w.alloc (.cells V.cells e)).heap=w.heap.push (.cells V.cells e):=rfl;have M:=Jn (x:=.box (F5 (C.nilT e) cells 0 H).1) l a;have key:WV C Γ (H++T) w sl tmps m (.ptr (H++T).length 0 0) sl ((H++T)++[.box (F5 (C.nilT e) cells 0 H).1]):=by
    refine Cd l u a rfl rfl rfl ⟨w.heap.size,V.cells,e,by simp[Ctx.upd],by rw[E6 a],by simpa using D.symm,λj d=>?_⟩ (λc b=>?_) ?_ (by simp[PV.nms])
    ·obtain⟨U,G,I⟩:=F j d;exact⟨U,by simpa using G,I.mono M λc b=>q c (C4.2 ⟨j,d,b⟩)⟩
    ·have:=q c b;omega
    ·exact .ptrB _ 0 w.heap.size F3 (by simp[Ctx.upd])
   obtain⟨y,w',Γ',P,Q,S,W,X,Y⟩:=key;exact⟨y,w',Γ',P,z.trans Q,S,λJ=>W (SR.grow B J),X,Y⟩
 ·cases h
end
section
variable {Y : Ctx} {H : List Blk} {w : World} {R : Type} {r : R} {C : Cfg}
theorem VO{b:Type}(l:List b):∀(n j:Nat),j<n*l.length->((j4 n l).flatten)[j]? = l[j % l.length]?
 | 0,j,h=>by simp at h
 | n+1,j,h=>by
  rw[List.replicate_succ,ad8];by_cases a:j<l.length
  ·rw[w6 a,ae7 a]
  ·rw[aa7 (by omega),VO l n (j-l.length) (by rw[o6] at h;omega),<-Nat.mod_eq_sub_mod (by omega)]
theorem Cj{a:Type}(l:List a)(n:Nat):((j4 n l).flatten).length=n*l.length:=by simp
theorem WZ{z:Array Value}{n j:Nat}{U:Value}(b:j<n)(a:0<z.size)(h:z[j % z.size]? = some U):(madeCells z n)[j]? = some U:=by
 have c:j % z.size<z.size:=ai1 _ a;have:z[j % z.size]! = U:=by grind
 simp[madeCells,b,this]
theorem PZ{sh:Nat->Option Shp}{a:List PV}{z:Array Value}(h:CR Y sh w a z)(c:0<a.length)(n:Nat):CR Y sh w ((j4 n a).flatten) (madeCells z (n*a.length)):=by refine⟨by rw[size_madeCells,Cj],λj b=>?_⟩;rw[Cj] at b;have d:j % a.length<a.length:=ai1 _ c;obtain⟨U,e,k⟩:=h.2 _ d;refine⟨U,WZ b (by rw[h.1];exact c) (by rw[h.1];exact e),?_⟩;have:=VO a n j b;grind
theorem Y7{P:Program}(w:World){t e:Nat}(len:Nat)(parts:Array (Nat × Value))(cells:Array Value){a:TypeInfo}{z:Value}
  (g:P.underlying t=some (.slice e)) (c:P.info? e=some a) (k:a.zero=some z) (d:len*a.size<=16777216)
  (h:ae9 (λi=>some (i*a.size,a.size)) (madeCells z.cells (len*a.size)) parts.toList=some cells) :
  (w7 t len parts).run P w = .ok (.slice (some ⟨w.heap.size,0,none⟩) len len) (w.alloc (.cells cells e)):=by
 have j:¬len*a.size > 2 ^ 24:=by omega
 by_cases b:len*a.size=0
 ·rw[b] at h;have f:ae9 (λi=>some (i*a.size,a.size)) #[] parts.toList=some cells:=by simpa[madeCells,ag6] using h
  simp[w7,run_underlying g,sizeOf,typeInfo,c,b,f,newRow,ag6]
 ·have f:ae9 (λi=>some (i*a.size,a.size)) ((Array.range (len*a.size)).map (z.cells[· % z.cells.size]!)) parts.toList=some cells:=h;simp[w7,run_underlying g,sizeOf,typeInfo,zeroValue,c,k,j,b,f,newRow]
theorem Gg{t len:Nat}{parts:List (Nat × PV)}{ps:Array (Nat × Value)}{k:PV->List Blk->Option R}{sl:List PV}{tmps:Array Value}(G:HR Y H w)(h:Z0 C t len parts H k=some r)(S:PR Y (A1 H) w parts ps.toList) :
  ∃v H',k v H'=some r/\WV C Y H w sl tmps (w7 t len ps) v sl H'/\∃V o,(w7 t len ps).run C.P w = .ok V (w.alloc o):=by
 unfold Z0 at h;split at h
 ·rename_i e x;dsimp only at h;split at h
  ·rename_i a;simp only[c9,decide_eq_true_eq] at a;obtain⟨⟨a,b⟩,K⟩:=a;split at h
   ·rename_i out J;split at h
    ·rename_i vs y;refine⟨_,_,h,?_⟩;obtain⟨i,z,Q,T,f,q⟩:=Cc (Γ:=Y) (sh:=A1 H) (w:=w) a;obtain⟨_,_,_,L⟩:=I8 a;have u:0<(C.ti e).ks.length:=by rename_i h1 h2;omega
     have I:=PZ q (by simpa using u) len;rw[j7] at I;obtain⟨B,D,n,X⟩:=Be (place':=λj=>some (j*i.size,i.size)) (λj off size m Z=>by rw[f];exact m) J I S;obtain⟨F,N⟩:=L8 (As:=B.toList) y (by simpa using n.1.symm) (λj m=>by
      obtain⟨U,e,k⟩:=n.2 j m;exact⟨U,by simpa using e,k⟩)
     have M:=Y7 (P:=C.P) w len ps B (G5 x) Q T (by rw[f];exact b) (by rw[f] at D ⊢;exact D);refine⟨?_,_,_,M⟩;have c:(w.alloc (.cells B e)).heap=w.heap.push (.cells B e):=rfl;have l:B.size=len*(C.ti e).ks.length:=by
      have d:∀{place:Nat->Option (Nat × Nat)} {ps:List (Nat × PV)} {cells out:List PV},Ax place cells ps=some out->out.length=cells.length:=by
       intro place ps
       induction ps with
       | nil=>intro cells out h;simp only[Ax,c8] at h;rw[h]
       | cons p ps W=>
        intro cells out h;obtain⟨i,v⟩:=p;simp only[Ax] at h;split at h
        ·split at h
         ·rw[W h,D4]
         grind
        grind
      rw[n.1,d J,Cj,j7]
     refine Cd G M c rfl rfl rfl (BR.row (g:=w.heap.size) (A:=B) (rest:=#[]) (by simp[Ctx.upd]) (by rw[E6 c];simp) (by simp) ?_ (by simpa using F) (λj m=>?_)) (by simp[Blk.nms]) ?_ (by simp[PV.nms])
     ·rw[F,j8,l]
     ·obtain⟨U,e,k⟩:=N j m;exact⟨U,by simpa using e,k.mono (λg O=>E7 c (G.stlt g O)) (λ_ h=>h)⟩
     ·refine .fl H.length w.heap.size false e (C.ti e).ks.length len len ?_ (by simp) (by simp[Ctx.upd]) (j2 _) (by simp only[maxLen];omega) ?_
      ·rw[F3];simp[Blk.shp,R8]
      ·simp only[ad1,E6 c,l]
    ·cases h
   ·cases h
  ·cases h
 ·cases h
theorem Wh{t:Nat}{l c:PV}{L N:Value}{k:PV->List Blk->Option R}{sl:List PV}{tmps:Array Value}(I:HR Y H w)(h:Bl C t l c H k=some r)(hl:VP Y (A1 H) w l L)(hc:VP Y (A1 H) w c N) :
  ∃v H',k v H'=some r/\WV C Y H w sl tmps (Instr.makeSlice t L N) v sl H':=by
 unfold Bl at h;split at h
 ·rename_i e k1 n k2 m B;obtain rfl:=hl.inv_int;obtain rfl:=hc.inv_int;split at h
  ·rename_i y;split at h
   ·rename_i z' D;obtain⟨G,V⟩:=C3 h;simp only[c9,decide_eq_true_eq,I4] at G;obtain⟨⟨W,X⟩,h5⟩:=G;refine⟨_,_,V,?_⟩;obtain⟨i,d,z,M,hd,Q,p,a0,O,a1,K,f⟩:=Au y;obtain⟨i',z2,q,u,a2,x⟩:=Cc (Γ:=Y) (sh:=A1 H) (w:=w) y;rw[M] at q;simp only[c8] at q;subst q;rw[Q] at u;simp only[c8] at u;subst u;have A:(i.bytes:Int)*m<=281474976710656:=by
     have Z:m<=68719476736:=by omega
     have h7:(i.bytes:Int)<=512:=by omega
     have h8:(i.bytes:Int)*m<=512*68719476736:=Int.mul_le_mul h7 Z (by omega) (by omega);omega
    have hr:=run_make (P:=C.P) w t e i z (G5 B) M Q k1 k2 n m W X A (by omega);obtain⟨S,T⟩:=L8 (As:=z.cells.toList) D (by simpa using x.1.symm) (λj hj=>by
     obtain⟨U,e,k⟩:=x.2 j hj;exact⟨U,by simpa using e,k⟩)
    have F:z'.length=i.size:=by rw[S,j8,p]
    have o:(w.alloc (.cells (madeCells z.cells (m.toNat*i.size)) e)).heap=w.heap.push (.cells (madeCells z.cells (m.toNat*i.size)) e):=rfl;refine Cd I hr o rfl rfl rfl (.inr ⟨by simp,w.heap.size,_,by simp[Ctx.upd],E6 o,?_,λa J=>?_,λa J b A=>?_⟩) (by simp[Blk.nms]) ?_ (by simp[PV.nms])
    ·rw[o0,size_madeCells,<-f];exact j5 _ (by omega)
    ·rw[ab6,F,f]
    ·rw[o0] at J;simp only[ab6] at A ⊢;obtain⟨U,e,k⟩:=T b A;refine⟨U,WZ ?_ (by omega) ?_,k.mono (λg hg=>E7 o (I.stlt g hg)) (λ_ h=>h)⟩
     ·have:(a+1)*i.size<=m.toNat*i.size:=j5 _ (by omega);rw[o6] at this;rw[<-f];omega
     ·rw[<-f,<-p,aj1,ad5,ae7 (by omega)];simpa using e
    ·refine .fl H.length w.heap.size false e (C.ti e).ks.length n.toNat m.toNat ?_ (by simp) (by simp[Ctx.upd]) (by omega) (by simp only[maxLen];omega) ?_
     ·rw[F3];simp[Blk.shp]
     ·simp only[ad1,E6 o,size_madeCells];rw[f]
   ·cases h
  ·cases h
 ·cases h
theorem Bq4{t:Nat}{s:ByteArray}{sl:List PV}{tmps:Array Value}(b:HR Y H w)(c:C.P.underlying t=some .string) :
  WV C Y H w sl tmps (Instr.range t (.string s)) (.it H.length) sl (H++[.iter s.data.toList 0]):=by
 have a:(w.iter s 0).heap=w.heap.push (.stringIter s 0):=rfl;refine Cd b (run_range_string w t s c) a rfl rfl rfl ⟨w.heap.size,s,by simp[Ctx.upd],E6 a,rfl⟩ (by simp[Blk.nms]) ?_ (by simp[PV.nms]);exact .it _ _ (by rw[F3];rfl) (by simp[Ctx.upd])
theorem Yn{P:Program}{g pos ty:Nat}{s:ByteArray}(a:w.heap[g]? = some (.stringIter s pos)) :
  (af0 (.pointer (some ⟨g,0,none⟩)) true ty).run P w=if pos<s.size then .ok (.tuple #[.bool true,.int .i64 pos,.int .i32 (ae1 s pos).1]) { w with heap:=w.heap.setIfInBounds g (.stringIter s (pos+(ae1 s pos).2)) }
   else .ok (.tuple #[.bool false]) w:=by
 by_cases h:pos<s.size
 ·simp[af0,getObj,setObj,Sem.run,a,h,goInt,ai3]
 ·simp[af0,getObj,Sem.run,a,h,ai3]
theorem Bu{b g:Nat}{x y:Blk}{w':World}(l:HR Y H w)(i:H[b]? = some x)(m:Y.nm b=some g)(f:y.shp=x.shp)(a:∀k,k≠g->w'.heap[k]? = w.heap[k]?)(n:w'.shape? g=w.shape? g) :
  V8 Y (A1 H) w Y (A1 (H.set b y)) w' (λ_=>True):=by
 have d:=(j1.1 i).1;refine⟨λk j=>a k (λe=>(l.lt b g m).2.2 (e▸j)),λ_ h=>h,λ_ _=>rfl,λc _=>?_,λc k _ j=>?_,rfl⟩
 ·rw[KB d];split
  ·rename_i e;subst e;simp[A1,i,f]
  ·rfl
 ·by_cases e:k=g
  ·subst e;exact n
  ·exact D8 (a k e)
theorem ZJ{b g:Nat}{x y:Blk}{w':World}(f:HR Y H w)(n:H[b]? = some x)(o:Y.nm b=some g)(l:y.shp=x.shp)(a:∀k,k≠g->w'.heap[k]? = w.heap[k]?)(u:w'.shape? g=w.shape? g)(m:w.heap.size<=w'.heap.size)
  (v:BR Y (A1 (H.set b y)) w' b y) (t:∀c∈y.nms,c<H.length):HR Y (H.set b y) w':=by
 have M:=Bu f n o l a u;have q:=(j1.1 n).1;refine⟨f.inj,λc k i=>?_,λk i=>ab4 (f.stlt k i) m,λc h d j=>?_,λc h=>?_⟩
 ·have:=f.lt c k i;exact⟨by simpa using this.1,by omega,this.2.2⟩
 ·rw[v8] at h ⊢;rw[v7] at j;split at j
  ·exact t d j
  ·exact f.nms c h d j
 ·rw[v8] at h;rw[v7];split
  ·rename_i e;subst e;exact v
  ·rename_i e;exact(f.blk c h).mono M rfl (λk i=>a k (λp=>e (f.inj b c g o (p▸i)))) (λ_ _=>trivial)
theorem KK{b g:Nat}{x y:Blk}{w':World}(j:HR Y H w)(p:H[b]? = some x)(l:Y.nm b=some g)(f:y.shp=x.shp)(a:∀k,k≠g->w'.heap[k]? = w.heap[k]?)(q:w'.shape? g=w.shape? g)(i:w.heap.size<=w'.heap.size)
  (m:w'.os=w.os) (n:w'.tape=w.tape) (o:w'.output=w.output):Stp C Y H w noΦ Y (H.set b y) w' noΦ where
 os:=m
 tape:=n
 output:=o
 size:=i
 sub:=λ_ h=>h
 stnew:=λ_ h=>.inl h
 own:=λc k d=>.inl ⟨(j.lt c k d).1,d⟩
 foot:=λ_ h=>.inl h
 frame:=λk _ d _=>a k (λe=>d b (e▸l))
 yv:=rfl
 len:=by simp
 keep:=λc t _=>by
  have M:=Bu j p l f a q;exact⟨rfl,M.shp c trivial,λk d=>M.hs c k trivial d⟩
theorem Ji{m:Sem Value}{b g:Nat}{x y:Blk}{w':World}{V:Value}{v:PV}{sl:List PV}{f:Array Value}(h:HR Y H w)(u:m.run C.P w = .ok V w')(i:H[b]? = some x)(j:Y.nm b=some g)(d:y.shp=x.shp)
  (a:∀k,k≠g->w'.heap[k]? = w.heap[k]?) (l:w'.shape? g=w.shape? g) (e:w.heap.size<=w'.heap.size) (o:w'.os=w.os) (p:w'.tape=w.tape) (q:w'.output=w.output)
  (B:BR Y (A1 (H.set b y)) w' b y) (z:∀c∈y.nms,c<H.length) (A:VP Y (A1 (H.set b y)) w' v V) (hvn:∀c∈v.nms,c<H.length):WV C Y H w sl f m v sl (H.set b y):=
 ⟨V,w',Y,u,KK h i j d a l e o p q,ZJ h i j d a l e B z,λn=>n.mono (Bu h i j d a l) (λc t=>⟨trivial,by simpa using n.nms c t⟩),A,by simpa using hvn⟩
theorem Cj9{b:Nat}{X:Value}(c:A1 H b=some .iter)(d:VP Y (A1 H) w (.it b) X):∃g,Y.nm b=some g/\X = .pointer (some ⟨g,0,none⟩):=by
 cases d with
 | it _ g h a=>exact⟨g,a,rfl⟩
 | mpv _ g h a=>rw[c] at h;cases h
theorem WM{b ty:Nat}{l:List UInt8}{pos:Nat}{X:Value}(j:HR Y H w)(k:VP Y (A1 H) w (.it b) X)(e:H[b]? = some (.iter l pos)) :
  ∃g s,Y.nm b=some g/\X = .pointer (some ⟨g,0,none⟩)/\w.heap[g]? = some (.stringIter s pos)/\s.data.toList=l:=by
 obtain⟨g,f,rfl⟩:=Cj9 (by simp[A1,e,Blk.shp]) k;obtain⟨c,a⟩:=j1.1 e;have:=j.blk b c;rw[a] at this;obtain⟨m,s,d,h,i⟩:=this;rw[f] at d;cases d;exact⟨g,s,f,rfl,h,i⟩
theorem XE{b ty:Nat}{l:List UInt8}{pos:Nat}{X:Value}(d:HR Y H w)(i:VP Y (A1 H) w (.it b) X)(e:H[b]? = some (.iter l pos))(c:¬pos<l.length):QV C.P Y H w (af0 X true ty) (.tup [.s (.bool false)]):=by
 obtain⟨g,s,k,rfl,a,rfl⟩:=WM (ty:=ty) d i e;rw[Od] at c;refine .mk1 (by simp[PV.nms,C6]) (V:=.tuple #[.bool false]) (VP.mk_tup rfl λj f=>?_) λw' h=>?_
 ·have:j=0:=by simpa using f
  subst this;exact⟨_,rfl,.bool _⟩
 ·rw[Yn ((h g (x8.1 a).1).trans a),if_neg c]
theorem B75{b ty:Nat}{l:List UInt8}{pos:Nat}{X:Value}{sl:List PV}{tmps:Array Value}(c:HR Y H w)(o:VP Y (A1 H) w (.it b) X)(e:H[b]? = some (.iter l pos))(h:pos<l.length) :
  WV C Y H w sl tmps (af0 X true ty) (.tup [.s (.bool true),.s (.int .i64 pos),.s (.int .i32 (ae1 ⟨l.toArray⟩ pos).1)]) sl (H.set b (.iter l (pos+(ae1 ⟨l.toArray⟩ pos).2))):=by
 obtain⟨g,s,d,rfl,f,rfl⟩:=WM (ty:=ty) c o e;rw[Od] at h;have a:g<w.heap.size:=(c.lt b g d).2.1;have n:(⟨s.data.toList.toArray⟩:ByteArray)=s:=by cases s;simp
 rw[n];have i:=Yn (P:=C.P) (ty:=ty) f;rw[if_pos h] at i;refine Ji c i e d rfl (λk p=>?_) ?_ (by simp) rfl rfl rfl ⟨g,s,d,?_,rfl⟩ (by simp[Blk.nms]) (VP.mk_tup rfl λj m=>?_) (by simp[PV.nms,C6])
 ·simp only[x4];rw[if_neg (by omega)]
 ·simp only[ad1,f,x4,if_true,a]
 ·simp[a]
 ·match j,m with
  | 0,_=>exact⟨_,rfl,.bool _⟩
  | 1,_=>exact⟨_,rfl,.int _ _⟩
  | 2,_=>exact⟨_,rfl,.int _ _⟩
theorem Ca9{m:Sem Value}{o:Obj}{w':World}{V:Value}{v:PV}{sl:List PV}{i:Array Value}(e:HR Y H w)(x:m.run C.P w = .ok V w')(f:w'.heap=w.heap.push o)(n:w'.os=w.os)(p:w'.tape=w.tape)(q:w'.output=w.output)
  (z:VP { Y with St:=λg=>Y.St g\/g=w.heap.size } (A1 H) w' v V) (u:∀c∈v.nms,c<H.length):WV C Y H w sl i m v sl H:=by
 let Γ':Ctx:={ Y with St:=λg=>Y.St g\/g=w.heap.size }
 have d:∀g,g<w.heap.size->w'.heap[g]? = w.heap[g]?:=λg a=>E7 f a
 have M:V8 Y (A1 H) w Γ' (A1 H) w' (λ_=>True):=⟨λg a=>d g (e.stlt g a),λ_ h=>.inl h,λ_ _=>rfl,λ_ _=>rfl,λb g _ a=>D8 (d g (e.lt b g a).2.1),rfl⟩
 have y:w'.heap.size=w.heap.size+1:=by rw[f];simp
 have j:HR Γ' H w':=by
  refine⟨e.inj,λb g a=>?_,λg a=>?_,e.nms,λb l=>(e.blk b l).mono M rfl (λg a=>d g (e.lt b g a).2.1) (λ_ _=>trivial)⟩
  ·have:=e.lt b g a;grind
  ·rcases a with h|rfl
   ·have:=e.stlt g h;omega
   ·omega
 exact⟨V,w',Γ',x,⟨n,p,q,by omega,λ_ h=>.inl h,λg a=>by rcases a with h|rfl;exact .inl h;exact .inr (j2 _),λb g a=>.inl ⟨(e.lt b g a).1,a⟩,λ_ h=>.inl h,λg a _ _=>d g a,rfl,j2 _,
  λb l A=>⟨rfl,rfl,λg a=>D8 (d g (e.lt b g a).2.1)⟩⟩,j,λk=>k.mono M (λc t=>⟨trivial,k.nms c t⟩),z,u⟩
theorem Lr{t len:Nat}{parts:List (Nat × PV)}{ps:Array (Nat × Value)}{k:PV->Option R}{sl:List PV}{tmps:Array Value}(M:HR Y H w)(h:R5 C t len parts k=some r)(hp:PR Y (A1 H) w parts ps.toList) :
  ∃v e B,k v=some r/\C.P.underlying t=some (.slice e)/\(w7 t len ps).run C.P w = .ok (.slice (some ⟨w.heap.size,0,none⟩) len len) (w.alloc (.cells B e))/\
   ∀(m:Sem Value) (u:Nat × Nat),m.run C.P w = .ok (.slice (some ⟨w.heap.size,0,none⟩) len len) (w.alloc (.cells B e u))->WV C Y H w sl tmps m v sl H:=by
 unfold R5 at h;split at h
 ·rename_i e o;dsimp only at h;split at h
  ·rename_i a;simp only[c9,decide_eq_true_eq] at a;obtain⟨⟨a,b⟩,Q⟩:=a;split at h
   ·rename_i out O;split at h
    ·rename_i T I;obtain⟨h1,L⟩:=C3 h;obtain⟨i,z,l,hz,d,A⟩:=Cc (Γ:=Y) (sh:=A1 H) (w:=w) a;obtain⟨_,_,_,S⟩:=I8 a;have D:0<(C.ti e).ks.length:=by rename_i h1 L;omega
     have N:=PZ A (by simpa using D) len;rw[j7] at N;obtain⟨B,J,x,e3⟩:=Be (place':=λj=>some (j*i.size,i.size)) (λj off size n h0=>by rw[d];exact n) O N hp;obtain⟨Z,f2⟩:=L8 (As:=B.toList) I (by simpa using x.1.symm) (λj n=>by
      obtain⟨U,e,k⟩:=x.2 j n;exact⟨U,by simpa using e,k⟩)
     have G:=Y7 (P:=C.P) w len ps B (G5 o) l hz (by rw[d];exact b) (by rw[d] at J ⊢;exact J);refine⟨_,_,B,L,G5 o,G,λm u G=>?_⟩;have f:(w.alloc (.cells B e u)).heap=w.heap.push (.cells B e u):=rfl;have y:B.size=len*(C.ti e).ks.length:=by
      have c:∀{place:Nat->Option (Nat × Nat)} {ps:List (Nat × PV)} {cells out:List PV},Ax place cells ps=some out->out.length=cells.length:=by
       intro place ps
       induction ps with
       | nil=>intro cells out h;simp only[Ax,c8] at h;rw[h]
       | cons p ps ih=>
        intro cells out h;obtain⟨i,v⟩:=p;simp only[Ax] at h;split at h
        ·split at h
         ·rw[ih h,D4]
         grind
        grind
      rw[x.1,c O,Cj,j7]
     have q:T.length=len*(C.ti e).ks.length:=by rw[Z,j8,y]
     refine Ca9 M G f rfl rfl rfl (.s _ _ ?_) (by simp[PV.nms]);refine .sl true (Q7 (C.ti e).ks.length len T) w.heap.size 0 len len (C.ti e).ks.length (λi j=>B.toList.getD (i*(C.ti e).ks.length+j) undef) (R8 _ _ _).symm (j2 _) (by simp only[maxLen];omega) (λ_=>rfl) (.inr rfl) (λi l=>(Z1 _ _ _ q i l).1) (λi l j n=>?_) (λi l j n=>?_);all_goals
      obtain⟨c1,V⟩:=Z1 _ _ _ q i l;obtain⟨W,X⟩:=V j n;obtain⟨U,K,k⟩:=f2 (i*(C.ti e).ks.length+j) W
     ·rw[cell_of_row (w.alloc (.cells B e u)) w.heap.size _ _ _ _ (E6 f)];have F:i*(C.ti e).ks.length+j<B.toList.length:=(j1.1 K).1;rw[U8 F,show 0+i*(C.ti e).ks.length+j=i*(C.ti e).ks.length+j by omega];simp
     ·rw[y7,K,X];exact k.mono (λg hg=>E7 f (M.stlt g hg)) (λ_ h=>.inl h)
    ·cases h
   ·cases h
  ·cases h
 ·cases h
theorem Ib{t len:Nat}{parts:List (Nat × PV)}{ps:Array (Nat × Value)}{k:PV->Option R}{sl:List PV}{tmps:Array Value}(d:HR Y H w)(h:R5 C t len parts k=some r)(f:PR Y (A1 H) w parts ps.toList) :
  ∃v,k v=some r/\WV C Y H w sl tmps (w7 t len ps) v sl H/\∃V o,(w7 t len ps).run C.P w = .ok V (w.alloc o):=by
 obtain⟨v,e,B,b,_,a,c⟩:=Lr (sl:=sl) (tmps:=tmps) d h f;exact⟨v,b,c _ _ a,_,_,a⟩
theorem NF{A q:Nat}{x:PV}{X:Value}{k:PV->Option R}{sl:List PV}{tmps:Array Value}(n:HR Y H w)(h:Vg C A q x k=some r)(hx:VP Y (A1 H) w x X) :
  ∃v,k v=some r/\WV C Y H w sl tmps (convert A q X) v sl H:=by
 unfold Vg at h;split at h
 ·rename_i e l U V;split at h
  ·rename_i W;obtain⟨L,Z⟩:=C3 h;simp only[I4,decide_eq_true_eq] at L;obtain⟨s,rfl,rfl⟩:=hx.inv_str;rw[Od] at L;refine⟨_,Z,?_⟩;have K:=run_bytes_of_string (P:=C.P) w A q e s (Y8 U) (G5 V) (Wt W);generalize p:grownCap w s.size 0 e=cap at K;have F:s.size<=cap:=by rw[<-p];exact grownCap_ge _ _ _ _
   have I:cap<=maxLen:=by rw[<-p];exact grownCap_le_maxLen _ _ _ _ (by simp only[maxLen];omega)
   generalize o:w.drew.alloc (.cells (bytesRow s cap) e ((bytesRow s cap).size,(bytesRow s cap).size+1))=w' at K;have z:w'.heap=w.heap.push (.cells (bytesRow s cap) e ((bytesRow s cap).size,(bytesRow s cap).size+1)):=by rw[<-o];rfl
   have Q:w'.os=w.os:=by rw[<-o];rfl
   have S:w'.tape=w.tape:=by rw[<-o];rfl
   have T:w'.output=w.output:=by rw[<-o];rfl
   let Γ':Ctx:={ Y with St:=λg=>Y.St g\/g=w.heap.size }
   have f:∀g,g<w.heap.size->w'.heap[g]? = w.heap[g]?:=λg d=>E7 z d
   have M:V8 Y (A1 H) w Γ' (A1 H) w' (λ_=>True):=⟨λg d=>f g (n.stlt g d),λ_ h=>.inl h,λ_ _=>rfl,λ_ _=>rfl,λb g _ d=>D8 (f g (n.lt b g d).2.1),rfl⟩
   have a0:w'.heap.size=w.heap.size+1:=by rw[z];simp
   have D:HR Γ' H w':=by
    refine⟨n.inj,λb g d=>?_,λg d=>?_,n.nms,λb O=>(n.blk b O).mono M rfl (λg d=>f g (n.lt b g d).2.1) (λ_ _=>trivial)⟩
    ·have:=n.lt b g d;grind
    ·rcases d with h|rfl
     ·have:=n.stlt g h;omega
     ·omega
   refine⟨_,w',Γ',K,⟨Q,S,T,by omega,λ_ h=>.inl h,λg d=>by rcases d with h|rfl;exact .inl h;exact .inr (j2 _),λb g d=>.inl ⟨(n.lt b g d).1,d⟩,λ_ h=>.inl h,λg d _ _=>f g d,rfl,j2 _,
    λb O hf=>⟨rfl,rfl,λg d=>D8 (f g (n.lt b g d).2.1)⟩⟩,D,λN=>N.mono M (λc hc=>⟨trivial,N.nms c hc⟩),.s _ _ ?_,by simp[PV.nms]⟩
   have B:s.data.toList.length=s.size:=Od s;have y:∀(a:List UInt8) i (t:i<(a.map H7).length),((a.map H7)[i]).length=1:=λa i t=>by simp[H7]
   refine .sl false (s.data.toList.map H7) w.heap.size 0 s.size cap 1 (λi _=>.int .u8 ((s.data.toList.getD i 0).toNat)) (by rw[j7,B]) F I (by simp) (.inr rfl) (y _) (λi t j G=>?_) (λi t j G=>?_)
   ·have u:j=0:=by rw[y _ i t] at G;omega
    subst u;have m:i<s.data.size:=by simpa using t
    rw[cell_of_row w' w.heap.size _ _ _ _ (E6 z)];have J:i<s.data.toList.length:=by simpa using m
    rw[U8 J];simp only[bytesRow];rw[ad2 (by simpa using m)];rw[Array.getElem?_map,show 0+i*1+0=i by omega,ad7 m];rfl
   ·have u:j=0:=by rw[y _ i t] at G;omega
    subst u;have m:i<s.data.toList.length:=by simpa using t
    rw[U8 m];simp only[x7,H7,o8];exact .int _ _
  ·cases h
 ·cases h
end
section
variable {L : Ctx} {H : List Blk} {w : World} {R : Type} {r : R} {C : Cfg}
theorem XT{b:Type}(l a:List b)(off:Nat)(h:off+a.length<=l.length):F9 l off a=l.take off++a++l.drop (off+a.length):=by
 apply aa6;intro j;rw[K7 a l off h j];have c:(l.take off).length=off:=by rw[aa9];omega
 grind
theorem J3{P:Program}{g o e:Nat}{vs:List Value}{a:Array Value}(c:w.heap[g]? = some (.cells a e (0,0)))(b:o+vs.length<=a.size)(f:∀v∈vs,v.oneCell'=true) :
  ∃w',(storeCells ⟨g,o,none⟩ vs).run P w = .ok () w'/\w'.heap[g]? = some (.cells (F9 a.toList o vs).toArray e (0,0))/\(∀k,k≠g->w'.heap[k]? = w.heap[k]?)/\w'.heap.size=w.heap.size/\w'.os=w.os/\w'.tape=w.tape/\w'.output=w.output/\
   w'.shape? g=w.shape? g:=by
 have:=run_storeCells_at P g o e vs 0 a w c (by simpa using b) f;simp only[ab0] at this;rw[<-XT a.toList vs o (by simpa using b)] at this;have d:=setRow_heap w g a (F9 a.toList o vs).toArray e (0,0) c;refine⟨_,this,d,λk h=>setRow_other w g k _ h,by simp,rfl,rfl,rfl,?_⟩;simp only[ad1,d,c];simp[D4]
theorem Dt{P:Program}{t:Nat}{i:TypeInfo}{a:Addr}{V:Value}(b:P.info? t=some i)(c:V.cells.size=i.size){w w':World}(h:(storeCells a V.cells.toList).run P w = .ok () w') :
  (do ae2 t (.pointer (some a)) V;pure undef:Sem Value).run P w = .ok undef w':=by
 simp[ae2,y5,storeVar,sizeOf,typeInfo,b,c,h]
theorem Au2{l:List PV}{a:List Value}{sh:Nat->Option Shp}(g:l.length=a.length)(h:l.all PV.one=true)(c:∀j (h:j<l.length),∃U,a[j]? = some U/\VP L sh w (l[j]) U):∀v∈a,v.oneCell'=true:=by intro v f;obtain⟨j,d,e⟩:=ac5 f;obtain⟨U,b,k⟩:=c j (by omega);rw[j0 d] at b;simp only[c8] at b;rw[<-e,b];exact k.oneCell (x6.1 h _ (ae3 _))
theorem V6{sh:Nat->Option Shp}:VP L sh w (.tup []) undef:=VP.mk_tup (by rfl) λj a=>by simp at a
theorem B97{c:Type}{Rel:c->Value->Prop}{l vs:List c}{A B:List Value}{o:Nat}(m:l.length=A.length)(n:vs.length=B.length)(i:o+vs.length<=l.length)(d:∀j (h:j<l.length),∃U,A[j]? = some U/\Rel (l[j]) U)
  (f:∀j (h:j<vs.length),∃U,B[j]? = some U/\Rel (vs[j]) U):∀j (h:j<(F9 l o vs).length),∃U,(F9 A o B)[j]? = some U/\Rel ((F9 l o vs)[j]) U:=by
 intro j a;have g:=K7 vs l o i j;rw[j0 a] at g;rw[D4] at a;rw[K7 B A o (by omega) j];by_cases b:o<=j/\j<o+vs.length
 ·rw[if_pos (by omega)];rw[if_pos b,j0 (by omega)] at g;simp only[c8] at g;obtain⟨U,e,k⟩:=f (j-o) (by omega);exact⟨U,e,by rw[g];exact k⟩
 ·rw[if_neg (by omega)];rw[if_neg b,j0 a] at g;simp only[c8] at g;obtain⟨U,e,k⟩:=d j a;exact⟨U,e,by rw[g];exact k⟩
theorem HR.box'(hH:HR L H w){b:Nat}{cells:List PV}(hb:H[b]? = some (.box cells)):∃g cur e,L.nm b=some g/\w.heap[g]? = some (.cells cur e (0,0))/\cur.size=cells.length/\(∀j (h:j<cells.length),∃V,cur[j]? = some V/\VP L (A1 H) w (cells[j]) V)/\∀c∈C6 cells,c<H.length:=by obtain⟨hlt,hbe⟩:=j1.1 hb;have:=hH.blk b hlt;rw[hbe] at this;obtain⟨g,cur,e,h1,h2,h3,h4⟩:=this;exact⟨g,cur,e,h1,h2,h3,h4,λc hc=>hH.nms b hlt c (by rw[hbe];exact hc)⟩
theorem HR.arr'(hH:HR L H w){b:Nat}{v:Bool}{e sz:Nat}{els:List (List SV)}(hb:H[b]? = some (.arr v e sz els))(hne:¬(v=true/\els=[])) :
  ∃g cur,L.nm b=some g/\w.heap[g]? = some (.cells cur e (0,0))/\els.length*sz<=cur.size/\(∀i (h:i<els.length),(els[i]).length=sz)/\∀i (h:i<els.length) j (h':j<(els[i]).length),∃V,cur[i*sz+j]? = some V/\VS L.St w (els[i][j]) V:=by
 obtain⟨hlt,hbe⟩:=j1.1 hb;have:=hH.blk b hlt;rw[hbe] at this;rcases this with h|⟨_,g,cur,h1,h2,h3,h4,h5⟩
 ·exact absurd h hne
 ·exact⟨g,cur,h1,h2,h3,h4,h5⟩
theorem Bk7{i b j o n a:Nat}(c:b≠i)(d:j<a)(e:o+n<=a):¬(i*a+o<=b*a+j/\b*a+j<i*a+o+n):=by
 rcases Nat.lt_or_gt_of_ne c with h|h
 ·have:(b+1)*a<=i*a:=j5 _ h;grind
 ·have:(i+1)*a<=b*a:=j5 _ h;grind
theorem RS{f:Nat->Nat × Nat}{tid:Nat}{a v:PV}{A V:Value}{k:List Blk->Option R}{sl:List PV}{tmps:Array Value}(hH:HR L H w)(h:Qg f (C.ti tid) a v H k=some r)(J:VP L (A1 H) w a A)(hv:VP L (A1 H) w v V)(hn:∀c∈v.nms,c<H.length) :
  ∃H',k H'=some r/\WV C L H w sl tmps (do ae2 tid A V;pure undef) (.tup []) sl H':=by
 unfold Qg at h;split at h
 ·rename_i hc;obtain⟨b5,q,a8⟩:=hc;obtain⟨i0,hi,b6,c0⟩:=I8 b5;have b4:v.cells≠[]:=by intro e;rw[e] at q;simp at q;omega
  have a7:=hv.cells' b4;have G:v.cells.length=V.cells.toList.length:=by simpa using a7.1.symm
  have a5:∀j (h:j<v.cells.length),∃U,V.cells.toList[j]? = some U/\VP L (A1 H) w (v.cells[j]) U:=λj K=>by
   obtain⟨U,e,k⟩:=a7.2 j K;grind
  have a1:=Au2 G a8 a5;have a2:V.cells.size=i0.size:=by rw[a7.1,q,b6]
  split at h
  ·rename_i b i off;split at h
   ·rename_i cells N;split at h
    ·rename_i b1;subst b1;dsimp only at h;obtain⟨x,h3⟩:=C3 h;simp only[decide_eq_true_eq] at x;refine⟨_,h3,?_⟩;obtain⟨T,e1,e2,e3,e4,e5,e6,e7⟩:=Q9 (C:=C) f v.cells 0 H V.cells.toList hH G a5 (λc hc=>hn c (PV.cells_nms c hc));have a4:(H++T)[b]? = some (.box cells):=by rw[w6 (j1.1 N).1];exact N
     obtain⟨g,F,e,I,hh,O,a0,b9⟩:=e2.box' a4;have hA:A = .pointer (some ⟨g,off,none⟩):=by
      cases J with
      | ptrA _ _ _ g' v e sz n h' t=>simp[A1,N,Blk.shp] at h'
      | ptrB _ _ g' h' t=>rw[I] at t;cases t;rfl
     subst hA;obtain⟨w',r1,r2,r3,r4,r5,r6,r7,r8⟩:=J3 (P:=C.P) (o:=off) hh (vs:=V.cells.toList) (by rw[<-G,q,O];exact x) a1;have Z:=Dt hi a2 r1;have M:=Bu (y:=.box (F9 cells off (F5 f v.cells 0 H).1)) e2 a4 I rfl r3 r8;rw[e1];have key:WV C L (H++T) w sl tmps (do ae2 tid (.pointer (some ⟨g,off,none⟩)) V;pure undef) (.tup []) sl ((H++T).set b (.box (F9 cells off (F5 f v.cells 0 H).1))):=by
      refine Ji e2 Z a4 I rfl r3 r8 (by omega) r5 r6 r7 ⟨g,_,e,I,r2,by simp[D4,O],λj K=>?_⟩ (λc hc=>?_) V6 (by simp[PV.nms,C6])
      ·have:=B97 (Rel:=λp U=>VP L (A1 ((H++T).set b (.box (F9 cells off (F5 f v.cells 0 H).1)))) w' p U) (l:=cells) (vs:=(F5 f v.cells 0 H).1) (A:=F.toList) (B:=V.cells.toList) (o:=off)
        (by simpa using O.symm) e5 (by rw[e5,<-G,q];exact x)
        (λj K=>by
         obtain⟨U,f1,f2⟩:=a0 j K;exact⟨U,by simpa using f1,f2.mono M (λ_ _=>trivial)⟩)
        (λj K=>by
         obtain⟨U,f1,f2⟩:=e6 j K;exact⟨U,f1,f2.mono M (λ_ _=>trivial)⟩) j K
       grind
      ·rcases Pz _ _ _ c hc with h|h
       all_goals grind
     obtain⟨V',w',Γ',k1,k2,k3,k4,k5,k6⟩:=key;exact⟨V',w',Γ',k1,e3.trans k2,k3,λhS=>k4 (SR.grow e4 hS),k5,k6⟩
    ·cases h
   ·rename_i z e sz d N;split at h
    ·rename_i vs b7;obtain⟨f1,f2⟩:=L8 b7 G a5;split at h
     ·rename_i b8;obtain⟨x,h3⟩:=C3 h;simp only[decide_eq_true_eq] at x;refine⟨_,h3,?_⟩;obtain⟨g,F,I,hh,Y,m,Q⟩:=hH.arr' N (by rintro⟨_,rfl⟩;simp at x);have hA:A = .pointer (some ⟨g,i*sz+off,none⟩):=by
       cases J with
       | ptrA _ _ _ g' v e sz n h' t=>
        rw[I] at t;cases t;obtain⟨_,_,rfl,_⟩:=K6 N h';rfl
       | ptrB _ _ g' h' t=>simp[A1,N,Blk.shp] at h'
      subst hA;have X:i*sz+off+V.cells.toList.length<=F.size:=by
       have:(i+1)*sz<=d.length*sz:=j5 _ x;grind
      obtain⟨w',r1,r2,r3,r4,r5,r6,r7,r8⟩:=J3 (P:=C.P) (o:=i*sz+off) hh (vs:=V.cells.toList) X a1;have Z:=Dt hi a2 r1;rw[U8 x];have a9:off+vs.length<=(d[i]).length:=by rw[m i x,f1];omega
      refine Ji hH Z N I (by simp[Blk.shp]) r3 r8 (by omega) r5 r6 r7 (.inr ⟨λhz=>?_,g,_,I,r2,by simpa[D4] using Y,λa J=>?_,λa J j K=>?_⟩) (by simp[Blk.nms]) V6 (by simp[PV.nms,C6])
      ·have:=congrArg ah4 hz.2;rw[v8] at this;simp only[ac3] at this;omega
      ·rw[v7];rw[v8] at J;split
       ·rw[D4];exact m i x
       ·exact m a J
      ·rw[v8] at J;have u:∀k,L.St k->w'.heap[k]? = w.heap[k]?:=λk hk=>r3 k (λe=>(hH.lt b g I).2.2 (e▸hk))
       simp only[ab7];rw[K7 _ _ _ (by simpa using X)];by_cases a3:i=a
       ·subst a3;have a6:(d.set i (F9 d[i] off vs))[i]'(by simpa using J)=F9 d[i] off vs:=by simp
        have D:j<(F9 d[i] off vs).length:=by rw[<-a6];exact K
        have W:(d.set i (F9 d[i] off vs))[i][j]=(F9 d[i] off vs)[j]:=by simp
        rw[W];have g1:=K7 vs d[i] off a9 j;rw[j0 D] at g1;rw[D4] at D;by_cases hc:off<=j/\j<off+vs.length
        ·rw[if_pos (by omega)];rw[if_pos hc,j0 (by omega)] at g1;simp only[c8] at g1;obtain⟨U,q1,q2⟩:=f2 (j-off) (by omega);refine⟨U,?_,by rw[g1];exact q2.mono u (λ_ h=>h)⟩;rw[<-q1];congr 1;omega
        ·rw[if_neg (by omega)];rw[if_neg hc,j0 D] at g1;simp only[c8] at g1;obtain⟨U,q1,q2⟩:=Q i x j D;exact⟨U,by simpa using q1,by rw[g1];exact q2.mono u (λ_ h=>h)⟩
       ·have a6:(d.set i (F9 d[i] off vs))[a]'(by simpa using J)=d[a]:=by rw[v7,if_neg a3]
        have D:j<(d[a]).length:=by rw[<-a6];exact K
        have W:(d.set i (F9 d[i] off vs))[a][j]=d[a][j]:=by congr 1
        rw[W];obtain⟨U,q1,q2⟩:=Q a J j D;have b3:j<sz:=by rw[<-m a J];exact D
        rw[if_neg (Bk7 (λe=>a3 e.symm) b3 (by rw[<-f1,<-m i x];exact a9))];exact⟨U,by simpa using q1,q2.mono u (λ_ h=>h)⟩
     ·split at h
      ·rename_i b2;obtain⟨rfl,rfl⟩:=b2;obtain⟨x,h3⟩:=C3 h;simp only[decide_eq_true_eq] at x;refine⟨_,h3,?_⟩;have S:d≠[]:=by rintro rfl;rw[ac3,aj3] at x;omega
       obtain⟨g,F,I,hh,Y,m,Q⟩:=hH.arr' N (λhz=>S hz.2);have hA:A = .pointer (some ⟨g,0,none⟩):=by
        cases J with
        | ptrA _ _ _ g' v e sz n h' t=>
         grind
        | ptrB _ _ g' h' t=>simp[A1,N,Blk.shp] at h'
       subst hA;have X:0+V.cells.toList.length<=F.size:=by omega
       obtain⟨w',r1,r2,r3,r4,r5,r6,r7,r8⟩:=J3 (P:=C.P) (o:=0) hh (vs:=V.cells.toList) X a1;have Z:=Dt hi a2 r1;have u:∀k,L.St k->w'.heap[k]? = w.heap[k]?:=λk hk=>r3 k (λe=>(hH.lt b g I).2.2 (e▸hk))
       have b0:w'.heap[g]? = some (.cells (V.cells++(F.toList.drop V.cells.size).toArray) e (0,0)):=by
        rw[r2,XT _ _ _ (by simpa using X)];simp_all
       refine Ji hH Z N I (by simp[Blk.shp,R8]) r3 r8 (by omega) r5 r6 r7 (BR.row I b0 (λ_=>?_) ?_ ?_ λj K=>?_) (by simp[Blk.nms]) V6 (by simp[PV.nms,C6])
       ·intro e;exact S (j6.1 e)
       ·rw[f1,<-G,q,x]
       ·rw[f1];simp
       ·obtain⟨U,q1,q2⟩:=f2 j K;exact⟨U,by simpa using q1,q2.mono u (λ_ h=>h)⟩
      ·cases h
    ·cases h
   ·cases h
  ·cases h
 ·cases h
end
section
variable {Γ : Ctx} {H : List Blk} {w : World} {R : Type} {r : R} {C : Cfg}
structure Lf (P:Program) (Γ:Ctx) (w:World) (n:Nat) (X:Value) (news:List (List SV)) (Vs:List Value):Prop where
 len:∀w',(ai5 X).run P w' = .ok news.length w'
 first:∀k,k<=news.length->∀w':World,w'.heap=w.heap->(aa0 n k X).run P w' = .ok (Vs.take (k*n)).toArray w'
 size:Vs.length=news.length*n
 one:∀u∈Vs,u.oneCell'=true
 els:∀i (h:i<news.length),(news[i]).length=n/\∀j (h':j<(news[i]).length),∃U,Vs[i*n+j]? = some U/\VS Γ.St w (news[i][j]) U
theorem Lf.nil{P:Program}{n:Nat}{X:Value}(a:Option Addr)(cap:Nat)(hX:X = .slice a 0 cap):Lf P Γ w n X [] []:=by
 subst hX;refine⟨λw'=>rfl,λk hk w' hw=>?_,by simp,by simp,λi hi=>by simp at hi⟩;have:k=0:=by simpa using hk
 subst this;cases a with
 | none=>simp[aa0]
 | some a=>
  have:=run_loadCells_list (P:=P) w' a [] (by simp);simpa[aa0] using this
theorem IX{q m n:Nat}(h:q<m*n):q / n<m/\q % n<n/\q / n*n+q % n=q:=by
 have a:0<n:=by grind
 exact⟨Nat.div_lt_of_lt_mul (by rw[aj2];exact h),ai1 _ a,by rw[aj2];exact Nat.div_add_mod q n⟩
theorem Lf.slice{P:Program}{n:Nat}{X:Value}{els:List (List SV)}(h:SlV Γ w X els)(hn:∀i (h:i<els.length),(els[i]).length=n):∃Vs,Lf P Γ w n X els Vs:=by
 obtain⟨a,cap,rfl,hcap,hm,hnil,hcells⟩:=h.ex;by_cases he:els=[]
 ·subst he;exact⟨[],Lf.nil a cap rfl⟩
 ·obtain⟨g,o,sz,rfl,hsz,hc⟩:=hcells he;have hcell:∀q,q<els.length*n->∃U,w.cell? ⟨g,o+q,none⟩=some U/\U.oneCell'=true:=λq hq=>by
   obtain⟨h1,h2,h3⟩:=IX hq;have hs:sz=n:=by rw[<-hsz _ h1];exact hn _ h1
   subst hs;obtain⟨U,e,k⟩:=hc _ h1 (q % sz) (by rw[hsz _ h1];exact h2);exact⟨U,by rw[<-e];congr 2;omega,k.oneCell⟩
  let Vs:=(ad3 (els.length*n)).map λq=>(w.cell? ⟨g,o+q,none⟩).getD undef
  have hVs:∀q,q<els.length*n->∀U,w.cell? ⟨g,o+q,none⟩=some U->Vs[q]? = some U:=λq hq U e=>by simp[Vs,hq,e]
  refine⟨Vs,λw'=>rfl,λk hk w' hw=>?_,by simp[Vs],λu hu=>?_,λi hi=>⟨hn i hi,λj hj=>?_⟩⟩
  ·have hkn:k*n<=els.length*n:=j5 _ hk;have hVl:Vs.length=els.length*n:=by simp[Vs]
   have hl:(Vs.take (k*n)).length=k*n:=by rw[aa9,hVl];omega
   refine run_firstCells_some (P:=P) w' n k ⟨g,o,none⟩ els.length cap (Vs.take (k*n)) hl (λj v hj=>?_);rw[ab3] at hj;split at hj
   ·rename_i hjk;obtain⟨U,e,_⟩:=hcell j (by omega);rw[hVs j (by omega) U e] at hj;simp only[c8] at hj;subst hj;rw[J9,A15 hw,e]
   grind
  ·grind
  ·have hs:sz=n:=by rw[<-hsz _ hi];exact hn _ hi
   subst hs;obtain⟨U,e,k⟩:=hc i hi j hj;have hj':j<sz:=by rw[<-hsz i hi];exact hj
   have hlt:i*sz+j<els.length*sz:=by
    have:(i+1)*sz<=els.length*sz:=j5 _ hi;grind
   grind
theorem KD{n:Nat}{x:PV}{X:Value}{c:List (List SV)}(z:HR Γ H w)(G:VP Γ (A1 H) w x X)(d:Aq n H x=true)(h:Mr H x=some c):∃I,Lf C.P Γ w n X c I:=by
 by_cases q:∃l,x = .s (.str l)
 ·obtain⟨l,rfl⟩:=q;simp only[Mr,c8] at h;subst h;simp only[Aq,decide_eq_true_eq] at d;subst d;obtain⟨s,rfl,rfl⟩:=G.inv_str;refine⟨s.data.toList.map λb=>.int .u8 b.toNat,λw'=>by simp[ai5],λk T w' hw=>?_,by simp,λu K=>?_,λi o=>⟨by simp[H7],λj N=>?_⟩⟩
  ·simp only[aa0,s9]
   congr 1
   apply ak3;simp_all
  ·simp only[af2] at K;obtain⟨b,_,rfl⟩:=K;rfl
  ·have F:j=0:=by simpa[H7] using N
   subst F;have B:i<s.data.toList.length:=by simpa using o
   refine⟨.int .u8 (s.data.toList[i]).toNat,by rw[show i*1+0=i by omega,s8,j0 B];rfl,?_⟩;simp only[x7,H7,o8];exact .int _ _
 ·have a:Cz H x=some c:=by
   unfold Mr at h;grind
  have A:=Tk (C:=C) z G a;refine Lf.slice A λi o=>?_
  unfold Aq at d;unfold Cz at a;split at a
  ·grind
  ·simp only[c8] at a;subst a;simp only[ac1,decide_eq_true_eq] at d;have M:=G.inv_s;cases M with
   | nil=>simp at o
   | emp=>simp at o
   | sl t f g off P cap L I W J V Y S U Q Z=>
    grind
  ·split at a
   ·rename_i b _ v e L f p;simp only[c8] at a;subst a;dsimp only at d;rw[p] at d;simp only[ac1,decide_eq_true_eq,c9,ae4] at d;obtain⟨g,y,_,_,_,m,_⟩:=z.arr' p (by rintro⟨_,rfl⟩;simp at o);grind
   grind
  ·split at a
   ·rename_i b O P _ v e L f p;simp only[c8] at a;subst a;dsimp only at d;rw[p] at d;simp only[ac1,decide_eq_true_eq,c9,ae4] at d;have D:O+i<f.length:=by simp at o;omega
    obtain⟨g,y,_,_,_,m,_⟩:=z.arr' p (by rintro⟨_,rfl⟩;simp at D);grind
   grind
  grind
theorem Ax0{P:Program}{a b:Nat}:Nat.min a b=min a b:=rfl
theorem Tf{P:Program}{t u ty e:Nat}{h:TypeInfo}{D X:Value}{a:Option Addr}{b f:Nat}{c:List (List SV)}{i:List Value}{w':World}(l:P.underlying t=some (.slice e))(k:P.info? e=some h)(m:D = .slice a b f)
  (g:Lf P Γ w h.size X c i) (d:match a with|some a=>(storeCells a (i.take (min c.length b*h.size))).run P w = .ok () w'|none=>w'=w) :
  (aa3 #[t,u] ty #[D,X]).run P w = .ok (.int .i64 (min c.length b:Nat)) w':=by
 subst m;have j:=g.first (min c.length b) (Nat.min_le_left _ _) w rfl;cases a with
 | none=>
  simp only at d;subst d;simp[aa3,run_underlying l,g.len,sizeOf,typeInfo,k,Ax0,j,goInt]
 | some a=>
  simp only at d;simp[aa3,run_underlying l,g.len,sizeOf,typeInfo,k,Ax0,j,d,goInt]
theorem Ao7(b a:List (List SV))(i n:Nat)(e:i+n<=b.length)(q:Nat) :
  (b.take i++(a.take n++b.drop (i+min a.length n)))[q]? = if i<=q/\q<i+min a.length n then a[q-i]? else b[q]?:=by
 have c:(b.take i).length=i:=by rw[aa9];omega
 have d:(a.take n).length=min a.length n:=by rw[aa9];omega
 by_cases f:q<i
 ·rw[if_neg (by omega),w6 (by omega),ab3,if_pos f]
 ·rw[aa7 (by omega),c];by_cases g:q<i+min a.length n
  ·rw[if_pos (by omega),w6 (by omega),ab3,if_pos (by omega)]
  ·rw[if_neg (by omega),aa7 (by omega),d,List.getElem?_drop]
   congr 1;omega
theorem HH(a b:List (List SV))(i n:Nat)(c:i+n<=a.length):(a.take i++(b.take n++a.drop (i+min b.length n))).length=a.length:=by grind
theorem An2{b g i n d G O:Nat}{v:Bool}{c news:List (List SV)}{S:Sem Value}{RV:Value}{rv:PV}{z:List Value}{sl:List PV}{tmps:Array Value}{l:Array Value}(hH:HR Γ H w)
  (a8:d=G) (hb:H[b]? = some (.arr v O G c)) (L:i+n<=c.length) (T:Γ.nm b=some g) (hh:w.heap[g]? = some (.cells l O (0,0))) (F:c.length*G<=l.size) (t:∀i (h:i<c.length),(c[i]).length=G)
  (K:∀i (h:i<c.length) j (h':j<(c[i]).length),∃V,l[i*G+j]? = some V/\VS Γ.St w (c[i][j]) V) (a5:¬(v=true/\c=[])) (Q:z.length=news.length*d) (M:∀u∈z,u.oneCell'=true) (o:∀i (h:i<news.length),(news[i]).length=d/\∀j (h':j<(news[i]).length),∃U,z[i*d+j]? = some U/\VS Γ.St w (news[i][j]) U) (a:Addr) (ha:n≠0->a=⟨g,i*G,none⟩)
  (N:∀w',(storeCells a (z.take (min news.length n*d))).run C.P w = .ok () w'->S.run C.P w = .ok RV w') (a7:∀ Γ sh w,VP Γ sh w rv RV) (a6:rv.nms=[]) :
  WV C Γ H w sl tmps S rv sl (H.set b (.arr v O G (c.take i++(news.take n++c.drop (i+min news.length n))))):=by
 subst a8;generalize Y:min news.length n=m;have a0:m<=news.length:=by omega
 have a9:m<=n:=by omega
 have P:(z.take (m*d)).length=m*d:=by
  have:m*d<=news.length*d:=j5 _ a0;rw[aa9,Q];omega
 have B:i*d+(z.take (m*d)).length<=l.size:=by
  have:(i+m)*d<=c.length*d:=j5 _ (by omega);grind
 have f:=HH c news i n L;rw[Y] at f;have key:∃w',(storeCells a (z.take (m*d))).run C.P w = .ok () w'/\w'.heap[g]? = some (.cells (F9 l.toList (i*d) (z.take (m*d))).toArray O (0,0))/\(∀k,k≠g->w'.heap[k]? = w.heap[k]?)/\w'.heap.size=w.heap.size/\w'.os=w.os/\w'.tape=w.tape/\w'.output=w.output/\
   w'.shape? g=w.shape? g:=by
  by_cases a4:n=0
  ·have Z:m=0:=by omega
   subst Z;refine⟨w,by simp[storeCells],by simpa[F9] using hh,λ_ _=>rfl,rfl,rfl,rfl,rfl,rfl⟩
  ·rw[ha a4];exact J3 hh B (λv hv=>M v (List.mem_of_mem_take hv))
 obtain⟨w',r1,r2,r3,r4,r5,r6,r7,r8⟩:=key;have D:∀k,Γ.St k->w'.heap[k]? = w.heap[k]?:=λk hk=>r3 k (λe=>(hH.lt b g T).2.2 (e▸hk))
 have hr:=N w' (by rw[Y];exact r1);have A:∀q (y:q<(c.take i++(news.take n++c.drop (i+m))).length),(i<=q/\q<i+m/\∃h:q-i<news.length,(c.take i++(news.take n++c.drop (i+m)))[q]=news[q-i])\/
   (¬(i<=q/\q<i+m)/\∃h:q<c.length,(c.take i++(news.take n++c.drop (i+m)))[q]=c[q]):=λq y=>by
  have:=Ao7 c news i n L q;rw[Y,j0 y] at this;rw[f] at y;by_cases J:i<=q/\q<i+m
  ·rw[if_pos J,j0 (by omega)] at this;exact .inl ⟨J.1,J.2,by omega,by simpa using this⟩
  ·rw[if_neg J,j0 y] at this;exact .inr ⟨J,y,by simpa using this⟩
 refine Ji hH hr hb T (by simp only[Blk.shp,f]) r3 r8 (by omega) r5 r6 r7 (.inr ⟨λhz=>a5 ⟨hz.1,?_⟩,g,_,T,r2,by rw[f];simpa[D4] using F,λq y=>?_,λq y j hj=>?_⟩) (by simp[Blk.nms]) (a7 _ _ _) (by simp[a6])
 ·have:=congrArg ah4 hz.2;rw[f] at this;exact j6.1 (by simpa using this)
 ·rcases A q y with⟨I,h2,x,e⟩|⟨I,x,e⟩
  ·rw[e];exact(o _ x).1
  ·rw[e];exact t _ x
 ·simp only[ab7];rw[K7 _ _ _ (by simpa using B),P];rcases A q y with⟨I,h2,x,e⟩|⟨I,x,e⟩
  ·have p:j<(news[q-i]).length:=by rw[<-e];exact hj
   obtain⟨U,q1,q2⟩:=(o _ x).2 j p;have W:j<d:=by rw[<-(o _ x).1];exact p
   have a1:i*d<=q*d:=j5 _ I;have a2:(q+1)*d<=(i+m)*d:=j5 _ h2;rw[o6,o6] at a2;have a3:q*d+j-i*d=(q-i)*d+j:=by rw[Nat.sub_mul];omega
   rw[if_pos (by omega),a3];refine⟨U,?_,by simp only[e];exact q2.mono D (λ_ h=>h)⟩;rw[ab3,if_pos]
   ·exact q1
   ·rw[<-a3];omega
  ·have p:j<(c[q]).length:=by rw[<-e];exact hj
   obtain⟨U,q1,q2⟩:=K q x j p;have W:j<d:=by rw[<-t q x];exact p
   rw[if_neg]
   ·exact⟨U,by simpa using q1,by simp only[e];exact q2.mono D (λ_ h=>h)⟩
   ·rintro⟨b1,b2⟩;apply I;constructor
    ·apply y9;intro X;have:(q+1)*d<=i*d:=j5 _ (by omega);rw[o6] at this;omega
    ·apply y9;intro X;have:(i+m)*d<=q*d:=j5 _ (by omega);rw[o6] at this;omega
theorem Au7{t u ty e b g i n dCap m x:Nat}{v:Bool}{q:TypeInfo}{c d:List (List SV)}{D X:Value}{F:List Value}{sl:List PV}{tmps:Array Value}{f:Array Value}(I:HR Γ H w)(O:C.P.underlying t=some (.slice e))(y:C.P.info? e=some q)
  (B:q.size=m) (K:H[b]? = some (.arr v x m c)) (z:i+n<=c.length) (L:Γ.nm b=some g) (M:w.heap[g]? = some (.cells f x (0,0))) (l:c.length*m<=f.size) (k:∀i (h:i<c.length),(c[i]).length=m)
  (o:∀i (h:i<c.length) j (Q:j<(c[i]).length),∃V,f[i*m+j]? = some V/\VS Γ.St w (c[i][j]) V) (A:¬(v=true/\c=[])) (p:Lf C.P Γ w q.size X d F) (a:Addr) (J:n≠0->a=⟨g,i*m,none⟩) (G:D = .slice (some a) n dCap) :
  WV C Γ H w sl tmps (aa3 #[t,u] ty #[D,X]) (.s (.int .i64 (min d.length n:Nat))) sl (H.set b (.arr v x m (c.take i++(d.take n++c.drop (i+min d.length n))))):=by
 have N:∀w',(storeCells a (F.take (min d.length n*q.size))).run C.P w = .ok () w'->(aa3 #[t,u] ty #[D,X]).run C.P w = .ok (.int .i64 (min d.length n:Nat)) w':=λw' h=>Tf (P:=C.P) (w:=w) (u:=u) (ty:=ty) O y G p (w':=w') h
 exact An2 I B K z L M l k o A p.size p.one p.els a J N (λ_ _ _=>.int _ _) (by simp[PV.nms])
theorem Tn{b n e c:Nat}{v:Bool}{a:List (List SV)}(f:H[b]? = some (.arr v e c a))(h:(decide (c=n)||(v&&a.isEmpty))=true)(d:¬(v=true/\a=[])):c=n:=by grind
theorem UX{t u ty:Nat}{d x:PV}{D X:Value}{k:PV->List Blk->Option R}{sl:List PV}{tmps:Array Value}(J:HR Γ H w)(h:II C t d x H k=some r)(Z:VP Γ (A1 H) w d D)(hx:VP Γ (A1 H) w x X) :
  ∃v H',k v H'=some r/\WV C Γ H w sl tmps (aa3 #[t,u] ty #[D,X]) v sl H':=by
 unfold II at h;split at h
 ·rename_i e a0;split at h
  ·rename_i G;simp only[c9] at G;obtain⟨⟨G,Q⟩,o⟩:=G;obtain⟨ie,K,A,a1⟩:=I8 G;split at h
   ·rename_i a2 L;obtain⟨Vs,Y⟩:=KD (C:=C) J hx Q L;have hu:=G5 a0;have j:∀{H':List Blk},(hn:D = .slice none 0 0)->k (.s (.int .i64 0)) H=some r->∃v H',k v H'=some r/\WV C Γ H w sl tmps (aa3 #[t,u] ty #[D,X]) v sl H':=λhn hk=>by
     have hr:=Tf (P:=C.P) (w:=w) (u:=u) (ty:=ty) hu K hn (by rw[A];exact Y) (w':=w) rfl;simp only[ag8] at hr;exact⟨_,_,hk,_,w,Γ,hr,Stp.refl J,J,id,.int _ _,by simp[PV.nms]⟩
    split at h
    ·rename_i b;split at h
     ·rename_i v U sz F p;cases Z with
      | flv _ V M I=>
       obtain⟨rfl,_,_,W⟩:=K6 p I;obtain rfl:=j6.1 W;simp only[ac3,ag8,ad4,ag2,ac2] at h;have z:H.set b (.arr true U sz [])=H:=by
        apply aa6;grind
       rw[z] at h;exact j (H':=H) rfl h
      | fl _ g v' V M n' cap I hv O N hm hs=>
       obtain⟨rfl,rfl,rfl,rfl⟩:=K6 p I;have f:¬(v=true/\F=[]):=by rintro⟨q1,q2⟩;exact hv q1 (by rw[q2];rfl)
       simp only[Aq,p] at o;have B:=Tn p o f;obtain⟨g',T,y,hh,l,c,q⟩:=J.arr' p f;rw[O] at y;cases y;have:=Au7 (C:=C) (u:=u) (ty:=ty) (i:=0) (n:=F.length) (dCap:=cap) (sl:=sl) (tmps:=tmps) J hu K (by rw[A,B]) p (by omega) O hh l c q f (by rw[A];exact Y) ⟨g,0,none⟩ (λ_=>by simp) rfl;simp only[ad4,ah9,aa1] at this;exact⟨_,_,h,this⟩
     ·cases h
    ·rename_i b i n;split at h
     ·rename_i v U sz F p;obtain⟨h1,S⟩:=C3 h;simp only[decide_eq_true_eq] at h1;cases Z with
      | vwv _ V M _ I=>
       obtain⟨rfl,_,_,W⟩:=K6 p I;obtain rfl:=j6.1 W;simp only[ag8,ad4,ag2,ac2,ai8] at S;have z:H.set b (.arr true U sz [])=H:=by
        apply aa6;grind
       rw[z] at S;exact j (H':=H) rfl S
      | vw _ _ _ g a cap v' V M m I hv O ha a3 N hm=>
       obtain⟨rfl,rfl,rfl,rfl⟩:=K6 p I;have f:¬(v=true/\F=[]):=by rintro⟨q1,q2⟩;exact hv q1 (by rw[q2];rfl)
       simp only[Aq,p] at o;have B:=Tn p o f;obtain⟨g',T,y,hh,l,c,q⟩:=J.arr' p f;rw[O] at y;cases y;have:=Au7 (C:=C) (u:=u) (ty:=ty) (i:=i) (n:=n) (dCap:=cap) (sl:=sl) (tmps:=tmps) J hu K (by rw[A,B]) p h1 O hh l c q f (by rw[A];exact Y) a ha rfl;exact⟨_,_,S,this⟩
     ·cases h
    ·exact j (H':=H) Z.inv_nsl h
    ·cases h
   ·cases h
  ·cases h
 ·cases h
theorem Ht{P:Program}{t ty e:Nat}{d:TypeInfo}{z:Value}{a:Option Addr}{n cap:Nat}{w':World}(c:P.underlying t=some (.slice e))(f:P.info? e=some d)(g:d.zero=some z)
  (b:match a with|some a=>(storeCells a (p9 z.cells n).toList).run P w = .ok () w'|none=>w'=w) :
  (x9 #[t] ty #[.slice a n cap]).run P w = .ok (.tuple #[]) w':=by
 cases a with
 | none=>
  simp only at b;subst b;simp[x9,run_underlying c]
 | some a=>
  simp only at b;cases n with
  | zero=>
   have:w'=w:=by
    simp[p9,storeCells] at b;exact b.symm
   subst this;simp[x9,run_underlying c]
  | succ n=>simp[x9,run_underlying c,zeroValue,typeInfo,f,g,b]
theorem OR{t ty:Nat}{x:PV}{X:Value}{k:List Blk->Option R}{sl:List PV}{tmps:Array Value}(hH:HR Γ H w)(h:Vp C t x H k=some r)(hx:VP Γ (A1 H) w x X) :
  ∃H',k H'=some r/\WV C Γ H w sl tmps (x9 #[t] ty #[X]) (.tup []) sl H':=by
 unfold Vp at h;split at h
 ·rename_i e a5;split at h
  ·rename_i L;simp only[c9] at L;obtain⟨L,p⟩:=L;obtain⟨K,z,T,hz,Y,Q⟩:=Cc (Γ:=Γ) (sh:=A1 H) (w:=w) L;have hu:=G5 a5;split at h
   ·rename_i M a6;obtain⟨f1,f2⟩:=L8 (As:=z.cells.toList) a6 (by simpa using Q.1.symm) (λj V=>by
     obtain⟨U,e,k⟩:=Q.2 j V;exact⟨U,by simpa using e,k⟩)
    have Z:z.cells.size=K.size:=by rw[Q.1,j7,Y]
    have a7:M.length=K.size:=by rw[f1,j8,Z]
    have A:∀n,(p9 z.cells n).toList.length=n*K.size:=λn=>by simp[p9,Z]
    have a1:∀n q,q<n*K.size->(p9 z.cells n).toList[q]? = some (z.cells[q % K.size]!):=λn q hq=>by simp[p9,Z,hq]
    have a3:∀j,j<K.size->∃U,z.cells[j]! = U/\(∃h:j<M.length,VS Γ.St w (M[j]) U):=λj V=>by
     obtain⟨U,e,k⟩:=f2 j (by omega);refine⟨U,?_,by omega,k⟩;have e2:z.cells[j]? = some U:=by simpa using e
     have F:j<z.cells.size:=by omega
     rw[getElem!_pos z.cells j F];rw[ad7 F] at e2;exact ai0 e2
    have O:∀n,∀u∈(p9 z.cells n).toList,u.oneCell'=true:=λn u hu=>by
     obtain⟨q,hq,rfl⟩:=ac5 hu;have W:=hq;rw[A] at W;have h1:=a1 n q W;rw[j0 hq] at h1;obtain⟨_,h2,_⟩:=IX W;obtain⟨U,e,hU,k⟩:=a3 _ h2;rw[ai0 h1,e];exact k.oneCell
    have hE:∀n,∀i (h:i<(j4 n M).length),((j4 n M)[i]).length=K.size/\∀j (N:j<((j4 n M)[i]).length),∃U,(p9 z.cells n).toList[i*K.size+j]? = some U/\VS Γ.St w ((j4 n M)[i][j]) U:=λn i hi=>by
     rw[o0] at hi;simp only[ab6];refine⟨a7,λj V=>?_⟩;have F:j<K.size:=by omega
     obtain⟨U,e,hU,k⟩:=a3 j F;refine⟨U,?_,k⟩;have h3:(i+1)*K.size<=n*K.size:=j5 _ (by omega);rw[o6] at h3;rw[a1 n _ (by omega),aj1,ad5,ae7 F,e]
    have J:∀(Γ:Ctx) (sh:Nat->Option Shp) (w:World),VP Γ sh w (.tup []) (.tuple #[]):=λΓ sh w=>.tup [] #[] (λ_=>.tuple #[]) rfl (λj V=>by simp at V) (λj V=>by simp at V)
    have l:(hn:X = .slice none 0 0)->k H=some r->∃H',k H'=some r/\WV C Γ H w sl tmps (x9 #[t] ty #[X]) (.tup []) sl H':=λhn hk=>by
     subst hn;have hr:=Ht (P:=C.P) (w:=w) (ty:=ty) (a:=none) (n:=0) (cap:=0) hu T hz (w':=w) rfl;exact⟨_,hk,_,w,Γ,hr,Stp.refl hH,hH,id,J _ _ _,by simp[PV.nms,C6]⟩
    split at h
    ·rename_i b;split at h
     ·rename_i v e' sz c y;cases hx with
      | flv _ e2 a0 N=>
       obtain⟨rfl,_,_,h4⟩:=K6 y N;obtain rfl:=j6.1 h4;simp only[ac3,ac6] at h;have G:H.set b (.arr true e' sz [])=H:=by
        apply aa6;grind
       rw[G] at h;exact l rfl h
      | fl _ g v' e2 a0 n' cap N hv hg a2 hm hs=>
       obtain⟨rfl,rfl,rfl,rfl⟩:=K6 y N;have f:¬(v=true/\c=[]):=by rintro⟨q1,q2⟩;exact hv q1 (by rw[q2];rfl)
       simp only[Aq,y] at p;have I:=Tn y p f;obtain⟨g',a4,D,hh,o,d,B⟩:=hH.arr' y f;rw[hg] at D;cases D;have:=An2 (C:=C) (S:=x9 #[t] ty #[.slice (some ⟨g,0,none⟩) c.length cap]) (RV:=.tuple #[]) (rv:=.tup []) (i:=0) (n:=c.length) (news:=j4 c.length M) (sl:=sl) (tmps:=tmps) hH (by rw[Y,I]) y (by omega) hg hh o d B f (by rw[o0];exact A c.length) (O _) (hE _) ⟨g,0,none⟩ (λ_=>by simp)
        (λw' hw=>Ht hu T hz (by rw[o0,ad0,x5 (by rw[A];exact j2 _)] at hw;exact hw)) J (by simp[PV.nms,C6])
       simp only[ad4,ah9,aa1,o0,ad0,List.drop_length,ac2] at this;rw[x5 (by simp)] at this;exact⟨_,h,this⟩
     ·cases h
    ·rename_i b i n;split at h
     ·rename_i v e' sz c y;obtain⟨h1,h2⟩:=C3 h;simp only[decide_eq_true_eq] at h1;cases hx with
      | vwv _ e2 a0 _ N=>
       obtain⟨rfl,_,_,h4⟩:=K6 y N;obtain rfl:=j6.1 h4;simp only[ac6,ai8,ag2,ac2] at h2;have G:H.set b (.arr true e' sz [])=H:=by
        apply aa6;grind
       rw[G] at h2;exact l rfl h2
      | vw _ _ _ g a cap v' e2 a0 m N hv hg ha a8 a2 hm=>
       obtain⟨rfl,rfl,rfl,rfl⟩:=K6 y N;have f:¬(v=true/\c=[]):=by rintro⟨q1,q2⟩;exact hv q1 (by rw[q2];rfl)
       simp only[Aq,y] at p;have I:=Tn y p f;obtain⟨g',a4,D,hh,o,d,B⟩:=hH.arr' y f;rw[hg] at D;cases D;have:=An2 (C:=C) (S:=x9 #[t] ty #[.slice (some a) n cap]) (RV:=.tuple #[]) (rv:=.tup []) (i:=i) (n:=n) (news:=j4 n M) (sl:=sl) (tmps:=tmps) hH (by rw[Y,I]) y h1 hg hh o d B f (by rw[o0];exact A n) (O _) (hE _) a ha
        (λw' hw=>Ht hu T hz (by rw[o0,ad0,x5 (by rw[A];exact j2 _)] at hw;exact hw)) J (by simp[PV.nms,C6])
       rw[o0,ad0,List.take_replicate,ad0] at this;exact⟨_,h2,this⟩
     ·cases h
    ·exact l hx.inv_nsl h
    ·cases h
   ·cases h
  ·cases h
 ·cases h
end
section
variable {Γ : Ctx} {H : List Blk} {w : World} {R : Type} {r : R} {C : Cfg}
theorem BR.kill{sh:Nat->Option Shp}{b c:Nat}{x:Blk}(h:BR Γ sh w c x):BR Γ sh w c (x.kill b):=by
 cases x with
 | box cells=>
  obtain⟨g,cur,e,h1,h2,h3,h4⟩:=h;simp only[Blk.kill,Ag];refine⟨g,cur,e,h1,h2,by simpa using h3,λj hj=>?_⟩;obtain⟨V,e1,e2⟩:=h4 j (by simpa using hj);exact⟨V,e1,by simpa using e2.kill b⟩
 | arr=>exact h
 | iter=>exact h
 | mp ents=>
  obtain⟨g,es,ck,h1,h2,h3⟩:=h;exact⟨g,es,ck,h1,h2,h3.map λv _ V k=>k.kill b⟩
 | ms=>exact h
 | dead=>exact h
theorem Blk.kill_nms'{b:Nat}{x:Blk}:∀c∈(x.kill b).nms,c≠b/\c∈x.nms:=by
 intro c hc;cases x with
 | box cells=>
  simp only[Blk.kill,Blk.nms] at hc ⊢;exact⟨λe=>Q1 b cells (e▸hc),Z3 b cells c hc⟩
 | arr=>simp[Blk.kill,Blk.nms] at hc
 | iter=>simp[Blk.kill,Blk.nms] at hc
 | ms=>simp[Blk.kill,Blk.nms] at hc
 | mp ents=>
  simp only[Blk.kill,Blk.nms] at hc ⊢;obtain⟨j,hj,hc⟩:=C4.1 hc;simp only[HB,af1,x7,af8] at hc;exact⟨λe=>PV.not_mem_kill b _ (e▸hc),Wi (af2.2 ⟨_,ae3 _,rfl⟩) c (PV.kill_nms b _ c hc)⟩
 | dead=>simp[Blk.kill,Blk.nms] at hc
def Ctx.re(Γ:Ctx)(b:Nat)(ng:Option Nat):Ctx:={ Γ with nm:=λc=>if c=b then ng else Γ.nm c }
theorem Ti{b c:Nat}{y:Blk}(a:b<H.length):A1 ((H.map (Blk.kill b)).set b y) c=if c=b then some y.shp else A1 H c:=by rw[KB (by simpa using a),FO]
theorem FI{b:Nat}{y:Blk}{ng:Option Nat}{w':World}(m:HR Γ H w)(D:b<H.length)(F:¬Fl C (A1 H b))(p:∀g,ng=some g->g<w'.heap.size/\¬ Γ.St g/\∀c,c≠b->Γ.nm c≠some g)
  (u:∀g,ng=some g->Γ.nm b=some g\/w.heap.size<=g) (n:∀k,k<w.heap.size->Γ.nm b≠some k->w'.heap[k]? = w.heap[k]?) (v:w.heap.size<=w'.heap.size) (N:w'.os=w.os) (O:w'.tape=w.tape) (P:w'.output=w.output)
  (T:BR (Γ.re b ng) (A1 ((H.map (Blk.kill b)).set b y)) w' b y) (I:y.nms=[]) :
  Stp C Γ H w noΦ (Γ.re b ng) ((H.map (Blk.kill b)).set b y) w' noΦ/\HR (Γ.re b ng) ((H.map (Blk.kill b)).set b y) w'/\
   ∀sl o,SR Γ H w sl o->SR (Γ.re b ng) ((H.map (Blk.kill b)).set b y) w' (U0 b sl) o:=by
 have G:∀k,Γ.St k->w'.heap[k]? = w.heap[k]?:=λk B=>n k (m.stlt k B) (λe=>(m.lt b k e).2.2 B)
 have q:∀c g,c≠b->Γ.nm c=some g->w'.heap[g]? = w.heap[g]?:=λc g a f=>n g (m.lt c g f).2.1 (λe=>a (m.inj c b g f e))
 have M:V8 Γ (A1 H) w (Γ.re b ng) (A1 ((H.map (Blk.kill b)).set b y)) w' (λc=>c≠b/\c<H.length):=
  ⟨G,λ_ h=>h,λc a=>by simp only[Ctx.re];rw[if_neg a.1],λc a=>by rw[Ti D,if_neg a.1],λc g a f=>D8 (q c g a.1 f),rfl⟩
 refine⟨⟨N,O,P,v,λ_ h=>h,λ_ h=>.inl h,λc g f=>?_,λ_ h=>.inl h,λg f S _=>n g f (S b),rfl,by simp,λc a Q=>?_⟩,⟨λc d g a j=>?_,λc g f=>?_,λk B=>ab4 (m.stlt k B) v,λc a d j=>?_,λc a=>?_⟩,λsl o A=>⟨?_,λc a=>?_,λi J=>?_⟩⟩
 ·simp only[Ctx.re] at f;split at f
  ·rename_i e;subst e;rcases u g f with h|h
   ·exact .inl ⟨D,h⟩
   ·exact .inr h
  ·exact .inl ⟨(m.lt c g f).1,f⟩
 ·have l:c≠b:=λe=>F (e▸Q)
  exact⟨M.nm c ⟨l,a⟩,M.shp c ⟨l,a⟩,λg f=>M.hs c g ⟨l,a⟩ f⟩
 ·simp only[Ctx.re] at a j;split at a<;>split at j
  ·omega
  ·rename_i x z;exact absurd j ((p g a).2.2 d z)
  ·rename_i x z;exact absurd a ((p g j).2.2 c x)
  ·exact m.inj c d g a j
 ·simp only[Ctx.re] at f;rw[v8,j7];split at f
  ·rename_i e;subst e;exact⟨D,(p g f).1,(p g f).2.1⟩
  ·have:=m.lt c g f;exact⟨this.1,by omega,this.2.2⟩
 ·rw[v8,j7] at a ⊢;rw[v7] at j;split at j
  ·rw[I] at j;simp at j
  ·rw[x7] at j;exact m.nms c a d (Blk.kill_nms' d j).2
 ·rw[v8,j7] at a;rw[v7];split
  ·rename_i e;subst e;exact T
  ·rename_i e;rw[x7];have l:c≠b:=λK=>e K.symm
   exact(BR.kill (m.blk c a)).mono M (M.nm c ⟨l,a⟩) (λg f=>q c g l f) (λd j=>⟨(Blk.kill_nms' d j).1,m.nms c a d (Blk.kill_nms' d j).2⟩)
 ·rw[Ag,j7];exact A.size
 ·rw[v8,j7];exact A.nms c (Z3 b sl c a)
 ·have t:i<sl.length:=by rw[Ag] at J;simpa using J
  obtain⟨V,x,z⟩:=A.slot i t;refine⟨V,x,?_⟩;have L:(U0 b sl)[i]=(sl[i]).kill b:=by simp[Ag]
  rw[L];exact(z.kill b).mono M λc a=>⟨λe=>PV.not_mem_kill b _ (e▸a),A.nms c (C4.2 ⟨i,t,PV.kill_nms b _ c a⟩)⟩
theorem Sg{u:Nat}(h:JA (C.sh u)=true):∃d,C.P.underlying u=some d/\(d = .string\/∃b,d = .slice b):=by
 unfold JA at h;split at h
 ·rename_i a;exact⟨_,Y8 a,.inl rfl⟩
 ·rename_i e a;exact⟨_,G5 a,.inr ⟨_,rfl⟩⟩
 ·cases h
theorem X2{P:Program}{t u ty e n cap:Nat}{i:TypeInfo}{d:TypeDesc}{base:Option Addr}{X:Value}{b:List (List SV)}{g:List Value}{w':World}(o:P.underlying t=some (.slice e))(p:P.underlying u=some d)(l:d = .string\/∃j,d = .slice j)(m:P.info? e=some i)
  (h:Lf P Γ w i.size X b g) (c:n+b.length<=cap) (f:match base with|some a=>(storeCells (a.add (n*i.size)) g).run P w = .ok () w'|none=>w'=w) :
  (ab1 #[t,u] ty #[.slice base n cap,X]).run P w = .ok (.slice base (n+b.length) cap) w':=by
 have k:=h.first b.length (j2 _) w rfl;have hV:g.take (b.length*i.size)=g:=x5 (by rw[h.size];exact j2 _);rw[hV] at k;cases base with
 | none=>
  simp only at f;subst f;rcases l with rfl|⟨j,rfl⟩ <;>
   simp[ab1,run_underlying o,run_underlying p,sizeOf,typeInfo,m,h.len,c,k]
 | some a=>
  simp only at f;rcases l with rfl|⟨j,rfl⟩ <;>
   simp[ab1,run_underlying o,run_underlying p,sizeOf,typeInfo,m,h.len,c,k,f]
theorem De{P:Program}{t u ty e n cap:Nat}{c:TypeInfo}{z:Value}{d:TypeDesc}{base:Option Addr}{X:Value}{a:List (List SV)}{h olds:List Value}(A:P.underlying t=some (.slice e))(B:P.underlying u=some d)(v:d = .string\/∃o,d = .slice o)(x:P.info? e=some c)(D:c.zero=some z)
  (l:Lf P Γ w c.size X a h) (q:∀w':World,w'.heap=w.heap->(aa0 c.size n (.slice base n cap)).run P w' = .ok olds.toArray w') (b:cap<n+a.length) (j:n+a.length<=maxLen) (m:(n+a.length)*c.bytes<=140737488355328) :
  (ab1 #[t,u] ty #[.slice base n cap,X]).run P w = .ok (.slice (some ⟨w.heap.size,0,none⟩) (n+a.length) (grownCap w (n+a.length) cap e))
   (w.drew.alloc (.cells (olds.toArray++h.toArray++p9 z.cells (grownCap w (n+a.length) cap e-(n+a.length))) e)):=by
 have p:=l.first a.length (j2 _) w.drew rfl;have hV:h.take (a.length*c.size)=h:=x5 (by rw[l.size];exact j2 _);rw[hV] at p;have k:=q w.drew rfl;have y:¬(n+a.length<=cap):=by omega
 have i:n+a.length<=9223372036854775807:=by simp only[maxLen] at j;omega
 have g:¬(9223372036854775807<((n:Int)+(a.length:Int))):=by omega
 have f:¬(281474976710656<Builtin.nextslicecap (n+a.length) cap*c.bytes):=by have:=growslice_fits b m;omega
 rcases v with rfl|⟨o,rfl⟩ <;>
 ·simp[ab1,run_underlying A,run_underlying B,sizeOf,typeInfo,zeroValue,x,D,l.len,y,g,f,Question.forced,p,k,newRow,grownCap]
  congr 2
  apply ak3;simp[aa5]
end
end
end Go.Proofs.YtiodfnbjmmdlmaaGreatDoor.E
