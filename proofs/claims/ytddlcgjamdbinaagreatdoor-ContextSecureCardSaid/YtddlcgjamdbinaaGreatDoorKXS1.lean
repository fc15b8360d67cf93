/-
  Parts of the proof, merged by a program of the prover's own; no condition.
-/
import Derived.Below
import Derived.Control
import Derived.Laws.AppendOwn
import Derived.Laws.BytesString
import Derived.Laws.CopyRow
import Derived.Laws.IdiomStrings
import Derived.Laws.MakeOwn
import Derived.Laws.RangeString
import Derived.Laws.Runes
import Derived.Laws.Tables
import Derived.Lib.Strings
import Derived.MapKept
import Derived.WalkKit
import Derived.WalkLawsBesides
import Derived.WalkSpells
open Option.some renaming injEq->c9
open Bool renaming and_eq_true->j0,or_eq_true->aa2,false_eq_true->ab3,not_eq_true'->ac6,not_eq_true->ag4,true_and->ah8
open List renaming getElem?_eq_getElem->j1,getElem?_eq_some_iff->j2,length_append->j6,length_map->j7,replicate->j9,length_eq_zero_iff->k9,mem_append->o7,getElem_cons_zero->o8,getElem?_append_left->p5,getElem?_map->p6,getElem_append_left->p7,getElem_set->s8,getElem?_append_right->s9,length_set->v8,eq_nil_of_length_eq_zero->w6,all_eq_true->x3,getElem_map->x4,getD_eq_getElem?_getD->x7,getElem?_take->x8,length_singleton->x9,take_of_length_le->z7,mem_zipIdx_iff_getElem?->aa3,getElem?_toArray->aa5,append_assoc->aa7,length_take->ab0,isEmpty_iff->ab5,range->ac3,getElem_append_right->ac5,ext_getElem?->ac7,flatten_cons->ac8,getElem_mem->ad4,length_cons->ad5,getElem_replicate->ae0,map_map->ae1,mem_map->ae2,length_nil->ae5,getElem?_eq_none->ae6,length_replicate->ae7,length->ae8,take_zero->ae9,getElem_of_mem->af4,length_pos_iff->af5,mem_cons->af7,getD->ag5,length_drop->ag6,range'->ag9,append_nil->ah2,foldl_cons->ah3,all_cons->ai1,drop_nil->ai2
open Nat renaming le_refl->j4,mul_le_mul_right->j5,add_mul->o6,zero_le->y7,zero_add->aa0,add_zero->ab1,lt_of_lt_of_le->ab4,le_trans->ac2,ble->ac9,le_of_not_lt->ad6,add_assoc->af8,min_zero->ag2,mod_eq_of_lt->ag7,beq->ah4,mod_lt->ah5,lt_irrefl->ai3,mul_comm->ai6,zero_mul->ai7
open Go.Result renaming andThen_ok->j8,andThen->ah7
open Array renaming length_toList->o0,getElem?_setIfInBounds->w8,getElem?_eq_some_iff->x5,getElem?_append_left->aa8,getElem?_eq_none->ad7,size_append->ag0,ext'->aj8
open Go.Op renaming equalIn->o5,bytesLess->ae4,equal->ag3,eqFields->ah0,unary->aj5
open Option renaming map_eq_some_iff->o9,map_some->ab9,getD_some->ag8,map_map->ah6
open Go.Sem renaming run_bind->p4,run_pure->p9
open Go.Builtin renaming append_->v7,firstCells->y9,zeroCells->aa6,len_->aa9,copy_->ab2,lenOf->ah9
open Go.Instr renaming buildSlice->w9,sureAddr->x6,sliceAt->aa4,indexAt->ab6,loadAt->ac1,storeAt->ad2,fill->ad8,next->ad9,fieldAt->af6,sliceBounds->ag1,field->ai9,index->aj0,slice->aj1
open Decidable renaming byContradiction->y5
open BitVec renaming ofInt->y8
open Go.World renaming shape?->aa1,cell?->ab8
open Int renaming ofNat_eq_natCast->ab7,negSucc_lt_zero->af2,toNat_of_nonneg->af3
open Go.ByteArray renaming toList_eq->ac0
open Prod renaming snd->ac4
open UInt8 renaming ofNat->ad0
open Go.Utf8 renaming decode->ad1,encode->aj7
open Prod.mk renaming injEq->ad3
open Go.MapKept renaming run_getObj_map->ae3
open Std.Legacy.Range renaming forIn_eq_forIn_range'->af0,size->ai8
open Function renaming comp_apply->af1,comp->ai0
open Go.Array renaming range_zero'->af9
open ByteArray renaming empty->ah1
open Go.Program renaming built->ai4
open Go.Value renaming int->ai5
set_option maxRecDepth 100000
variable{R:Type}
namespace Go.Proofs.YtddlcgjamdbinaaGreatDoor.E
theorem aa{α:Type _}(a b:α):cond true a b=a:=rfl
theorem ab{α:Type _}(a b:α):cond false a b=b:=rfl
theorem ac{c:Prop}{h:Decidable c}(p:c){α:Sort _}{t e:α}:ite c t e=t:=if_pos p
theorem ae{c:Prop}{h:Decidable c}(p:¬c){α:Sort _}{t e:α}:ite c t e=e:=if_neg p
theorem af(p:Prop)[Decidable p]:(decide p=true)=p:=decide_eq_true_eq
set_option linter.all false
section
open Go
inductive SV where
 | bool (b:Bool)
 | int (k:IntKind) (n:Int)
 | str (l:List UInt8)
 | nilp
 | nilm
 | nilf
 | sl (z t:Bool) (k:Nat) (els:List (List SV))
 | sp (els:List (List SV)) (i off:Nat)
 | fn (f:Fn) (first caps:List SV)
 deriving Inhabited
inductive PV where
 | s (v:SV)
 | nsl
 | fl (b:Nat)
 | vw (b i n:Nat)
 | ptr (b i off:Nat)
 | fnr (f:Fn) (first caps:List PV)
 | it (b:Nat)
 | yd
 | agg (l:List PV)
 | tup (l:List PV)
 | bad
 deriving Inhabited
inductive Blk where
 | arr (v:Bool) (e sz:Nat) (els:List (List SV))
 | box (cells:List PV)
 | iter (s:List UInt8) (pos:Nat)
 | mp (ents:List (List UInt8 × PV))
 | ms (a:Bool) (ents:List (List UInt8 × List SV))
 | dead
 deriving Inhabited
inductive CK where
 | bool
 | int (k:IntKind)
 | str
 | sl (k:Nat)
 | ptr
 | map
 | fn
 deriving DecidableEq,Inhabited
structure TI where
 ok:Bool
 agg:Bool
 ks:List CK
 deriving Inhabited
inductive Sh where
 | int (k:IntKind)
 | str
 | bool
 | slice (e:Nat)
 | array (n e:Nat)
 | struct (fs:List (Nat × Nat))
 | ptr (e:Nat)
 | map (k e:Nat)
 | fn
 | other
 deriving Inhabited
def Bt2:CK->Value->Bool
 | .bool,.bool b=>!b
 | .int k,.int a n=>decide (k=a)&&decide (n=0)
 | .str,.string s=>s.data.toList.isEmpty
 | .sl _,.slice none 0 0=>true
 | .ptr,.pointer none=>true
 | .map,.map none=>true
 | .fn,.nilFunc=>true
 | _,_=>false
def Dn:List CK->List Value->Bool
 | [],[]=>true
 | c::r,v::q=>Bt2 c v&&Dn r q
 | _,_=>false
def ksF(f:Nat->Option (List CK)):List Field->Nat->Option (List CK)
 | [],_=>some []
 | x::r,off=>if x.offset==off then match f x.type with
   | some a=>match ksF f r (off+a.length) with
    | some b=>some (a++b)
    | none=>none
   | none=>none else none
def PA(P:Program):Nat->Nat->Option (List CK)
 | 0,_=>none
 | d+1,t=>match P.underlying t with
  | some .bool=>some [.bool]
  | some (.int k)=>some [.int k]
  | some .string=>some [.str]
  | some (.slice e)=>match P.info? e with
   | some i=>some [.sl i.size]
   | none=>none
  | some (.pointer _)=>some [.ptr]
  | some (.map _ _)=>some [.map]
  | some (.func _ _ _)=>some [.fn]
  | some (.struct b)=>ksF (PA P d) b.toList 0
  | some (.array n e)=>match PA P d e with
   | some a=>some (j9 n a).flatten
   | none=>none
  | _=>none
def Do3(P : Program)(t : Nat) : TI :=
  match P.info? t, P.underlying t, PA P 20 t with
  | some i, some d, some a => match i.zero with
    | some z => { ok := i.size==z.cells.size&&decide (i.bytes <= 512)&&decide (0 < i.size)&&Dn a z.cells.toList, ks := a
                  agg := match d with | .struct _ => true | .array _ _ => true|_ => false }
    | none => { ok := false, agg := false, ks := [] }
  | _, _, _ => { ok := false, agg := false, ks := [] }
def PZ(P:Program)(t:Nat):Sh:=
 match P.underlying t with
 | some (.slice e)=>.slice e
 | some (.array n e)=>.array n e
 | some (.struct a)=>.struct (a.toList.map λf=>(f.offset,f.type))
 | some (.pointer e)=>.ptr e
 | some (.map k e)=>.map k e
 | some (.func _ _ _)=>.fn
 | some (.bool)=>.bool
 | some (.int k)=>.int k
 | some (.string)=>.str
 | _=>.other
def MK(f:Nat->Option (List CK)):List Field->Nat->Option (List CK)
 | [],_=>some []
 | x::r,off=>if x.offset==off&&x.name != "_" then match f x.type with
   | some a=>match MK f r (off+a.length) with
    | some b=>some (a++b)
    | none=>none
   | none=>none else none
def SO(P:Program):Nat->Nat->Option (List CK)
 | 0,_=>none
 | d+1,t=>match P.underlying t with
  | some .bool=>some [.bool]
  | some (.int k)=>some [.int k]
  | some .string=>some [.str]
  | some (.struct c)=>if P.stoodInHeld t then none else match MK (SO P d) c.toList 0 with
   | some b=>if (P.info? t).map (·.size)==some b.length then some b else none
   | none=>none
  | some (.array n e)=>match SO P d e with
   | some a=>if (P.info? e).map (·.size)==some a.length&&(P.info? t).map (·.size)==some (j9 n a).flatten.length then some (j9 n a).flatten else none
   | none=>none
  | _=>none
def Dc6(P:Program)(t:Nat):Bool:=SO P 20 t==some (Do3 P t).ks&&!(P.eqGuardType P.depth t)
inductive Tr where
 | ret (v:PV) (H:List Blk)
 | need (c:Bool) (t:Tr)
 | split (c:Bool) (a b:Tr)
 | fail
def Gk:Tr->(PV->List Blk->Option R)->Option R
 | .ret v H,k=>k v H
 | .need c t,k=>cond c (Gk t k) none
 | .split c a b,k=>cond c (Gk a k) (Gk b k)
 | .fail,_=>none
def L8(t:Tr):Option (PV × List Blk):=Gk t λv H=>some (v,H)
def Ch{r:R}:∀{t:Tr} {k:PV->List Blk->Option R},Gk t k=some r->∃v H,L8 t=some (v,H)/\k v H=some r
 | .ret v H,k,h=>⟨v,H,rfl,h⟩
 | .need c t,k,h=>by
  cases c with
  | true=>exact Ch (t:=t) h
  | false=>cases h
 | .split c a b,k,h=>by
  cases c with
  | true=>exact Ch (t:=a) h
  | false=>exact Ch (t:=b) h
 | .fail,_,h=>by cases h
def SV.det:SV->Bool
 | .bool _=>true
 | .int _ _=>true
 | .str _=>true
 | _=>false
def PV.det1:PV->Bool
 | .s x=>x.det
 | _=>false
def PV.det:PV->Bool
 | .s x=>x.det
 | .tup l=>l.all PV.det1
 | _=>false
def Tl:Tr->Tr
 | .ret v H=>cond (v.det&&H.isEmpty) (.ret v H) .fail
 | .need c t=>.need c (Tl t)
 | .split c a b=>.split c (Tl a) (Tl b)
 | .fail=>.fail
def Cs:∀{t:Tr} {v:PV} {H:List Blk},L8 (Tl t)=some (v,H)->L8 t=some (v,H)/\v.det=true/\H=[]
 | .ret e H',v,H,h=>by
  simp only[Tl] at h;cases d:(e.det&&H'.isEmpty) with
  | false=>rw[d] at h;cases h
  | true=>
   rw[d] at h;simp only[j0,ab5] at d;simp only[aa,L8,Gk,c9,ad3] at h;obtain⟨rfl,rfl⟩:=h;exact⟨rfl,d.1,d.2⟩
 | .need c t,v,H,h=>by
  cases c with
  | true=>exact Cs (t:=t) h
  | false=>cases h
 | .split c a b,v,H,h=>by
  cases c with
  | true=>exact Cs (t:=a) h
  | false=>exact Cs (t:=b) h
 | .fail,_,_,h=>by cases h
structure GT where
 tab:Nat->Option (IntKind × List Int)
 gi:Nat->Bool
structure Cfg where
 P:Program
 G:GT
 X:Nat->Option (List PV->Tr)
 lend:Nat->Bool
 okf:Nat->Bool
 lf:Nat
 keep:Nat->Option (List Nat):=λ_=>none
 keepR:Nat->Option (List Nat):=λ_=>none
 xp:Nat->Bool:=λ_=>false
 keepE:Nat->Option (List Nat):=λ_=>none
 keepT:Option (List Nat):=none
 Y:Nat->Option (List PV->List Blk->Tr):=λ_=>none
 S:Nat->Option (List PV->List Blk->Option (Bool × List (List PV))):=λ_=>none
 nilT:Nat->Nat->Nat × Nat:=λ_ _=>(0,0)
 rowR:Nat->Option Nat:=λ_=>none
 farR:Nat->Option (List Nat × List Nat):=λ_=>none
 Z:Nat->Option (SV->List (List SV)->Bool × List (List SV)):=λ_=>none
 stab:Nat->Bool:=λ_=>false
def Cfg.ti(C:Cfg)(t:Nat):TI:=Do3 C.P t
def Cfg.sh(C:Cfg)(t:Nat):Sh:=PZ C.P t
def SV.gB:SV->Bool | .bool b=>b|_=>false
def SV.gI:SV->Int | .int _ n=>n|_=>0
def SV.gS:SV->List UInt8 | .str l=>l|_=>[]
def SV.gZ:SV->Bool | .sl z _ _ _=>z|_=>false
def SV.gT:SV->Bool | .sl _ t _ _=>t|_=>false
def SV.gE:SV->List (List SV) | .sl _ _ _ e=>e|_=>[]
def SV.has:CK->SV->Bool
 | .bool,.bool _=>true
 | .int k,.int k' _=>k=k'
 | .str,.str _=>true
 | .sl k,.sl z _ k' _=>decide (k=k')||z
 | .ptr,.nilp=>true
 | .ptr,.sp _ _ _=>true
 | .map,.nilm=>true
 | .fn,.nilf=>true
 | .fn,.fn _ _ _=>true
 | _,_=>false
def SV.as:CK->SV->PV
 | .bool,x=>.s (.bool x.gB)
 | .int k,x=>.s (.int k x.gI)
 | .str,x=>.s (.str x.gS)
 | .sl k,x=>.s (.sl x.gZ x.gT k x.gE)
 | _,x=>.s x
def PV.has:CK->PV->Bool
 | .bool,.s x=>x.has .bool
 | .int k,.s x=>x.has (.int k)
 | .str,.s x=>x.has .str
 | .sl k,.s x=>x.has (.sl k)
 | .sl _,.nsl=>true
 | .sl _,.fl _=>true
 | .sl _,.vw _ _ _=>true
 | .ptr,.s x=>x.has .ptr
 | .ptr,.ptr _ _ _=>true
 | .map,.s x=>x.has .map
 | .map,.it _=>true
 | .fn,.s x=>x.has .fn
 | .fn,.fnr _ _ _=>true
 | .fn,.yd=>true
 | _,_=>false
def PV.toS:PV->SV
 | .s x=>x
 | _=>.nilp
def PV.as:CK->PV->PV
 | .bool,v=>.s (.bool v.toS.gB)
 | .int k,v=>.s (.int k v.toS.gI)
 | .str,v=>.s (.str v.toS.gS)
 | .sl k,.s x=>x.as (.sl k)
 | _,v=>v
def PV.sv?:PV->Option SV
 | .s v=>some v
 | .nsl=>some (.sl true true 0 [])
 | _=>none
def PV.cells:PV->List PV
 | .agg l=>l
 | .bad=>[]
 | v=>[v]
def PV.one:PV->Bool
 | .bad=>false
 | .agg _=>false
 | .tup _=>false
 | _=>true
def Qh:List PV->Option (List SV)
 | []=>some []
 | v::r=>match v.sv?,Qh r with
  | some x,some y=>some (x::y)
  | _,_=>none
def need(c:Bool)(k:Option R):Option R:=cond c k none
def Gh(b:Bool)(k:Bool->Option R):Option R:=cond b (k true) (k false)
def Ru:Value->PV
 | .bool b=>.s (.bool b)
 | .int k n=>.s (.int k n)
 | .string s=>.s (.str s.data.toList)
 | .pointer none=>.s .nilp
 | .slice none 0 0=>.nsl
 | .map none=>.s .nilm
 | .nilFunc=>.s .nilf
 | _=>.bad
def HE:Value->PV
 | .agg b=>.agg (b.toList.map Ru)
 | .tuple a=>if a.size=0 then .tup [] else .bad
 | v=>Ru v
def opnd(C:Cfg)(sl:List PV):Operand->PV
 | .tmp t=>sl.getD t (.tup [])
 | .const v=>HE v
 | .global g=>match C.G.tab g with
  | some (k,a)=>.s (.sp [a.map (SV.int k)] 0 0)
  | none=>.bad
 | .func f=>.s (.fn (.func f) [] [])
def W5:CK->PV
 | .bool=>.s (.bool false)
 | .int k=>.s (.int k 0)
 | .str=>.s (.str [])
 | .sl _=>.nsl
 | .ptr=>.s .nilp
 | .map=>.s .nilm
 | .fn=>.s .nilf
def Pw(t:TI)(cells:List PV)(off:Nat):PV:=
 if t.agg then .agg (t.ks.zipIdx.map λ(c,j)=>(cells.getD (off+j) .bad).as c)
 else match t.ks with
  | [c]=>(cells.getD off .bad).as c
  | _=>.bad
def okP(t:TI)(cells:List PV)(off:Nat):Bool:=
 t.ok&&t.ks.zipIdx.all λ(c,j)=>(cells.getD (off+j) .bad).has c
def Ar6(t:TI)(cells:List SV)(off:Nat):PV:=
 if t.agg then .agg (t.ks.zipIdx.map λ(c,j)=>(cells.getD (off+j) .nilp).as c)
 else match t.ks with
  | [c]=>(cells.getD off .nilp).as c
  | _=>.bad
def okS(t:TI)(cells:List SV)(off:Nat):Bool:=
 t.ok&&decide (off+t.ks.length<=cells.length)&&t.ks.zipIdx.all λ(c,j)=>(cells.getD (off+j) .nilp).has c
def H7{a:Type}:List a->Nat->List a->List a
 | l,_,[]=>l
 | l,off,v::b=>H7 (l.set off v) (off+1) b
def I8(f:Nat->Nat × Nat):List PV->Nat->List Blk->List PV × List Blk
 | [],_,H=>([],H)
 | .nsl::r,j,H=>let(r',H'):=I8 f r (j+1) (H++[.arr true (f j).1 (f j).2 []]);(.fl H.length::r',H')
 | v::r,j,H=>let(r',H'):=I8 f r (j+1) H;(v::r',H')
def Gi(H:List Blk):PV->Option (List (List SV))
 | .nsl=>some []
 | .s (.sl _ _ _ a)=>some a
 | .fl b=>match H[b]? with|some (.arr _ _ _ a)=>some a|_=>none
 | .vw b i n=>match H[b]? with|some (.arr _ _ _ a)=>some ((a.drop i).take n)|_=>none
 | _=>none
def Em(H:List Blk):PV->Option Nat
 | .nsl=>some 0
 | .s (.sl _ _ _ a)=>some a.length
 | .s (.str l)=>some l.length
 | .fl b=>match H[b]? with|some (.arr _ _ _ a)=>some a.length|_=>none
 | .vw _ _ n=>some n
 | _=>none
def Bz5(H:List Blk):PV->Option Bool
 | .nsl=>some true
 | .s (.sl z _ _ _)=>some z
 | .fl b=>match H[b]? with|some (.arr v _ _ a)=>some (v&&a.isEmpty)|_=>none
 | .vw b _ _=>match H[b]? with|some (.arr v _ _ a)=>some (v&&a.isEmpty)|_=>none
 | _=>none
def F1(b:UInt8):List SV:=[.int .u8 b.toNat]
def Nx(a:List SV):UInt8:=ad0 (a.getD 0 .nilp).gI.toNat
def Qg:List SV->Bool|[.int .u8 n]=>decide (0<=n)&&decide (n<256)|_=>false
def Gm(n:Nat)(H:List Blk):PV->Bool
 | .nsl=>true
 | .s (.str _)=>decide (n=1)
 | .s (.sl z _ d _)=>decide (d=n)||z
 | .fl b=>match H[b]? with|some (.arr v _ c a)=>decide (c=n)||(v&&a.isEmpty)|_=>false
 | .vw b _ _=>match H[b]? with|some (.arr v _ c a)=>decide (c=n)||(v&&a.isEmpty)|_=>false
 | _=>false
def Rs(H:List Blk):PV->Option (List (List SV))
 | .s (.str l)=>some (l.map F1)
 | v=>Gi H v
mutual
def PV.kill(b:Nat):PV->PV
 | .fl c=>if c=b then .bad else .fl c
 | .vw c i n=>if c=b then .bad else .vw c i n
 | .ptr c i o=>if c=b then .bad else .ptr c i o
 | .it c=>if c=b then .bad else .it c
 | .fnr f x y=>.fnr f (Z0 b x) (Z0 b y)
 | .agg l=>.agg (Z0 b l)
 | .tup l=>.tup (Z0 b l)
 | v=>v
def Z0(b:Nat):List PV->List PV
 | []=>[]
 | v::r=>v.kill b::Z0 b r
end
def PJ(f:PV->PV)(l:List (List UInt8 × PV)):List (List UInt8 × PV):=l.map λe=>(e.1,f e.2)
def Blk.kill(b:Nat):Blk->Blk
 | .box cells=>.box (Z0 b cells)
 | .mp ents=>.mp (PJ (PV.kill b) ents)
 | x=>x
def ltI(a b:Int):Bool:=match a,b with
 | .ofNat m,.ofNat n=>ac9 (m+1) n
 | .ofNat _,.negSucc _=>false
 | .negSucc _,.ofNat _=>true
 | .negSucc m,.negSucc n=>ac9 (n+1) m
def Cd(a b:Int):ltI a b=decide (a<b):=by
 rw[Bool.eq_iff_iff];cases a with
 | ofNat m=>
  cases b with
  | ofNat n=>simp only[ltI,Nat.ble_eq,af,ab7];omega
  | negSucc n=>
   have:=af2 n;simp only[ltI,ab3,af,ab7,false_iff];omega
 | negSucc m=>
  cases b with
  | ofNat n=>
   have:=af2 m;simp only[ltI,af,ab7,true_iff];omega
  | negSucc n=>simp only[ltI,Nat.ble_eq,af,Int.negSucc_eq];omega
def Dw5(op:BinOp)(k:IntKind)(a b:Int):Option PV:=
 match op with
 | .add=>some (.s (.int k (k.wrap (a+b))))
 | .sub=>some (.s (.int k (k.wrap (a-b))))
 | .mul=>some (.s (.int k (k.wrap (a*b))))
 | .and=>some (.s (.int k (k.wrap (y8 k.bits a &&& y8 k.bits b).toNat)))
 | .or=>some (.s (.int k (k.wrap (y8 k.bits a ||| y8 k.bits b).toNat)))
 | .xor=>some (.s (.int k (k.wrap (y8 k.bits a ^^^ y8 k.bits b).toNat)))
 | .andNot=>some (.s (.int k (k.wrap (y8 k.bits a &&& ~~~(y8 k.bits b)).toNat)))
 | .eql=>some (.s (.bool (a==b)))
 | .neq=>some (.s (.bool (a !=b)))
 | .lss=>some (.s (.bool (ltI a b)))
 | .leq=>some (.s (.bool (!ltI b a)))
 | .gtr=>some (.s (.bool (ltI b a)))
 | .geq=>some (.s (.bool (!ltI a b)))
 | _=>none
def bytesLess:List UInt8->List UInt8->Bool
 | _,[]=>false
 | [],_::_=>true
 | a::x,b::y=>decide (a<b)||(a==b&&bytesLess x y)
def Dw6(op:BinOp)(a b:List UInt8):Option PV:=
 match op with
 | .add=>some (.s (.str (a++b)))
 | .eql=>some (.s (.bool (a==b)))
 | .neq=>some (.s (.bool (!(a==b))))
 | .lss=>some (.s (.bool (bytesLess a b)))
 | .leq=>some (.s (.bool (bytesLess a b||a==b)))
 | .gtr=>some (.s (.bool (!(bytesLess a b||a==b))))
 | .geq=>some (.s (.bool (!bytesLess a b)))
 | _=>none
def LJ:PV->PV->Option Bool
 | .s (.bool a),.s (.bool b)=>some (a==b)
 | .s (.int k a),.s (.int c b)=>if k=c then some (a==b) else none
 | .s (.str a),.s (.str b)=>some (a==b)
 | _,_=>none
def P7:List PV->List PV->Option Bool
 | [],[]=>some true
 | a::x,b::y=>match LJ a b,P7 x y with
  | some p,some q=>some (p&&q)
  | _,_=>none
 | _,_=>none
def Df7(H:List Blk)(b:Nat):Option Bool:=match H[b]? with
 | some (.mp _)=>some false
 | some (.ms _ _)=>some false
 | _=>none
def Dc7(H:List Blk)(sh:Sh)(x y:PV):Option Bool:=
 match sh,x,y with
 | .ptr _,.s .nilp,.s .nilp=>some true
 | .ptr _,.s .nilp,.s (.sp _ _ _)=>some false
 | .ptr _,.s (.sp _ _ _),.s .nilp=>some false
 | .ptr _,.s .nilp,.ptr _ _ _=>some false
 | .ptr _,.ptr _ _ _,.s .nilp=>some false
 | .fn,.s .nilf,.s .nilf=>some true
 | .fn,.s .nilf,.s (.fn _ _ _)=>some false
 | .fn,.s (.fn _ _ _),.s .nilf=>some false
 | .fn,.s .nilf,.fnr _ _ _=>some false
 | .fn,.fnr _ _ _,.s .nilf=>some false
 | .bool,.s (.bool a),.s (.bool b)=>some (a==b)
 | .map _ _,.s .nilm,.s .nilm=>some true
 | .map _ _,.s .nilm,.it b=>Df7 H b
 | .map _ _,.it b,.s .nilm=>Df7 H b
 | .slice _,x,.nsl=>Bz5 H x
 | .slice _,.nsl,y=>Bz5 H y
 | _,_,_=>none
def T6(a:Nat):Nat->List SV->List (List SV)
 | 0,_=>[]
 | n+1,l=>l.take a::T6 a n (l.drop a)
section ops
variable {R : Type} (C : Cfg)
def B42(op:BinOp)(t:Nat)(x y:PV)(H:List Blk)(k:PV->Option R):Option R:=
 match op,x,y with
 | .shl,.s (.int c a),.s (.int _ b)=>need (decide (0<=b)) (k (.s (.int c (c.wrap (a*2 ^ min b.toNat c.bits)))))
 | .shr,.s (.int c a),.s (.int _ b)=>need (decide (0<=b)) (k (.s (.int c (a.fdiv (2 ^ min b.toNat c.bits)))))
 | .quo,.s (.int c a),.s (.int d b)=>need (decide (c=d)&&b !=0) (k (.s (.int c (c.wrap (a.tdiv b)))))
 | .rem,.s (.int c a),.s (.int d b)=>need (decide (c=d)&&b !=0) (k (.s (.int c (a.tmod b))))
 | op,.s (.int c a),.s (.int d b)=>if c=d then match Dw5 op c a b with|some v=>k v|none=>none else none
 | .add,.s (.str a),.s (.str b)=>need (decide (a.length+b.length<4611686018427387904)) (k (.s (.str (a++b))))
 | op,.s (.str a),.s (.str b)=>match Dw6 op a b with|some v=>k v|none=>none
 | .eql,.agg x,.agg y=>if Dc6 C.P t&&(C.ti t).agg&&okP (C.ti t) x 0&&okP (C.ti t) y 0&&decide (x.length=(C.ti t).ks.length) then match P7 x y with|some b=>k (.s (.bool b))|none=>none else none
 | .neq,.agg x,.agg y=>if Dc6 C.P t&&(C.ti t).agg&&okP (C.ti t) x 0&&okP (C.ti t) y 0&&decide (x.length=(C.ti t).ks.length) then match P7 x y with|some b=>k (.s (.bool (!b)))|none=>none else none
 | .eql,x,y=>match Dc7 H (C.sh t) x y with|some b=>k (.s (.bool b))|none=>none
 | .neq,x,y=>match Dc7 H (C.sh t) x y with|some b=>k (.s (.bool (!b)))|none=>none
 | _,_,_=>none
def unK(op:UnOp)(x:PV)(k:PV->Option R):Option R:=
 match op,x with
 | .not,.s (.bool b)=>k (.s (.bool (!b)))
 | .neg,.s (.int a n)=>k (.s (.int a (a.wrap (0-n))))
 | _,_=>none
def Uf(t:TI)(a:PV)(H:List Blk)(k:PV->Option R):Option R:=
 match a with
 | .ptr b i off=>match H[b]? with
  | some (.box cells)=>if i=0 then need (okP t cells off) (k (Pw t cells off)) else none
  | some (.arr _ _ d c)=>
   if off+t.ks.length<=d then need (decide (i<c.length)&&okS t (c.getD i []) off) (k (Ar6 t (c.getD i []) off))
   else if i=0/\off=0 then need (decide (t.ks.length=c.length*d)&&okS t c.flatten 0) (k (Ar6 t c.flatten 0)) else none
  | _=>none
 | .s (.sp c i off)=>need (decide (i<c.length)&&okS t (c.getD i []) off) (k (Ar6 t (c.getD i []) off))
 | _=>none
def Wt(f:Nat->Nat × Nat)(t:TI)(a v:PV)(H:List Blk)(k:List Blk->Option R):Option R:=
 if t.ok=true/\v.cells.length=t.ks.length/\v.cells.all PV.one=true then
  match a with
  | .ptr b i off=>match H[b]? with
   | some (.box cells)=>if i=0 then let(g,H'):=I8 f v.cells 0 H;need (decide (off+t.ks.length<=cells.length)) (k (H'.set b (.box (H7 cells off g)))) else none
   | some (.arr z e d c)=>match Qh v.cells with
    | some g=>
     if off+t.ks.length<=d then need (decide (i<c.length)) (k (H.set b (.arr z e d (c.set i (H7 (c.getD i []) off g)))))
     else if i=0/\off=0 then need (decide (t.ks.length=c.length*d)) (k (H.set b (.arr z e d (T6 d c.length g)))) else none
    | none=>none
   | _=>none
  | _=>none
 else none
def Ek(t:Nat)(x i:PV)(H:List Blk)(k:PV->Option R):Option R:=
 match i with
 | .s (.int _ n)=>match x with
  | .fl b=>match H[b]?,C.sh t with
   | some (.arr _ _ c a),.slice e=>if (C.ti e).ok/\(C.ti e).ks.length=c then need (decide (0<=n)&&decide (n<a.length)) (k (.ptr b n.toNat 0)) else none
   | _,_=>none
  | .vw b o m=>match H[b]?,C.sh t with
   | some (.arr _ _ c _),.slice e=>if (C.ti e).ok/\(C.ti e).ks.length=c then need (decide (0<=n)&&decide (n<m)) (k (.ptr b (o+n.toNat) 0)) else none
   | _,_=>none
  | .s (.sl _ _ d a)=>match C.sh t with
   | .slice e=>if (C.ti e).ok/\(C.ti e).ks.length=d then need (decide (0<=n)&&decide (n<a.length)) (k (.s (.sp a n.toNat 0))) else none
   | _=>none
  | .ptr b j off=>match C.sh t with
   | .array m e=>match H[b]? with
    | some (.arr _ _ c _)=>if j=0/\off=0/\(C.ti e).ok/\c=(C.ti e).ks.length then need (decide (0<=n)&&decide (n<m)) (k (.ptr b n.toNat 0)) else none
    | some (.box _)=>if (C.ti e).ok then need (decide (0<=n)&&decide (n<m)) (k (.ptr b j (off+n.toNat*(C.ti e).ks.length))) else none
    | _=>none
   | _=>none
  | .s (.sp a j off)=>match C.sh t with
   | .array m e=>if (C.ti e).ok then need (decide (0<=n)&&decide (n<m)) (k (.s (.sp a j (off+n.toNat*(C.ti e).ks.length)))) else none
   | _=>none
  | _=>none
 | _=>none
def DH(t:Nat)(x i:PV)(k:PV->Option R):Option R:=
 match i with
 | .s (.int _ n)=>match x with
  | .s (.str l)=>match C.sh t with
   | .str=>need (decide (0<=n)&&decide (n<l.length)) (k (.s (.int .u8 (l.getD n.toNat 0).toNat)))
   | _=>none
  | .agg cells=>match C.sh t with
   | .array m e=>need (decide (0<=n)&&decide (n<m)&&okP (C.ti e) cells (n.toNat*(C.ti e).ks.length)) (k (Pw (C.ti e) cells (n.toNat*(C.ti e).ks.length)))
   | _=>none
  | _=>none
 | _=>none
def CE(len:Nat):Option PV->Option Int
 | none=>some len
 | some (.s (.int _ n))=>some n
 | _=>none
def Fy(t:Nat)(H:List Blk)(x:PV):Bool:=
 match x with
 | .s (.str _)=>match C.sh t with | .str=>true|_=>false
 | .nsl=>match C.sh t with | .slice e=>(C.ti e).ok|_=>false
 | .s (.sl _ _ c _)=>match C.sh t with | .slice e=>(C.ti e).ok&&decide ((C.ti e).ks.length=c)|_=>false
 | .fl b=>match H[b]?,C.sh t with|some (.arr _ _ a _),.slice e=>(C.ti e).ok&&decide ((C.ti e).ks.length=a)|_,_=>false
 | .vw b _ _=>match H[b]?,C.sh t with|some (.arr _ _ a _),.slice e=>(C.ti e).ok&&decide ((C.ti e).ks.length=a)|_,_=>false
 | _=>false
def EE(t:Nat)(x:PV)(e d f:Option PV)(H:List Blk)(k:PV->Option R):Option R:=
 if Fy C t H x then match Em H x with
 | none=>none
 | some len=>match CE 0 e,CE len d with
  | some l,some h=>match f with
   | none=>need (decide (0<=l)&&decide (l<=h)&&decide (h<=len)) (match x with
    | .s (.str s)=>k (.s (.str ((s.take h.toNat).drop l.toNat)))
    | .s (.sl z _ c a)=>k (.s (.sl z z c ((a.take h.toNat).drop l.toNat)))
    | .nsl=>k .nsl
    | .fl b=>k (.vw b l.toNat (h.toNat-l.toNat))
    | .vw b i _=>k (.vw b (i+l.toNat) (h.toNat-l.toNat))
    | _=>none)
   | some (.s (.int _ m))=>need (decide (0<=l)&&decide (l<=h)&&decide (h=m)&&decide (m<=len)) (match x with
    | .s (.sl z _ c a)=>k (.s (.sl z true c ((a.take h.toNat).drop l.toNat)))
    | .nsl=>k .nsl
    | _=>none)
   | _=>none
  | _,_=>none else none
def Io(b n:Nat)(c a d:Option PV)(k:PV->Option R):Option R:=
 match CE 0 c,CE n a,d with
 | some l,some h,none=>need (decide (0<=l)&&decide (l<=h)&&decide (h<=n)) (k (.vw b l.toNat (h.toNat-l.toNat)))
 | _,_,_=>none
def Ci1(t:Nat):Nat:=if (C.ti t).ok then (C.ti t).ks.length else 0
def Ge(e:Nat):Bool:=match C.sh e with | .array _ _=>true|_=>false
def G0(n:Nat):Bool:=decide (n<=68719476736)
def Gp(t:Nat)(sl:List PV)(s x:PV)(H:List Blk)(k:PV->List PV->List Blk->Option R):Option R:=
 match C.sh t with
 | .slice e=>if (C.ti e).ok&&Gm (C.ti e).ks.length H x then match Rs H x with
  | some a=>match s with
   | .nsl=>need (G0 a.length) (k (.fl H.length) sl (H++[.arr true e (C.ti e).ks.length a]))
   | .s (.sl z true f c)=>if f=(C.ti e).ks.length then need ((z||!a.isEmpty)&&G0 (c.length+a.length)) (k (.fl H.length) sl (H++[.arr z e (C.ti e).ks.length (c++a)])) else none
   | .fl b=>match H[b]? with
    | some (.arr v d g c)=>if !Ge C d&&(decide (d=e/\g=(C.ti e).ks.length)||(v&&c.isEmpty)) then need (G0 (c.length+a.length)) (k (.fl b) (Z0 b sl) ((H.map (Blk.kill b)).set b (.arr v e (C.ti e).ks.length (c++a)))) else none
    | _=>none
   | _=>none
  | none=>none else none
 | _=>none
def RG(t:Nat)(d x:PV)(H:List Blk)(k:PV->List Blk->Option R):Option R:=
 match C.sh t with
 | .slice e=>if (C.ti e).ok&&Gm (C.ti e).ks.length H x&&Gm (C.ti e).ks.length H d then match Rs H x with
  | some a=>match d with
   | .fl b=>match H[b]? with
    | some (.arr v f g c)=>k (.s (.int .i64 ((min a.length c.length:Nat):Int))) (H.set b (.arr v f g (a.take c.length++c.drop (min a.length c.length))))
    | _=>none
   | .vw b i n=>match H[b]? with
    | some (.arr v f g c)=>need (decide (i+n<=c.length)) (k (.s (.int .i64 ((min a.length n:Nat):Int))) (H.set b (.arr v f g (c.take i++(a.take n++c.drop (i+min a.length n))))))
    | _=>none
   | .nsl=>k (.s (.int .i64 0)) H
   | _=>none
  | none=>none else none
 | _=>none
def RF(c b:Nat)(x:PV)(H:List Blk)(k:PV->Option R):Option R:=
 match C.sh c,C.sh b,x with
 | .int _,.int d,.s (.int _ n)=>k (.s (.int d (d.wrap n)))
 | .str,.str,.s (.str l)=>k (.s (.str l))
 | .int _,.str,.s (.int _ n)=>k (.s (.str (aj7 n).data.toList))
 | .slice e,.str,v=>match C.sh e,Gi H v with
  | .int .u8,some a=>need (a.all Qg) (k (.s (.str (a.map Nx))))
  | _,_=>none
 | _,_,_=>none
def CH(b a:Nat)(x:PV)(k:PV->Option R):Option R:=
 match C.sh b,C.sh a,x with
 | .str,.slice e,.s (.str l)=>match C.sh e with
  | .int .u8=>need (G0 l.length) (k (.s (.sl false false 1 (l.map F1))))
  | _=>none
 | _,_,_=>none
def Ca0(x:PV)(t:Nat)(H:List Blk)(k:PV->Option R):Option R:=
 match C.sh t,x with
 | .array n _,_=>k (.s (.int .i64 n))
 | .str,.s (.str l)=>k (.s (.int .i64 l.length))
 | .slice _,.s (.str _)=>none
 | .slice _,x=>match Em H x with
  | some n=>k (.s (.int .i64 n))
  | none=>none
 | .map _ _,.s .nilm=>k (.s (.int .i64 0))
 | .map _ _,.it b=>match H[b]? with
  | some (.mp a)=>k (.s (.int .i64 a.length))
  | some (.ms _ a)=>k (.s (.int .i64 a.length))
  | _=>none
 | _,_=>none
section maps
variable {L : Type}
def Ae:List (List UInt8 × L)->List UInt8->Bool
 | [],_=>false
 | e::r,q=>cond (q==e.1) true (Ae r q)
def Z1(d:L):List (List UInt8 × L)->List UInt8->L
 | [],_=>d
 | e::r,q=>cond (q==e.1) e.2 (Z1 d r q)
def Dd:List (List UInt8 × L)->List UInt8->L->List (List UInt8 × L)
 | [],q,v=>[(q,v)]
 | e::r,q,v=>cond (q==e.1) ((e.1,v)::r) (e::Dd r q v)
def Kh:List (List UInt8 × L)->List UInt8->List (List UInt8 × L)
 | [],_=>[]
 | e::r,q=>cond (q==e.1) r (e::Kh r q)
end maps
def PV.isAgg:PV->Bool
 | .agg _=>true
 | _=>false
def okV(t:TI)(v:PV):Bool:=(v.isAgg==t.agg)&&(ah4 v.cells.length t.ks.length&&okP t v.cells 0)
def asV(t:TI)(v:PV):PV:=Pw t v.cells 0
def GH(t:TI):PV:=if t.agg then .agg (t.ks.map W5) else match t.ks with
 | [c]=>W5 c
 | _=>.bad
def CK.scal:CK->Bool
 | .bool=>true
 | .int _=>true
 | .str=>true
 | _=>false
def svV(a:Bool)(l:List SV):PV:=cond a (.agg (l.map .s)) (match l with
 | [x]=>.s x
 | _=>.bad)
def msP(a:Bool)(l:List (List UInt8 × List SV)):List (List UInt8 × PV):=l.map λe=>(e.1,svV a e.2)
def Dn6(h:Bool)(x:SV):CK->PV
 | .bool=>.s (.bool (h&&x.gB))
 | .int k=>.s (.int k (cond h x.gI 0))
 | .str=>.s (.str (cond h x.gS []))
 | _=>.bad
def Af3(t:TI)(h:Bool)(l:List SV):PV:=
 if t.agg then .agg (t.ks.zipIdx.map λ(c,j)=>Dn6 h (l.getD j .nilp) c)
 else match t.ks with
  | [c]=>Dn6 h (l.getD 0 .nilp) c
  | _=>.bad
def Di5(t:TI)(l:List SV):Bool:=ah4 l.length t.ks.length&&t.ks.zipIdx.all λ(c,j)=>(l.getD j .nilp).has c
def plC(a:Bool)(v:PV):Option (List SV):=match a,v with
 | true,.agg l=>Qh l
 | false,.s x=>some [x]
 | _,_=>none
def FK:Bool->PV->Bool->PV
 | true,v,b=>.tup [v,.s (.bool b)]
 | false,v,_=>v
def Ai8(t:Nat):Bool:=match (C.P.info? t).map TypeInfo.zero with
 | some (some (.agg _))=>(C.ti t).agg
 | some (some _)=>!(C.ti t).agg
 | _=>false
def Mi(t:Nat)(H:List Blk)(k:PV->List Blk->Option R):Option R:=
 match C.sh t with
 | .map a e=>match C.sh a with
  | .str=>k (.it H.length) (H++[cond ((C.ti e).ks.all CK.scal) (.ms (C.ti e).agg []) (.mp [])])
  | _=>none
 | _=>none
def Tb(t:Nat)(x i:PV)(ok:Bool)(H:List Blk)(k:PV->Option R):Option R:=
 match C.sh t,i with
 | .map d e,.s (.str q)=>match C.sh d with
  | .str=>if (C.ti e).ok&&Ai8 C e then match x with
   | .s .nilm=>k (FK ok (GH (C.ti e)) false)
   | .it b=>match H[b]? with
    | some (.ms a c)=>if (C.ti e).ks.all CK.scal&&(a==(C.ti e).agg) then need (!(Ae c q)||Di5 (C.ti e) (Z1 [] c q)) (k (FK ok (Af3 (C.ti e) (Ae c q) (Z1 [] c q)) (Ae c q))) else none
    | some (.mp c)=>Gh (Ae c q) λh=>cond h (need (okV (C.ti e) (Z1 .bad c q)) (k (FK ok (asV (C.ti e) (Z1 .bad c q)) true))) (k (FK ok (GH (C.ti e)) false))
    | _=>none
   | _=>none else none
  | _=>none
 | _,_=>none
def Te(t:Nat)(m x v:PV)(H:List Blk)(k:List Blk->Option R):Option R:=
 match C.sh t,m,x with
 | .map d _,.it b,.s (.str q)=>match C.sh d,H[b]? with
  | .str,some (.ms a c)=>match plC a v with
   | some l=>k (H.set b (.ms a (Dd c q l)))
   | none=>none
  | .str,some (.mp c)=>k (H.set b (.mp (Dd c q v)))
  | _,_=>none
 | _,_,_=>none
def Td(t:Nat)(m x:PV)(H:List Blk)(k:List Blk->Option R):Option R:=
 match C.sh t,x with
 | .map d _,.s (.str q)=>match C.sh d,m with
  | .str,.s .nilm=>k H
  | .str,.it b=>match H[b]? with
   | some (.ms a c)=>k (H.set b (.ms a (Kh c q)))
   | some (.mp c)=>k (H.set b (.mp (Kh c q)))
   | _=>none
  | _,_=>none
 | _,_=>none
def Dt(place:Nat->Option (Nat × Nat)):List PV->List (Nat × PV)->Option (List PV)
 | cells,[]=>some cells
 | cells,(i,v)::r=>match place i with
  | some (off,size)=>if v.cells.length=size&&decide (0<size)&&decide (off+v.cells.length<=cells.length) then Dt place (H7 cells off v.cells) r else none
  | none=>none
def CG(t:Nat)(parts:List (Nat × PV))(k:PV->Option R):Option R:=
 let zero:=(C.ti t).ks.map W5
 if (C.ti t).ok then match C.sh t with
 | .struct a=>match Dt (λi=>(a[i]?).map λp=>(p.1,Ci1 C p.2)) zero parts with
  | some cells=>k (.agg cells)
  | none=>none
 | .array _ e=>match Dt (λi=>some (i*Ci1 C e,Ci1 C e)) zero parts with
  | some cells=>k (.agg cells)
  | none=>none
 | _=>none else none
def Cl(t len:Nat)(parts:List (Nat × PV))(H:List Blk)(k:PV->List Blk->Option R):Option R:=
 match C.sh t with
 | .slice e=>
  let a:=(C.ti e).ks.length
  if (C.ti e).ok&&decide (len*a<=16777216)&&decide (len<=16777216) then match Dt (λi=>some (i*a,a)) ((j9 len ((C.ti e).ks.map W5)).flatten) parts with
  | some cells=>match Qh cells with
   | some b=>k (.fl H.length) (H++[.arr false e a (T6 a len b)])
   | none=>none
  | none=>none else none
 | _=>none
def Ea(t len:Nat)(parts:List (Nat × PV))(k:PV->Option R):Option R:=
 match C.sh t with
 | .slice e=>
  let a:=(C.ti e).ks.length
  if (C.ti e).ok&&decide (len*a<=16777216)&&decide (len<=16777216) then match Dt (λi=>some (i*a,a)) ((j9 len ((C.ti e).ks.map W5)).flatten) parts with
  | some cells=>match Qh cells with
   | some b=>need (ac9 1 len) (k (.s (.sl false true a (T6 a len b))))
   | none=>none
  | none=>none else none
 | _=>none
def Eo(t:Nat)(l c:PV)(H:List Blk)(k:PV->List Blk->Option R):Option R:=
 match C.sh t,l,c with
 | .slice e,.s (.int _ n),.s (.int _ m)=>
  if (C.ti e).ok then match Qh ((C.ti e).ks.map W5) with
  | some z=>need (decide (0<=n)&&decide (n<=m)&&G0 m.toNat) (k (.fl H.length) (H++[.arr false e (C.ti e).ks.length (j9 n.toNat z)]))
  | none=>none else none
 | _,_,_=>none
def Of(e:Bool):List PV->(PV->Option R)->Option R
 | [.s (.int d a),.s (.int c b)],k=>if d=c then k (.s (.int d (cond e (if b > a then b else a) (if b<a then b else a)))) else none
 | _,_=>none
def Eh(t:Nat)(x:PV)(f:Nat)(k:PV->Option R):Option R:=
 match C.sh t with
 | .struct c=>match c[f]?,x with
  | some (o,u),.ptr b i off=>if (C.ti u).ok then k (.ptr b i (off+o)) else none
  | some (o,u),.s (.sp a i off)=>if (C.ti u).ok then k (.s (.sp a i (off+o))) else none
  | _,_=>none
 | _=>none
def CZ(t:Nat)(x:PV)(f:Nat)(k:PV->Option R):Option R:=
 match C.sh t,x with
 | .struct a,.agg cells=>match a[f]? with
  | some (o,u)=>need (okP (C.ti u) cells o) (k (Pw (C.ti u) cells o))
  | none=>none
 | _,_=>none
end ops
structure St (σ:Type) where
 sl:List PV
 hp:List Blk
 s:σ
inductive Out where
 | normal
 | exit (id:Nat)
 | ret
 deriving DecidableEq,Inhabited
def Cf(a:Option Nat)(v:PV)(sl:List PV):List PV:=
 match a with
 | some d=>sl.set d v
 | none=>sl
mutual
def PV.nms:PV->List Nat
 | .fl b=>[b]
 | .vw b _ _=>[b]
 | .ptr b _ _=>[b]
 | .it b=>[b]
 | .fnr _ x y=>D1 x++D1 y
 | .agg l=>D1 l
 | .tup l=>D1 l
 | _=>[]
def D1:List PV->List Nat
 | []=>[]
 | v::r=>v.nms++D1 r
end
mutual
def PV.rn(f:Nat->Nat):PV->PV
 | .fl b=>.fl (f b)
 | .vw b i n=>.vw (f b) i n
 | .ptr b i o=>.ptr (f b) i o
 | .it b=>.it (f b)
 | .fnr g x y=>.fnr g (rnL f x) (rnL f y)
 | .agg l=>.agg (rnL f l)
 | .tup l=>.tup (rnL f l)
 | v=>v
def rnL(f:Nat->Nat):List PV->List PV
 | []=>[]
 | v::r=>v.rn f::rnL f r
end
def Blk.nms:Blk->List Nat
 | .box cells=>D1 cells
 | .mp ents=>D1 (ents.map ac4)
 | _=>[]
def Blk.rn(f:Nat->Nat):Blk->Blk
 | .box cells=>.box (rnL f cells)
 | .mp ents=>.mp (PJ (PV.rn f) ents)
 | b=>b
def Gb(l:List Nat)(b:Nat):List Nat:=if l.contains b then l else l++[b]
def Ae5(H:List Blk)(l:List Nat):List Nat:=l.foldl (λa b=>((H.getD b .dead).nms).foldl Gb a) l
def Dw(H:List Blk)(l:List Nat):List Nat:=Ae5 H (Ae5 H (Ae5 H (l.foldl Gb [])))
def Fl(H:List Blk)(a:List Nat):Bool:=a.all λb=>((H.getD b .dead).nms).all λc=>a.contains c
mutual
def PV.snap(H:List Blk):PV->PV
 | .nsl=>.s (.sl true true 0 [])
 | .fl b=>match H[b]? with|some (.arr v _ sz els)=>.s (.sl (v&&els.isEmpty) (v&&els.isEmpty) sz els)|_=>.bad
 | .vw b i n=>match H[b]? with|some (.arr v _ sz els)=>.s (.sl (v&&els.isEmpty) (v&&els.isEmpty) sz ((els.drop i).take n))|_=>.bad
 | .agg l=>.agg (N5 H l)
 | v=>v
def N5(H:List Blk):List PV->List PV
 | []=>[]
 | v::r=>v.snap H::N5 H r
end
mutual
def PV.rows:PV->Bool
 | .fl _=>true
 | .vw _ _ _=>true
 | .agg l=>Rx l
 | _=>false
def Rx:List PV->Bool
 | []=>false
 | v::r=>v.rows||Rx r
end
mutual
def PV.clean:PV->Bool
 | .s (.sl _ _ _ _)=>false
 | .s (.sp _ _ _)=>false
 | .s (.fn _ _ _)=>false
 | .s _=>true
 | .fnr _ x y=>Lb x&&Lb y
 | .agg l=>Lb l
 | .tup l=>Lb l
 | .yd=>false
 | _=>true
def Lb:List PV->Bool
 | []=>true
 | v::r=>v.clean&&Lb r
end
def SV.plain:SV->Bool
 | .sl _ _ _ _=>false
 | .sp _ _ _=>false
 | .fn _ _ _=>false
 | _=>true
def Blk.clean:Blk->Bool
 | .arr _ _ _ els=>els.all λel=>el.all SV.plain
 | .box cells=>Lb cells
 | .mp ents=>Lb (ents.map ac4)
 | .ms _ ents=>ents.all λe=>e.2.all SV.plain
 | _=>true
def PV.low(H:List Blk)(L:Nat):PV->PV
 | .fl b=>if b<L then .fl b else (PV.fl b).snap H
 | .vw b i n=>if b<L then .vw b i n else (PV.vw b i n).snap H
 | .s v=>.s v
 | .nsl=>.nsl
 | .yd=>.yd
 | .ptr b i o=>if b<L then .ptr b i o else .bad
 | .it b=>if b<L then .it b else .bad
 | v=>if v.nms.all (· < L) then v else .bad
def Ca2(L:Nat)(H:List Blk):Bool:=H.all λb=>b.nms.all (· < L)
def X4{b:Type}(L:Nat)(a:St b):St b:=
 if Ca2 L (a.hp.take L) then { sl:=a.sl.map (PV.low a.hp L),hp:=a.hp.take L,s:=a.s } else a
abbrev Yh(a:Type):=List PV->a->Option (Bool × a)
abbrev G4:=∀(a:Type),Yh a->Nat->List PV->List Blk->a->Option (PV × List Blk × a)
def Gw:List Nat->List PV->List PV
 | _,[]=>[]
 | [],_::l=>.bad::Gw [] l
 | 0::g,v::l=>v::Gw g l
 | (n+1)::g,_::l=>.bad::Gw (n::g) l
def Nz{b:Type}(ds:Option (List Nat))(a:St b):St b:=match ds with
 | some g=>{ sl:=Gw g a.sl,hp:=a.hp,s:=a.s }
 | none=>a
def Bp7:List Nat->Nat->Nat
 | [],m=>m
 | b::r,m=>Bp7 r (cond (ac9 m b) (b+1) m)
def Ci5:List Blk->Nat->Nat
 | [],m=>m
 | b::r,m=>Ci5 r (Bp7 b.nms m)
def C29{b:Type}(m:Nat)(a:St b):St b:=cond (ac9 (m+1) a.hp.length) (X4 m a) a
def D80{b:Type}(L:Nat)(a:St b):St b:=C29 (Ci5 a.hp (Bp7 (D1 a.sl) L)) a
def Yj{b:Type}(ds:Option (List Nat))(L:Nat)(a:St b):St b:=match ds with
 | some g=>D80 L { sl:=Gw g a.sl,hp:=a.hp,s:=a.s }
 | none=>a
def E0{c R:Type}(L:Nat)(ds:Option (List Nat))(a:St c->(Out->St c->Option R)->Option R):Nat->St c->(Out->St c->Option R)->Option R
 | 0,_,_=>none
 | n+1,st,k=>a st λo b=>match o with
  | .normal=>E0 L ds a n (Nz ds (X4 L b)) k
  | o=>k o (Nz ds b)
def Ap5:Code->Nat
 | .region id _ _=>id
 | .seq (.label _) b=>Ap5 b
 | .seq a _=>Ap5 a
 | .scope a=>Ap5 a
 | .block _ a=>Ap5 a
 | .loop a=>Ap5 a
 | _=>0
def I5(a:List Nat)(b:Nat):Nat:=a.idxOf b
def Nk(a:List Nat)(L:Nat)(i:Nat):Nat:=if i<a.length then a.getD i 0 else L+(i-a.length)
def W4:List Blk->List Nat->List Blk->List Blk
 | H,b::a,x::xs=>W4 (H.set b x) a xs
 | H,_,_=>H
section calls
variable {L R : Type} (C : Cfg)
def Fq:Blk->Bool
 | .arr _ e _ _=>Ge C e
 | _=>true
def M7(a:List Nat)(sl:List PV):List PV:=a.foldl (λsl b=>Z0 b sl) sl
def T2(a:List Nat)(H:List Blk):List Blk:=a.foldl (λH b=>H.map (Blk.kill b)) H
def Js(H:List Blk)(a:List Nat)(ret:PV)(b:List Blk):PV × List Blk:=
 (ret.rn (Nk a H.length),
  cond ((ret.rn (Nk a H.length)).nms.all (· < H.length)&&Ca2 H.length ((b.take a.length).map (Blk.rn (Nk a H.length))))
  (W4 H a ((b.take a.length).map (Blk.rn (Nk a H.length))))
  (W4 H a ((b.take a.length).map (Blk.rn (Nk a H.length)))++(b.drop a.length).map (Blk.rn (Nk a H.length))))
def C93(C:Cfg)(g:Nat)(args:List PV):Option ((SV->List (List SV)->Bool × List (List SV)) × Nat × SV):=match C.Z g,args with
 | some a,[.fl b,.s x]=>match x with
  | .nilp=>none
  | x=>some (a,b,x)
 | some a,[.fl b]=>some (a,b,.nilp)
 | _,_=>none
def Xo(j:G4)(n:Yh L)(g:Nat)(args:List PV)(a:St L)(k:PV->St L->Option R):Option R:=
 match C.X g with
 | some f=>
  if (D1 (N5 a.hp args)).isEmpty then Gk (cond (C.xp g) (Tl (f (N5 a.hp args))) (f (N5 a.hp args))) λret d=>
   need (!Rx args||(ret.clean&&d.all Blk.clean)) (k (ret.rn (a.hp.length + ·)) { sl:=a.sl,hp:=a.hp++d.map (Blk.rn (a.hp.length + ·)),s:=a.s })
  else none
 | none=>match C93 C g args with
 | some (f,b,x)=>match a.hp[b]? with
  | some (.arr v e m h)=>need (f x h).1 (k (.tup []) { sl:=a.sl,hp:=a.hp.set b (.arr v e m (f x h).2),s:=a.s })
  | _=>none
 | none=>
  if C.lend g||!Rx args then
   let i:=cond (C.lend g) args (N5 a.hp args);let c:=Dw a.hp (D1 i)
   if Fl a.hp c then
    match C.Y g with
    | some f=>Gk (f (rnL (I5 c) i) (c.map λb=>(a.hp.getD b .dead).rn (I5 c))) λret d=>k (Js (T2 (c.filter λb=>!Fq C (a.hp.getD b .dead)) a.hp) c ret d).1
      { sl:=M7 (c.filter λb=>!Fq C (a.hp.getD b .dead)) a.sl,hp:=(Js (T2 (c.filter λb=>!Fq C (a.hp.getD b .dead)) a.hp) c ret d).2,s:=a.s }
    | none=>match j L n g (rnL (I5 c) i) (c.map λb=>(a.hp.getD b .dead).rn (I5 c)) a.s with
     | some (ret,d,l)=>k (Js (T2 (c.filter λb=>!Fq C (a.hp.getD b .dead)) a.hp) c ret d).1
       { sl:=M7 (c.filter λb=>!Fq C (a.hp.getD b .dead)) a.sl,hp:=(Js (T2 (c.filter λb=>!Fq C (a.hp.getD b .dead)) a.hp) c ret d).2,s:=l }
     | none=>none
   else none
  else if (D1 (N5 a.hp args)).isEmpty then
   match j Unit (λ_ _=>none) g (N5 a.hp args) [] () with
   | some (ret,d,_)=>if ret.clean then need (d.all Blk.clean) (k (ret.rn (a.hp.length + ·)) { sl:=a.sl,hp:=a.hp++d.map (Blk.rn (a.hp.length + ·)),s:=a.s }) else none
   | none=>none
  else none
def Lm:List PV->Bool
 | []=>true
 | .s _::r=>Lm r
 | .agg l::r=>(Qh l).isSome&&Lm r
 | _::_=>false
def ydK(x:Option (Bool × L))(k:Bool->L->Option R):Option R:=match x with
 | some (b,a)=>k b a
 | none=>none
def ET(d:G4)(c:Yh L)(f:PV)(args:List PV)(a:St L)(k:PV->St L->Option R):Option R:=
 match f with
 | .s (.fn (.func g) first caps)=>Xo C d c g (first.map .s++args++caps.map .s) a k
 | .fnr (.func g) first caps=>Xo C d c g (first++args++caps) a k
 | .yd=>if Lm args then ydK (c args a.s) λb e=>k (.s (.bool b)) { sl:=a.sl,hp:=a.hp,s:=e } else none
 | _=>none
def Rv{b c:Type}(f:b->c):Option b->Option c
 | some a=>some (f a)
 | none=>none
def SH:Sh->Bool
 | .str=>true
 | .slice _=>true
 | _=>false
def Fj(b:Builtin)(e:List Nat)(args:List PV)(a:St L)(k:PV->St L->Option R):Option R:=
 match b,e,args with
 | .len,t::_,[x]=>Ca0 C x t a.hp λv=>k v a
 | .append,[t,u],[s,x]=>if SH (C.sh u) then Gp C t a.sl s x a.hp λv c H'=>k v { a with sl:=c,hp:=H' } else none
 | .copy,[t,_],[d,x]=>RG C t d x a.hp λv H'=>k v { a with hp:=H' }
 | .min,_,args=>Of false args λv=>k v a
 | .max,_,args=>Of true args λv=>k v a
 | .delete,t::_,[m,x]=>Td C t m x a.hp λH'=>k (.tup []) { a with hp:=H' }
 | _,_,_=>none
def GI(e:Nat)(cells:List PV)(H:List Blk)(k:PV->List Blk->Option R):Option R:=
 if (C.ti e).ok then match C.sh e with
 | .array n a=>match Qh cells with
  | some b=>if cells.length=n*(C.ti a).ks.length then k (.ptr H.length 0 0) (H++[.arr false e (C.ti a).ks.length (T6 (C.ti a).ks.length n b)]) else none
  | none=>none
 | _=>
  k (.ptr (I8 (C.nilT e) cells 0 H).2.length 0 0) ((I8 (C.nilT e) cells 0 H).2++[.box (I8 (C.nilT e) cells 0 H).1])
 else none
def Cw0(x:PV):Bool:=
 match x with
 | .ptr _ _ _=>true
 | .s (.sp _ _ _)=>true
 | .s (.fn (.func _) _ _)=>true
 | .fnr (.func _) _ _=>true
 | _=>false
def Cv5(f:Fn)(x y:List PV):PV:=
 match Qh x,Qh y with
 | some a,some b=>.s (.fn f a b)
 | _,_=>.fnr f x y
def nilT(t:Nat):Nat × Nat:=match C.sh t with
 | .slice e=>(e,(C.ti e).ks.length)
 | _=>(0,0)
def opK(D:G4)(I:Yh L)(o:Oper)(d:St L)(k:St L->Option R):Option R:=
 let ρ:=opnd C d.sl;let h (v:PV):Option R:=k { d with sl:=Cf o.dst v d.sl };let q (v:PV) (H:List Blk):Option R:=k { d with sl:=Cf o.dst v d.sl,hp:=H }
 match o.op with
 | .move x=>h (ρ x)
 | .assign x=>match ρ x with
  | .nsl=>q (.fl d.hp.length) (d.hp++[.arr true (nilT C o.type).1 (nilT C o.type).2 []])
  | v=>h v
 | .pick c a b=>match ρ c with
  | .s (.bool t)=>Gh t λt=>h (cond t (ρ a) (ρ b))
  | _=>none
 | .alloc e=>GI C e ((C.ti e).ks.map W5) d.hp q
 | .box e x=>if (ρ x).cells.length=(C.ti e).ks.length then GI C e (ρ x).cells d.hp q else none
 | .build t parts=>CG C t (parts.toList.map λ(i,x)=>(i,ρ x)) h
 | .buildSlice t len parts=>cond (C.stab t) (Ea C t len (parts.toList.map λ(i,x)=>(i,ρ x)) h) (Cl C t len (parts.toList.map λ(i,x)=>(i,ρ x)) d.hp q)
 | .load t a=>Uf (C.ti t) (ρ a) d.hp h
 | .store t a x=>Wt (C.nilT (1000000+t)) (C.ti t) (ρ a) (ρ x) d.hp λH=>q (.tup []) H
 | .nilCheck x=>if Cw0 (ρ x) then h (ρ x) else none
 | .binOp op t x y _=>B42 C op t (ρ x) (ρ y) d.hp h
 | .unOp op _ x=>unK op (ρ x) h
 | .convert u r x=>match C.sh r with
  | .slice _=>CH C u r (ρ x) h
  | _=>RF C u r (ρ x) d.hp h
 | .makeFunc (.func g) x y=>h (Cv5 (.func g) (x.toList.map ρ) (y.toList.map ρ))
 | .makeSlice t l c=>Eo C t (ρ l) (ρ c) d.hp q
 | .slice t x B z A=>match C.sh t,ρ x with
  | .array n e,.ptr b 0 0=>match d.hp[b]? with
   | some (.arr _ _ F w)=>if (C.ti e).ok/\(C.ti e).ks.length=F/\0<n/\n<=65536 then need (decide (w.length=n)) (Io b n (Rv ρ B) (Rv ρ z) (Rv ρ A) h) else none
   | _=>none
  | _,v=>if A.isSome=true->z.isSome=true then EE C t v (Rv ρ B) (Rv ρ z) (Rv ρ A) d.hp h else none
 | .fieldAddr t x f=>Eh C t (ρ x) f h
 | .field t x f=>CZ C t (ρ x) f h
 | .indexAddr t x i=>Ek C t (ρ x) (ρ i) d.hp h
 | .index t x i=>DH C t (ρ x) (ρ i) h
 | .range t x=>match ρ x with
  | .s (.str l)=>match C.sh t with
   | .str=>q (.it d.hp.length) (d.hp++[.iter l 0])
   | _=>none
  | _=>none
 | .next it true=>match ρ it with
  | .it b=>match d.hp[b]? with
   | some (.iter l p)=>Gh (decide (p<l.length)) λt=>
    cond t (let(c,wd):=ad1 ⟨l.toArray⟩ p
     q (.tup [.s (.bool true),.s (.int .i64 p),.s (.int .i32 c)]) (d.hp.set b (.iter l (p+wd)))) (h (.tup [.s (.bool false)]))
   | _=>none
  | _=>none
 | .makeMap t none=>Mi C t d.hp q
 | .lookup t x i ok=>Tb C t (ρ x) (ρ i) ok d.hp h
 | .mapUpdate t m x v=>Te C t (ρ m) (ρ x) (ρ v) d.hp λH=>q (.tup []) H
 | .extract t i=>match ρ t with
  | .tup G=>match G[i]? with
   | some v=>h v
   | none=>none
  | _=>none
 | .call c=>match c.callee with
  | .builtin b=>Fj C b c.argTypes.toList (c.args.toList.map ρ) d λv j=>k { j with sl:=Cf o.dst v j.sl }
  | .value f=>ET C D I (ρ f) (c.args.toList.map ρ) d λv j=>k { j with sl:=Cf o.dst v j.sl }
  | _=>none
 | _=>none
def Gg(e:G4)(f:Yh L)(all:Array Oper):List Oper->St L->(St L->Option R)->Option R
 | [],c,k=>k c
 | o::a,c,k=>match o.guard with
  | none=>opK C e f o c λd=>Gg e f all a d k
  | some (j,h)=>match ((all[j]?).bind (·.dst)) with
   | some g=>match c.sl.getD g (.tup []) with
    | .s (.bool b)=>Gh b λb=>
     if b==h then opK C e f o { c with sl:=c.sl.set g (.s (.bool b)) } λd=>Gg e f all a d k
     else Gg e f all a { c with sl:=Cf o.dst (.tup []) (c.sl.set g (.s (.bool b))) } k
    | .tup []=>Gg e f all a { c with sl:=Cf o.dst (.tup []) c.sl } k
    | _=>none
   | none=>none
def Mr:List PV->List Nat->List PV->List PV
 | sl,t::a,v::b=>Mr (sl.set t v) a b
 | sl,_,_=>sl
end calls
mutual
def PV.yf:PV->Bool
 | .yd=>false
 | .fnr _ x y=>yfL x&&yfL y
 | .agg l=>yfL l
 | .tup l=>yfL l
 | _=>true
def yfL:List PV->Bool
 | []=>true
 | v::r=>v.yf&&yfL r
end
def Blk.yf:Blk->Bool
 | .box cells=>yfL cells
 | .mp ents=>yfL (ents.map ac4)
 | _=>true
def CY(P:Program)(g:Nat):Bool:=match P.funcs[g]? with
 | some fn=>fn.body.isSome && !(fn.name == "runtime.NumGoroutine")
 | none=>false
def Tm:PV->Option (Nat × List PV × List PV)
 | .s (.fn (.func g) first caps)=>some (g,first.map .s,caps.map .s)
 | .fnr (.func g) first caps=>some (g,first,caps)
 | _=>none
def Et:Out->Option Out
 | .normal=>none
 | o=>some o
def Cr(C:Cfg):List Blk->Nat->List Nat
 | [],_=>[]
 | b::r,n=>cond (Fq C b) (Cr C r (n+1)) (n::Cr C r (n+1))
def P0(a:List Nat)(H:List Blk):List Blk:=W4 (T2 a H) a (j9 a.length .dead)
def Jw:Blk->Blk
 | .box cells=>.box (cells.map λ_=>.bad)
 | .mp a=>.mp (PJ (λ_=>.bad) a)
 | b=>b
def Al9(C:Cfg)(a:List Nat)(H d c:List Blk):List Blk:=W4 c a (a.map λb=>cond (Fq C (H.getD b .dead)) (Jw (d.getD (I5 a b) .dead)) .dead)
def ME:Blk->Bool | .box _=>true|_=>false
def Aa2:Blk->Bool | .box _=>true | .mp _=>true|_=>false
def Dy4(C:Cfg):Blk->Bool | .box _=>true | .arr _ e _ _=>Ge C e|_=>false
def Li{c:Type}(i:Array Tmp)(f:List PV)(d e:St c->(Out->St c->Option (Bool × (List Blk × Option Out × c)))->Option (Bool × (List Blk × Option Out × c))):Yh (List Blk × Option Out × c):=λa x=>match x with
 | (H,none,s)=>if a.length=i.size then
   d { sl:=Mr f i.toList a,hp:=H,s:=s } λo g=>match o with
    | .normal=>e g λh b=>some ((Et h).isNone,((X4 H.length b).hp,Et h,b.s))
    | _=>none
  else none
 | _=>none
def Zp{g R:Type}(C:Cfg)(j:G4)(f:Nat)(first d:List PV)(a:List Nat)(c:St g)(m:List PV->Yh (List Blk × Option Out × g))(k:Out->St g->Option R):Option R:=
 if Fl c.hp a&&yfL (first++d)&&(a.all λb=>(c.hp.getD b .dead).yf)&&CY C.P f then
  match j (List Blk × Option Out × g) (m (M7 (a++Cr C c.hp 0) c.sl)) f (rnL (I5 a) first++.yd::rnL (I5 a) d) (a.map λb=>(c.hp.getD b .dead).rn (I5 a)) (P0 a c.hp,none,c.s) with
  | some (_,i,(h,e,l))=>k (e.getD .normal) { sl:=M7 (a++Cr C c.hp 0) c.sl,hp:=Al9 C a c.hp i h,s:=l }
  | none=>none
 else none
def U4{e R:Type}(g:Array Tmp)(d:List PV)(b c:St e->(Out->St e->Option R)->Option R):List (List PV)->List Blk->e->(Option Out->List Blk->e->Option R)->Option R
 | [],H,s,k=>k none H s
 | x::xs,H,s,k=>if x.length=g.size then
   b { sl:=Mr d g.toList x,hp:=H,s:=s } λo h=>match o with
    | .normal=>c h λf a=>match f with
     | .normal=>U4 g d b c xs (X4 H.length a).hp a.s k
     | f=>k (some f) (X4 H.length a).hp a.s
    | _=>none
  else none
def rgK{c R:Type}(b:List PV)(d:List Blk->List Blk)(k:Out->St c->Option R):Option Out->List Blk->c->Option R:=λa H s=>k (a.getD .normal) { sl:=b,hp:=d H,s:=s }
def Bg3{g R:Type}(C:Cfg)(h:List PV->List Blk->Option (Bool × List (List PV)))(f:Nat)(first e:List PV)(a:List Nat)(d:St g)(i:List PV->List (List PV)->List Blk->g->(Option Out->List Blk->g->Option R)->Option R)(k:Out->St g->Option R):Option R:=
 if Fl d.hp a&&yfL (first++e)&&(a.all λb=>(d.hp.getD b .dead).yf)&&CY C.P f&&(a.all λb=>ME (d.hp.getD b .dead)) then match h (rnL (I5 a) first++.yd::rnL (I5 a) e) (a.map λb=>(d.hp.getD b .dead).rn (I5 a)) with
  | some (c,L)=>need c (i (M7 (a++Cr C d.hp 0) d.sl) L (P0 a d.hp) d.s (rgK (M7 (a++Cr C d.hp 0) d.sl) (Al9 C a d.hp ((a.map λb=>(d.hp.getD b .dead).rn (I5 a)).map Jw)) k))
  | none=>none
 else none
def Wn{a R:Type}(C:Cfg)(c:G4)(g:PV)(b:St a)(h:List PV->Yh (List Blk × Option Out × a))(e:List PV->List (List PV)->List Blk->a->(Option Out->List Blk->a->Option R)->Option R)(k:Out->St a->Option R):Option R:=match Tm g with
 | some (f,first,caps)=>match C.S f with
  | some d=>Bg3 C d f first caps (Dw b.hp (D1 (first++caps))) b e k
  | none=>Zp C c f first caps (Dw b.hp (D1 (first++caps))) b h k
 | none=>none
def M8(C:Cfg):Op->Bool
 | .move _=>true
 | .assign _=>true
 | .pick _ _ _=>true
 | .build _ _=>true
 | .load _ _=>true
 | .nilCheck _=>true
 | .binOp _ _ _ _ _=>true
 | .unOp _ _ _=>true
 | .convert _ a _=>match C.sh a with | .slice _=>false|_=>true
 | .makeFunc (.func _) _ _=>true
 | .slice _ _ _ _ _=>true
 | .fieldAddr _ _ _=>true
 | .field _ _ _=>true
 | .indexAddr _ _ _=>true
 | .index _ _ _=>true
 | .lookup _ _ _ _=>true
 | .extract _ _=>true
 | .call c=>match c.callee with
  | .builtin .len=>true
  | .builtin .min=>true
  | .builtin .max=>true
  | _=>false
 | _=>false
def Mo(C:Cfg):Op->Bool
 | .call c=>match c.callee with
  | .value (.func g)=>C.xp g&&(C.X g).isSome&&CY C.P g
  | _=>false
 | _=>false
def Zo(C:Cfg)(op:Op):Bool:=M8 C op||Mo C op
def Ao8(C:Cfg):Op->Bool
 | .buildSlice _ _ _=>true
 | .alloc _=>true
 | .makeMap _ none=>true
 | .call c=>match c.callee with
  | .value (.func g)=>(C.X g).isSome&&CY C.P g
  | _=>false
 | _=>false
def Cb(C:Cfg)(op:Op):Nat:=match op with
 | .move _=>0
 | .assign _=>0
 | .extract _ _=>0
 | .slice _ _ _ _ _=>0
 | .binOp _ _ _ _ _=>0
 | .fieldAddr _ _ _=>0
 | .indexAddr _ _ _=>0
 | .build _ _=>0
 | op=>cond (Zo C op) 1 (cond (Ao8 C op) 2 3)
def D04(C:Cfg):List Oper->List (Nat × Bool)->Nat->List (Nat × Bool)
 | [],a,_=>a
 | o::r,a,n=>cond (ac9 2 (Cb C o.op)) (D04 C r (a++[(n,true)]) (n+1))
   (D04 C r (a++[(o.after.toList.foldl (λm e=>cond (Region.binds .any e) (match a[e.on]? with|some (s,b)=>Nat.max m (cond b (s+1) s)|none=>m) m) 0,false)]) n)
def Ad6(s:Nat)(b:Bool):List (Nat × Bool)->Nat->List Nat
 | [],_=>[]
 | (t,c)::r,i=>cond (ah4 t s&&(c==b)) (i::Ad6 s b r (i+1)) (Ad6 s b r (i+1))
def C22(l:List (Nat × Bool)):Nat->Nat->List Nat
 | 0,_=>[]
 | f+1,s=>Ad6 s false l 0++(Ad6 s true l 0++C22 l f (s+1))
def Zk(C:Cfg)(a:List Oper):List Nat:=
 let l:=D04 C a [] 0
 C22 l ((l.filter (·.2)).length+1) 0
def K7(C:Cfg)(a:Array Oper)(i:Nat):Nat:=match a[i]? with
 | some o=>Cb C o.op
 | none=>1
inductive Trn where
 | row (v:SV)
 | var (e:Nat)
def Bk8(C:Cfg)(o:Oper)(sl:List PV)(k:Trn->Option R):Option R:=match o.guard,o.op with
 | none,.alloc e=>match C.sh e with
  | .array _ _=>none
  | _=>need (C.ti e).ok (k (.var e))
 | none,.buildSlice t len parts=>match C.sh t with
  | .slice e=>if (C.ti e).ok&&decide (len*(C.ti e).ks.length<=16777216)&&decide (len<=16777216) then match Dt (λi=>some (i*(C.ti e).ks.length,(C.ti e).ks.length)) ((j9 len ((C.ti e).ks.map W5)).flatten) (parts.toList.map λ(i,x)=>(i,opnd C sl x)) with
   | some cells=>match Qh cells with
    | some a=>need (a.all SV.plain) (k (.row (.sl false true (C.ti e).ks.length (T6 (C.ti e).ks.length len a))))
    | none=>none
   | none=>none else none
  | _=>none
 | _,_=>none
def Um{b R:Type}(C:Cfg)(d:Option Nat)(t:Trn)(a:St b)(k:St b->Option R):Option R:=match t with
 | .row v=>k { a with sl:=Cf d (.s v) a.sl }
 | .var e=>GI C e ((C.ti e).ks.map W5) a.hp λv H=>k { a with hp:=H,sl:=Cf d v a.sl }
def ltK(C:Cfg)(c:Array Oper):List Nat->List Nat × List Nat
 | []=>([],[])
 | i::r=>cond (ac9 (K7 C c i) 1) (let(a,b):=ltK C c r;(i::a,b)) ([],i::r)
def D08(i:Nat):List Nat->List Nat × List Nat
 | []=>([],[])
 | j::r=>cond (ah4 j i) ([],r) (let(a,b):=D08 i r;(j::a,b))
def Lj(C:Cfg)(a:Array Oper):List Nat:=(ltK C a (Zk C a.toList)).1
def Jl(C:Cfg)(a:Array Oper)(i:Nat):List Nat:=(D08 i (ltK C a (Zk C a.toList)).2).1
def Ff(C:Cfg)(a:Array Oper)(i:Nat):List Nat:=(D08 i (ltK C a (Zk C a.toList)).2).2
def okN:List Nat->Nat->Bool
 | [],_=>false
 | a::r,n=>ah4 n a||okN r n
def FD(C:Cfg)(d:List Nat × List Nat)(p:Bool)(a H:List Blk)(sl:List PV)(o:Oper):Bool:=match o.op with
 | .load _ x=>match opnd C sl x with
  | .ptr b _ _=>o.guard.isNone&&(Dy4 C (a.getD b .dead)&&(Dy4 C (H.getD b .dead)&&!(okN d.2 b)))
  | .s (.sp _ _ _)=>o.guard.isNone&&p
  | _=>false
 | .store _ x _=>match opnd C sl x with
  | .ptr b 0 _=>o.guard.isNone&&(ME (H.getD b .dead)&&(okN d.2 b||ac9 a.length b))
  | _=>false
 | .call c=>match c.callee with
  | .builtin .append=>o.guard.isNone&&(ac3 a.length).all λb=>okN d.2 b||Aa2 (H.getD b .dead)
  | _=>false
 | _=>false
def Zj{e R:Type}(C:Cfg)(g:G4)(h:Yh e)(all:Array Oper)(c:List Nat × List Nat)(f:List Blk):Bool->List Nat->St e->(St e->Option R)->Option R
 | _,[],b,k=>k b
 | p,i::a,b,k=>need (match all[i]? with|some o=>!(okN c.1 i)||FD C c p f b.hp b.sl o|none=>false) (Gg C g h all ([i].filterMap (all[·]?)) b λd=>Zj C g h all c f (p&&ac9 (K7 C all i) 1) a d k)
def Mm{a R:Type}(C:Cfg)(b:G4)(d:Yh a)(all:Array Oper)(g:Option (List Nat × List Nat))(e:List Blk)(p:Bool)(l:List Nat)(c:St a)(k:St a->Option R):Option R:=match g with
 | none=>Gg C b d all (l.filterMap (all[·]?)) c k
 | some f=>Zj C b d all f e p l c k
def Py{e R:Type}(C:Cfg)(g:G4)(j:Yh e)(all:Array Oper)(h:Option (List Nat × List Nat))(f:List Blk)(d:Option Nat):List Nat->St e->(St e->Option R)->Option R
 | [],c,k=>k c
 | i::a,c,k=>Mm C g j all h f false [i] c λb=>Py C g j all h f d a { b with sl:=Cf d .bad b.sl } k
def Bh1{j R:Type}(C:Cfg)(e:G4)(f:Yh j)(id:Nat)(a:Array Oper)(d:Bool)(b:St j)(k:St j->Option R):Option R:=match C.rowR id with
 | none=>match d with
  | true=>Mm C e f a (C.farR id) b.hp true (Zk C a.toList) b k
  | false=>Gg C e f a a.toList b k
 | some i=>match d,a[i]? with
  | true,some o=>Mm C e f a (C.farR id) b.hp true (Lj C a) b λc=>Bk8 C o c.sl λt=>
    Py C e f a (C.farR id) b.hp o.dst (Jl C a i) { c with sl:=Cf o.dst .bad c.sl } λg=>Um C o.dst t g λh=>
     Mm C e f a (C.farR id) b.hp false (Ff C a i) h k
  | _,_=>none
def A9(C:Cfg)(h:G4){p:Type}(i:Yh p):Code->{R:Type}->St p->(Out->St p->Option R)->Option R
 | .skip,_,e,k=>k .normal e
 | .label _,_,e,k=>k .normal e
 | .region id n d,_,e,k=>Bh1 C h i id n d e λf=>k .normal (Yj (C.keepR id) e.hp.length f)
 | .seq a b,_,e,k=>A9 C h i a e λo f=>match o with
  | .normal=>A9 C h i b f k
  | o=>k o f
 | .cond c a b,_,e,k=>match opnd C e.sl c with
  | .s (.bool t)=>Gh t λt=>cond t (A9 C h i a e k) (A9 C h i b e k)
  | _=>none
 | .block id a,_,e,k=>A9 C h i a e λo f=>match o with
  | .exit j=>if j=id then k .normal f else k (.exit j) f
  | o=>k o f
 | .loop a,_,e,k=>E0 e.hp.length (C.keep (Ap5 a)) (λe k=>A9 C h i a e k) C.lf (Nz (C.keep (Ap5 a)) e) k
 | .scope a,_,e,k=>A9 C h i a e k
 | .exit id,_,e,k=>k (.exit id) (Nz (C.keepE id) e)
 | .ret,_,e,k=>k .ret (Nz C.keepT e)
 | .rangeFunc g r q l,_,e,k=>Wn C h (opnd C e.sl g) e (λm=>Li r m (λe k=>A9 C h i q e k) (λe k=>A9 C h i l e k)) (λm=>U4 r m (λe k=>A9 C h i q e k) (λe k=>A9 C h i l e k)) k
 | _,_,_,_=>none
def GM(C:Cfg)(sl:List PV)(H:List Blk):List ResultVar->(List PV->Option R)->Option R
 | [],k=>k []
 | .tmp t::r,k=>GM C sl H r λb=>k (sl.getD t (.tup [])::b)
 | .cell a t::r,k=>Uf (C.ti t) (sl.getD a (.tup [])) H λv=>GM C sl H r λb=>k (v::b)
def Df:List PV->PV
 | [v]=>v
 | a=>.tup a
def evC(C:Cfg):Nat->G4
 | 0=>λ_ _ _ _ _ _=>none
 | d+1=>λ_ e f args H s=>
  match C.okf f,C.P.funcs[f]? with
  | true,some fn=>match fn.body with
   | some c=>A9 C (evC C d) e c { sl:=args++j9 (fn.ntmps-args.length) (.tup []),hp:=H,s:=s } λo a=>match o with
    | .normal=>GM C a.sl a.hp fn.results.toList λb=>some (Df b,a.hp,a.s)
    | .ret=>GM C a.sl a.hp fn.results.toList λb=>some (Df b,a.hp,a.s)
    | _=>none
   | none=>none
  | _,_=>none
structure Ctx where
 St:Nat->Prop
 nm:Nat->Option Nat
 yv:Value
 yv1:yv.oneCell'=true
inductive Shp where
 | arr (v:Bool) (e sz n:Nat)
 | box
 | iter
 | mp
 | dead
def Blk.shp:Blk->Shp
 | .arr v e sz els=>.arr v e sz els.length
 | .box _=>.box
 | .iter _ _=>.iter
 | .mp _=>.mp
 | .ms _ _=>.mp
 | .dead=>.dead
def A3(H:List Blk)(b:Nat):Option Shp:=(H[b]?).map Blk.shp
inductive VS (St:Nat->Prop) (w:World):SV->Value->Prop
 | bool (b:Bool):VS St w (.bool b) (.bool b)
 | int (k:IntKind) (n:Int):VS St w (.int k n) (.int k n)
 | str (s:ByteArray):VS St w (.str s.data.toList) (.string s)
 | nilp:VS St w .nilp (.pointer none)
 | nilm:VS St w .nilm (.map none)
 | nilf:VS St w .nilf .nilFunc
 | nil (t:Bool) (k:Nat):VS St w (.sl true t k []) (.slice none 0 0)
 | emp (t:Bool) (k:Nat) (a:Addr) (cap:Nat) (ht:t=true->cap=0) (hm:cap<=maxLen):VS St w (.sl false t k []) (.slice (some a) 0 cap)
 | sl (t:Bool) (els:List (List SV)) (g off n cap sz:Nat) (Vs:Nat->Nat->Value) (hn:n=els.length) (hcap:n<=cap) (hm:cap<=maxLen) (ht:t=true->cap=n) (hg:St g)
   (hl:∀i (h:i<els.length),(els[i]).length=sz)
   (hc:∀i (h:i<els.length) j (h':j<(els[i]).length),w.cell? ⟨g,off+i*sz+j,none⟩=some (Vs i j))
   (hv:∀i (h:i<els.length) j (h':j<(els[i]).length),VS St w (els[i][j]) (Vs i j)) :
   VS St w (.sl false t sz els) (.slice (some ⟨g,off,none⟩) n cap)
 | sp (els:List (List SV)) (i o:Nat) (g off sz:Nat) (Vs:Nat->Nat->Value) (hg:St g)
   (hl:∀i (h:i<els.length),(els[i]).length=sz)
   (hc:∀i (h:i<els.length) j (h':j<(els[i]).length),w.cell? ⟨g,off+i*sz+j,none⟩=some (Vs i j))
   (hv:∀i (h:i<els.length) j (h':j<(els[i]).length),VS St w (els[i][j]) (Vs i j)) :
   VS St w (.sp els i o) (.pointer (some ⟨g,off+i*sz+o,none⟩))
 | fn (f:Fn) (x y:List SV) (A B:Array Value) (As Bs:Nat->Value) (hf:∀l,f≠.yield l) (hA:A.size=x.length) (hB:B.size=y.length)
   (ha:∀j,j<x.length->A[j]? = some (As j)) (hb:∀j,j<y.length->B[j]? = some (Bs j))
   (hx:∀j (h:j<x.length),VS St w (x[j]) (As j)) (hy:∀j (h:j<y.length),VS St w (y[j]) (Bs j)) :
   VS St w (.fn f x y) (.func f A B)
def VS.mono{St St':Nat->Prop}{w w':World}(hs:∀g,St g->w'.heap[g]? = w.heap[g]?)(hsub:∀g,St g->St' g){s:SV}{V:Value}(h:VS St w s V):VS St' w' s V:=by
 have hcell:∀g o,St g->w'.cell? ⟨g,o,none⟩=w.cell? ⟨g,o,none⟩:=λg o hg=>by simp[ab8,hs g hg]
 induction h with
 | bool b=>exact .bool b
 | int k n=>exact .int k n
 | str s=>exact .str s
 | nilp=>exact .nilp
 | nilm=>exact .nilm
 | nilf=>exact .nilf
 | nil t k=>exact .nil t k
 | emp t k a cap ht hm=>exact .emp t k a cap ht hm
 | sl t els g off n cap sz Vs hn hcap hm ht hg hl hc hv ih=>
  exact .sl t els g off n cap sz Vs hn hcap hm ht (hsub g hg) hl (λi h j h'=>by rw[hcell g _ hg];exact hc i h j h') ih
 | sp els i o g off sz Vs hg hl hc hv ih=>
  exact .sp els i o g off sz Vs (hsub g hg) hl (λi h j h'=>by rw[hcell g _ hg];exact hc i h j h') ih
 | fn f x y A B As Bs hf hA hB ha hb hx hy ihx ihy=>exact .fn f x y A B As Bs hf hA hB ha hb ihx ihy
inductive VP (Γ:Ctx) (sh:Nat->Option Shp) (w:World):PV->Value->Prop
 | s (v:SV) (V:Value) (h:VS Γ.St w v V):VP Γ sh w (.s v) V
 | nsl:VP Γ sh w .nsl (.slice none 0 0)
 | flv (b e sz:Nat) (h:sh b=some (.arr true e sz 0)):VP Γ sh w (.fl b) (.slice none 0 0)
 | fl (b g:Nat) (v:Bool) (e sz n cap:Nat) (h:sh b=some (.arr v e sz n)) (hv:v=true->n≠0) (hg:Γ.nm b=some g) (hcap:n<=cap) (hm:cap<=maxLen)
   (hs:w.shape? g=some (e,cap*sz)):VP Γ sh w (.fl b) (.slice (some ⟨g,0,none⟩) n cap)
 | vwv (b e sz i:Nat) (h:sh b=some (.arr true e sz 0)):VP Γ sh w (.vw b i 0) (.slice none 0 0)
 | vw (b i n g:Nat) (a:Addr) (cap:Nat) (v:Bool) (e sz m:Nat) (h:sh b=some (.arr v e sz m)) (hv:v=true->m≠0) (hg:Γ.nm b=some g)
   (ha:n≠0->a=⟨g,i*sz,none⟩) (hi:i+n<=m) (hcap:n<=cap) (hm:cap<=maxLen):VP Γ sh w (.vw b i n) (.slice (some a) n cap)
 | ptrA (b i off g:Nat) (v:Bool) (e sz n:Nat) (h:sh b=some (.arr v e sz n)) (hg:Γ.nm b=some g):VP Γ sh w (.ptr b i off) (.pointer (some ⟨g,i*sz+off,none⟩))
 | ptrB (b off g:Nat) (h:sh b=some .box) (hg:Γ.nm b=some g):VP Γ sh w (.ptr b 0 off) (.pointer (some ⟨g,off,none⟩))
 | fnr (f:Fn) (x y:List PV) (A B:Array Value) (As Bs:Nat->Value) (hf:∀l,f≠.yield l) (hA:A.size=x.length) (hB:B.size=y.length)
   (ha:∀j,j<x.length->A[j]? = some (As j)) (hb:∀j,j<y.length->B[j]? = some (Bs j))
   (hx:∀j (h:j<x.length),VP Γ sh w (x[j]) (As j)) (hy:∀j (h:j<y.length),VP Γ sh w (y[j]) (Bs j)) :
   VP Γ sh w (.fnr f x y) (.func f A B)
 | it (b g:Nat) (h:sh b=some .iter) (hg:Γ.nm b=some g):VP Γ sh w (.it b) (.pointer (some ⟨g,0,none⟩))
 | mpv (b g:Nat) (h:sh b=some .mp) (hg:Γ.nm b=some g):VP Γ sh w (.it b) (.map (some g))
 | yd:VP Γ sh w .yd Γ.yv
 | agg (l:List PV) (A:Array Value) (As:Nat->Value) (hA:A.size=l.length) (ha:∀j,j<l.length->A[j]? = some (As j)) (hl:∀j (h:j<l.length),VP Γ sh w (l[j]) (As j)) :
   VP Γ sh w (.agg l) (.agg A)
 | tup (l:List PV) (A:Array Value) (As:Nat->Value) (hA:A.size=l.length) (ha:∀j,j<l.length->A[j]? = some (As j)) (hl:∀j (h:j<l.length),VP Γ sh w (l[j]) (As j)) :
   VP Γ sh w (.tup l) (.tuple A)
 | bad (V:Value):VP Γ sh w .bad V
def C8{l:List PV}{b:Nat}:b∈D1 l↔∃j,∃h:j<l.length,b∈(l[j]).nms:=by
 induction l with
 | nil=>simp[D1]
 | cons v r a=>
  simp only[D1,o7,a];constructor
  ·rintro(h|⟨j,hj,h⟩)
   ·exact⟨0,by simp,by simpa using h⟩
   ·exact⟨j+1,by simpa using hj,by simpa using h⟩
  grind
structure Am (Γ:Ctx) (sh:Nat->Option Shp) (w:World) (Γ':Ctx) (sh':Nat->Option Shp) (w':World) (ok:Nat->Prop):Prop where
 st:∀g,Γ.St g->w'.heap[g]? = w.heap[g]?
 sub:∀g,Γ.St g->Γ'.St g
 nm:∀b,ok b->Γ'.nm b=Γ.nm b
 shp:∀b,ok b->sh' b=sh b
 hs:∀b g,ok b->Γ.nm b=some g->w'.shape? g=w.shape? g
 yv:Γ'.yv=Γ.yv
def VP.mono{Γ Γ':Ctx}{sh sh':Nat->Option Shp}{w w':World}{ok:Nat->Prop}(M:Am Γ sh w Γ' sh' w' ok){v:PV}{V:Value}(h:VP Γ sh w v V) :
  (∀b∈v.nms,ok b)->VP Γ' sh' w' v V:=by
 induction h with
 | s v V h=>intro _;exact .s v V (h.mono M.st M.sub)
 | nsl=>intro _;exact .nsl
 | flv b e sz h=>intro hok;exact .flv b e sz (by rw[M.shp b (hok b (by simp[PV.nms]))];exact h)
 | fl b g v e sz n cap h hv hg hcap hm hs=>
  intro hok;have o:=hok b (by simp[PV.nms]);exact .fl b g v e sz n cap (by rw[M.shp b o];exact h) hv (by rw[M.nm b o];exact hg) hcap hm (by rw[M.hs b g o hg];exact hs)
 | vwv b e sz i h=>intro hok;exact .vwv b e sz i (by rw[M.shp b (hok b (by simp[PV.nms]))];exact h)
 | vw b i n g a cap v e sz m h hv hg ha hi hcap hm=>
  intro hok;have o:=hok b (by simp[PV.nms]);exact .vw b i n g a cap v e sz m (by rw[M.shp b o];exact h) hv (by rw[M.nm b o];exact hg) ha hi hcap hm
 | ptrA b i off g v e sz n h hg=>
  intro hok;have o:=hok b (by simp[PV.nms]);exact .ptrA b i off g v e sz n (by rw[M.shp b o];exact h) (by rw[M.nm b o];exact hg)
 | ptrB b off g h hg=>
  intro hok;have o:=hok b (by simp[PV.nms]);exact .ptrB b off g (by rw[M.shp b o];exact h) (by rw[M.nm b o];exact hg)
 | fnr f x y A B As Bs hf hA hB ha hb hx hy ihx ihy=>
  intro hok;exact .fnr f x y A B As Bs hf hA hB ha hb
   (λj h=>ihx j h λb hb=>hok b (by simp only[PV.nms,o7];exact .inl (C8.2 ⟨j,h,hb⟩)))
   (λj h=>ihy j h λb hb=>hok b (by simp only[PV.nms,o7];exact .inr (C8.2 ⟨j,h,hb⟩)))
 | it b g h hg=>
  intro hok;have o:=hok b (by simp[PV.nms]);exact .it b g (by rw[M.shp b o];exact h) (by rw[M.nm b o];exact hg)
 | mpv b g h hg=>
  intro hok;have o:=hok b (by simp[PV.nms]);exact .mpv b g (by rw[M.shp b o];exact h) (by rw[M.nm b o];exact hg)
 | yd=>intro _;rw[<-M.yv];exact .yd
 | agg l A As hA ha hl ih=>intro hok;exact .agg l A As hA ha λj h=>ih j h λb hb=>hok b (by simp only[PV.nms];exact C8.2 ⟨j,h,hb⟩)
 | tup l A As hA ha hl ih=>intro hok;exact .tup l A As hA ha λj h=>ih j h λb hb=>hok b (by simp only[PV.nms];exact C8.2 ⟨j,h,hb⟩)
 | bad V=>intro _;exact .bad V
def Dc(b:Nat)(l:List PV):Z0 b l=l.map (PV.kill b):=by
 induction l with
 | nil=>rfl
 | cons v r a=>simp[Z0,a]
def VP.kill{Γ:Ctx}{sh:Nat->Option Shp}{w:World}(c:Nat){v:PV}{V:Value}(h:VP Γ sh w v V):VP Γ sh w (v.kill c) V:=by
 induction h with
 | s v V h=>exact .s v V h
 | nsl=>exact .nsl
 | flv b e sz h=>unfold PV.kill;split;exact .bad _;exact .flv b e sz h
 | fl b g v e sz n cap h hv hg hcap hm hs=>unfold PV.kill;split;exact .bad _;exact .fl b g v e sz n cap h hv hg hcap hm hs
 | vwv b e sz i h=>unfold PV.kill;split;exact .bad _;exact .vwv b e sz i h
 | vw b i n g a cap v e sz m h hv hg ha hi hcap hm=>unfold PV.kill;split;exact .bad _;exact .vw b i n g a cap v e sz m h hv hg ha hi hcap hm
 | ptrA b i off g v e sz n h hg=>unfold PV.kill;split;exact .bad _;exact .ptrA b i off g v e sz n h hg
 | ptrB b off g h hg=>unfold PV.kill;split;exact .bad _;exact .ptrB b off g h hg
 | fnr f x y A B As Bs hf hA hB ha hb hx hy ihx ihy=>
  simp only[PV.kill,Dc];exact .fnr f _ _ A B As Bs hf (by simpa using hA) (by simpa using hB) (λj h=>ha j (by simpa using h)) (λj h=>hb j (by simpa using h))
   (λj h=>by simpa using ihx j (by simpa using h)) (λj h=>by simpa using ihy j (by simpa using h))
 | it b g h hg=>unfold PV.kill;split;exact .bad _;exact .it b g h hg
 | mpv b g h hg=>unfold PV.kill;split;exact .bad _;exact .mpv b g h hg
 | yd=>exact .yd
 | agg l A As hA ha hl ih=>
  simp only[PV.kill,Dc];exact .agg _ A As (by simpa using hA) (λj h=>ha j (by simpa using h)) (λj h=>by simpa using ih j (by simpa using h))
 | tup l A As hA ha hl ih=>
  simp only[PV.kill,Dc];exact .tup _ A As (by simpa using hA) (λj h=>ha j (by simpa using h)) (λj h=>by simpa using ih j (by simpa using h))
 | bad V=>exact .bad V
mutual
def PV.not_mem_kill(c:Nat):∀v:PV,c∉(v.kill c).nms
 | .s _=>by simp[PV.kill,PV.nms]
 | .nsl=>by simp[PV.kill,PV.nms]
 | .fl b=>by unfold PV.kill;split<;>simp_all [PV.nms,eq_comm]
 | .vw b _ _=>by unfold PV.kill;split<;>simp_all [PV.nms,eq_comm]
 | .ptr b _ _=>by unfold PV.kill;split<;>simp_all [PV.nms,eq_comm]
 | .fnr _ x y=>by simp only[PV.kill,PV.nms,o7,not_or];exact⟨T9 c x,T9 c y⟩
 | .it b=>by unfold PV.kill;split<;>simp_all [PV.nms,eq_comm]
 | .yd=>by simp[PV.kill,PV.nms]
 | .agg l=>by simp only[PV.kill,PV.nms];exact T9 c l
 | .tup l=>by simp only[PV.kill,PV.nms];exact T9 c l
 | .bad=>by simp[PV.kill,PV.nms]
def T9(c:Nat):∀l:List PV,c∉D1 (Z0 c l)
 | []=>by simp[Z0,D1]
 | v::r=>by simp only[Z0,D1,o7,not_or];exact⟨PV.not_mem_kill c v,T9 c r⟩
end
mutual
def PV.kill_nms(c:Nat):∀(v:PV) b,b∈(v.kill c).nms->b∈v.nms
 | .s _,b=>by simp[PV.kill,PV.nms]
 | .nsl,b=>by simp[PV.kill,PV.nms]
 | .fl a,b=>by unfold PV.kill;split<;>simp_all [PV.nms]
 | .vw a _ _,b=>by unfold PV.kill;split<;>simp_all [PV.nms]
 | .ptr a _ _,b=>by unfold PV.kill;split<;>simp_all [PV.nms]
 | .fnr _ x y,b=>by
  simp only[PV.kill,PV.nms,o7];rintro(h|h)
  ·exact .inl (Cq c x b h)
  ·exact .inr (Cq c y b h)
 | .it a,b=>by unfold PV.kill;split<;>simp_all [PV.nms]
 | .yd,b=>by simp[PV.kill,PV.nms]
 | .agg l,b=>by simp only[PV.kill,PV.nms];exact Cq c l b
 | .tup l,b=>by simp only[PV.kill,PV.nms];exact Cq c l b
 | .bad,b=>by simp[PV.kill,PV.nms]
def Cq(c:Nat):∀(l:List PV) b,b∈D1 (Z0 c l)->b∈D1 l
 | [],b=>by simp[Z0,D1]
 | v::r,b=>by
  simp only[Z0,D1,o7];rintro(h|h)
  ·exact .inl (PV.kill_nms c v b h)
  ·exact .inr (Cq c r b h)
end
def MR(a:Ctx)(sh:Nat->Option Shp)(w:World):List (List UInt8 × PV)->List MapEntry->Prop
 | [],[]=>True
 | e::r,E::q=>((∃s:ByteArray,E.key = .string s/\s.data.toList=e.1)/\VP a sh w e.2 E.val)/\MR a sh w r q
 | _,_=>False
def MR.map{Γ Γ':Ctx}{sh sh':Nat->Option Shp}{w w':World}{f:PV->PV}:∀{l:List (List UInt8 × PV)} {es:List MapEntry},MR Γ sh w l es->(∀v∈l.map ac4,∀V,VP Γ sh w v V->VP Γ' sh' w' (f v) V)->MR Γ' sh' w' (PJ f l) es
 | [],[],_,_=>trivial
 | e::r,E::q,h,hf=>⟨⟨h.1.1,hf _ (by simp) _ h.1.2⟩,h.2.map λv hv V=>hf v (by simp only[List.map_cons,af7];exact .inr hv) V⟩
 | [],_::_,h,_=>h.elim
 | _::_,[],h,_=>h.elim
def MR.len{Γ:Ctx}{sh:Nat->Option Shp}{w:World}:∀{l:List (List UInt8 × PV)} {es:List MapEntry},MR Γ sh w l es->es.length=l.length
 | [],[],_=>rfl
 | e::r,E::q,h=>by rw[ad5,ad5,h.2.len]
 | [],_::_,h=>h.elim
 | _::_,[],h=>h.elim
def MR.imp{Γ Γ':Ctx}{sh sh':Nat->Option Shp}{w w':World}{l:List (List UInt8 × PV)}{es:List MapEntry}(h:MR Γ sh w l es)(hf:∀v∈l.map ac4,∀V,VP Γ sh w v V->VP Γ' sh' w' v V):MR Γ' sh' w' l es:=by have:=h.map (f:=id) hf;simpa[PJ] using this
def Di2(l:List SV):D1 (l.map PV.s)=[]:=by induction l with
 | nil=>rfl
 | cons a l b=>simp[D1,PV.nms,b]
def Ag8(a:Bool)(l:List SV):(svV a l).nms=[]:=by
 cases a with
 | true=>simp only[svV,aa,PV.nms,Di2]
 | false=>simp only[svV,ab];split<;>rfl
def HC{a:Bool}{b:List (List UInt8 × List SV)}{v:PV}(h:v∈(msP a b).map ac4):∃e∈b,v=svV a e.2:=by simp only[msP,ae1,ae2,af1] at h;obtain⟨e,c,rfl⟩:=h;exact⟨e,c,rfl⟩
def Di0{a:Bool}{b:List (List UInt8 × List SV)}{v:PV}(h:v∈(msP a b).map ac4):v.nms=[]:=by obtain⟨e,_,rfl⟩:=HC h;exact Ag8 a _
def MR.vals{Γ:Ctx}{sh:Nat->Option Shp}{w:World}:∀{l:List (List UInt8 × PV)} {es:List MapEntry},MR Γ sh w l es->∀v∈l.map ac4,∀{p:Prop},(∀V,VP Γ sh w v V->p)->p
 | e::r,E::q,h,v,hv,p,hf=>by
  rcases af7.1 hv with rfl|hv
  ·exact hf _ h.1.2
  ·exact h.2.vals v hv hf
 | [],_,_,v,hv,_,_=>by simp at hv
 | _::_,[],h,_,_,_,_=>h.elim
def DP{l:List PV}{v:PV}(h:v∈l):∀c∈v.nms,c∈D1 l:=λc a=>by
 obtain⟨j,b,rfl⟩:=af4 h;exact C8.2 ⟨j,b,a⟩
def BR(Γ:Ctx)(sh:Nat->Option Shp)(w:World)(b:Nat):Blk->Prop
 | .arr v e k c=>(v=true/\c=[])\/(¬(v=true/\c=[])/\∃g cur,Γ.nm b=some g/\w.heap[g]? = some (.cells cur e (0,0))/\c.length*k<=cur.size/\
   (∀i (h:i<c.length),(c[i]).length=k)/\∀i (h:i<c.length) j (m:j<(c[i]).length),∃V,cur[i*k+j]? = some V/\VS Γ.St w (c[i][j]) V)
 | .box cells=>∃g cur e,Γ.nm b=some g/\w.heap[g]? = some (.cells cur e (0,0))/\cur.size=cells.length/\∀j (h:j<cells.length),∃V,cur[j]? = some V/\VP Γ sh w (cells[j]) V
 | .iter s p=>∃g l,Γ.nm b=some g/\w.heap[g]? = some (.stringIter l p)/\l.data.toList=s
 | .mp d=>∃g f clock,Γ.nm b=some g/\w.heap[g]? = some (.map f clock)/\MR Γ sh w d f.toList
 | .ms a d=>∃g f clock,Γ.nm b=some g/\w.heap[g]? = some (.map f clock)/\MR Γ sh w (msP a d) f.toList
 | .dead=>True
structure HR (Γ:Ctx) (H:List Blk) (w:World):Prop where
 inj:∀b b' g,Γ.nm b=some g->Γ.nm b'=some g->b=b'
 lt:∀b g,Γ.nm b=some g->b<H.length/\g<w.heap.size/\¬ Γ.St g
 stlt:∀g,Γ.St g->g<w.heap.size
 nms:∀b (h:b<H.length),∀c∈(H[b]).nms,c<H.length
 blk:∀b (h:b<H.length),BR Γ (A3 H) w b (H[b])
structure SR (Γ:Ctx) (H:List Blk) (w:World) (sl:List PV) (tmps:Array Value):Prop where
 size:tmps.size=sl.length
 nms:∀c∈D1 sl,c<H.length
 slot:∀i (h:i<sl.length),∃V,tmps[i]? = some V/\VP Γ (A3 H) w (sl[i]) V
def BR.mono{Γ Γ':Ctx}{sh sh':Nat->Option Shp}{w w':World}{ok:Nat->Prop}(M:Am Γ sh w Γ' sh' w' ok){b:Nat}{x:Blk}
  (h:BR Γ sh w b x) (hnm:Γ'.nm b=Γ.nm b) (hheap:∀g,Γ.nm b=some g->w'.heap[g]? = w.heap[g]?) (hok:∀c∈x.nms,ok c):BR Γ' sh' w' b x:=by
 cases x with
 | arr v e sz els=>
  rcases h with h|⟨hn,g,cur,h1,h2,h3,h4,h5⟩
  ·exact .inl h
  ·refine .inr ⟨hn,g,cur,by rw[hnm];exact h1,by rw[hheap g h1];exact h2,h3,h4,λi h j h'=>?_⟩;obtain⟨V,e1,e2⟩:=h5 i h j h';exact⟨V,e1,e2.mono M.st M.sub⟩
 | box cells=>
  obtain⟨g,cur,e,h1,h2,h3,h4⟩:=h;refine⟨g,cur,e,by rw[hnm];exact h1,by rw[hheap g h1];exact h2,h3,λj h=>?_⟩;obtain⟨V,e1,e2⟩:=h4 j h;exact⟨V,e1,e2.mono M λc hc=>hok c (by simp only[Blk.nms];exact C8.2 ⟨j,h,hc⟩)⟩
 | iter s p=>
  obtain⟨g,s',h1,h2,h3⟩:=h;exact⟨g,s',by rw[hnm];exact h1,by rw[hheap g h1];exact h2,h3⟩
 | mp ents=>
  obtain⟨g,es,ck,h1,h2,h3⟩:=h;exact⟨g,es,ck,by rw[hnm];exact h1,by rw[hheap g h1];exact h2,h3.imp λv hv V k=>k.mono M λc hc=>hok c (DP hv c hc)⟩
 | ms a ents=>
  obtain⟨g,es,ck,h1,h2,h3⟩:=h;exact⟨g,es,ck,by rw[hnm];exact h1,by rw[hheap g h1];exact h2,h3.imp λv hv V k=>k.mono M λc hc=>by rw[Di0 hv] at hc;simp at hc⟩
 | dead=>trivial
def SR.mono{Γ Γ':Ctx}{H H':List Blk}{w w':World}{ok:Nat->Prop}{sl:List PV}{tmps:Array Value}(M:Am Γ (A3 H) w Γ' (A3 H') w' ok)
  (h:SR Γ H w sl tmps) (hok:∀c∈D1 sl,ok c/\c<H'.length):SR Γ' H' w' sl tmps:=by
 refine⟨h.size,λc hc=>(hok c hc).2,λi hi=>?_⟩;obtain⟨V,e1,e2⟩:=h.slot i hi;exact⟨V,e1,e2.mono M λc hc=>(hok c (C8.2 ⟨i,hi,hc⟩)).1⟩
def Ext(w w':World):Prop:=∀g,g<w.heap.size->w'.heap[g]? = w.heap[g]?
def Ext.refl(w:World):Ext w w:=λ_ _=>rfl
def LA{w w':World}(h:Ext w w'){a:Addr}{v:Value}(c:w.cell? a=some v):w'.cell? a=some v:=by
 have b:a.block<w.heap.size:=y5 λd=>by
  simp[ab8,ad7 (ad6 d)] at c
 rw[<-c];simp only[ab8,h a.block b]
def D53(P:Program)(w:World)(m:Sem Value)(V:Value):Prop:=∀w':World,Ext w w'->m.run P w' = .ok V w'
def QV(P:Program)(a:Ctx)(H:List Blk)(w:World)(m:Sem Value)(v:PV):Prop:=
 (∀c∈v.nms,c<H.length)/\∃V,VP a (A3 H) w v V/\D53 P w m V
def QV0(P:Program)(a:Ctx)(H:List Blk)(w:World)(m:Sem Value)(v:PV):Prop:=
 (∀c∈v.nms,c<H.length)/\∃V,VP a (A3 H) w v V/\∀w':World,m.run P w' = .ok V w'
def QV0.qv{P:Program}{Γ:Ctx}{H:List Blk}{w:World}{m:Sem Value}{v:PV}(h:QV0 P Γ H w m v):QV P Γ H w m v:=
 ⟨h.1,h.2.imp λV k=>⟨k.1,λw' _=>k.2 w'⟩⟩
def QV0.mk0{P:Program}{Γ:Ctx}{H:List Blk}{w:World}{m:Sem Value}{v:PV}{V:Value}(hn:∀c∈v.nms,c<H.length)(h:VP Γ (A3 H) w v V)(hm:∀w':World,m.run P w' = .ok V w'):QV0 P Γ H w m v:=⟨hn,V,h,hm⟩
section inv
variable {Γ : Ctx} {sh : Nat -> Option Shp} {w : World} {V : Value} {St : Nat -> Prop}
def VP.inv_s{x:SV}(h:VP Γ sh w (.s x) V):VS Γ.St w x V:=by cases h;assumption
def VS.inv_bool{b:Bool}(h:VS St w (.bool b) V):V = .bool b:=by cases h;rfl
def VS.inv_int{k:IntKind}{n:Int}(h:VS St w (.int k n) V):V = .int k n:=by cases h;rfl
def VS.inv_str{l:List UInt8}(h:VS St w (.str l) V):∃s:ByteArray,V = .string s/\s.data.toList=l:=by cases h;exact⟨_,rfl,rfl⟩
def VP.inv_bool{b:Bool}(h:VP Γ sh w (.s (.bool b)) V):V = .bool b:=h.inv_s.inv_bool
def VP.inv_int{k:IntKind}{n:Int}(h:VP Γ sh w (.s (.int k n)) V):V = .int k n:=h.inv_s.inv_int
def VP.inv_str{l:List UInt8}(h:VP Γ sh w (.s (.str l)) V):∃s:ByteArray,V = .string s/\s.data.toList=l:=h.inv_s.inv_str
def VP.inv_agg{l:List PV}(h:VP Γ sh w (.agg l) V):∃A:Array Value,V = .agg A/\A.size=l.length/\∀j (h:j<l.length),∃U,A[j]? = some U/\VP Γ sh w (l[j]) U:=by
 cases h with
 | agg l A As hA ha hl=>exact⟨A,rfl,hA,λj h=>⟨As j,ha j h,hl j h⟩⟩
def VP.inv_tup{l:List PV}(h:VP Γ sh w (.tup l) V):∃A:Array Value,V = .tuple A/\A.size=l.length/\∀j (h:j<l.length),∃U,A[j]? = some U/\VP Γ sh w (l[j]) U:=by
 cases h with
 | tup l A As hA ha hl=>exact⟨A,rfl,hA,λj h=>⟨As j,ha j h,hl j h⟩⟩
def VP.mk_agg{l:List PV}{A:Array Value}(hA:A.size=l.length)(h:∀j (h:j<l.length),∃U,A[j]? = some U/\VP Γ sh w (l[j]) U):VP Γ sh w (.agg l) (.agg A):=
 .agg l A (λj=>A.getD j undef) hA (λj hj=>by obtain⟨U,e,_⟩:=h j hj;simp[e]) (λj hj=>by obtain⟨U,e,k⟩:=h j hj;simpa[e] using k)
def VP.mk_tup{l:List PV}{A:Array Value}(hA:A.size=l.length)(h:∀j (h:j<l.length),∃U,A[j]? = some U/\VP Γ sh w (l[j]) U):VP Γ sh w (.tup l) (.tuple A):=
 .tup l A (λj=>A.getD j undef) hA (λj hj=>by obtain⟨U,e,_⟩:=h j hj;simp[e]) (λj hj=>by obtain⟨U,e,k⟩:=h j hj;simpa[e] using k)
def VP.bool(b:Bool):VP Γ sh w (.s (.bool b)) (.bool b):=.s _ _ (.bool b)
def VP.int(k:IntKind)(n:Int):VP Γ sh w (.s (.int k n)) (.int k n):=.s _ _ (.int k n)
def VP.str{l:List UInt8}(s:ByteArray)(h:s.data.toList=l):VP Γ sh w (.s (.str l)) (.string s):=by subst h;exact .s _ _ (.str s)
end inv
def C9{c:Bool}{k:Option R}{r:R}(h:need c k=some r):c=true/\k=some r:=by cases c<;>simp_all [need]
def XV(a b:List UInt8):bytesLess a b=ae4 a b:=by
 induction a generalizing b with
 | nil=>cases b<;>simp[bytesLess,ae4]
 | cons x a c=>
  cases b with
  | nil=>simp[bytesLess,ae4]
  | cons y b=>simp[bytesLess,ae4,c]
section ops
variable {P : Program} {Γ : Ctx} {H : List Blk} {w : World} {R : Type} {r : R}
def QV.val{m:Sem Value}{v:PV}{V:Value}(hn:v.nms=[])(h:VP Γ (A3 H) w v V)(hm:∀w':World,Ext w w'->m.run P w' = .ok V w'):QV P Γ H w m v:=
 ⟨by simp[hn],V,h,hm⟩
def QV0.val{m:Sem Value}{v:PV}{V:Value}(hn:v.nms=[])(h:VP Γ (A3 H) w v V)(hm:∀w':World,m.run P w' = .ok V w'):QV0 P Γ H w m v:=
 ⟨by simp[hn],V,h,hm⟩
def Ci7{op:UnOp}{x:PV}{X:Value}{k:PV->Option R}(h:unK op x k=some r)(a:VP Γ (A3 H) w x X) :
  ∃v,k v=some r/\QV P Γ H w (aj5 op X) v:=by
 unfold unK at h;split at h
 ·obtain rfl:=a.inv_bool;exact⟨_,h,.val rfl (.bool _) λw' _=>by simp[aj5]⟩
 ·obtain rfl:=a.inv_int;exact⟨_,h,.val rfl (.int _ _) λw' _=>by simp[aj5,Op.intArith]⟩
 ·cases h
def Cw2(a b:Int):(!decide (b<a))=decide (a<=b):=by grind
def A45{op:BinOp}{t:Nat}{d e:Operand}{c:IntKind}{a b:Int}{v:PV}(h:Dw5 op c a b=some v) :
  QV0 P Γ H w (do eqGuard op t d e (.int c a) (.int c b);binOp op t (.int c a) (.int c b)) v:=by
 cases op<;>simp only[Dw5,c9,reduceCtorEq] at h<;>subst h <;>
  first
  | exact .val rfl (.int _ _) λw'=>by simp[eqGuard,binOp,Op.intArith,Op.intBits]
  | exact .val rfl (.bool _) λw'=>by simp[eqGuard,binOp,Op.intCmp,Cd,Cw2]
def A46{op:BinOp}{t:Nat}{d e:Operand}{a b:ByteArray}{v:PV}(h:Dw6 op a.data.toList b.data.toList=some v)(c:op≠.add) :
  QV0 P Γ H w (do eqGuard op t d e (.string a) (.string b);binOp op t (.string a) (.string b)) v:=by
 cases op<;>simp only[Dw6,c9,reduceCtorEq,ne_eq,not_true_eq_false] at h c<;>subst h <;>
  exact .val rfl (.bool _) λw'=>by simp[eqGuard,binOp,Op.stringOp,ac0,XV]
def FM{x:PV}{X:Value}{z:Bool}(o:VP Γ (A3 H) w x X)(h:Bz5 H x=some z) :
  ∃a n c,X = .slice a n c/\a.isNone=z/\(a=none->n=0/\c=0):=by
 unfold Bz5 at h;split at h
 ·cases o;simp at h;exact⟨none,0,0,rfl,by simp[h],λ_=>⟨rfl,rfl⟩⟩
 ·have A:=o.inv_s;cases A<;>simp at h<;>subst h<;>first|exact⟨_,_,_,rfl,rfl,λh=>⟨rfl,rfl⟩⟩|exact⟨_,_,_,rfl,rfl,λh=>by simp at h⟩
 ·rename_i b;split at h
  ·rename_i v e y f t;have j:A3 H b=some (.arr v e y f.length):=by simp[A3,t,Blk.shp]
   simp only[c9] at h;subst h;cases o with
   | flv _ p k d=>
    rw[j] at d;simp only[c9,Shp.arr.injEq] at d;obtain⟨rfl,_,_,q⟩:=d;exact⟨none,0,0,rfl,by simp[k9.1 q],λ_=>⟨rfl,rfl⟩⟩
   | fl _ g D p k n cap d u B l C A=>
    rw[j] at d;simp only[c9,Shp.arr.injEq] at d;obtain⟨rfl,_,_,rfl⟩:=d;refine⟨_,_,_,rfl,?_,λh=>by simp at h⟩;cases v
    ·rfl
    ·have:=u rfl;cases f<;>simp_all
  ·cases h
 ·rename_i b i n;split at h
  ·rename_i v e y f t;have j:A3 H b=some (.arr v e y f.length):=by simp[A3,t,Blk.shp]
   simp only[c9] at h;subst h;cases o with
   | vwv _ p k _ d=>
    rw[j] at d;simp only[c9,Shp.arr.injEq] at d;obtain⟨rfl,_,_,q⟩:=d;exact⟨none,0,0,rfl,by simp[k9.1 q],λ_=>⟨rfl,rfl⟩⟩
   | vw _ _ _ g a cap D p k m d u B F G l C=>
    rw[j] at d;simp only[c9,Shp.arr.injEq] at d;obtain⟨rfl,_,_,rfl⟩:=d;refine⟨_,_,_,rfl,?_,λh=>by simp at h⟩;cases v
    ·rfl
    ·have:=u rfl;cases f<;>simp_all
  ·cases h
 ·cases h
def L0{C:Cfg}{t e:Nat}(h:C.sh t = .slice e):C.P.underlying t=some (.slice e):=by simp only[Cfg.sh,PZ] at h;split at h<;>simp_all
def Jn{C:Cfg}{t n e:Nat}(h:C.sh t = .array n e):C.P.underlying t=some (.array n e):=by simp only[Cfg.sh,PZ] at h;split at h<;>simp_all
def OB{C:Cfg}{t e:Nat}(h:C.sh t = .ptr e):C.P.underlying t=some (.pointer e):=by simp only[Cfg.sh,PZ] at h;split at h<;>simp_all
def ED{C:Cfg}{t:Nat}{a:List (Nat × Nat)}(h:C.sh t = .struct a):∃F:Array Field,C.P.underlying t=some (.struct F)/\a=F.toList.map λf=>(f.offset,f.type):=by simp only[Cfg.sh,PZ] at h;split at h<;>simp_all
def Ax2{C:Cfg}{t:Nat}(h:C.sh t = .fn):∃a b c,C.P.underlying t=some (.func a b c):=by simp only[Cfg.sh,PZ] at h;split at h<;>simp_all
def Dn8{C:Cfg}{t:Nat}(h:C.sh t = .bool):C.P.underlying t=some .bool:=by simp only[Cfg.sh,PZ] at h;split at h<;>simp_all
def T7{P:Program}{t:Nat}{X Y:Value}{b:Bool}{w':World}(e:(ag3 t X Y).run P w' = .ok b w')
  (d:∀op a c,(eqGuard op t a c X Y).run P w' = .ok () w') (f:binOp .eql t X Y=(do pure (.bool (<-ag3 t X Y)))) (g:binOp .neq t X Y=(do pure (.bool (!(<-ag3 t X Y))))) :
  (∀a c,(do eqGuard .eql t a c X Y;binOp .eql t X Y).run P w' = .ok (.bool b) w')/\(∀a c,(do eqGuard .neq t a c X Y;binOp .neq t X Y).run P w' = .ok (.bool (!b)) w'):=by
 refine⟨λa c=>?_,λa c=>?_⟩
 ·rw[f];simp[d,e]
 ·rw[g];simp[d,e]
def Tz{P:Program}{t:Nat}{X Y:Value}{b:Bool}{w':World}(h:∀d,(o5 (d+1) t X Y).run P w' = .ok b w'):(ag3 t X Y).run P w' = .ok b w':=h 9999
def VP.inv_nilp{Γ:Ctx}{sh:Nat->Option Shp}{w:World}{V:Value}(h:VP Γ sh w (.s .nilp) V):V = .pointer none:=by have:=h.inv_s;cases this;rfl
def VP.inv_nilf{Γ:Ctx}{sh:Nat->Option Shp}{w:World}{V:Value}(h:VP Γ sh w (.s .nilf) V):V = .nilFunc:=by have:=h.inv_s;cases this;rfl
def VP.inv_sp{Γ:Ctx}{sh:Nat->Option Shp}{w:World}{V:Value}{els i o}(h:VP Γ sh w (.s (.sp els i o)) V):∃a,V = .pointer (some a):=by have:=h.inv_s;cases this;exact⟨_,rfl⟩
def VP.inv_ptr{Γ:Ctx}{sh:Nat->Option Shp}{w:World}{V:Value}{b i o}(h:VP Γ sh w (.ptr b i o) V):∃a,V = .pointer (some a):=by cases h<;>exact⟨_,rfl⟩
def VP.inv_fn{Γ:Ctx}{sh:Nat->Option Shp}{w:World}{V:Value}{f x y}(h:VP Γ sh w (.s (.fn f x y)) V):∃A B,V = .func f A B:=by have:=h.inv_s;cases this;exact⟨_,_,rfl⟩
def VP.inv_fnr{Γ:Ctx}{sh:Nat->Option Shp}{w:World}{V:Value}{f x y}(h:VP Γ sh w (.fnr f x y) V):∃A B,V = .func f A B:=by cases h;exact⟨_,_,rfl⟩
def VP.inv_nsl{Γ:Ctx}{sh:Nat->Option Shp}{w:World}{V:Value}(h:VP Γ sh w .nsl V):V = .slice none 0 0:=by cases h;rfl
def Pd{C:Cfg}{t k e:Nat}(h:C.sh t = .map k e):C.P.underlying t=some (.map k e):=by simp only[Cfg.sh,PZ] at h;split at h<;>simp_all
def VP.inv_nilm{Γ:Ctx}{sh:Nat->Option Shp}{w:World}{V:Value}(h:VP Γ sh w (.s .nilm) V):V = .map none:=by have:=h.inv_s;cases this;rfl
def Bd1{b:Nat}{V:Value}{a:Bool}{c:List (List UInt8 × List SV)}(e:H[b]? = some (.ms a c))(f:VP Γ (A3 H) w (.it b) V):∃g,Γ.nm b=some g/\V = .map (some g):=by
 cases f with
 | it _ g h d=>simp[A3,e,Blk.shp] at h
 | mpv _ g h d=>exact⟨g,d,rfl⟩
def Bd0{b:Nat}{V:Value}{a:List (List UInt8 × PV)}(d:H[b]? = some (.mp a))(e:VP Γ (A3 H) w (.it b) V):∃g,Γ.nm b=some g/\V = .map (some g):=by
 cases e with
 | it _ g h c=>simp[A3,d,Blk.shp] at h
 | mpv _ g h c=>exact⟨g,c,rfl⟩
def MF{b:Nat}{V:Value}{r:Bool}(h:Df7 H b=some r)(e:VP Γ (A3 H) w (.it b) V):∃g,V = .map (some g)/\false=r:=by
 unfold Df7 at h;split at h
 ·rename_i c d;obtain⟨g,_,rfl⟩:=Bd0 d e;exact⟨g,rfl,by simpa using h⟩
 ·rename_i a c d;obtain⟨g,_,rfl⟩:=Bd1 d e;exact⟨g,rfl,by simpa using h⟩
 ·cases h
def LK{C:Cfg}{t:Nat}{x y:PV}{X Y:Value}{b:Bool}(h:Dc7 H (C.sh t) x y=some b)(i:VP Γ (A3 H) w x X)(j:VP Γ (A3 H) w y Y)(w':World) :
  (∀u v,(do eqGuard .eql t u v X Y;binOp .eql t X Y).run C.P w' = .ok (.bool b) w')/\(∀u v,(do eqGuard .neq t u v X Y;binOp .neq t X Y).run C.P w' = .ok (.bool (!b)) w'):=by
 unfold Dc7 at h;split at h
 ·rename_i e f;obtain rfl:=i.inv_nilp;obtain rfl:=j.inv_nilp;simp only[c9] at h;subst h;exact T7 (Tz λd=>by simp[o5,run_underlying (OB f)]) (by intros;simp[eqGuard]) (by simp[binOp]) (by simp[binOp])
 ·rename_i e _ _ _ f;obtain rfl:=i.inv_nilp;obtain⟨a,rfl⟩:=j.inv_sp;simp only[c9] at h;subst h;exact T7 (Tz λd=>by simp[o5,run_underlying (OB f)]) (by intros;simp[eqGuard]) (by simp[binOp]) (by simp[binOp])
 ·rename_i e _ _ _ f;obtain rfl:=j.inv_nilp;obtain⟨a,rfl⟩:=i.inv_sp;simp only[c9] at h;subst h;exact T7 (Tz λd=>by simp[o5,run_underlying (OB f)]) (by intros;simp[eqGuard]) (by simp[binOp]) (by simp[binOp])
 ·rename_i e _ _ _ f;obtain rfl:=i.inv_nilp;obtain⟨a,rfl⟩:=j.inv_ptr;simp only[c9] at h;subst h;exact T7 (Tz λd=>by simp[o5,run_underlying (OB f)]) (by intros;simp[eqGuard]) (by simp[binOp]) (by simp[binOp])
 ·rename_i e _ _ _ f;obtain rfl:=j.inv_nilp;obtain⟨a,rfl⟩:=i.inv_ptr;simp only[c9] at h;subst h;exact T7 (Tz λd=>by simp[o5,run_underlying (OB f)]) (by intros;simp[eqGuard]) (by simp[binOp]) (by simp[binOp])
 ·rename_i f;obtain⟨l,m,o,k⟩:=Ax2 f;obtain rfl:=i.inv_nilf;obtain rfl:=j.inv_nilf;simp only[c9] at h;subst h;exact T7 (Tz λd=>by simp[o5,run_underlying k]) (by intros;simp[eqGuard]) (by simp[binOp]) (by simp[binOp])
 ·rename_i f;obtain⟨l,m,o,k⟩:=Ax2 f;obtain rfl:=i.inv_nilf;obtain⟨A,B,rfl⟩:=j.inv_fn;simp only[c9] at h;subst h;exact T7 (Tz λd=>by simp[o5,run_underlying k]) (by intros;simp[eqGuard]) (by simp[binOp]) (by simp[binOp])
 ·rename_i f;obtain⟨l,m,o,k⟩:=Ax2 f;obtain rfl:=j.inv_nilf;obtain⟨A,B,rfl⟩:=i.inv_fn;simp only[c9] at h;subst h;exact T7 (Tz λd=>by simp[o5,run_underlying k]) (by intros;simp[eqGuard]) (by simp[binOp]) (by simp[binOp])
 ·rename_i f;obtain⟨l,m,o,k⟩:=Ax2 f;obtain rfl:=i.inv_nilf;obtain⟨A,B,rfl⟩:=j.inv_fnr;simp only[c9] at h;subst h;exact T7 (Tz λd=>by simp[o5,run_underlying k]) (by intros;simp[eqGuard]) (by simp[binOp]) (by simp[binOp])
 ·rename_i f;obtain⟨l,m,o,k⟩:=Ax2 f;obtain rfl:=j.inv_nilf;obtain⟨A,B,rfl⟩:=i.inv_fnr;simp only[c9] at h;subst h;exact T7 (Tz λd=>by simp[o5,run_underlying k]) (by intros;simp[eqGuard]) (by simp[binOp]) (by simp[binOp])
 ·rename_i p q f;obtain rfl:=i.inv_bool;obtain rfl:=j.inv_bool;simp only[c9] at h;subst h;exact T7 (Tz λd=>by simp[o5,run_underlying (Dn8 f)]) (by intros;simp[eqGuard]) (by simp[binOp]) (by simp[binOp])
 ·rename_i f;obtain rfl:=i.inv_nilm;obtain rfl:=j.inv_nilm;simp only[c9] at h;subst h;exact T7 (Tz λd=>by simp[o5,run_underlying (Pd f)]) (by intros;simp[eqGuard]) (by simp[binOp]) (by simp[binOp])
 ·rename_i f;obtain⟨g,rfl,rfl⟩:=MF h j;obtain rfl:=i.inv_nilm;exact T7 (Tz λd=>by simp[o5,run_underlying (Pd f)]) (by intros;simp[eqGuard]) (by simp[binOp]) (by simp[binOp])
 ·rename_i f;obtain⟨g,rfl,rfl⟩:=MF h i;obtain rfl:=j.inv_nilm;exact T7 (Tz λd=>by simp[o5,run_underlying (Pd f)]) (by intros;simp[eqGuard]) (by simp[binOp]) (by simp[binOp])
 ·rename_i e f;obtain rfl:=j.inv_nsl;obtain⟨a,n,c,rfl,rfl,z⟩:=FM i h;refine T7 ?_ (by intros;simp[eqGuard]) (by simp[binOp]) (by simp[binOp]);exact Tz λd=>by cases a<;>simp[o5,run_underlying (L0 f)]
 ·rename_i e f _;obtain rfl:=i.inv_nsl;obtain⟨a,n,c,rfl,rfl,z⟩:=FM j h;refine T7 ?_ (by intros;simp[eqGuard]) (by simp[binOp]) (by simp[binOp]);exact Tz λd=>by cases a<;>simp[o5,run_underlying (L0 f)]
 ·cases h
end ops
def Jd:∀{x y:List PV} {b:Bool},P7 x y=some b->x.length=y.length
 | [],[],_,_=>rfl
 | a::x,c::y,b,h=>by
  simp only[P7] at h;split at h
  ·rename_i p q e d;simp[Jd d]
  ·cases h
 | [],_::_,_,h=>by simp[P7] at h
 | _::_,[],_,h=>by simp[P7] at h
def Jc:∀{x e y f:List PV} {b:Bool},x.length=y.length->P7 (x++e) (y++f)=some b->∃p q,P7 x y=some p/\P7 e f=some q/\b=(p&&q)
 | [],e,[],f,b,_,h=>⟨true,b,rfl,h,by simp⟩
 | a::x,e,c::y,f,b,d,h=>by
  simp only[List.cons_append,P7] at h;split at h
  ·rename_i p q j k;obtain⟨l,m,g,i,rfl⟩:=Jc (by simpa using d) k;refine⟨p&&l,m,by simp[P7,j,g],i,?_⟩;grind
  ·cases h
 | [],_,_::_,_,_,d,_=>by simp at d
 | _::_,_,[],_,_,d,_=>by simp at d
def KS(a:List CK)(x:List PV):Prop:=x.length=a.length/\∀j (h:j<a.length) (b:j<x.length),(x[j]).has (a[j])=true
def KS.append_inv{a b:List CK}{x:List PV}(h:KS (a++b) x):∃y z,x=y++z/\KS a y/\KS b z:=by obtain⟨hl,hk⟩:=h;refine⟨x.take a.length,x.drop a.length,(List.take_append_drop _ _).symm,⟨by simp at hl ⊢;omega,λj h h'=>?_⟩,⟨by simp at hl ⊢;omega,λj h h'=>?_⟩⟩;all_goals grind
def At(a:Ctx)(sh:Nat->Option Shp)(w:World)(A:Array Value)(off:Nat)(x:List PV):Prop:=∀j (h:j<x.length),∃U,A[off+j]? = some U/\VP a sh w (x[j]) U
def At.append_inv{Γ:Ctx}{sh:Nat->Option Shp}{w:World}{A:Array Value}{off:Nat}{x y:List PV}(h:At Γ sh w A off (x++y)):At Γ sh w A off x/\At Γ sh w A (off+x.length) y:=by
 refine⟨λj hj=>?_,λj hj=>?_⟩
 ·obtain⟨U,e,k⟩:=h j (by simp;omega);grind
 ·obtain⟨U,e,k⟩:=h (x.length+j) (by simp;omega);grind
def Jf:TypeDesc->Bool
 | .struct _=>true
 | .array _ _=>true
 | _=>false
def Il{P:Program}{t:TypeId}{d:TypeDesc}(h:P.underlying t=some d)(w:World):(isAgg t).run P w = .ok (Jf d) w:=by unfold isAgg;rw[p4,run_underlying h w];cases d<;>simp[Jf]
def Ay{P:Program}{t:TypeId}{d:TypeDesc}{i:TypeInfo}(h:P.underlying t=some d)(a:Jf d=true)(b:P.info? t=some i)(A:Array Value)(off:Nat)(w:World) :
  (part t A off).run P w = .ok (.agg (A.extract off (off+i.size))) w:=by
 simp[part,Il h,a,sizeOf,typeInfo,b]
def Hj{P:Program}{t:TypeId}{d:TypeDesc}(h:P.underlying t=some d)(b:Jf d=false){A:Array Value}{off:Nat}{U:Value}(a:A[off]? = some U)(w:World) :
  (part t A off).run P w = .ok U w:=by
 simp[part,Il h,b,a]
def At.extract{Γ:Ctx}{sh:Nat->Option Shp}{w:World}{A:Array Value}{off n:Nat}{x:List PV}(h:At Γ sh w A off x)(hn:x.length<=n):At Γ sh w (A.extract off (off+n)) 0 x:=by intro j hj;obtain⟨U,e,k⟩:=h j hj;grind
def Dv6(P:Program)(d:Nat)(t:TypeId)(f:List CK):Prop:=
 ∀(g:Ctx) (sh:Nat->Option Shp) (w:World) (A B:Array Value) (off e:Nat) (x y:List PV) (b:Bool),KS f x->KS f y->At g sh w A off x->At g sh w B e y->P7 x y=some b->
  ∀(D:Nat),d<=D->∀w',∃a c,(part t A off).run P w' = .ok a w'/\(part t B e).run P w' = .ok c w'/\(o5 D t a c).run P w' = .ok b w'
def A84{P:Program}{t:TypeId}{h:TypeDesc}{ck:CK}(m:P.underlying t=some h)(l:Jf h=false)
  (v:∀(p q:PV) (b:Bool),p.has ck=true->q.has ck=true->LJ p q=some b->∀(c:Ctx) (sh:Nat->Option Shp) (w:World) U V,VP c sh w p U->VP c sh w q V->∀D w',(o5 (D+1) t U V).run P w' = .ok b w') :
  Dv6 P 1 t [ck]:=by
 intro c sh w A B off n x y b d e hA u a D I w';obtain⟨f,z⟩:=d;obtain⟨g,C⟩:=e
 match x,y,f,g with
 | [p],[q],_,_=>
  obtain⟨U,i,F⟩:=hA 0 (by simp);obtain⟨V,j,G⟩:=u 0 (by simp);simp only[ab1] at i j;rcases D with _|D;omega
  simp only[P7] at a;split at a
  ·rename_i H J r k;simp only[c9] at k a;subst k a;refine⟨U,V,Hj m l i w',Hj m l j w',?_⟩;rw[Bool.and_true];exact v p q H (by simpa using z 0 (by simp) (by simp)) (by simpa using C 0 (by simp) (by simp)) r c sh w U V F G D w'
  ·cases a
def RZ{c:CK}{p:PV}(h:p.has c=true)(a:c = .bool\/(∃k,c = .int k)\/c = .str):∃x,p = .s x/\x.has c=true:=by rcases a with rfl|⟨k,rfl⟩|rfl<;>cases p<;>simp_all [PV.has]
def Yg{P:Program}{d:Nat}{f:Nat->Option (List CK)}(I:∀t e,f t=some e->Dv6 P d t e){Γ:Ctx}{sh:Nat->Option Shp}{w:World}{A B:Array Value}{D:Nat}(H:d<=D)(w':World) :
  ∀(m:List Field) (off:Nat) (e:List CK) (x y:List PV) (b:Bool),MK f m off=some e->KS e x->KS e y->At Γ sh w A off x->At Γ sh w B off y->P7 x y=some b->
   (ah0 D A B m).run P w' = .ok b w'
 | [],off,e,x,y,b,h,z,F,_,_,n=>by
  simp only[MK,c9] at h;subst h;obtain rfl:=w6 z.1;obtain rfl:=w6 F.1;simp only[P7,c9] at n;subst n;simp[ah0]
 | g::m,off,e,x,y,b,h,z,F,hA,L,n=>by
  simp only[MK] at h;split at h
  ·rename_i o;simp only[j0,beq_iff_eq,bne_iff_ne,ne_eq] at o;split at h
   ·rename_i a M;split at h
    ·rename_i c r;simp only[c9] at h;subst h;obtain⟨S,T,rfl,i,C⟩:=z.append_inv;obtain⟨U,V,rfl,j,G⟩:=F.append_inv;obtain⟨p,q,J,K,rfl⟩:=Jc (by rw[i.1,j.1]) n;have k:=hA.append_inv;have l:=L.append_inv;obtain⟨u,v,O,Q,R⟩:=I g.type a M Γ sh w A B off off S U p i j k.1 l.1 J D H w';have N:=Yg I H w' m (off+a.length) c T V q r C G (by rw[<-i.1];exact k.2) (by rw[<-j.1];exact l.2) K;simp only[ah0];rw[ac o.2,o.1];simp only[p4,O,Q,R,j8,Sem.run_ite,p9,N];grind
    grind
   ·cases h
  ·cases h
def Af2{P:Program}{D:Nat}{t e:TypeId}{n:Nat}{i:TypeInfo}(k:P.underlying t=some (.array n e))(f:P.info? e=some i){A B:Array Value}(w':World)(q:Nat->Bool)
  (h:∀j,j<n->∃a c,(part e A (j*i.size)).run P w' = .ok a w'/\(part e B (j*i.size)).run P w' = .ok c w'/\(o5 D e a c).run P w' = .ok (q j) w') :
  (o5 (D+1) t (.agg A) (.agg B)).run P w' = .ok ((ac3 n).all q) w':=by
 simp only[o5,p4,run_underlying k,j8,sizeOf,typeInfo,run_program,f,p9];rw[af0];simp only[ai8,Nat.sub_zero,Nat.add_sub_cancel,Nat.div_one];have key:∀(m s:Nat),s+m=n->
   (Sem.run P (forIn (m:=Sem) (ag9 s m 1) ((none,()):Option Bool × Unit) λb __s=>do
      let __do_lift <-part e A (b*i.size);let __do_lift_1 <-part e B (b*i.size);let __do_lift <-o5 D e __do_lift __do_lift_1
      if (!__do_lift)=true then pure (ForInStep.done (some false,())) else pure (ForInStep.yield (none,()))) w') =
    .ok (if ((ag9 s m).all q) then (none,()) else (some false,())) w':=by
  intro m
  induction m with
  | zero=>intro s g;simp
  | succ m l=>
   intro s g;obtain⟨a,c,o,p,r⟩:=h s (by omega);simp only[List.range'_succ,List.forIn_cons,p4,o,p,r,j8,Sem.run_ite,p9];cases d:q s
   ·simp[d]
   ·simp only[Bool.not_true,ab3,if_false,j8];rw[l (s+1) (by omega)];simp only[ai1,d,ah8]
 have:=key n 0 (by omega);rw[List.range_eq_range'];rw[this];cases (ag9 0 n).all q<;>simp
def Ny{b:Type}(n:Nat)(a:List b):(j9 (n+1) a).flatten=a++(j9 n a).flatten:=by grind
def Rg:∀(n:Nat) (a:List CK) (x y:List PV) (b:Bool),KS (j9 n a).flatten x->KS (j9 n a).flatten y->P7 x y=some b->
  ∃q:Nat->Bool,b=(ac3 n).all q/\∀j,j<n->∃u v,KS a u/\KS a v/\P7 u v=some (q j)/\
   (∃p r,x=p++(u++r)/\p.length=j*a.length)/\(∃p r,y=p++(v++r)/\p.length=j*a.length)
 | 0,a,x,y,b,e,f,g=>by
  simp only[List.replicate_zero,List.flatten_nil] at e f;obtain rfl:=w6 e.1;obtain rfl:=w6 f.1;simp only[P7,c9] at g;simp_all
 | n+1,a,x,y,b,e,f,g=>by
  rw[Ny] at e f;obtain⟨k,l,rfl,c,h⟩:=e.append_inv;obtain⟨m,o,rfl,d,i⟩:=f.append_inv;obtain⟨p,q,t,w,rfl⟩:=Jc (by rw[c.1,d.1]) g;obtain⟨K,rfl,D⟩:=Rg n a l o q h i w;refine⟨λj=>match j with|0=>p|j+1=>K j,?_,λj N=>?_⟩
  ·rw[List.range_succ_eq_map,ai1,List.all_map];rfl
  ·cases j with
   | zero=>exact⟨k,m,c,d,t,⟨[],l,rfl,by simp⟩,⟨[],o,rfl,by simp⟩⟩
   | succ j=>
    obtain⟨u,v,F,G,H,⟨I,L,z,A⟩,⟨J,M,B,C⟩⟩:=D j (by omega);exact⟨u,v,F,G,H,⟨k++I,L,by rw[z,aa7],by rw[j6,A,c.1,o6];omega⟩,⟨m++J,M,by rw[B,aa7],by rw[j6,C,d.1,o6];omega⟩⟩
def At.mid{Γ:Ctx}{sh:Nat->Option Shp}{w:World}{A:Array Value}{off:Nat}{p u r:List PV}(h:At Γ sh w A off (p++(u++r))):At Γ sh w A (off+p.length) u:=
 (h.append_inv.2).append_inv.1
def LI{P:Program}:∀(d t:Nat) (R:List CK),SO P d t=some R->Dv6 P d t R
 | 0,t,R,h=>by simp[SO] at h
 | d+1,t,R,h=>by
  have ih:=LI (P:=P) d;simp only[SO] at h;split at h
  ·rename_i g;simp only[c9] at h;subst h;have:=A84 (P:=P) (ck:=.bool) g rfl (λp q b O F l Γ sh w U V N hV D w'=>by
    obtain⟨x,rfl,I⟩:=RZ O (.inl rfl);obtain⟨y,rfl,J⟩:=RZ F (.inl rfl);cases x<;>simp[SV.has] at I
    cases y<;>simp[SV.has] at J
    obtain rfl:=N.inv_bool;obtain rfl:=hV.inv_bool;simp only[LJ,c9] at l;subst l;exact run_equalIn_bool' w' D t _ _ g)
   exact λΓ sh w A B off c x y b z G C H K D Q=>this Γ sh w A B off c x y b z G C H K D (by omega)
  ·rename_i k g;simp only[c9] at h;subst h;have:=A84 (P:=P) (ck:=.int k) g rfl (λp q b O F l Γ sh w U V N hV D w'=>by
    obtain⟨x,rfl,I⟩:=RZ O (.inr (.inl ⟨k,rfl⟩));obtain⟨y,rfl,J⟩:=RZ F (.inr (.inl ⟨k,rfl⟩));cases x<;>simp[SV.has] at I
    cases y<;>simp[SV.has] at J
    subst I J;obtain rfl:=N.inv_int;obtain rfl:=hV.inv_int;simp only[LJ,if_true,c9] at l;subst l;exact run_equalIn_int w' D t _ _ _ _ g)
   exact λΓ sh w A B off c x y b z G C H K D Q=>this Γ sh w A B off c x y b z G C H K D (by omega)
  ·rename_i g;simp only[c9] at h;subst h;have:=A84 (P:=P) (ck:=.str) g rfl (λp q b O F l Γ sh w U V N hV D w'=>by
    obtain⟨x,rfl,I⟩:=RZ O (.inr (.inr rfl));obtain⟨y,rfl,J⟩:=RZ F (.inr (.inr rfl));cases x<;>simp[SV.has] at I
    cases y<;>simp[SV.has] at J
    obtain⟨s1,rfl,rfl⟩:=N.inv_str;obtain⟨s2,rfl,rfl⟩:=hV.inv_str;simp only[LJ,c9] at l;subst l;rw[<-ac0,<-ac0];exact run_equalIn_string w' D t _ _ g)
   exact λΓ sh w A B off c x y b z G C H K D Q=>this Γ sh w A B off c x y b z G C H K D (by omega)
  ·rename_i X g;split at h
   ·cases h
   ·rename_i r;split at h
    ·rename_i a1 hl;split at h
     ·rename_i f;simp only[c9] at h;subst h;simp only[beq_iff_eq,o9] at f;obtain⟨i,Z,f⟩:=f;intro Γ sh w A B off c x y b m o hA T l D Q w';rcases D with _|D;omega
      refine⟨_,_,Ay g rfl Z A off w',Ay g rfl Z B c w',?_⟩;have Y:P.fieldsOf t=X:=by simp[Program.fieldsOf,g]
      rw[run_equalIn_struct w' D t _ _ (by rw[Y];exact g) (by simpa using r),Y];exact Yg ih (Γ:=Γ) (sh:=sh) (w:=w) (by omega) w' X.toList 0 _ x y b hl m o (hA.extract (by rw[m.1,f];exact j4 _)) (T.extract (by rw[o.1,f];exact j4 _)) l
     grind
    grind
  ·rename_i n e g;split at h
   ·rename_i a ha;split at h
    ·rename_i f;simp only[c9] at h;subst h;simp only[j0,beq_iff_eq,o9] at f;obtain⟨⟨ie,W,a0⟩,it,hit,r⟩:=f;intro Γ sh w A B off c x y b m o hA T l D Q w';rcases D with _|D;omega
     refine⟨_,_,Ay g rfl hit A off w',Ay g rfl hit B c w',?_⟩;obtain⟨q,rfl,F⟩:=Rg n a x y b m o l;have L:At Γ sh w (A.extract off (off+it.size)) 0 x:=hA.extract (by rw[m.1,r];exact j4 _);have M:At Γ sh w (B.extract c (c+it.size)) 0 y:=T.extract (by rw[o.1,r];exact j4 _);refine Af2 g W w' q λj hj=>?_
     obtain⟨u,v,k1,k2,k3,⟨p1,r1,z,G⟩,⟨p2,r2,C,H⟩⟩:=F j hj;have m1:At Γ sh w (A.extract off (off+it.size)) (j*ie.size) u:=by
      have:=(by rw[z] at L;exact L.mid:At Γ sh w (A.extract off (off+it.size)) (0+p1.length) u)
      grind
     have m2:At Γ sh w (B.extract c (c+it.size)) (j*ie.size) v:=by
      have:=(by rw[C] at M;exact M.mid:At Γ sh w (B.extract c (c+it.size)) (0+p2.length) v)
      grind
     exact ih e a ha Γ sh w _ _ _ _ u v (q j) k1 k2 m1 m2 k3 D (by omega) w'
    grind
   ·cases h
  ·cases h
def Cw6{t:TI}{x:List PV}(h:okP t x 0=true)(c:x.length=t.ks.length):KS t.ks x:=by refine⟨c,λj a b=>?_⟩;simp only[okP,j0,x3] at h;have:=h.2 (t.ks[j],j) (by rw[aa3];simp[a]);grind
section
variable {L : Ctx} {H : List Blk} {w : World} {R : Type} {r : R}
def Sj:∀{a:List CK} {l:List Value},Dn a l=true->a.length=l.length
 | [],[],_=>rfl
 | c::r,v::q,h=>by
  simp only[Dn,j0] at h;simp[Sj h.2]
 | [],_::_,h=>by simp[Dn] at h
 | _::_,[],h=>by simp[Dn] at h
def Dl{C:Cfg}{t:Nat}(h:(C.ti t).ok=true):∃i d z,C.P.info? t=some i/\C.P.underlying t=some d/\i.zero=some z/\i.size=z.cells.size/\i.bytes<=512/\0<i.size/\
  Dn (C.ti t).ks z.cells.toList=true/\(C.ti t).agg=Jf d/\i.size=(C.ti t).ks.length:=by
 simp only[Cfg.ti,Do3] at h ⊢;split at h
 ·rename_i i d f b a c;split at h
  ·rename_i z e;simp only[j0,beq_iff_eq,af] at h;refine⟨i,d,z,b,a,e,h.1.1.1,h.1.1.2,h.1.2,h.2,?_,?_⟩
   ·cases d<;>rfl
   ·rw[h.1.1.1,Sj h.2];simp
  ·cases h
 ·cases h
def EZ{C:Cfg}{t:Nat}{x y:List PV}{X Y:Value}{b:Bool}(M:(Dc6 C.P t&&(C.ti t).agg&&okP (C.ti t) x 0&&okP (C.ti t) y 0&&decide (x.length=(C.ti t).ks.length))=true)(F:P7 x y=some b)
  (W:VP L (A3 H) w (.agg x) X) (Z:VP L (A3 H) w (.agg y) Y) (w':World) :
  (∀f g,(do eqGuard .eql t f g X Y;binOp .eql t X Y).run C.P w' = .ok (.bool b) w')/\(∀f g,(do eqGuard .neq t f g X Y;binOp .neq t X Y).run C.P w' = .ok (.bool (!b)) w'):=by
 simp only[j0,af,Dc6,beq_iff_eq,ac6] at M;obtain⟨⟨⟨⟨⟨O,Q⟩,h6⟩,n⟩,S⟩,K⟩:=M;have o:y.length=(C.ti t).ks.length:=by rw[<-Jd F];exact K
 obtain⟨A,rfl,p,q⟩:=W.inv_agg;obtain⟨B,rfl,u,v⟩:=Z.inv_agg;have D:=LI (P:=C.P) 20 t _ O L (A3 H) w A B 0 0 x y b (Cw6 n K) (Cw6 S o) (λj h=>by simpa using q j h) (λj h=>by simpa using v j h) F 10000 (by omega) w';obtain⟨a,c,k,l,r3⟩:=D;have e:∃i m,C.P.info? t=some i/\C.P.underlying t=some m/\Jf m=true/\i.size=x.length:=by
  have G:(C.ti t).ok=true:=by simp only[okP,j0] at n;exact n.1
  obtain⟨i,d,z,I,J,e3,e4,e5,e6,e7,e8,e9⟩:=Dl G;grind
 obtain⟨i,m,U,V,T,N⟩:=e;rw[Ay V T U] at k l;simp only[Result.ok.injEq,and_true] at k l;have I:A.extract 0 (0+i.size)=A:=by rw[N,aa0,<-p];simp
 have J:B.extract 0 (0+i.size)=B:=by rw[N,aa0,Jd F,<-u];simp
 rw[I] at k;rw[J] at l;subst k l;have r4:(ag3 t (.agg A) (.agg B)).run C.P w' = .ok b w':=r3;exact T7 r4 (λop f g=>run_eqGuard_agg w' op t f g A B Q) (by simp[binOp]) (by simp[binOp])
def KJ{C:Cfg}{op:BinOp}{t:Nat}{ox oy:Operand}{x y:PV}{X Y:Value}{k:PV->Option R}(h:B42 C op t x y H k=some r)(d:VP L (A3 H) w x X)(e:VP L (A3 H) w y Y) :
  ∃v,k v=some r/\QV0 C.P L H w (do eqGuard op t ox oy X Y;binOp op t X Y) v:=by
 unfold B42 at h;split at h
 ·obtain rfl:=d.inv_int;obtain rfl:=e.inv_int;obtain⟨c,f⟩:=C9 h;simp only[af] at c;refine⟨_,f,.val rfl (.int _ _) λw'=>?_⟩;simp[eqGuard,binOp,Op.shift,Int.not_lt.2 c]
 ·obtain rfl:=d.inv_int;obtain rfl:=e.inv_int;obtain⟨c,f⟩:=C9 h;simp only[af] at c;refine⟨_,f,.val rfl (.int _ _) λw'=>?_⟩;simp[eqGuard,binOp,Op.shift,Int.not_lt.2 c]
 ·obtain rfl:=d.inv_int;obtain rfl:=e.inv_int;obtain⟨c,f⟩:=C9 h;simp only[j0,af,bne_iff_ne,ne_eq] at c;obtain⟨rfl,c⟩:=c;refine⟨_,f,.val rfl (.int _ _) λw'=>?_⟩;simp[eqGuard,binOp,Op.intDiv,c]
 ·obtain rfl:=d.inv_int;obtain rfl:=e.inv_int;obtain⟨c,f⟩:=C9 h;simp only[j0,af,bne_iff_ne,ne_eq] at c;obtain⟨rfl,c⟩:=c;refine⟨_,f,.val rfl (.int _ _) λw'=>?_⟩;simp[eqGuard,binOp,Op.intDiv,c]
 ·obtain rfl:=d.inv_int;obtain rfl:=e.inv_int;split at h
  ·rename_i o;subst o;split at h
   ·rename_i v l;exact⟨v,h,A45 l⟩
   ·cases h
  ·cases h
 ·obtain⟨a,rfl,rfl⟩:=d.inv_str;obtain⟨b,rfl,rfl⟩:=e.inv_str;obtain⟨c,f⟩:=C9 h;simp only[af] at c;refine⟨_,f,.val rfl (.str (a++b) (by simp)) λw'=>?_⟩;have m:a.size=a.data.toList.length:=by rw[o0];rfl
  have n:b.size=b.data.toList.length:=by rw[o0];rfl
  have:¬(((a.size+b.size:Nat):Int) > IntKind.i64.max):=by rw[m,n];simp[IntKind.max,IntKind.signed,IntKind.bits];omega
  simp only[eqGuard,binOp,Op.stringOp,p4];rw[ae this];simp
 ·rename_i j;obtain⟨a,rfl,rfl⟩:=d.inv_str;obtain⟨b,rfl,rfl⟩:=e.inv_str;split at h
  ·rename_i v l;exact⟨v,h,A46 l (by rintro rfl;exact j rfl)⟩
  ·cases h
 ·split at h
  ·rename_i i;split at h
   ·rename_i b g;exact⟨_,h,.val rfl (.bool _) λw'=>(EZ i g d e w').1 ox oy⟩
   ·cases h
  ·cases h
 ·split at h
  ·rename_i i;split at h
   ·rename_i b g;exact⟨_,h,.val rfl (.bool _) λw'=>(EZ i g d e w').2 ox oy⟩
   ·cases h
  ·cases h
 ·split at h
  ·rename_i b g;exact⟨_,h,.val rfl (.bool _) λw'=>(LK g d e w').1 ox oy⟩
  ·cases h
 ·split at h
  ·rename_i b g;exact⟨_,h,.val rfl (.bool _) λw'=>(LK g d e w').2 ox oy⟩
  ·cases h
 ·cases h
end
def VS.as{St:Nat->Prop}{Γ:Ctx}{sh:Nat->Option Shp}{w:World}(hSt:Γ.St=St){c:CK}{x:SV}{V:Value}(hx:VS St w x V)(h:x.has c=true):VP Γ sh w (x.as c) V:=by
 subst hSt;cases c with
 | bool=>cases x<;>simp[SV.has] at h;exact .s _ _ hx
 | int k=>cases x<;>simp[SV.has] at h;subst h;exact .s _ _ hx
 | str=>cases x<;>simp[SV.has] at h;exact .s _ _ hx
 | ptr=>exact .s _ _ hx
 | map=>exact .s _ _ hx
 | fn=>exact .s _ _ hx
 | sl k=>
  cases x<;>simp[SV.has] at h
  rename_i z t k' els;show VP Γ sh w (.s (.sl z t k els)) V;rcases h with rfl|rfl
  ·exact .s _ _ hx
  ·cases hx;exact .s _ _ (.nil t k)
def VP.as{Γ:Ctx}{sh:Nat->Option Shp}{w:World}{c:CK}{x:PV}{V:Value}(hx:VP Γ sh w x V)(h:x.has c=true):VP Γ sh w (x.as c) V:=by
 cases x with
 | s x=>
  have h':x.has c=true:=by cases c<;>simpa[PV.has] using h
  have:=VS.as (Γ:=Γ) (sh:=sh) rfl hx.inv_s h';cases c<;>simpa[PV.as,SV.as,PV.toS] using this
 | _=>cases c<;>simp_all [PV.has,PV.as]
def PV.as_nms{c:CK}{x:PV}:∀b∈(x.as c).nms,b∈x.nms:=by
 intro b;cases x with
 | s x=>cases c<;>simp[PV.as,SV.as,PV.nms]
 | _=>cases c<;>simp[PV.as,PV.nms]
def B50{w w':World}(h:w'.heap=w.heap)(a:Addr):w'.cell? a=w.cell? a:=by simp[ab8,h]
def Aa{a:Type}{l:List a}{i:Nat}{d:a}(h:i<l.length):l.getD i d=l[i]:=by simp[ag5,j1 h]
section
variable {Γ : Ctx} {H : List Blk} {w : World} {R : Type} {r : R}
def Fa(Γ:Ctx)(sh:Nat->Option Shp)(w:World)(g o:Nat)(x:List PV):Prop:=∀j (h:j<x.length),∃U,w.cell? ⟨g,o+j,none⟩=some U/\VP Γ sh w (x[j]) U
def N2(g o j:Nat):(⟨g,o,none⟩:Addr).add j=⟨g,o+j,none⟩:=by unfold Addr.add;split<;>simp_all
def PC{C:Cfg}{tid g o:Nat}{x:List PV}(y:(C.ti tid).ok=true)(F:x.length=(C.ti tid).ks.length)(u:Fa Γ (A3 H) w g o x)
  (G:∀c∈D1 x,c<H.length):QV C.P Γ H w (loadVar tid ⟨g,o,none⟩) (if (C.ti tid).agg then .agg x else x.getD 0 .bad):=by
 obtain⟨i,d,z,O,D,T,S,N,I,Q,h,t⟩:=Dl y;rw[<-t] at F;let f:Nat->Value:=λj=>(w.cell? ⟨g,o+j,none⟩).getD undef
 have l:∀j,j<x.length->w.cell? ⟨g,o+j,none⟩=some (f j):=λj p=>by obtain⟨U,e,_⟩:=u j p;simp[f,e]
 have m:∀j (p:j<x.length),VP Γ (A3 H) w (x[j]) (f j):=λj p=>by obtain⟨U,e,k⟩:=u j p;simpa[f,e] using k
 by_cases n:Jf d=true
 ·rw[h,ac n];refine⟨by simpa[PV.nms] using G,.agg ((ac3 i.size).map f).toArray,.agg x _ f (by simp[F]) (λj p=>by simp[List.getElem?_range (by omega:j<i.size)]) m,λw' A=>?_⟩;have q:=run_loadCells_list (P:=C.P) w' ⟨g,o,none⟩ ((ac3 i.size).map f) (λj v J=>by
   rw[N2];refine LA A ?_;simp only[p6,o9] at J;obtain⟨a,K,L⟩:=J;have:=j2.1 K;obtain⟨M,B⟩:=this;simp at M B;subst B L;exact l j (by omega))
  simp only[j7,List.length_range] at q;simp[loadVar,Il D,n,sizeOf,typeInfo,O,q]
 ·simp only[ag4] at n;rw[h,n];have b:0<x.length:=by omega
  have e0:x.getD 0 .bad=x[0]:=by simp[ag5,j1 b]
  simp only[ab3,if_false];rw[e0];refine⟨λc u=>G c (C8.2 ⟨0,b,u⟩),f 0,m 0 b,λw' A=>?_⟩;have:=l 0 b;simp only[ab1] at this;simp[loadVar,Il D,n,LA A this]
def Bc(t:TI)(cells:List PV)(off:Nat):List PV:=t.ks.zipIdx.map λ(c,j)=>(cells.getD (off+j) .bad).as c
def Q9(t:TI)(cells:List PV)(off:Nat):(Bc t cells off).length=t.ks.length:=by simp[Bc]
def Ac4{t:TI}{cells:List PV}{off:Nat}(h:okP t cells off=true)(j:Nat)(a:j<t.ks.length):(cells.getD (off+j) .bad).has (t.ks[j])=true:=by simp only[okP,j0,x3] at h;exact h.2 (t.ks[j],j) (by rw[aa3];simp[a])
def MM{t:TI}{cells:List PV}{off:Nat}:Pw t cells off=(if t.agg then .agg (Bc t cells off) else if t.ks.length=1 then (Bc t cells off).getD 0 .bad else .bad):=by
 unfold Pw Bc;split
 ·rfl
 ·split
  ·grind
  ·rename_i a;split
   ·rename_i b
    match d:t.ks,b with
    | [c],_=>exact absurd d (a c)
   ·rfl
def Ac5{t:TI}{cells:List PV}{off:Nat}(h:okP t cells off=true):∀j,j<t.ks.length->off+j<cells.length:=by intro j a;simp only[okP,j0,x3] at h;have:=h.2 (t.ks[j],j) (by rw[aa3];simp[a]);apply y5;intro b;rw[x7,ae6 (by omega)] at this;generalize t.ks[j]=c at this;cases c<;>simp[PV.has] at this
def Yx{C:Cfg}{tid g o off:Nat}{cells:List PV}(h:okP (C.ti tid) cells off=true)(u:Fa Γ (A3 H) w g o cells)(v:∀c∈D1 cells,c<H.length) :
  QV C.P Γ H w (loadVar tid ⟨g,o+off,none⟩) (Pw (C.ti tid) cells off):=by
 have l:(C.ti tid).ok=true:=by simp only[okP,j0] at h;exact h.1
 have f:=Ac5 h;have q:∀j (a:j<(Bc (C.ti tid) cells off).length),∃(d:off+j<cells.length) (k:j<(C.ti tid).ks.length),(Bc (C.ti tid) cells off)[j]=(cells[off+j]).as ((C.ti tid).ks[j]):=by
  intro j a;have b:j<(C.ti tid).ks.length:=by rw[Q9] at a;exact a
  exact⟨f j b,b,by simp[Bc,j1 (f j b)]⟩
 have key:=PC (Γ:=Γ) (H:=H) (w:=w) (C:=C) (tid:=tid) (g:=g) (o:=o+off) (x:=Bc (C.ti tid) cells off) l (Q9 _ _ _)
  (λj a=>by
   obtain⟨d,k,e⟩:=q j a;obtain⟨U,t,z⟩:=u (off+j) d;have:=Ac4 h j k;rw[Aa d] at this;exact⟨U,by rw[<-t];congr 2;omega,by rw[e];exact z.as this⟩)
  (λc i=>by
   obtain⟨j,a,p⟩:=C8.1 i;obtain⟨d,k,e⟩:=q j a;rw[e] at p;exact v c (C8.2 ⟨off+j,d,PV.as_nms c p⟩))
 rw[MM];by_cases n:(C.ti tid).agg=true
 ·simpa[n] using key
 ·simp only[n] at key ⊢;by_cases m:(C.ti tid).ks.length=1
  ·rw[ac m];simpa using key
  ·rw[ae m];refine⟨by simp[PV.nms],?_⟩;obtain⟨_,V,_,y⟩:=key;exact⟨V,.bad V,y⟩
def HR.box{C:Cfg}(hH:HR Γ H w){b:Nat}{cells:List PV}(hb:H[b]? = some (.box cells)):∃g,Γ.nm b=some g/\Fa Γ (A3 H) w g 0 cells/\∀c∈D1 cells,c<H.length:=by obtain⟨hlt,hbe⟩:=j2.1 hb;have:=hH.blk b hlt;rw[hbe] at this;obtain⟨g,cur,e,h1,h2,h3,h4⟩:=this;refine⟨g,h1,λj hj=>?_,λc hc=>hH.nms b hlt c (by rw[hbe];exact hc)⟩;obtain⟨V,e1,e2⟩:=h4 j hj;exact⟨V,by rw[cell_of_row w g _ cur e (0,0) h2,aa0];exact e1,e2⟩
def MW(l:List SV):D1 (l.map PV.s)=[]:=by induction l with
 | nil=>rfl
 | cons a l b=>simp[D1,PV.nms,b]
def HR.arr{C:Cfg}(hH:HR Γ H w){b:Nat}{v:Bool}{e sz:Nat}{els:List (List SV)}(hb:H[b]? = some (.arr v e sz els))(hne:¬(v=true/\els=[])) :
  ∃g cur,Γ.nm b=some g/\w.heap[g]? = some (.cells cur e (0,0))/\els.length*sz<=cur.size/\(∀i (h:i<els.length),(els[i]).length=sz)/\∀i (h:i<els.length),Fa Γ (A3 H) w g (i*sz) ((els[i]).map .s):=by
 obtain⟨hlt,hbe⟩:=j2.1 hb;have:=hH.blk b hlt;rw[hbe] at this;rcases this with h|⟨_,g,cur,h1,h2,h3,h4,h5⟩
 ·exact absurd h hne
 ·refine⟨g,cur,h1,h2,h3,h4,λi hi j hj=>?_⟩;simp at hj;obtain⟨V,e1,e2⟩:=h5 i hi j hj;exact⟨V,by rw[cell_of_row w g _ cur e (0,0) h2];exact e1,by simpa using .s _ _ e2⟩
def Fa.flatten{sh:Nat->Option Shp}{g sz:Nat}:∀(els:List (List SV)) (o:Nat),(∀i (h:i<els.length),(els[i]).length=sz)->(∀i (h:i<els.length),Fa Γ sh w g (o+i*sz) ((els[i]).map .s))->
  Fa Γ sh w g o (els.flatten.map .s)
 | [],o,_,_=>λj hj=>by simp at hj
 | el::els,o,hl,hc=>by
  have ih:=Fa.flatten (sh:=sh) (g:=g) (sz:=sz) els (o+sz) (λi h=>hl (i+1) (by simpa using h)) (λi h=>by
   have:=hc (i+1) (by simpa using h);simp only[List.getElem_cons_succ] at this;rw[show o+(i+1)*sz=o+sz+i*sz by rw[o6];omega] at this;exact this)
  have h0:=hc 0 (by simp);simp only[ai7,ab1,o8] at h0;have hsz:=hl 0 (by simp);simp only[o8] at hsz;intro j hj;rw[j7,ac8,j6] at hj;by_cases hlt:j<el.length
  ·obtain⟨U,e,k⟩:=h0 j (by simpa using hlt);exact⟨U,e,by simpa[p7,hlt] using k⟩
  ·obtain⟨U,e,k⟩:=ih (j-sz) (by rw[j7];omega);refine⟨U,by rw[<-e];congr 2;omega,?_⟩;simp only[ac8,List.map_append];rw[ac5 (by simp;omega)];simpa[hsz] using k
def VS.sp_cells{sh:Nat->Option Shp}{els:List (List SV)}{i o:Nat}{V:Value}(h:VS Γ.St w (.sp els i o) V)(hi:i<els.length) :
  ∃g off,V = .pointer (some ⟨g,off+o,none⟩)/\Fa Γ sh w g off ((els[i]).map .s):=by
 cases h with
 | sp _ _ _ g off sz Vs hg hl hc hv=>
  exact⟨g,off+i*sz,rfl,λj hj=>by
   simp at hj;exact⟨_,hc i hi j hj,by simpa using .s _ _ (hv i hi j hj)⟩⟩
def Yk{a:Type}{l:List a}{i:Nat}{d:a}(h:i<l.length):l.getD i d=l[i]:=by simp[ag5,j1 h]
def Ac6{t:TI}{cells:List SV}{off:Nat}(h:okS t cells off=true):okP t (cells.map .s) off=true/\Ar6 t cells off=Pw t (cells.map .s) off:=by
 simp only[okS,j0,af,x3] at h;obtain⟨⟨d,k⟩,f⟩:=h;have a:∀j,j<t.ks.length->(cells.map PV.s).getD (off+j) .bad = .s (cells.getD (off+j) .nilp):=λj b=>by grind
 have g:∀(c:CK) (x:SV),(PV.s x).as c=x.as c:=λc x=>by cases c<;>rfl
 refine⟨?_,?_⟩
 ·simp only[okP,d,ah8,x3];rintro⟨c,j⟩ i;have b:j<t.ks.length:=by grind
  have:=f _ i;dsimp only at this ⊢;rw[a j b];cases c<;>exact this
 ·unfold Ar6 Pw;have e:(t.ks.zipIdx.map λ(c,j)=>(cells.getD (off+j) .nilp).as c)=t.ks.zipIdx.map λ(c,j)=>((cells.map PV.s).getD (off+j) .bad).as c:=by
   apply List.map_congr_left;grind
  grind
def FJ{C:Cfg}{tid:Nat}{a:PV}{A:Value}{k:PV->Option R}(G:HR Γ H w)(h:Uf (C.ti tid) a H k=some r)(B:VP Γ (A3 H) w a A) :
  ∃v,k v=some r/\QV C.P Γ H w (ac1 tid A) v:=by
 unfold Uf at h;split at h
 ·rename_i b i off;split at h
  ·rename_i cells l;split at h
   ·rename_i m;subst m;obtain⟨c,f⟩:=C9 h;obtain⟨g,D,q,O⟩:=G.box (C:=C) l;have hA:A = .pointer (some ⟨g,0+off,none⟩):=by
     cases B with
     | ptrA _ _ _ u v e M n j d=>simp[A3,l,Blk.shp] at j
     | ptrB _ _ u j d=>rw[D] at d;cases d;simp
    subst hA;refine⟨_,f,?_⟩;have:=Yx (C:=C) (tid:=tid) c q O;exact⟨this.1,let⟨V,x,y⟩:=this.2;⟨V,x,λw' t=>by simp only[ac1,x6,p4,p9,j8];exact y w' t⟩⟩
   ·cases h
  ·rename_i v e M p l;split at h
   ·obtain⟨c,f⟩:=C9 h;simp only[j0,af] at c;obtain⟨m,c⟩:=c;obtain⟨c,z⟩:=Ac6 c;rw[z] at f;obtain⟨g,F,D,_,_,_,q⟩:=G.arr (C:=C) l (by rintro⟨_,rfl⟩;simp at m);have hA:A = .pointer (some ⟨g,i*M+off,none⟩):=by
     cases B with
     | ptrA _ _ _ u Q N L P j d=>
      rw[D] at d;cases d;simp[A3,l,Blk.shp] at j;grind
     | ptrB _ _ u j d=>simp[A3,l,Blk.shp] at j
    subst hA;rw[Yk m] at c f;refine⟨_,f,?_⟩;have:=Yx (C:=C) (tid:=tid) c (q i m) (by rw[MW];simp);exact⟨this.1,let⟨V,x,y⟩:=this.2;⟨V,x,λw' t=>by simp only[ac1,x6,p4,p9,j8];exact y w' t⟩⟩
   ·split at h
    ·rename_i I;obtain⟨rfl,rfl⟩:=I;obtain⟨c,f⟩:=C9 h;simp only[j0,af] at c;obtain⟨S,c⟩:=c;obtain⟨c,z⟩:=Ac6 c;rw[z] at f;have J:¬(v=true/\p=[]):=by grind
     obtain⟨g,F,D,_,_,K,q⟩:=G.arr (C:=C) l J;have hA:A = .pointer (some ⟨g,0+0,none⟩):=by
      cases B with
      | ptrA _ _ _ u Q N L P j d=>
       grind
      | ptrB _ _ u j d=>simp[A3,l,Blk.shp] at j
     subst hA;refine⟨_,f,?_⟩;have:=Yx (C:=C) (tid:=tid) c (Fa.flatten p 0 K (λi h=>by simpa using q i h)) (by rw[MW];simp);exact⟨this.1,let⟨V,x,y⟩:=this.2;⟨V,x,λw' t=>by simp only[ac1,x6,p4,p9,j8];exact y w' t⟩⟩
    ·cases h
  ·cases h
 ·rename_i p i off;obtain⟨c,f⟩:=C9 h;simp only[j0,af] at c;obtain⟨m,c⟩:=c;obtain⟨c,z⟩:=Ac6 c;rw[z] at f;obtain⟨g,o,rfl,q⟩:=VS.sp_cells (sh:=A3 H) B.inv_s m;rw[Yk m] at c f;refine⟨_,f,?_⟩;have:=Yx (C:=C) (tid:=tid) c q (by rw[MW];simp);exact⟨this.1,let⟨V,x,y⟩:=this.2;⟨V,x,λw' t=>by simp only[ac1,x6,p4,p9,j8];exact y w' t⟩⟩
 ·cases h
end
section
variable {Γ : Ctx} {H : List Blk} {w : World} {R : Type} {r : R}
def Jh{sh:Nat->Option Shp}(v:Value):VP Γ sh w (Ru v) v/\(Ru v).nms=[]:=by
 unfold Ru;split<;>first
  | exact⟨.bool _,rfl⟩
  | exact⟨.int _ _,rfl⟩
  | exact⟨.str _ rfl,rfl⟩
  | exact⟨.s _ _ .nilp,rfl⟩
  | exact⟨.nsl,rfl⟩
  | exact⟨.s _ _ .nilm,rfl⟩
  | exact⟨.s _ _ .nilf,rfl⟩
  | exact⟨.bad _,rfl⟩
def Cw1{l:List PV}(h:∀v∈l,v.nms=[]):D1 l=[]:=by
 induction l with
 | nil=>rfl
 | cons a l c=>simp[D1,h a (by simp),c (λv b=>h v (by simp[b]))]
def PK{sh:Nat->Option Shp}(v:Value):VP Γ sh w (HE v) v/\(HE v).nms=[]:=by
 unfold HE;split
 ·rename_i c;refine⟨VP.mk_agg (by simp) λj b=>?_,?_⟩
  ·simp at b;exact⟨c[j],by simp[b],by simpa using(Jh c[j]).1⟩
  ·simp only[PV.nms];refine Cw1 λv d=>?_
   simp only[ae2] at d;obtain⟨u,_,rfl⟩:=d;exact(Jh (Γ:=Γ) (w:=w) (sh:=sh) u).2
 ·rename_i a;split
  ·rename_i h;obtain rfl:a = #[]:=Array.eq_empty_of_size_eq_zero h;exact⟨VP.mk_tup (by simp) λj b=>by simp at b,rfl⟩
  ·exact⟨.bad _,rfl⟩
 ·exact Jh v
def GOK(C:Cfg)(St:Nat->Prop)(w:World):Prop:=
 (∀g k a,C.G.tab g=some (k,a)->St g/\∃e x,w.heap[g]? = some (.cells (a.map λz=>ai5 k z).toArray e x))/\∀g,C.G.gi g=true->St g/\∃m,w.cell? ⟨g,0,none⟩=some (.int .i64 m)
def GOK.congr{C C':Cfg}{St:Nat->Prop}{w:World}(h:C'.G=C.G)(hg:GOK C St w):GOK C' St w:=by unfold GOK at hg ⊢;rw[h];exact hg
def D07{St:Nat->Prop}{w:World}{g:Nat}{k:IntKind}{b:List Int}(d:St g){e:Nat}{x:Nat × Nat}(h:w.heap[g]? = some (.cells (b.map λz=>ai5 k z).toArray e x)):VS St w (.sp [b.map (SV.int k)] 0 0) (.pointer (some ⟨g,0,none⟩)):=by
 have e:(0:Nat)=0+0*b.length+0:=by omega
 rw[show(some (⟨g,0,none⟩:Addr))=some ⟨g,0+0*b.length+0,none⟩ by rw[<-e]];refine VS.sp [b.map (SV.int k)] 0 0 g 0 b.length (λ_ j=>.int k (b.getD j 0)) d (λi a=>?_) (λi a j c=>?_) (λi a j c=>?_)
 ·simp at a;subst a;simp
 ·simp at a;subst a;simp at c;simp[ab8,h,x7,j1 c]
 ·simp at a;subst a;simp at c;simp only[o8,x4,x7,j1 c,ag8];exact .int _ _
def Bd7{C:Cfg}{sl:List PV}{a:Array Value}{ds:List Deferred}(o:GOK C Γ.St w)(l:SR Γ H w sl a)(x:Operand) :
  VP Γ (A3 H) w (opnd C sl x) (({ tmps:=a,defers:=ds }:Act).eval x)/\∀c∈(opnd C sl x).nms,c<H.length:=by
 cases x with
 | tmp t=>
  simp only[opnd,Act.eval];by_cases b:t<sl.length
  ·obtain⟨V,e,k⟩:=l.slot t b;rw[Yk b];refine⟨by simpa[e] using k,λc p=>l.nms c (C8.2 ⟨t,b,p⟩)⟩
  ·have d:sl.getD t (.tup []) = .tup []:=by simp[ag5,ae6 (ad6 b)]
   have i:a.getD t undef=undef:=by
    have m:a.size<=t:=by rw[l.size];exact ad6 b
    rw[Array.getD_eq_getD_getElem?,ad7 m];rfl
   rw[d,i];exact⟨VP.mk_tup (by simp) λj u=>by simp at u,by simp[PV.nms,D1]⟩
 | const v=>
  have:=PK (Γ:=Γ) (w:=w) (sh:=A3 H) v;exact⟨this.1,by simp only[opnd];rw[this.2];simp⟩
 | global g=>
  simp only[opnd,Act.eval];cases q:C.G.tab g with
  | none=>exact⟨.bad _,by simp[PV.nms]⟩
  | some n=>
   obtain⟨d,e,x,i⟩:=o.1 g n.1 n.2 q;exact⟨.s _ _ (D07 d i),by simp[PV.nms]⟩
 | func f=>exact⟨.s _ _ (.fn (.func f) [] [] #[] #[] (λ_=>undef) (λ_=>undef) (by simp) rfl rfl (by simp) (by simp) (λj h=>by simp at h) (λj h=>by simp at h)),by simp[opnd,PV.nms]⟩
def OA{C:Cfg}{t:Nat}{k:IntKind}(h:C.sh t = .int k):C.P.underlying t=some (.int k):=by simp only[Cfg.sh,PZ] at h;split at h<;>simp_all
def Cj{C:Cfg}{t:Nat}(h:C.sh t = .str):C.P.underlying t=some .string:=by simp only[Cfg.sh,PZ] at h;split at h<;>simp_all
structure SlV (Γ:Ctx) (w:World) (X:Value) (els:List (List SV)):Prop where
 ex:∃a cap,X = .slice a els.length cap/\els.length<=cap/\cap<=maxLen/\(a=none->cap=0)/\
  (els≠[]->∃g o sz,a=some ⟨g,o,none⟩/\(∀i (h:i<els.length),(els[i]).length=sz)/\∀i (h:i<els.length) j (h':j<(els[i]).length),∃U,w.cell? ⟨g,o+i*sz+j,none⟩=some U/\VS Γ.St w (els[i][j]) U)
def S9{b:Nat}{v:Bool}{e g:Nat}{a:List (List SV)}(j:H[b]? = some (.arr v e g a)){i:Bool}{d c f:Nat}(h:A3 H b=some (.arr i d c f)) :
  v=i/\e=d/\g=c/\a.length=f:=by
 simp[A3,j,Blk.shp] at h;exact h
def AJ{C:Cfg}{x:PV}{X:Value}{u:List (List SV)}(Y:HR Γ H w)(K:VP Γ (A3 H) w x X)(h:Gi H x=some u):SlV Γ w X u:=by
 unfold Gi at h;split at h
 ·cases K;simp only[c9] at h;subst h;exact⟨none,0,rfl,j4 _,y7 _,λ_=>rfl,λh=>absurd rfl h⟩
 ·simp only[c9] at h;subst h;have hs:=K.inv_s;cases hs with
  | nil t k=>exact⟨none,0,rfl,j4 _,y7 _,λ_=>rfl,λh=>absurd rfl h⟩
  | emp t k a cap ht A=>exact⟨some a,cap,rfl,y7 _,A,by simp,λh=>absurd rfl h⟩
  | sl t u g off n cap L Vs hn d A ht J hl hc W=>
   subst hn;exact⟨_,cap,rfl,d,A,by simp,λ_=>⟨g,off,_,rfl,hl,λi h j f=>⟨_,hc i h j f,W i h j f⟩⟩⟩
 ·rename_i b;split at h
  ·rename_i v e L c D;simp only[c9] at h;subst h;cases K with
   | flv _ M B f=>
    obtain⟨_,_,_,I⟩:=S9 D f;obtain rfl:=k9.1 I;exact⟨none,0,rfl,j4 _,y7 _,λ_=>rfl,λh=>absurd rfl h⟩
   | fl _ g v' M B n cap f W J d A hs=>
    obtain⟨rfl,rfl,rfl,rfl⟩:=S9 D f;refine⟨_,cap,rfl,d,A,by simp,λo=>?_⟩;obtain⟨z,y⟩:=j2.1 D;have:=Y.blk b z;rw[y] at this;rcases this with h|⟨_,g',q,G,P,h3,I,Q⟩
    ·exact absurd h.2 o
    ·rw[J] at G;cases G;refine⟨g,0,_,rfl,I,λi Z j S=>?_⟩;obtain⟨V,N,O⟩:=Q i Z j S;exact⟨V,by rw[cell_of_row w g _ q _ (0,0) P,aa0];exact N,O⟩
  ·cases h
 ·rename_i b i n;split at h
  ·rename_i v e L c D;simp only[c9] at h;subst h;cases K with
   | vwv _ M B _ f=>exact⟨none,0,by simp,by simp,y7 _,λ_=>rfl,λh=>absurd (by simp) h⟩
   | vw _ _ _ g a cap v' M B m f W J ha Z d A=>
    obtain⟨rfl,rfl,rfl,rfl⟩:=S9 D f;have l:((c.drop i).take n).length=n:=by simp;omega
    refine⟨some a,cap,by rw[l],by rw[l];exact d,A,by simp,λo=>?_⟩;have U:n≠0:=by rintro rfl;simp at o
    obtain⟨z,y⟩:=j2.1 D;have:=Y.blk b z;rw[y] at this;rcases this with h|⟨_,g',q,G,P,h3,I,Q⟩
    ·exact absurd (by simp[h.2]) o
    ·rw[J] at G;cases G;have p:∀k (F:k<((c.drop i).take n).length),∃f:i+k<c.length,((c.drop i).take n)[k]=c[i+k]:=λk F=>by
      rw[l] at F;exact⟨by omega,by simp⟩
     refine⟨g,i*L,L,by rw[ha U],λk F=>?_,λk F j S=>?_⟩
     ·obtain⟨f,e⟩:=p k F;rw[e];exact I _ f
     ·obtain⟨f,e⟩:=p k F;have T:j<(c[i+k]).length:=by rw[<-e];exact S
      obtain⟨V,N,O⟩:=Q (i+k) f j T;refine⟨V,?_,by simp only[e];exact O⟩;rw[cell_of_row w g _ q _ (0,0) P,<-N]
      congr 1
      rw[o6]
  ·cases h
 ·cases h
def Bb8{x:PV}{n:Nat}(h:Em H x=some n)(j:∀l,x≠.s (.str l))(d:∀b i m,x = .vw b i m->∃v e f a,H[b]? = some (.arr v e f a)/\i+m<=a.length):∃a,Gi H x=some a/\a.length=n:=by
 unfold Em at h;split at h
 ·simp only[c9] at h;subst h;exact⟨[],rfl,rfl⟩
 ·simp only[c9] at h;subst h;exact⟨_,rfl,rfl⟩
 ·exact absurd rfl (j _)
 ·split at h
  ·rename_i c;simp only[c9] at h;subst h;exact⟨_,by simp[Gi,c],rfl⟩
  ·cases h
 ·rename_i b i m;simp only[c9] at h;subst h;obtain⟨v,e,f,a,c,g⟩:=d b i m rfl;exact⟨(a.drop i).take m,by simp only[Gi,c],by simp;omega⟩
 ·cases h
def Aa6{C:Cfg}{x:PV}{X:Value}{n:Nat}(t:HR Γ H w)(f:VP Γ (A3 H) w x X)(h:Em H x=some n)(u:∀l,x≠.s (.str l)):∃a cap,X = .slice a n cap/\n<=cap:=by
 by_cases d:∃b i m,x = .vw b i m
 ·obtain⟨b,i,m,rfl⟩:=d;simp only[Em,c9] at h;subst h;cases f with
  | vwv=>exact⟨none,0,rfl,j4 _⟩
  | vw _ _ _ g a cap G y v m z d B A D c F=>exact⟨some a,cap,rfl,c⟩
 ·obtain⟨q,j,k⟩:=Bb8 h u (λb i m e=>absurd ⟨b,i,m,e⟩ d);obtain⟨a,cap,o,p,_⟩:=(AJ (C:=C) t f j).ex;subst k;exact⟨a,cap,o,p⟩
def Bb7{C:Cfg}{x:PV}{X:Value}{t ty:Nat}{ts:List Nat}{k:PV->Option R}(A:HR Γ H w)(h:Ca0 C x t H k=some r)(y:VP Γ (A3 H) w x X) :
  ∃v,k v=some r/\QV C.P Γ H w (aa9 (t::ts).toArray ty #[X]) v:=by
 unfold Ca0 at h;split at h
 ·rename_i n e c;exact⟨_,h,.val rfl (.int _ _) λw' _=>by simp[aa9,run_underlying (Jn c),goInt]⟩
 ·rename_i l c;obtain⟨s,rfl,rfl⟩:=y.inv_str;exact⟨_,h,.val rfl (.int _ _) λw' _=>by simp[aa9,run_underlying (Cj c),goInt]⟩
 ·cases h
 ·rename_i e c D;split at h
  ·rename_i n K;obtain⟨a,cap,rfl,_⟩:=Aa6 (C:=C) A y K (λl e=>D l e);exact⟨_,h,.val rfl (.int _ _) λw' _=>by simp[aa9,run_underlying (L0 c),goInt]⟩
  ·cases h
 ·rename_i c;obtain rfl:=y.inv_nilm;exact⟨_,h,.val rfl (.int _ _) λw' _=>by simp[aa9,run_underlying (Pd c),goInt]⟩
 ·rename_i b c;split at h
  ·rename_i d u;obtain⟨g,B,rfl⟩:=Bd0 u y;obtain⟨j,i⟩:=j2.1 u;have q:=A.blk b j;rw[i] at q;obtain⟨J,I,G,o,p,z⟩:=q;rw[B] at o;cases o;refine⟨_,h,.val rfl (.int _ _) λw' F=>?_⟩;have f:=(F g (x5.1 p).1).trans p;have m:=z.len;rw[o0] at m;simp[aa9,run_underlying (Pd c),ae3 f,goInt,m]
  ·rename_i a d u;obtain⟨g,B,rfl⟩:=Bd1 u y;obtain⟨j,i⟩:=j2.1 u;have q:=A.blk b j;rw[i] at q;obtain⟨J,I,G,o,p,z⟩:=q;rw[B] at o;cases o;refine⟨_,h,.val rfl (.int _ _) λw' F=>?_⟩;have f:=(F g (x5.1 p).1).trans p;have m:=z.len;rw[show(msP a d).length=d.length from j7 _] at m;rw[o0] at m;simp[aa9,run_underlying (Pd c),ae3 f,goInt,m]
  ·cases h
 ·cases h
def Ui{P:Program}{d:Bool}{xs:List PV}{k:PV->Option R}(e:Array TypeId)(f:TypeId)(h:Of d xs k=some r) :
  ∃v a b c,k v=some r/\xs=[.s (.int c a),.s (.int c b)]/\QV P Γ H w (if d then Builtin.max_ e f #[.int c a,.int c b] else Builtin.min_ e f #[.int c a,.int c b]) v:=by
 unfold Of at h;split at h
 ·rename_i c a i b;split at h
  ·rename_i g;subst g;refine⟨_,a,b,c,h,rfl,.val rfl (.int _ _) λw' _=>?_⟩;cases d
   ·simp[run_min_int2]
   ·simp[run_max_int2]
  ·cases h
 ·cases h
end
section
variable {L : Ctx} {H : List Blk} {w : World} {R : Type} {r : R}
def L6{C:Cfg}{t:Nat}(h:(C.ti t).ok=true):∃i,C.P.info? t=some i/\i.size=(C.ti t).ks.length/\0<i.size:=by obtain⟨i,d,z,k,j,l,g,e,c,f,a,b⟩:=Dl h;grind
def Di{P:Program}{t e:Nat}{i:TypeInfo}{g:IntKind}{a:Addr}{len cap:Nat}{n:Int}(f:P.underlying t=some (.slice e))(d:P.info? e=some i)(b:0<=n)(c:n<len)(w':World) :
  (ab6 t (.slice (some a) len cap) (.int g n)).run P w' = .ok (.pointer (some (a.add (n.toNat*i.size)))) w':=by
 simp[ab6,asIntOf,run_underlying f,b,c,sizeOf,typeInfo,d]
def Dh{P:Program}{t e m:Nat}{i:TypeInfo}{g:IntKind}{a:Addr}{n:Int}(f:P.underlying t=some (.array m e))(d:P.info? e=some i)(b:0<=n)(c:n<m)(w':World) :
  (ab6 t (.pointer (some a)) (.int g n)).run P w' = .ok (.pointer (some (a.add (n.toNat*i.size)))) w':=by
 simp[ab6,asIntOf,run_underlying f,b,c,sizeOf,typeInfo,d,x6]
def DT{b i off:Nat}{A:Value}(a:VP L (A3 H) w (.ptr b i off) A) :
  (∃g v e j d,H[b]? = some (.arr v e j d)/\L.nm b=some g/\A = .pointer (some ⟨g,i*j+off,none⟩))\/(∃g cells,i=0/\H[b]? = some (.box cells)/\L.nm b=some g/\A = .pointer (some ⟨g,off,none⟩)):=by
 have key:∀{s:Shp},A3 H b=some s->∃x,H[b]? = some x/\x.shp=s:=λh=>by simpa[A3] using h
 cases a with
 | ptrA _ _ _ g v e j n h f=>
  obtain⟨x,a,c⟩:=key h;cases x<;>simp[Blk.shp] at c
  obtain⟨rfl,rfl,rfl,rfl⟩:=c;exact .inl ⟨g,_,_,_,_,a,f,rfl⟩
 | ptrB _ _ g h f=>
  obtain⟨x,a,c⟩:=key h;cases x<;>simp[Blk.shp] at c
  exact .inr ⟨g,_,rfl,a,f,rfl⟩
def QV.mk1{P:Program}{m:Sem Value}{v:PV}{V:Value}(hn:∀c∈v.nms,c<H.length)(h:VP L (A3 H) w v V)(hm:∀w':World,Ext w w'->m.run P w' = .ok V w'):QV P L H w m v:=⟨hn,V,h,hm⟩
def Md{C:Cfg}{t:Nat}{x i:PV}{X I:Value}{k:PV->Option R}(hH:HR L H w)(h:Ek C t x i H k=some r)(Q:VP L (A3 H) w x X)(u:VP L (A3 H) w i I)
  (J:∀c∈x.nms,c<H.length):∃v,k v=some r/\QV0 C.P L H w (ab6 t X I) v:=by
 unfold Ek at h;split at h
 ·rename_i kd n;obtain rfl:=u.inv_int;split at h
  ·rename_i b;split at h
   ·rename_i v U G p e D l;split at h
    ·rename_i F;obtain⟨d,y⟩:=C9 h;simp only[j0,af] at d;obtain⟨i,u,f,q⟩:=L6 F.1;refine⟨_,y,?_⟩;cases Q with
     | flv _ W O K=>obtain⟨_,_,_,h4⟩:=S9 D K;omega
     | fl _ g v' W O n' cap K P A M Z S=>
      obtain⟨rfl,rfl,rfl,rfl⟩:=S9 D K;refine .mk0 J (V:=.pointer (some ⟨g,n.toNat*G+0,none⟩)) (.ptrA b _ 0 g _ _ G _ K A) λw'=>?_
      rw[Di (L0 l) u d.1 d.2,N2,f,F.2];simp
    ·cases h
   ·cases h
  ·rename_i b o m;split at h
   ·rename_i v U G p e D l;split at h
    ·rename_i F;obtain⟨d,y⟩:=C9 h;simp only[j0,af] at d;obtain⟨i,u,f,q⟩:=L6 F.1;refine⟨_,y,?_⟩;cases Q with
     | vwv _ W O _ K=>omega
     | vw _ _ _ g a cap v' W O m' K P A ha a0 M Z=>
      obtain⟨rfl,rfl,rfl,rfl⟩:=S9 D K;refine .mk0 J (V:=.pointer (some ⟨g,(o+n.toNat)*G+0,none⟩)) (.ptrA b _ 0 g _ _ G _ K A) λw'=>?_
      rw[Di (L0 l) u d.1 d.2,ha (by omega),N2,f,F.2,o6];rfl
    ·cases h
   ·cases h
  ·rename_i z tt kk p;split at h
   ·rename_i e l;split at h
    ·rename_i F;obtain⟨d,y⟩:=C9 h;simp only[j0,af] at d;obtain⟨i,u,f,q⟩:=L6 F.1;refine⟨_,y,?_⟩;have S:=Q.inv_s;cases S with
     | nil=>simp at d;omega
     | emp=>simp at d;omega
     | sl t' p g off n' cap G T hn M Z ht A Y N P=>
      refine .mk0 (by simp[PV.nms]) (V:=.pointer (some ⟨g,off+n.toNat*kk+0,none⟩)) (.s _ _ (.sp p n.toNat 0 g off kk T A Y N P)) λw'=>?_
      rw[Di (L0 l) u d.1 (by omega),N2,f,F.2];rfl
    ·cases h
   ·cases h
  ·rename_i b j off;split at h
   ·rename_i m e l;rcases DT Q with⟨g,v,U,G,p,D,A,rfl⟩|⟨g,cells,rfl,D,A,rfl⟩
    ·rw[D] at h;dsimp only at h;split at h
     ·rename_i F;obtain⟨rfl,rfl,B,rfl⟩:=F;obtain⟨d,y⟩:=C9 h;simp only[j0,af] at d;obtain⟨i,u,f,q⟩:=L6 B;refine⟨_,y,.mk0 J (V:=.pointer (some ⟨g,n.toNat*(C.ti e).ks.length+0,none⟩)) (.ptrA b _ 0 g v U _ p.length (by simp[A3,D,Blk.shp]) A) λw'=>?_⟩;rw[Dh (Jn l) u d.1 d.2,N2,f];simp
     ·cases h
    ·rw[D] at h;dsimp only at h;split at h
     ·rename_i B;obtain⟨d,y⟩:=C9 h;simp only[j0,af] at d;obtain⟨i,u,f,q⟩:=L6 B;refine⟨_,y,.mk0 J (V:=.pointer (some ⟨g,off+n.toNat*(C.ti e).ks.length,none⟩)) (.ptrB b _ g (by simp[A3,D,Blk.shp]) A) λw'=>?_⟩;rw[Dh (Jn l) u d.1 d.2,N2,f]
     ·cases h
   ·cases h
  ·rename_i p j off;split at h
   ·rename_i m e l;split at h
    ·rename_i B;obtain⟨d,y⟩:=C9 h;simp only[j0,af] at d;obtain⟨i,u,f,q⟩:=L6 B;refine⟨_,y,?_⟩;have S:=Q.inv_s;cases S with
     | sp _ _ _ g o G T A Y N P=>
      refine .mk0 (by simp[PV.nms]) (V:=.pointer (some ⟨g,o+j*G+(off+n.toNat*(C.ti e).ks.length),none⟩)) (.s _ _ (.sp p j _ g o G T A Y N P)) λw'=>?_
      rw[Dh (Jn l) u d.1 d.2,N2,f];simp[af8]
    ·cases h
   ·cases h
  ·cases h
 ·cases h
def QV.part{C:Cfg}{u o:Nat}{cells:List PV}{A:Array Value}(h:okP (C.ti u) cells o=true)(hA:A.size=cells.length)(hc:∀j (h:j<cells.length),∃U,A[j]? = some U/\VP L (A3 H) w (cells[j]) U)
  (hn:∀c∈D1 cells,c<H.length):QV C.P L H w (part u A o) (Pw (C.ti u) cells o):=by
 have hok:(C.ti u).ok=true:=by simp only[okP,j0] at h;exact h.1
 obtain⟨i,d,z,hi,hd,hz,hsz,hby,hpos,hks,hagg,hlen⟩:=Dl hok;have hlt:=Ac5 h;have hx:∀j (hj:j<(Bc (C.ti u) cells o).length),∃(h':o+j<cells.length) (hk:j<(C.ti u).ks.length),(Bc (C.ti u) cells o)[j]=(cells[o+j]).as ((C.ti u).ks[j]):=by
  intro j hj;have hj':j<(C.ti u).ks.length:=by rw[Q9] at hj;exact hj
  exact⟨hlt j hj',hj',by simp[Bc,j1 (hlt j hj')]⟩
 have hvp:∀j (hj:j<(Bc (C.ti u) cells o).length),∃U,A[o+j]? = some U/\VP L (A3 H) w ((Bc (C.ti u) cells o)[j]) U:=λj hj=>by
  obtain⟨h',hk,e⟩:=hx j hj;obtain⟨U,e1,k1⟩:=hc (o+j) h';have:=Ac4 h j hk;rw[Aa h'] at this;exact⟨U,e1,by rw[e];exact k1.as this⟩
 have hnm:∀c∈D1 (Bc (C.ti u) cells o),c<H.length:=λc hc'=>by
  obtain⟨j,hj,hm⟩:=C8.1 hc';obtain⟨h',hk,e⟩:=hx j hj;rw[e] at hm;exact hn c (C8.2 ⟨o+j,h',PV.as_nms c hm⟩)
 rw[MM];have hpos':0<(Bc (C.ti u) cells o).length:=by rw[Q9,<-hlen];exact hpos
 by_cases ha:Jf d=true
 ·rw[hagg,ac ha];refine .mk1 (by simpa[PV.nms] using hnm) (VP.mk_agg (A:=A.extract o (o+i.size)) ?_ λj hj=>?_) λw' hw=>Ay hd ha hi A o w'
  ·have:=hlt ((C.ti u).ks.length-1) (by omega);rw[Array.size_extract,Q9,hlen];omega
  ·obtain⟨U,e,k⟩:=hvp j hj;refine⟨U,?_,k⟩;rw[Array.getElem?_extract,ac]
   ·exact e
   ·have:=(x5.1 e).1;rw[Q9,<-hlen] at hj;omega
 ·simp only[ag4] at ha;rw[hagg,ha];simp only[ab3,if_false];obtain⟨U,e,k⟩:=hvp 0 hpos';simp only[ab1] at e;split
  ·rw[Aa hpos'];exact .mk1 (λc hc'=>hnm c (C8.2 ⟨0,hpos',hc'⟩)) k λw' hw=>Hj hd ha e w'
  ·exact .mk1 (by simp[PV.nms]) (.bad U) λw' hw=>Hj hd ha e w'
def ZR{C:Cfg}{t f:Nat}{x:PV}{X:Value}{k:PV->Option R}(h:CZ C t x f k=some r)(z:VP L (A3 H) w x X)(l:∀c∈x.nms,c<H.length) :
  ∃v,k v=some r/\QV C.P L H w (ai9 t X f) v:=by
 unfold CZ at h;split at h
 ·rename_i B cells j;split at h
  ·rename_i o u d;obtain⟨m,n⟩:=C9 h;obtain⟨A,rfl,e,g⟩:=z.inv_agg;obtain⟨F,q,rfl⟩:=ED j;simp only[p6,o9] at d;obtain⟨fl,d,p⟩:=d;cases p;have:=QV.part (C:=C) m e g (by simpa[PV.nms] using l);refine⟨_,n,this.1,let⟨V,a,b⟩:=this.2;⟨V,a,λw' y=>?_⟩⟩;have i:F[f]? = some fl:=by simpa using d
   simp only[ai9,p4,run_underlying q,j8,i,asAgg,p9];exact b w' y
  ·cases h
 ·cases h
def Rz{P:Program}{t f:Nat}{F:Array Field}{fl:Field}{i:TypeInfo}{a:Addr}(e:P.underlying t=some (.struct F))(c:F[f]? = some fl)(d:P.info? fl.type=some i)(b:0<i.size)(w':World) :
  (af6 t (.pointer (some a)) f).run P w' = .ok (.pointer (some (a.add fl.offset))) w':=by
 have:¬i.size=0:=by omega
 simp[af6,run_underlying e,c,x6,fieldPlace,sizeOf,typeInfo,d,this]
def Mb{C:Cfg}{t f:Nat}{x:PV}{X:Value}{k:PV->Option R}(h:Eh C t x f k=some r)(I:VP L (A3 H) w x X)(n:∀c∈x.nms,c<H.length) :
  ∃v,k v=some r/\QV0 C.P L H w (af6 t X f) v:=by
 unfold Eh at h;split at h
 ·rename_i P B;obtain⟨F,G,rfl⟩:=ED B;split at h
  ·rename_i o u b i off d;split at h
   ·rename_i l;simp only[p6,o9] at d;obtain⟨fl,d,A⟩:=d;cases A;have e:F[f]? = some fl:=by simpa using d
    obtain⟨ii,p,D,a⟩:=L6 l;refine⟨_,h,?_⟩;rcases DT I with⟨g,v,K,q,j,y,m,rfl⟩|⟨g,cells,rfl,y,m,rfl⟩
    ·refine .mk0 n (V:=.pointer (some ⟨g,i*q+(off+fl.offset),none⟩)) (.ptrA b _ _ g v K _ j.length (by simp[A3,y,Blk.shp]) m) λw'=>?_
     rw[Rz G e p a,N2,af8]
    ·refine .mk0 n (V:=.pointer (some ⟨g,off+fl.offset,none⟩)) (.ptrB b _ g (by simp[A3,y,Blk.shp]) m) λw'=>?_
     rw[Rz G e p a,N2]
   ·cases h
  ·rename_i o u j i off d;split at h
   ·rename_i l;simp only[p6,o9] at d;obtain⟨fl,d,A⟩:=d;cases A;have e:F[f]? = some fl:=by simpa using d
    obtain⟨ii,p,D,a⟩:=L6 l;refine⟨_,h,?_⟩;have N:=I.inv_s;cases N with
    | sp _ _ _ g o q J m M z O=>
     refine .mk0 (by simp[PV.nms]) (V:=.pointer (some ⟨g,o+i*q+(off+fl.offset),none⟩)) (.s _ _ (.sp j i _ g o q J m M z O)) λw'=>?_
     rw[Rz G e p a,N2];simp[af8]
   ·cases h
  ·cases h
 ·cases h
def Aa0{C:Cfg}{t:Nat}{x i:PV}{X I:Value}{k:PV->Option R}(h:DH C t x i k=some r)(F:VP L (A3 H) w x X)(G:VP L (A3 H) w i I)(z:∀c∈x.nms,c<H.length) :
  ∃v,k v=some r/\QV C.P L H w (aj0 t X I) v:=by
 unfold DH at h;split at h
 ·rename_i J n;obtain rfl:=G.inv_int;split at h
  ·rename_i l;split at h
   ·rename_i f;obtain⟨s,rfl,rfl⟩:=F.inv_str;obtain⟨d,j⟩:=C9 h;simp only[j0,af] at d;refine⟨_,j,.val rfl (.int _ _) λw' D=>?_⟩;have g:s.size=s.data.toList.length:=by rw[o0];rfl
    rw[run_index_string w' t s J n (Cj f),dif_pos ⟨d.1,by rw[g];exact d.2⟩]
    congr 2
    have u:n.toNat<s.data.toList.length:=by omega
    rw[Aa u];rfl
   ·cases h
  ·rename_i cells;split at h
   ·rename_i m e f;obtain⟨d,j⟩:=C9 h;simp only[j0,af] at d;obtain⟨A,rfl,o,p⟩:=F.inv_agg;have y:(C.ti e).ok=true:=by have:=d.2;simp only[okP,j0] at this;exact this.1
    obtain⟨ii,q,g,B⟩:=L6 y;have:=QV.part (C:=C) d.2 o p (by simpa[PV.nms] using z);refine⟨_,j,this.1,let⟨V,a,b⟩:=this.2;⟨V,a,λw' D=>?_⟩⟩;have:=b w' D;simp only[aj0,asIntOf,p4,p9,run_underlying (Jn f),j8];rw[ac d.1];simp only[sizeOf,typeInfo,p4,run_program,q,j8,p9,g];exact this
   ·cases h
  ·cases h
 ·cases h
end
section
variable {Γ : Ctx} {H : List Blk} {w : World} {R : Type} {r : R}
def BV(d:Nat)(n:Nat):Option Value->Prop
 | none=>n=d
 | some v=>∃k,v = .int k n
def BV.none(d:Nat):BV d d none:=rfl
def Wr{P:Program}{isSlice:Bool}{len cap l h m:Nat}{f a mx:Option Value}(c:BV 0 l f)(b:BV len h a)(d:BV cap m mx)(e:mx.isSome=true->a.isSome=true)(g:l<=h)(i:h<=m)(j:m<=cap)(w':World) :
  (ag1 isSlice len cap f a mx).run P w' = .ok (l,h,m) w':=by
 cases f<;>cases a<;>cases mx<;>simp only[BV] at c b d<;>simp at e <;>
  (try (obtain⟨n,rfl⟩:=c))<;>(try (obtain⟨k,rfl⟩:=b))<;>(try (obtain⟨o,rfl⟩:=d))<;>(try subst c)<;>(try subst b)<;>(try subst d) <;>
  simp[ag1,run_sliceBound_if,Int.ofNat_le,g,i,j]
def OV(Γ:Ctx)(sh:Nat->Option Shp)(w:World)(p:Option PV)(V:Option Value):Prop:=
 match p,V with
 | none,none=>True
 | some p,some V=>VP Γ sh w p V
 | _,_=>False
def Hp{sh:Nat->Option Shp}{d:Nat}{p:Option PV}{V:Option Value}{n:Int}(a:CE d p=some n)(b:OV Γ sh w p V)(f:0<=n):BV d n.toNat V:=by
 unfold CE at a;split at a
 ·simp only[c9] at a;subst a;cases V with
  | none=>simp[BV]
  | some V=>exact b.elim
 ·simp only[c9] at a;subst a;cases V with
  | none=>exact b.elim
  | some V=>
   rename_i e g;have c:VP Γ sh w (.s (.int e g)) V:=b;obtain rfl:=c.inv_int;exact⟨e,by simp[af3 f]⟩
 ·cases a
def R2{P:Program}{t e:Nat}{i:TypeInfo}{a:Option Addr}{len cap l h m:Nat}{g b f:Option Value}(u:P.underlying t=some (.slice e))(c:P.info? e=some i)
  (p:BV 0 l g) (o:BV len h b) (q:BV cap m f) (d:f.isSome=true->b.isSome=true) (j:l<=h) (k:h<=m) (n:m<=cap) (w':World) :
  (aa4 t (.slice a len cap) g b f).run P w' = .ok (.slice (if m=l then a else a.map (·.add (l*i.size))) (h-l) (m-l)) w':=by
 simp only[aa4,aj1,p4,run_underlying u,j8,Wr p o q d j k n,sizeOf,typeInfo,run_program,c,p9]
def PY{P:Program}{t:Nat}{s:ByteArray}{l h:Nat}{b a:Option Value}(i:P.underlying t=some .string)
  (g:BV 0 l b) (f:BV s.size h a) (c:l<=h) (d:h<=s.size) (w':World) :
  (aa4 t (.string s) b a none).run P w' = .ok (.string (s.extract l h)) w':=by
 have e:=Wr (P:=P) (isSlice:=false) (mx:=none) (m:=s.size) (cap:=s.size) g f rfl (by simp) c d (j4 _) w';simp[aa4,aj1,run_underlying i,e]
def ZQ(s:ByteArray)(a b:Nat):(s.extract a b).data.toList=(s.data.toList.take b).drop a:=by rw[Lib.extract_data,List.drop_take]
def OV.none{sh:Nat->Option Shp}{V:Option Value}(h:OV Γ sh w none V):V=none:=by
 cases V with
 | none=>rfl
 | some V=>exact h.elim
def OV.int{sh:Nat->Option Shp}{V:Option Value}{kd:IntKind}{n:Int}(h:OV Γ sh w (some (.s (.int kd n))) V):V=some (.int kd n):=by
 cases V with
 | none=>exact h.elim
 | some V=>
  have hv':VP Γ sh w (.s (.int kd n)) V:=h;rw[hv'.inv_int]
def OV.isSome{sh:Nat->Option Shp}{p:Option PV}{V:Option Value}(h:OV Γ sh w p V):V.isSome=p.isSome:=by cases p<;>cases V<;>first|rfl|exact h.elim
def LH{c:Type}{l:List c}{a b:Nat}(h:a<=b)(e:b<=l.length):((l.take b).drop a).length=b-a/\∀i (f:i<((l.take b).drop a).length),∃d:a+i<l.length,((l.take b).drop a)[i]=l[a+i]:=by grind
def VS.slice{St:Nat->Prop}{z t:Bool}{kk:Nat}{els:List (List SV)}{A:Option Addr}{len cap:Nat}(hs:VS St w (.sl z t kk els) (.slice A len cap)){l h m:Nat}(h1:l<=h)(h2:h<=len)(hm1:h<=m)(hm2:m<=cap){t':Bool}(ht':t'=true->m=h\/cap=0){size:Nat}(hsz:size=kk\/z=true) :
  len=els.length/\VS St w (.sl z t' kk ((els.take h).drop l)) (.slice (if m=l then A else A.map (·.add (l*size))) (h-l) (m-l)):=by
 cases hs with
 | nil=>
  refine⟨rfl,?_⟩;have:h=0:=by omega
  have:m=0:=by omega
  subst h m;have:l=0:=by omega
  subst l;simpa using VS.nil t' kk
 | emp _ _ a _ ht hmx=>
  refine⟨rfl,?_⟩;have:h=0:=by omega
  subst h;have:l=0:=by omega
  subst l;have:=VS.emp (St:=St) (w:=w) t' kk (if m=0 then a else a.add (0*size)) m (λe=>by rcases ht' e with h|h<;>omega) (by omega);split at this
  ·rename_i e;simpa[e] using this
  ·rename_i e;simpa[e] using this
 | sl _ _ g off n _ _ Vs hn hcap hm ht hg hl hc hv=>
  refine⟨hn,?_⟩;obtain⟨e1,e2⟩:=LH (l:=els) h1 (by omega);have hsz':size=kk:=by rcases hsz with h|h<;>first|exact h|cases h
  subst hsz';by_cases he:h=l
  ·subst he;have e3:(els.take h).drop h=[]:=by simp
   rw[e3,Nat.sub_self];by_cases hml:m=h
   ·rw[ac hml];exact .emp t' _ _ _ (λ_=>by omega) (by omega)
   ·rw[ae hml];exact .emp t' _ _ _ (λe=>by rcases ht' e with h|h<;>omega) (by omega)
  ·have hml:¬m=l:=by omega
   rw[ae hml];simp only[ab9];rw[N2];refine .sl t' _ g (off+l*size) (h-l) (m-l) size (λi j=>Vs (l+i) j) (by omega) (by omega) (by omega) (λe=>by rcases ht' e with h|h<;>omega) hg (λi hi=>?_) (λi hi j hj=>?_) (λi hi j hj=>?_)
   ·obtain⟨h',e⟩:=e2 i hi;rw[e];exact hl _ h'
   ·obtain⟨h',e⟩:=e2 i hi;rw[show off+l*size+i*size+j=off+(l+i)*size+j by rw[o6];omega];exact hc _ h' j (by rw[<-e];exact hj)
   ·obtain⟨h',e⟩:=e2 i hi;simp only[e];exact hv _ h' j (by rw[<-e];exact hj)
def Tv(s:ByteArray):s.data.toList.length=s.size:=by rw[o0];rfl
def AK{C:Cfg}{t:Nat}{x:PV}{X:Value}{lo u mx:Option PV}{LO HI MX:Option Value}{k:PV->Option R}(hH:HR Γ H w)(h:EE C t x lo u mx H k=some r)(Q:VP Γ (A3 H) w x X)(M:∀c∈x.nms,c<H.length)
  (Z:OV Γ (A3 H) w lo LO) (O:OV Γ (A3 H) w u HI) (a0:OV Γ (A3 H) w mx MX) (hm:mx.isSome=true->u.isSome=true):∃v,k v=some r/\QV0 C.P Γ H w (aa4 t X LO HI MX) v:=by
 unfold EE at h;split at h
 ·rename_i f;split at h
  ·cases h
  ·rename_i len j;split at h
   ·rename_i I N hl hh;split at h
    ·obtain⟨h1,G⟩:=C9 h;simp only[j0,af] at h1;obtain rfl:=a0.none;have L:=Hp hl Z (by omega);have J:=Hp hh O (by omega);split at G
     ·rename_i s;simp only[Fy] at f;split at f
      ·rename_i p;obtain⟨s',rfl,rfl⟩:=Q.inv_str;simp only[Em,c9] at j;subst j;rw[Tv] at J;refine⟨_,G,.mk0 (by simp[PV.nms]) (.str (s'.extract I.toNat N.toNat) (ZQ _ _ _)) λw'=>?_⟩;rw[PY (Cj p) L J (by omega) (by rw[<-Tv];omega)]
      ·cases f
     ·rename_i z tt kk B;simp only[Fy] at f;split at f
      ·rename_i e p;simp only[j0,af] at f;obtain⟨i,u,F,y⟩:=L6 f.1;simp only[Em,c9] at j;subst j;have U:=Q.inv_s;have key:∃A cap,X = .slice A B.length cap/\B.length<=cap/\(z=true->cap=0):=by
        cases U with
        | nil=>exact⟨_,_,rfl,j4 _,λ_=>rfl⟩
        | emp=>exact⟨_,_,rfl,y7 _,by simp⟩
        | sl _ _ g off n cap _ Vs hn q hm ht Y hl hc hv=>subst hn;exact⟨_,_,rfl,q,by simp⟩
       obtain⟨A,cap,rfl,q,hz⟩:=key;have:=VS.slice U (l:=I.toNat) (h:=N.toNat) (m:=cap) (by omega) (by omega) (by omega) (j4 _) (t':=z) (λe=>.inr (hz e)) (size:=i.size) (.inl (by omega));refine⟨_,G,.mk0 (by simp[PV.nms]) (.s _ _ this.2) λw'=>?_⟩;rw[R2 (L0 p) u L J (BV.none cap) (by simp) (by omega) (by omega) (j4 _)]
      ·cases f
     ·simp only[Fy] at f;split at f
      ·rename_i e p;obtain⟨i,u,F,y⟩:=L6 f;obtain rfl:=Q.inv_nsl;simp only[Em,c9] at j;subst j;refine⟨_,G,.mk0 (by simp[PV.nms]) .nsl λw'=>?_⟩;rw[R2 (L0 p) u L J (m:=0) (cap:=0) (BV.none _) (by simp) (by omega) (by omega) (j4 _)];simp;omega
      ·cases f
     ·rename_i b;simp only[Fy] at f;split at f
      ·rename_i v e' sz B e T p;simp only[j0,af] at f;obtain⟨i,u,F,y⟩:=L6 f.1;simp only[Em,T,c9] at j;subst j;cases Q with
       | flv _ e2 S K=>
        obtain⟨_,_,_,h4⟩:=S9 T K;have P:I.toNat=0:=by omega
        have D:N.toNat=0:=by omega
        refine⟨_,G,.mk0 M (V:=.slice none 0 0) ?_ λw'=>?_⟩
        ·rw[P,D];exact .vwv b _ _ _ K
        ·rw[R2 (L0 p) u L (by rw[h4] at J;exact J) (m:=0) (cap:=0) (BV.none _) (by simp) (by omega) (by omega) (j4 _)];simp[D]
       | fl _ g v' e2 S n' cap K hv Y q hm U=>
        obtain⟨rfl,rfl,rfl,rfl⟩:=S9 T K;refine⟨_,G,.mk0 M (V:=.slice (some (if cap=I.toNat then ⟨g,0,none⟩ else (⟨g,0,none⟩:Addr).add (I.toNat*i.size))) (N.toNat-I.toNat) (cap-I.toNat)) ?_ λw'=>?_⟩
        ·refine .vw b _ _ g _ _ _ _ _ _ K hv Y (λa2=>?_) (by omega) (by omega) (by omega);rw[ae (by omega),N2,F,f.2,aa0]
        ·rw[R2 (L0 p) u L J (m:=cap) (BV.none _) (by simp) (by omega) (by omega) (j4 _)]
         congr 2
         split<;>simp
      ·cases f
     ·rename_i b o n;simp only[Fy] at f;split at f
      ·rename_i v e' sz B e T p;simp only[j0,af] at f;obtain⟨i,u,F,y⟩:=L6 f.1;simp only[Em,c9] at j;subst j;cases Q with
       | vwv _ e2 S _ K=>
        obtain⟨_,_,_,h4⟩:=S9 T K;have P:I.toNat=0:=by omega
        have D:N.toNat=0:=by omega
        refine⟨_,G,.mk0 M (V:=.slice none 0 0) ?_ λw'=>?_⟩
        ·rw[P,D];exact .vwv b _ _ _ K
        ·rw[R2 (L0 p) u L J (m:=0) (cap:=0) (BV.none _) (by simp) (by omega) (by omega) (j4 _)];simp[D]
       | vw _ _ _ g a cap v' e2 S m K hv Y ha a3 q hm=>
        obtain⟨rfl,rfl,rfl,rfl⟩:=S9 T K;refine⟨_,G,.mk0 M (V:=.slice (some (if cap=I.toNat then a else a.add (I.toNat*i.size))) (N.toNat-I.toNat) (cap-I.toNat)) ?_ λw'=>?_⟩
        ·refine .vw b _ _ g _ _ _ _ _ _ K hv Y (λa2=>?_) (by omega) (by omega) (by omega);rw[ae (by omega),ha (by omega),N2,F,f.2,o6]
        ·rw[R2 (L0 p) u L J (m:=cap) (BV.none _) (by simp) (by omega) (by omega) (j4 _)]
         congr 2
         split<;>simp
      ·cases f
     ·cases G
    ·rename_i kd m;obtain⟨h1,G⟩:=C9 h;simp only[j0,af] at h1;obtain rfl:=a0.int;have W:HI.isSome=true:=by rw[O.isSome];exact hm rfl
     have L:=Hp hl Z (by omega);have J:=Hp hh O (by omega);have bm:∀d,BV d m.toNat (some (.int kd m)):=λd=>⟨kd,by rw[af3 (by omega)]⟩
     split at G
     ·rename_i z tt kk B;simp only[Fy] at f;split at f
      ·rename_i e p;simp only[j0,af] at f;obtain⟨i,u,F,y⟩:=L6 f.1;simp only[Em,c9] at j;subst j;have U:=Q.inv_s;have key:∃A cap,X = .slice A B.length cap/\B.length<=cap:=by
        cases U with
        | nil=>exact⟨_,_,rfl,j4 _⟩
        | emp=>exact⟨_,_,rfl,y7 _⟩
        | sl _ _ g off n cap _ Vs hn q hm ht Y hl hc hv=>subst hn;exact⟨_,_,rfl,q⟩
       obtain⟨A,cap,rfl,q⟩:=key;have:=VS.slice U (l:=I.toNat) (h:=N.toNat) (m:=m.toNat) (by omega) (by omega) (by omega) (by omega) (t':=true) (λe=>.inl (by omega)) (size:=i.size) (.inl (by omega));refine⟨_,G,.mk0 (by simp[PV.nms]) (.s _ _ this.2) λw'=>?_⟩;rw[R2 (L0 p) u L J (bm _) (λ_=>W) (by omega) (by omega) (by omega)]
      ·cases f
     ·simp only[Fy] at f;split at f
      ·rename_i e p;obtain⟨i,u,F,y⟩:=L6 f;obtain rfl:=Q.inv_nsl;simp only[Em,c9] at j;subst j;refine⟨_,G,.mk0 (by simp[PV.nms]) .nsl λw'=>?_⟩;rw[R2 (L0 p) u L J (bm _) (λ_=>W) (by omega) (by omega) (by omega)];have D:N.toNat=0:=by omega
       have a1:m.toNat=0:=by omega
       simp[D,a1]
      ·cases f
     ·cases G
    ·cases h
   ·cases h
 ·cases h
def Pz{C:Cfg}{t e b n:Nat}{v:Bool}{D z:Nat}{c:List (List SV)}{X:Value}{J f K:Option PV}{A HI B:Option Value}{k:PV->Option R}(hH:HR Γ H w)(h:Io b n J f K k=some r)
  (x:C.sh t = .array n e) (u:(C.ti e).ok=true) (o:(C.ti e).ks.length=z) (d:H[b]? = some (.arr v D z c)) (hn:c.length=n) (T:n≠0) (W:n<=maxLen) (Y:VP Γ (A3 H) w (.ptr b 0 0) X)
  (p:OV Γ (A3 H) w J A) (l:OV Γ (A3 H) w f HI) (q:OV Γ (A3 H) w K B):∃v,k v=some r/\QV0 C.P Γ H w (aa4 t X A HI B) v:=by
 unfold Io at h;split at h
 ·rename_i j N S Q;obtain⟨O,P⟩:=C9 h;simp only[j0,af] at O;obtain rfl:=q.none;have M:=Hp S p (by omega);have L:=Hp Q l (by omega);obtain⟨i,f,y,I⟩:=L6 u;rcases DT Y with⟨g,v',e2,Z,F,a,G,rfl⟩|⟨g,cells,_,a,G,rfl⟩
  ·rw[d] at a;simp only[c9,Blk.arr.injEq] at a;obtain⟨rfl,rfl,rfl,rfl⟩:=a;refine⟨_,P,.mk0 (by simp[PV.nms];exact(j2.1 d).1) (V:=.slice (some (if n=j.toNat then ⟨g,0,none⟩ else (⟨g,0,none⟩:Addr).add (j.toNat*i.size))) (N.toNat-j.toNat) (n-j.toNat)) ?_ λw'=>?_⟩
   ·refine .vw b _ _ g _ _ v D z c.length (by simp[A3,d,Blk.shp]) (λ_=>by omega) G (λU=>?_) (by omega) (by omega) (by omega);rw[ae (by omega),N2,y,o,aa0]
   ·simp only[aa4,p4,run_underlying (Jn x),j8,x6,p9];rw[Wr M L (m:=n) (BV.none _) (by simp) (by omega) (by omega) (j4 _)];simp[sizeOf,typeInfo,f]
  ·rw[d] at a;cases a
 ·cases h
end
def CR(a:Ctx)(sh:Nat->Option Shp)(w:World)(l:List PV)(A:Array Value):Prop:=A.size=l.length/\∀j (h:j<l.length),∃U,A[j]? = some U/\VP a sh w (l[j]) U
section
variable {Γ : Ctx} {sh : Nat -> Option Shp} {H : List Blk} {w : World} {R : Type} {r : R}
def CR.one{v:PV}{V:Value}(h:VP Γ sh w v V):CR Γ sh w [v] #[V]:=by refine⟨rfl,λj hj=>?_⟩;grind
def B52{V:Value}(h:V.oneCell'=true):V.cells = #[V]:=by cases V<;>first|rfl|simp[Value.oneCell'] at h
def VS.oneCell{St:Nat->Prop}{v:SV}{V:Value}(h:VS St w v V):V.oneCell'=true:=by cases h<;>rfl
def VP.oneCell{v:PV}{V:Value}(h:VP Γ sh w v V)(h1:v.one=true):V.oneCell'=true:=by
 cases h with
 | s v V h=>exact h.oneCell
 | yd=>exact Γ.yv1
 | agg=>simp[PV.one] at h1
 | tup=>simp[PV.one] at h1
 | bad=>simp[PV.one] at h1
 | _=>rfl
def VP.cells{v:PV}{V:Value}(h:VP Γ sh w v V)(hb:v.cells≠[])(ht:∀l,v≠.tup l):CR Γ sh w v.cells V.cells:=by
 by_cases ha:∃l,v = .agg l
 ·obtain⟨l,rfl⟩:=ha;obtain⟨A,rfl,hA,hc⟩:=h.inv_agg;exact⟨hA,hc⟩
 ·have h1:v.one=true:=by
   cases v<;>simp_all [PV.cells,PV.one]
  have hv:v.cells=[v]:=by cases v<;>simp_all [PV.cells,PV.one]
  rw[hv,B52 (h.oneCell h1)];exact CR.one h
def VP.cells'{v:PV}{V:Value}(h:VP Γ sh w v V)(hb:v.cells≠[]):CR Γ sh w v.cells V.cells:=by
 by_cases ht:∃l,v = .tup l
 ·obtain⟨l,rfl⟩:=ht;obtain⟨A,rfl,hA,hc⟩:=h.inv_tup;exact CR.one h
 ·exact h.cells hb (λl e=>ht ⟨l,e⟩)
def PV.cells_nms{v:PV}:∀c∈D1 v.cells,c∈v.nms:=by intro c;cases v<;>simp[PV.cells,D1,PV.nms]
def C26{Γ':Ctx}{sh':Nat->Option Shp}{w':World}(c:∀g,Γ.St g->w'.heap[g]? = w.heap[g]?)(b:∀g,Γ.St g->Γ'.St g){a:Bool}{l:List SV}{V:Value}(h:VP Γ sh w (svV a l) V):VP Γ' sh' w' (svV a l) V:=by
 cases a with
 | true=>
  simp only[svV,aa] at h ⊢;obtain⟨A,rfl,hA,d⟩:=h.inv_agg;refine VP.mk_agg hA λj f=>?_
  obtain⟨U,e,k⟩:=d j f;simp only[x4] at k ⊢;exact⟨U,e,.s _ _ (k.inv_s.mono c b)⟩
 | false=>
  match l with
  | []=>exact .bad _
  | [x]=>exact .s _ _ (h.inv_s.mono c b)
  | _::_::_=>exact .bad _
def Ai9{c:CK}{V:Value}(h:Bt2 c V=true):VP Γ sh w (W5 c) V:=by
 unfold Bt2 at h;split at h
 ·rename_i b;cases b<;>simp at h;exact .bool _
 ·simp only[j0,af] at h;obtain⟨rfl,rfl⟩:=h;exact .int _ _
 ·exact .str _ (by simpa using h)
 ·exact .nsl
 ·exact .s _ _ .nilp
 ·exact .s _ _ .nilm
 ·exact .s _ _ .nilf
 ·cases h
def Uo:∀{a:List CK} {l:List Value},Dn a l=true->∀j (h:j<a.length),∃U,l[j]? = some U/\VP Γ sh w (W5 a[j]) U
 | [],[],_=>λj h=>by simp at h
 | c::r,v::q,h=>by
  simp only[Dn,j0] at h;intro j b;cases j with
  | zero=>exact⟨v,rfl,by simpa using Ai9 h.1⟩
  | succ j=>
   obtain⟨U,e,k⟩:=Uo h.2 j (by simpa using b);exact⟨U,by simpa using e,by simpa using k⟩
 | [],_::_,h=>by simp[Dn] at h
 | _::_,[],h=>by simp[Dn] at h
def Ho{C:Cfg}{t:Nat}(h:(C.ti t).ok=true):∃i z,C.P.info? t=some i/\i.zero=some z/\i.size=(C.ti t).ks.length/\CR Γ sh w ((C.ti t).ks.map W5) z.cells:=by obtain⟨i,d,z,m,p,o,c,l,g,b,f,a⟩:=Dl h;refine⟨i,z,m,o,a,by rw[j7,<-a,c],λj n=>?_⟩;obtain⟨U,e,k⟩:=Uo b j (by simpa using n);exact⟨U,by simpa using e,by simpa using k⟩
def E5{b:Type}:∀(a:List b) (l:List b) (off:Nat),(H7 l off a).length=l.length
 | [],l,off=>by simp[H7]
 | v::a,l,off=>by simp[H7,E5 a]
def O7{b:Type}:∀(a:List b) (l:List b) (off:Nat),off+a.length<=l.length->∀j,(H7 l off a)[j]? = if off<=j/\j<off+a.length then a[j-off]? else l[j]?
 | [],l,off,_,j=>by simp[H7];intro c d;omega
 | v::a,l,off,h,j=>by
  simp only[ad5] at h;rw[H7,O7 a _ _ (by simp;omega)];grind
def RT:∀(a:List Value) (k:Nat) (off:Nat) (A:Array Value),(((a.zipIdx k).foldl (λb (c,j)=>b.setIfInBounds (off+j) c) A).toList=H7 A.toList (off+k) a)
 | [],k,off,A=>by simp[H7]
 | v::a,k,off,A=>by
  rw[List.zipIdx_cons,ah3,RT a (k+1) off,H7];grind
def CR.put{l x:List PV}{A X:Array Value}{off:Nat}(h:CR Γ sh w l A)(hx:CR Γ sh w x X)(hl:off+x.length<=l.length) :
  CR Γ sh w (H7 l off x) (X.zipIdx.foldl (λcs (c,j)=>cs.setIfInBounds (off+j) c) A):=by
 have e:(X.zipIdx.foldl (λcs (c,j)=>cs.setIfInBounds (off+j) c) A).toList=H7 A.toList off X.toList:=by
  have:=RT X.toList 0 off A;rw[ab1] at this;rw[<-this,<-Array.foldl_toList,Array.toList_zipIdx]
 have hAl:A.toList.length=l.length:=by simpa using h.1
 have hXl:X.toList.length=x.length:=by simpa using hx.1
 refine⟨?_,λj hj=>?_⟩
 ·rw[<-o0,e,E5,E5,hAl]
 ·rw[E5] at hj;have g1:(X.zipIdx.foldl (λcs (c,j)=>cs.setIfInBounds (off+j) c) A)[j]? = (H7 A.toList off X.toList)[j]?:=by rw[<-e,Array.getElem?_toList]
  rw[g1,O7 _ _ _ (by omega)];have g2:=O7 x l off hl j;have hj':j<(H7 l off x).length:=by rw[E5];exact hj
  rw[j1 hj'] at g2;by_cases hc:off<=j/\j<off+x.length
  ·rw[ac (by omega)];rw[ac hc] at g2;obtain⟨U,e1,k1⟩:=hx.2 (j-off) (by omega);refine⟨U,by simpa using e1,?_⟩;rw[j1 (by omega)] at g2;simp only[c9] at g2;rw[g2];exact k1
  ·rw[ae (by omega)];rw[ae hc] at g2;obtain⟨U,e1,k1⟩:=h.2 j hj;refine⟨U,by simpa using e1,?_⟩;rw[j1 hj] at g2;simp only[c9] at g2;rw[g2];exact k1
def PR(Γ:Ctx)(sh:Nat->Option Shp)(w:World):List (Nat × PV)->List (Nat × Value)->Prop
 | [],[]=>True
 | (i,v)::r,(a,V)::q=>i=a/\VP Γ sh w v V/\PR Γ sh w r q
 | _,_=>False
def Wj:∀(b l:List PV) (off:Nat),∀c∈D1 (H7 l off b),c∈D1 l\/c∈D1 b
 | [],l,off,c,h=>.inl (by simpa[H7] using h)
 | v::b,l,off,c,h=>by
  rw[H7] at h;rcases Wj b _ _ c h with h|h
  ·obtain⟨j,d,a⟩:=C8.1 h;rw[s8] at a;split at a
   ·exact .inr (by simp only[D1,o7];exact .inl a)
   ·exact .inl (C8.2 ⟨j,by simpa using d,a⟩)
  ·exact .inr (by simp only[D1,o7];exact .inr h)
def Ei{place:Nat->Option (Nat × Nat)}{place':Nat->Option (Nat × Nat)}(k:∀i off size,place i=some (off,size)->0<size->place' i=some (off,size)) :
  ∀{parts:List (Nat × PV)} {n:List (Nat × Value)} {cells out:List PV} {A:Array Value},Dt place cells parts=some out->CR Γ sh w cells A->PR Γ sh w parts n->
   ∃B,ad8 place' A n=some B/\CR Γ sh w out B/\∀c∈D1 out,c∈D1 cells\/∃p∈parts,c∈p.2.nms
 | [],[],cells,out,A,h,b,_=>by
  simp only[Dt,c9] at h;subst h;exact⟨A,rfl,b,λc b=>.inl b⟩
 | (i,v)::r,(z,V)::q,cells,out,A,h,b,d=>by
  obtain⟨rfl,y,d⟩:=d;simp only[Dt] at h;split at h
  ·rename_i off size l;split at h
   ·rename_i a;simp only[j0,af] at a;obtain⟨⟨m,o⟩,t⟩:=a;have j:v.cells≠[]:=by intro e;rw[e] at m;simp at m;omega
    have f:=y.cells' j;obtain⟨B,e,u,x⟩:=Ei k h (b.put f t) d;refine⟨B,?_,u,λc g=>?_⟩
    ·simp only[ad8,k i off size l o];rw[ae,e];simp only[aa2,af,not_or];rw[f.1,b.1];omega
    ·rcases x c g with h|⟨p,k,b⟩
     ·rcases Wj _ _ _ c h with h|h
      ·grind
      ·exact .inr ⟨(i,v),by simp,PV.cells_nms c h⟩
     grind
   ·cases h
  ·cases h
 | [],_::_,_,_,_,_,_,d=>d.elim
 | _::_,[],_,_,_,_,_,d=>by simp[PR] at d
def Sk(a:List CK):D1 (a.map W5)=[]:=by
 induction a with
 | nil=>rfl
 | cons c r b=>cases c<;>simp[D1,W5,PV.nms,b]
def GN{P:Program}{t:Nat}{d:TypeDesc}(h:P.underlying t=some d):∃i,P.info? t=some i:=by unfold Program.underlying at h;grind
def SK{P:Program}{d t:Nat}{b:List CK}(h:PA P d t=some b):∃i,P.info? t=some i:=by
 cases d with
 | zero=>simp[PA] at h
 | succ d=>
  unfold PA at h;cases a:P.underlying t with
  | none=>simp[a] at h
  | some x=>exact GN a
def Ar2{P:Program}{d:Nat}:∀{e:List Field} {off:Nat} {g:List CK},ksF (PA P d) e off=some g->∀f∈e,∃i,P.info? f.type=some i
 | [],_,_,_,f,c=>by simp at c
 | x::r,off,g,h,f,c=>by
  simp only[ksF] at h;split at h
  ·split at h
   ·rename_i a j;split at h
    ·rename_i b k;rcases af7.1 c with rfl|c
     ·exact SK j
     ·exact Ar2 k f c
    grind
   ·cases h
  ·cases h
def ST{a b:Type}{f:a->Option b}{g:a->b}:∀(l:List a),(∀x∈l,f x=some (g x))->l.mapM f=some (l.map g)
 | [],_=>rfl
 | x::r,h=>by
  rw[List.mapM_cons,h x (by simp),ST r (λy c=>h y (by simp[c]))];rfl
def Az0{C:Cfg}{t:Nat}(h:0<Ci1 C t):∃i,C.P.info? t=some i/\i.size=Ci1 C t:=by
 unfold Ci1 at h ⊢;split at h
 ·rename_i a;obtain⟨i,b,c,_⟩:=L6 a;grind
 ·omega
def Dv2{C:Cfg}{t:Nat}(h:(C.ti t).ok=true):PA C.P 20 t=some (C.ti t).ks:=by simp only[Cfg.ti,Do3] at h ⊢;grind
def Xl{C:Cfg}{t:Nat}{parts:List (Nat × PV)}{ps:Array (Nat × Value)}{k:PV->Option R}(h:CG C t parts k=some r)(u:PR Γ (A3 H) w parts ps.toList)(N:∀p∈parts,∀c∈p.2.nms,c<H.length) :
  ∃v,k v=some r/\QV0 C.P Γ H w (Instr.build t ps) v:=by
 unfold CG at h;split at h
 ·rename_i o;obtain⟨i,z,a,O,S,y⟩:=Ho (Γ:=Γ) (sh:=A3 H) (w:=w) o;split at h
  ·rename_i T q;obtain⟨F,D,rfl⟩:=ED q;dsimp only at h;split at h
   ·rename_i out l;have m:∀f∈F.toList,∃i,C.P.info? f.type=some i:=by
     have:=Dv2 o;unfold PA at this;rw[D] at this;exact Ar2 this
    let g:Field->Nat × Nat:=λf=>(f.offset,((C.P.info? f.type).map (·.size)).getD 0)
    have Q:F.toList.mapM (λf=>(C.P.info? f.type).map λi=>(f.offset,i.size))=some (F.toList.map g):=ST _ λf l=>by
     obtain⟨i,a⟩:=m f l;simp[g,a]
    obtain⟨B,I,x,J⟩:=Ei (place':=λj=>((F.toList.map g).toArray)[j]?) (λj off size A K=>by
     simp only[p6,ah6,o9] at A;obtain⟨f,l,M⟩:=A;simp only[ai0,ad3] at M;obtain⟨rfl,rfl⟩:=M;obtain⟨i,a,L⟩:=Az0 K;simp only[aa5,p6,l,ab9,g,a,ag8,L]) l y u
    refine⟨_,h,.mk0 (λc d=>?_) (VP.mk_agg x.1 x.2) λw'=>run_build w' t ps B ?_⟩
    ·rcases J c (by simpa[PV.nms] using d) with h|⟨p,u,d⟩
     ·rw[Sk] at h;simp at h
     ·exact N p u c d
    ·simp only[ai4,a,D,O,Q];exact I
   ·cases h
  ·rename_i n e q;dsimp only at h;split at h
   ·rename_i out l;have D:=Jn q;have b:∃G,C.P.info? e=some G:=by
     have:=Dv2 o;unfold PA at this;rw[D] at this;dsimp only at this;split at this
     ·rename_i P;exact SK P
     ·cases this
    obtain⟨G,b⟩:=b;obtain⟨B,I,x,J⟩:=Ei (place':=λj=>some (j*G.size,G.size)) (λj off size A K=>by
     simp only[c9,ad3] at A;obtain⟨rfl,rfl⟩:=A;obtain⟨i,a,L⟩:=Az0 K;rw[b] at a;simp only[c9] at a;subst a;rw[L]) l y u
    refine⟨_,h,.mk0 (λc d=>?_) (VP.mk_agg x.1 x.2) λw'=>run_build w' t ps B ?_⟩
    ·rcases J c (by simpa[PV.nms] using d) with h|⟨p,u,d⟩
     ·rw[Sk] at h;simp at h
     ·exact N p u c d
    ·simp only[ai4,a,D,O,b];exact I
   ·cases h
  ·cases h
 ·cases h
def An4{C:Cfg}{f d:Nat}{x:PV}{X:Value}{k:PV->Option R}(hH:HR Γ H w)(h:RF C f d x H k=some r)(J:VP Γ (A3 H) w x X) :
  ∃v,k v=some r/\QV C.P Γ H w (convert f d X) v:=by
 unfold RF at h;split at h
 ·rename_i k1 kd Q n t u;obtain rfl:=J.inv_int;refine⟨_,h,.val rfl (.int _ _) λw' I=>?_⟩;have Y:=OA u;have hk:C.P.intKind d=kd:=by simp[Program.intKind,Y]
  have:=run_convert_int (P:=C.P) (w:=w') f d Q n (by rw[OA t];rfl) (by rw[hk];exact Y);rw[hk] at this;exact this
 ·rename_i l t u;obtain⟨s,rfl,rfl⟩:=J.inv_str;refine⟨_,h,.val rfl (.str s rfl) λw' I=>?_⟩;simp[convert,run_underlying (Cj t),run_underlying (Cj u)]
 ·rename_i k1 Q n t u;obtain rfl:=J.inv_int;refine⟨_,h,.val rfl (.str (aj7 n) rfl) λw' I=>?_⟩;exact run_convert_int_string w' f d Q n (by rw[OA t];rfl) (Cj u)
 ·rename_i v e t u;split at h
  ·rename_i c D y;obtain⟨h3,h4⟩:=C9 h;obtain⟨a,cap,rfl,W,hm,A,q⟩:=(AJ (C:=C) hH J y).ex;have B:∀w':World,(convert f d (.slice a c.length cap)).run C.P w'=(Conv.bytesToString (.slice a c.length cap)).run C.P w':=
    λw'=>run_convert_bytes_string w' f d e a _ cap (L0 t) (OA D) (Cj u)
   have O:∀i (Z:i<c.length),∃n:Int,c[i]=[.int .u8 n]:=λi Z=>by
    have:=x3.1 h3 (c[i]) (ad4 Z);unfold Qg at this;grind
   let p:List Int:=c.map λel=>(el.getD 0 .nilp).gI
   have F:(p.foldl (λr n=>r.push (ad0 n.toNat)) ah1).data.toList=c.map Nx:=by
    have key:∀(l:List Int) (b:ByteArray),(l.foldl (λr n=>r.push (ad0 n.toNat)) b).data.toList=b.data.toList++l.map λn=>ad0 n.toNat:=by
     intro l
     induction l with
     | nil=>intro b;simp
     | cons n l ih=>intro b;rw[ah3,ih];simp[ByteArray.push]
    rw[key];simp only[p,ae1];rfl
   refine⟨_,h4,.val rfl (.str (p.foldl (λr n=>r.push (ad0 n.toNat)) ah1) F) λw' I=>?_⟩;rw[B w'];cases a with
   | none=>
    have a0:=A rfl;have:c=[]:=k9.1 (by omega);subst this;rfl
   | some a=>
    have z:p.length=c.length:=by simp[p]
    rw[<-z];refine run_bytesToString w' a p.length cap p ?_;have:=run_loadCells_list (P:=C.P) w' a (p.map (ai5 .u8)) (λj v K=>?_)
    ·simpa using this
    ·have m:j<c.length:=by
      have:=(j2.1 K).1;simpa[p] using this
     have L:c≠[]:=by rintro rfl;simp at m
     obtain⟨g,o,sz,V,N,hc⟩:=q L;simp only[c9] at V;subst V;obtain⟨n,G⟩:=O j m;have M:sz=1:=by rw[<-N j m,G];rfl
     subst M;obtain⟨U,S,T⟩:=hc j m 0 (by rw[G];simp);simp only[G,o8] at T;have:=T.inv_int;subst this;rw[Nat.mul_one,ab1] at S;rw[N2];refine(LA I S).trans ?_;have:v = .int .u8 n:=by
      simp only[p,ae1,p6,j1 m,ab9,ai0,G,c9] at K;exact K.symm
     rw[this]
  ·cases h
 ·cases h
end
def Je(C:Cfg):Option Shp->Prop
 | some (.arr _ e _ _)=>Ge C e=true
 | some _=>True
 | none=>False
structure Stp (C:Cfg) (Γ:Ctx) (H:List Blk) (w:World) (Φ:Nat->Prop) (Γ':Ctx) (H':List Blk) (w':World) (Φ':Nat->Prop):Prop where
 os:w'.os=w.os
 tape:w'.tape=w.tape
 output:w'.output=w.output
 size:w.heap.size<=w'.heap.size
 sub:∀g,Γ.St g->Γ'.St g
 stnew:∀g,Γ'.St g->Γ.St g\/w.heap.size<=g
 own:∀b g,Γ'.nm b=some g->(b<H.length/\Γ.nm b=some g)\/w.heap.size<=g
 foot:∀g,Φ' g->Φ g\/w.heap.size<=g
 frame:∀g,g<w.heap.size->(∀b,Γ.nm b≠some g)->¬ Φ g->w'.heap[g]? = w.heap[g]?
 yv:Γ'.yv=Γ.yv
 len:H.length<=H'.length
 keep:∀b,b<H.length->Je C (A3 H b)->Γ'.nm b=Γ.nm b/\A3 H' b=A3 H b/\∀g,Γ.nm b=some g->w'.shape? g=w.shape? g
def Stp.refl{C:Cfg}{Γ:Ctx}{H:List Blk}{w:World}{Φ:Nat->Prop}(hH:HR Γ H w):Stp C Γ H w Φ Γ H w Φ where
 os:=rfl
 tape:=rfl
 output:=rfl
 size:=j4 _
 sub:=λ_ h=>h
 stnew:=λ_ h=>.inl h
 own:=λb g h=>.inl ⟨(hH.lt b g h).1,h⟩
 foot:=λ_ h=>.inl h
 frame:=λ_ _ _ _=>rfl
 yv:=rfl
 len:=j4 _
 keep:=λ_ _ _=>⟨rfl,rfl,λ_ _=>rfl⟩
def Stp.trans{C:Cfg}{Γ Γ' Γ'':Ctx}{H H' H'':List Blk}{w w' w'':World}{Φ Φ' Φ'':Nat->Prop}(h:Stp C Γ H w Φ Γ' H' w' Φ')(k:Stp C Γ' H' w' Φ' Γ'' H'' w'' Φ''):Stp C Γ H w Φ Γ'' H'' w'' Φ'' where
 os:=k.os.trans h.os
 tape:=k.tape.trans h.tape
 output:=k.output.trans h.output
 size:=ac2 h.size k.size
 sub:=λg hg=>k.sub g (h.sub g hg)
 stnew:=λg hg=>by
  rcases k.stnew g hg with hg|hg
  ·exact h.stnew g hg
  ·exact .inr (ac2 h.size hg)
 own:=λb g hg=>by
  rcases k.own b g hg with⟨_,hg⟩|hg
  ·exact h.own b g hg
  ·exact .inr (ac2 h.size hg)
 foot:=λg hg=>by
  rcases k.foot g hg with hg|hg
  ·exact h.foot g hg
  ·exact .inr (ac2 h.size hg)
 frame:=λg hg hn hp=>by
  rw[k.frame g (ab4 hg h.size) (λb hb=>by rcases h.own b g hb with⟨_,e⟩|e;exact hn b e;omega) (λhp'=>by rcases h.foot g hp' with e|e;exact hp e;omega),h.frame g hg hn hp]
 yv:=k.yv.trans h.yv
 len:=ac2 h.len k.len
 keep:=λb hb hf=>by
  obtain⟨e1,e2,e3⟩:=h.keep b hb hf;obtain⟨f1,f2,f3⟩:=k.keep b (ab4 hb h.len) (by rw[e2];exact hf);grind
structure HI {σ:Type} (I:σ->(Nat->Prop)->(Nat->Prop)->World->Prop):Prop where
 foot:∀s St Φ w,I s St Φ w->∀g,Φ g->g<w.heap.size/\¬St g
 mono:∀s St Φ w St' w',I s St Φ w->(∀g,St g->St' g)->(∀g,St' g->¬ Φ g)->(∀g,St' g->g<w'.heap.size)->(∀g,St g\/Φ g->w'.heap[g]? = w.heap[g]?)->w.heap.size<=w'.heap.size->
  w'.os=w.os->w'.tape=w.tape->w'.output=w.output->I s St' Φ w'
structure SI {σ:Type} (C:Cfg) (I:σ->(Nat->Prop)->(Nat->Prop)->World->Prop) (Γ:Ctx) (Φ:Nat->Prop) (st:St σ) (tmps:Array Value) (w:World):Prop where
 hr:HR Γ st.hp w
 sr:SR Γ st.hp w st.sl tmps
 g:GOK C Γ.St w
 inv:I st.s Γ.St Φ w
 dis:∀b g,Γ.nm b=some g->¬ Φ g
def Ctx.upd(Γ:Ctx)(b g:Nat):Ctx:={ Γ with nm:=λc=>if c=b then some g else Γ.nm c }
section
variable {L : Ctx} {H : List Blk} {w w' : World} {R : Type} {r : R} {C : Cfg}
def Q1{b:Nat}{T:List Blk}(h:b<H.length):A3 (H++T) b=A3 H b:=by simp[A3,p5 h]
def J0{x:Blk}:A3 (H++[x]) H.length=some x.shp:=by simp[A3]
def UC{b c:Nat}{x:Blk}(h:b<H.length):A3 (H.set b x) c=if c=b then some x.shp else A3 H c:=by simp only[A3,List.getElem?_set];grind
def Blk.kill_shp(b:Nat)(x:Blk):(x.kill b).shp=x.shp:=by cases x<;>rfl
def OD(b c:Nat):A3 (H.map (Blk.kill b)) c=A3 H c:=by
 simp only[A3,p6,ah6]
 congr 1
 funext x
 exact Blk.kill_shp b x
def H8{o:Obj}(a:w'.heap=w.heap.push o){g:Nat}(h:g<w.heap.size):w'.heap[g]? = w.heap[g]?:=by grind
def G9{o:Obj}(a:w'.heap=w.heap.push o):w'.heap[w.heap.size]? = some o:=by grind
def F3{g:Nat}(h:w'.heap[g]? = w.heap[g]?):w'.shape? g=w.shape? g:=by simp[aa1,h]
def Ni{x:Blk}{o:Obj}(d:HR L H w)(e:w'.heap=w.heap.push o):Am L (A3 H) w (L.upd H.length w.heap.size) (A3 (H++[x])) w' (· < H.length) where
 st:=λg c=>H8 e (d.stlt g c)
 sub:=λ_ h=>h
 nm:=λb a=>by simp only[Ctx.upd];rw[ae (by omega)]
 shp:=λb a=>Q1 a
 hs:=λb g a c=>F3 (H8 e (d.lt b g c).2.1)
 yv:=rfl
def Co5{x:Blk}{o:Obj}(d:HR L H w)(m:w'.heap=w.heap.push o)(u:BR (L.upd H.length w.heap.size) (A3 (H++[x])) w' H.length x)(p:∀c∈x.nms,c<H.length+1) :
  HR (L.upd H.length w.heap.size) (H++[x]) w':=by
 have M:=Ni (x:=x) d m;have t:w'.heap.size=w.heap.size+1:=by rw[m];simp
 refine⟨λb n g i j=>?_,λb g h=>?_,λg l=>?_,λb k c f=>?_,λb k=>?_⟩
 ·simp only[Ctx.upd] at i j;split at i<;>split at j
  ·omega
  ·simp only[c9] at i;have:=(d.lt n g j).2.1;omega
  ·simp only[c9] at j;have:=(d.lt b g i).2.1;omega
  ·exact d.inj b n g i j
 ·simp only[Ctx.upd] at h;split at h
  ·simp only[c9] at h;subst h;refine⟨by simp;omega,by omega,λq=>?_⟩;have:=d.stlt _ q;omega
  ·have:=d.lt b g h;exact⟨by simp;omega,by omega,this.2.2⟩
 ·have:=d.stlt g l;omega
 ·rw[j6,x9];rw[j6,x9] at k;by_cases e:b=H.length
  ·subst e;simp at f;exact p c f
  ·have a:b<H.length:=by omega
   rw[p7 a] at f;have:=d.nms b a c f;omega
 ·rw[j6,x9] at k;by_cases e:b=H.length
  ·subst e;simpa using u
  ·have a:b<H.length:=by omega
   rw[p7 a];exact(d.blk b a).mono M (M.nm b a) (λg l=>H8 m (d.lt b g l).2.1) (λc f=>d.nms b a c f)
def B41{x:Blk}{o:Obj}{f:Nat->Prop}(e:HR L H w)(d:w'.heap=w.heap.push o)(i:w'.os=w.os)(j:w'.tape=w.tape)(k:w'.output=w.output) :
  Stp C L H w f (L.upd H.length w.heap.size) (H++[x]) w' f where
 os:=i
 tape:=j
 output:=k
 size:=by rw[d];simp
 sub:=λ_ h=>h
 stnew:=λ_ h=>.inl h
 own:=λb g h=>by
  simp only[Ctx.upd] at h;split at h
  ·grind
  ·exact .inl ⟨(e.lt b g h).1,h⟩
 foot:=λ_ h=>.inl h
 frame:=λg c _ _=>H8 d c
 yv:=rfl
 len:=by simp
 keep:=λb a l=>by
  have M:=Ni (x:=x) e d;exact⟨M.nm b a,M.shp b a,λg c=>M.hs b g a c⟩
def Ze(x:Blk)(c:HR L H w):Am L (A3 H) w L (A3 (H++[x])) w (· < H.length) where
 st:=λ_ _=>rfl
 sub:=λ_ h=>h
 nm:=λ_ _=>rfl
 shp:=λb a=>Q1 a
 hs:=λ_ _ _ _=>rfl
 yv:=rfl
def Bd4{x:Blk}(f:HR L H w)(l:x.nms=[])(j:BR L (A3 (H++[x])) w H.length x):HR L (H++[x]) w:=by
 have M:=Ze x f;refine⟨f.inj,λb g h=>?_,f.stlt,λb j c i=>?_,λb d=>?_⟩
 ·have:=f.lt b g h;grind
 ·rw[j6,x9] at j ⊢;by_cases e:b=H.length
  ·grind
  ·have d:b<H.length:=by omega
   rw[p7 d] at i;have:=f.nms b d c i;omega
 ·rw[j6,x9] at d;by_cases e:b=H.length
  ·grind
  ·have a:b<H.length:=by omega
   rw[p7 a];exact(f.blk b a).mono M rfl (λg k=>rfl) (λc i=>f.nms b a c i)
def Ab6{x:Blk}{a:Nat->Prop}(c:HR L H w):Stp C L H w a L (H++[x]) w a where
 os:=rfl
 tape:=rfl
 output:=rfl
 size:=j4 _
 sub:=λ_ h=>h
 stnew:=λ_ h=>.inl h
 own:=λb g h=>.inl ⟨(c.lt b g h).1,h⟩
 foot:=λ_ h=>.inl h
 frame:=λ_ _ _ _=>rfl
 yv:=rfl
 len:=by simp
 keep:=λb d e=>⟨rfl,Q1 d,λ_ _=>rfl⟩
def GOK.mono{St St':Nat->Prop}(h:GOK C St w)(hs:∀g,St g->w'.heap[g]? = w.heap[g]?)(hsub:∀g,St g->St' g):GOK C St' w':=
 ⟨λg k zs hg=>by
  obtain⟨h1,e,x,h2⟩:=h.1 g k zs hg;exact⟨hsub g h1,e,x,by rw[hs g h1];exact h2⟩,λg hg=>by
  obtain⟨h1,m,h2⟩:=h.2 g hg;exact⟨hsub g h1,m,by rw[<-h2];simp[ab8,hs g h1]⟩⟩
def Stp.st{Φ Φ':Nat->Prop}{Γ':Ctx}{H':List Blk}(h:Stp C L H w Φ Γ' H' w' Φ')(hH:HR L H w)(hΦ:∀g,Φ g->¬L.St g)(g:Nat)(hg:L.St g):w'.heap[g]? = w.heap[g]?:=
 h.frame g (hH.stlt g hg) (λb hb=>(hH.lt b g hb).2.2 hg) (λhp=>hΦ g hp hg)
def SI.step{σ:Type}{I:σ->(Nat->Prop)->(Nat->Prop)->World->Prop}(hI:HI I){Φ:Nat->Prop}{st:St σ}{tmps:Array Value}{Γ':Ctx}{H':List Blk}(S:SI C I L Φ st tmps w)(h:Stp C L st.hp w Φ Γ' H' w' Φ)
  (hΦ:∀g,Φ g->w'.heap[g]? = w.heap[g]?) (hr:HR Γ' H' w') {sl':List PV} {tmps':Array Value} (sr:SR Γ' H' w' sl' tmps') :
  SI C I Γ' Φ { sl:=sl',hp:=H',s:=st.s } tmps' w':=by
 have hf:=hI.foot _ _ _ _ S.inv;have hst:=h.st S.hr (λg hg=>(hf g hg).2);refine⟨hr,sr,S.g.mono hst h.sub,hI.mono _ _ _ _ _ _ S.inv h.sub (λg hg hp=>?_) hr.stlt (λg hg=>?_) h.size h.os h.tape h.output,λb g hb hp=>?_⟩
 ·rcases h.stnew g hg with hg|hg
  ·exact(hf g hp).2 hg
  ·have:=(hf g hp).1;omega
 ·rcases hg with hg|hg
  ·exact hst g hg
  ·exact hΦ g hg
 ·rcases h.own b g hb with⟨_,e⟩|e
  ·exact S.dis b g e hp
  ·have:=(hf g hp).1;omega
def SR.put{sl:List PV}{tmps:Array Value}(h:SR L H w sl tmps)(o:Oper){v:PV}{V:Value}(hv:VP L (A3 H) w v V)(hn:∀c∈v.nms,c<H.length){ds:List Deferred} :
  SR L H w (Cf o.dst v sl) (({ tmps:=tmps,defers:=ds }:Act).put o.dst V).tmps:=by
 cases hd:o.dst with
 | none=>exact h
 | some d=>
  simp only[Cf,Act.put];refine⟨by simp[h.size],λc hc=>?_,λi hi=>?_⟩
  ·obtain⟨j,hj,hc⟩:=C8.1 hc;rw[s8] at hc;split at hc
   ·exact hn c hc
   ·exact h.nms c (C8.2 ⟨j,by simpa using hj,hc⟩)
  ·have hi':i<sl.length:=by simpa using hi
   rw[s8];by_cases e:d=i
   ·subst e;rw[ac rfl];exact⟨V,by rw[w8,ac rfl,ac (by rw[h.size];exact hi')],hv⟩
   ·rw[ae e];obtain⟨U,e1,e2⟩:=h.slot i hi';exact⟨U,by rw[w8,ae e];exact e1,e2⟩
end
section
variable {Γ : Ctx} {H : List Blk} {w : World} {R : Type} {r : R} {C : Cfg}
abbrev noΦ:Nat->Prop:=λ_=>False
def WV(C:Cfg)(Γ:Ctx)(H:List Blk)(w:World)(sl:List PV)(a:Array Value)(m:Sem Value)(v:PV)(b:List PV)(H':List Blk):Prop:=
 ∃V w' Γ',m.run C.P w = .ok V w'/\Stp C Γ H w noΦ Γ' H' w' noΦ/\HR Γ' H' w'/\(SR Γ H w sl a->SR Γ' H' w' b a)/\VP Γ' (A3 H') w' v V/\∀c∈v.nms,c<H'.length
def QV.wv{m:Sem Value}{v:PV}{sl:List PV}{tmps:Array Value}(hH:HR Γ H w)(h:QV C.P Γ H w m v):WV C Γ H w sl tmps m v sl H:=by obtain⟨hn,V,hV,hq⟩:=h;exact⟨V,w,Γ,hq w (Ext.refl w),Stp.refl hH,hH,id,hV,hn⟩
def SR.grow{Γ':Ctx}{T:List Blk}{w':World}{sl:List PV}{tmps:Array Value}(M:Am Γ (A3 H) w Γ' (A3 (H++T)) w' (· < H.length))(h:SR Γ H w sl tmps):SR Γ' (H++T) w' sl tmps:=
 h.mono M λc hc=>⟨h.nms c hc,by rw[j6];have:=h.nms c hc;omega⟩
def CR.mono{Γ':Ctx}{H':List Blk}{w':World}{ok:Nat->Prop}{l:List PV}{A:Array Value}(M:Am Γ (A3 H) w Γ' (A3 H') w' ok)(h:CR Γ (A3 H) w l A)(hn:∀c∈D1 l,ok c):CR Γ' (A3 H') w' l A:=
 ⟨h.1,λj hj=>by
  obtain⟨U,e,k⟩:=h.2 j hj;exact⟨U,e,k.mono M λc hc=>hn c (C8.2 ⟨j,hj,hc⟩)⟩⟩
def Fi{m:Sem Value}{x:Blk}{o:Obj}{w':World}{V:Value}{v:PV}{sl:List PV}{a:Array Value}(b:HR Γ H w)(h:m.run C.P w = .ok V w')(d:w'.heap=w.heap.push o)(e:w'.os=w.os)(f:w'.tape=w.tape)(g:w'.output=w.output)
  (k:BR (Γ.upd H.length w.heap.size) (A3 (H++[x])) w' H.length x) (i:∀c∈x.nms,c<H.length+1) (j:VP (Γ.upd H.length w.heap.size) (A3 (H++[x])) w' v V) (hvn:∀c∈v.nms,c<H.length+1) :
  WV C Γ H w sl a m v sl (H++[x]):=
 ⟨V,w',_,h,B41 b d e f g,Co5 b d k i,SR.grow (Ni b d),j,by simpa using hvn⟩
def Am.trans{Γ1 Γ2 Γ3:Ctx}{s1 s2 s3:Nat->Option Shp}{w1 w2 w3:World}{ok ok':Nat->Prop}(M:Am Γ1 s1 w1 Γ2 s2 w2 ok)(N:Am Γ2 s2 w2 Γ3 s3 w3 ok')(hok:∀b,ok b->ok' b):Am Γ1 s1 w1 Γ3 s3 w3 ok where
 st:=λg hg=>(N.st g (M.sub g hg)).trans (M.st g hg)
 sub:=λg hg=>N.sub g (M.sub g hg)
 nm:=λb hb=>(N.nm b (hok b hb)).trans (M.nm b hb)
 shp:=λb hb=>(N.shp b (hok b hb)).trans (M.shp b hb)
 hs:=λb g hb hg=>(N.hs b g (hok b hb) ((M.nm b hb).trans hg)).trans (M.hs b g hb hg)
 yv:=N.yv.trans M.yv
def Am.refl{Γ:Ctx}{s:Nat->Option Shp}{w:World}{ok:Nat->Prop}:Am Γ s w Γ s w ok:=
 ⟨λ_ _=>rfl,λ_ h=>h,λ_ _=>rfl,λ_ _=>rfl,λ_ _ _ _=>rfl,rfl⟩
def Af(f:Nat->Nat × Nat):∀(cells:List PV) (i:Nat) (H:List Blk) (a:List Value),HR Γ H w->cells.length=a.length->(∀j (h:j<cells.length),∃U,a[j]? = some U/\VP Γ (A3 H) w (cells[j]) U)->(∀c∈D1 cells,c<H.length)->
  ∃T,(I8 f cells i H).2=H++T/\HR Γ (H++T) w/\Stp C Γ H w noΦ Γ (H++T) w noΦ/\Am Γ (A3 H) w Γ (A3 (H++T)) w (· < H.length)/\(I8 f cells i H).1.length=a.length/\
   (∀j (h:j<(I8 f cells i H).1.length),∃U,a[j]? = some U/\VP Γ (A3 (H++T)) w ((I8 f cells i H).1[j]) U)/\∀c∈D1 (I8 f cells i H).1,c<(H++T).length
 | [],i,H,a,g,q,_,_=>⟨[],by simp[I8],by simpa using g,by simpa using Stp.refl g,by simpa using Am.refl,by simpa[I8] using q,by simp[I8],by simp[I8,D1]⟩
 | v::cells,i,H,[],g,q,_,_=>by simp at q
 | v::cells,i,H,A::a,g,q,d,I=>by
  have J:VP Γ (A3 H) w v A:=by
   obtain⟨U,e,k⟩:=d 0 (by simp);grind
  have t:cells.length=a.length:=by simpa using q
  have p:∀j (h:j<cells.length),∃U,a[j]? = some U/\VP Γ (A3 H) w (cells[j]) U:=λj o=>by
   obtain⟨U,e,k⟩:=d (j+1) (by simpa using o);grind
  have D:∀c∈v.nms,c<H.length:=λc h=>I c (by simp only[D1,o7];exact .inl h)
  have m:∀c∈D1 cells,c<H.length:=λc h=>I c (by simp only[D1,o7];exact .inr h)
  by_cases l:v = .nsl
  ·subst l;have B:HR Γ (H++[.arr true (f i).1 (f i).2 []]) w:=Bd4 g rfl (.inl ⟨rfl,rfl⟩);have F:=Ze (.arr true (f i).1 (f i).2 []) g;obtain⟨T,u,x,y,n,z,K,G⟩:=Af f cells (i+1) (H++[.arr true (f i).1 (f i).2 []]) a B t (λj o=>by
    obtain⟨U,e,k⟩:=p j o;exact⟨U,e,k.mono F λc d=>m c (C8.2 ⟨j,o,d⟩)⟩) (λc d=>by have:=m c d;simp;omega)
   have key:I8 f (.nsl::cells) i H=(.fl H.length::(I8 f cells (i+1) (H++[.arr true (f i).1 (f i).2 []])).1,(I8 f cells (i+1) (H++[.arr true (f i).1 (f i).2 []])).2):=rfl;rw[key];rw[aa7] at u x y n G;have L:=n;refine⟨[.arr true (f i).1 (f i).2 []]++T,u,x,(Ab6 g).trans y,F.trans n (λb M=>by simp;omega),by simpa using z,λj o=>?_,λc d=>?_⟩
   ·cases j with
    | zero=>
     refine⟨A,rfl,?_⟩;rw[J.inv_nsl];refine .flv _ (f i).1 (f i).2 ?_;rw[<-aa7,Q1 (by simp),J0];rfl
    | succ j=>
     grind
   ·simp only[D1,o7,PV.nms,List.mem_singleton] at d;grind
  ·have key:I8 f (v::cells) i H=(v::(I8 f cells (i+1) H).1,(I8 f cells (i+1) H).2):=by
    cases v<;>first|rfl|exact absurd rfl l
   rw[key];obtain⟨T,u,x,y,n,z,K,G⟩:=Af f cells (i+1) H a g t p m;refine⟨T,u,x,y,n,by simpa using z,λj o=>?_,λc d=>?_⟩
   ·cases j with
    | zero=>exact⟨A,rfl,J.mono n D⟩
    | succ j=>
     grind
   ·simp only[D1,o7] at d;grind
def V5(a:Nat):∀(n:Nat) (l:List SV),(T6 a n l).length=n
 | 0,_=>rfl
 | n+1,l=>by simp[T6,V5 a n]
def Cm(a:Nat):∀(n:Nat) (l:List SV),l.length=n*a->∀i (h:i<(T6 a n l).length),(T6 a n l)[i].length=a/\∀j (c:j<(T6 a n l)[i].length),∃d:i*a+j<l.length,(T6 a n l)[i][j]=l[i*a+j]
 | 0,_,_,i,h=>by simp[T6] at h
 | n+1,l,hl,i,h=>by
  have k:a<=l.length:=by rw[hl,o6];omega
  cases i with
  | zero=>
   refine⟨by simp[T6];omega,λj b=>?_⟩;simp[T6] at b;exact⟨by omega,by simp[T6]⟩
  | succ i=>
   have c:i<(T6 a n (l.drop a)).length:=by simpa[T6] using h
   obtain⟨f,g⟩:=Cm a n (l.drop a) (by rw[ag6,hl,o6];omega) i c;refine⟨by simpa[T6] using f,λj b=>?_⟩;obtain⟨d,e⟩:=g j (by simpa[T6] using b);rw[ag6] at d;refine⟨by rw[o6];omega,?_⟩;have m:(T6 a (n+1) l)[i+1][j]=(T6 a n (l.drop a))[i][j]'(by simpa[T6] using b):=rfl;grind
def X7{sh:Nat->Option Shp}:∀{l:List PV} {a:List SV} {As:List Value},Qh l=some a->l.length=As.length->(∀j (h:j<l.length),∃U,As[j]? = some U/\VP Γ sh w (l[j]) U)->
  a.length=As.length/\∀j (h:j<a.length),∃U,As[j]? = some U/\VS Γ.St w (a[j]) U
 | [],a,As,h,c,_=>by
  simp only[Qh,c9] at h;grind
 | v::l,a,[],h,c,_=>by simp at c
 | v::l,a,A::As,h,c,d=>by
  simp only[Qh] at h;split at h
  ·rename_i x y b i;simp only[c9] at h;subst h;obtain⟨g,m⟩:=X7 (As:=As) i (by simpa using c) (λj f=>by
    obtain⟨U,e,k⟩:=d (j+1) (by simpa using f);exact⟨U,by simpa using e,by simpa using k⟩)
   refine⟨by simp[g],λj f=>?_⟩;cases j with
   | zero=>
    obtain⟨U,e,k⟩:=d 0 (by simp);refine⟨U,e,?_⟩;simp only[o8] at k ⊢;unfold PV.sv? at b;split at b
    ·simp only[c9] at b;subst b;exact k.inv_s
    ·simp only[c9] at b;subst b;rw[k.inv_nsl];exact .nil _ _
    grind
   | succ j=>
    grind
  ·cases h
def BR.row{sh:Nat->Option Shp}{w':World}{b g e sz n:Nat}{z:Bool}{vs:List SV}{A:Array Value}{rest:Array Value}{Γ':Ctx}(hg:Γ'.nm b=some g)(hh:w'.heap[g]? = some (.cells (A++rest) e (0,0)))(hz:z=true->n≠0)
  (hl:vs.length=n*sz) (hA:vs.length=A.size) (hc:∀j (h:j<vs.length),∃U,A[j]? = some U/\VS Γ'.St w' (vs[j]) U):BR Γ' sh w' b (.arr z e sz (T6 sz n vs)):=by
 refine .inr ⟨λh=>?_,g,_,hg,hh,?_,λi hi=>(Cm sz n vs hl i hi).1,λi hi j hj=>?_⟩
 ·have:=congrArg ae8 h.2;rw[V5] at this;exact hz h.1 this
 ·rw[V5,ag0];omega
 ·obtain⟨h2,e⟩:=(Cm sz n vs hl i hi).2 j hj;obtain⟨U,e1,k⟩:=hc _ h2;refine⟨U,?_,by rw[e];exact k⟩;rw[aa8 (by omega)];exact e1
def KK{e:Nat}{V:Value}{cells:List PV}{k:PV->List Blk->Option R}{sl:List PV}{tmps:Array Value}{m:Sem Value}(o:HR Γ H w)(h:GI C e cells H k=some r)(b:CR Γ (A3 H) w cells V.cells)(L:∀c∈D1 cells,c<H.length)
  (u:m.run C.P w = .ok (.pointer (some ⟨w.heap.size,0,none⟩)) (w.alloc (.cells V.cells e))) :
  ∃v H',k v H'=some r/\WV C Γ H w sl tmps m v sl H':=by
 unfold GI at h;split at h
 ·rename_i N;split at h
  ·rename_i n t O;split at h
   ·rename_i Z p;split at h
    ·rename_i f;refine⟨_,_,h,?_⟩;obtain⟨i,l⟩:=X7 (As:=V.cells.toList) p (by simpa using b.1.symm) (λj d=>by
      obtain⟨U,e,k⟩:=b.2 j d;exact⟨U,by simpa using e,k⟩)
     have a:(w.alloc (.cells V.cells e)).heap=w.heap.push (.cells V.cells e):=rfl;refine Fi o u a rfl rfl rfl (BR.row (g:=w.heap.size) (A:=V.cells) (rest:=#[]) (by simp[Ctx.upd]) (by rw[G9 a];simp) (by simp) ?_ (by simpa using i) (λj d=>?_)) (by simp[Blk.nms]) ?_ (by simp[PV.nms])
     ·rw[i,o0,b.1,f]
     ·obtain⟨U,e,k⟩:=l j d;exact⟨U,by simpa using e,k.mono (λg K=>H8 a (o.stlt g K)) (λ_ h=>h)⟩
     ·have:=VP.ptrA (Γ:=Γ.upd H.length w.heap.size) (w:=w.alloc (.cells V.cells e)) (sh:=A3 (H++[Blk.arr false e (C.ti t).ks.length (T6 (C.ti t).ks.length n Z)])) H.length 0 0 w.heap.size _ _ _ _ J0 (by simp[Ctx.upd]);simpa using this
    ·cases h
   ·cases h
  ·refine⟨_,_,h,?_⟩;obtain⟨T,i,l,z,B,D,F,q⟩:=Af (C:=C) (C.nilT e) cells 0 H V.cells.toList o (by simpa using b.1.symm) (λj d=>by
    obtain⟨U,e,k⟩:=b.2 j d;exact⟨U,by simpa using e,k⟩) L
   rw[i];have a:(w.alloc (.cells V.cells e)).heap=w.heap.push (.cells V.cells e):=rfl;have M:=Ni (x:=.box (I8 (C.nilT e) cells 0 H).1) l a;have key:WV C Γ (H++T) w sl tmps m (.ptr (H++T).length 0 0) sl ((H++T)++[.box (I8 (C.nilT e) cells 0 H).1]):=by
    refine Fi l u a rfl rfl rfl ⟨w.heap.size,V.cells,e,by simp[Ctx.upd],by rw[G9 a],by simpa using D.symm,λj d=>?_⟩ (λc b=>?_) ?_ (by simp[PV.nms])
    ·obtain⟨U,G,I⟩:=F j d;exact⟨U,by simpa using G,I.mono M λc b=>q c (C8.2 ⟨j,d,b⟩)⟩
    ·have:=q c b;omega
    ·exact .ptrB _ 0 w.heap.size J0 (by simp[Ctx.upd])
   obtain⟨y,w',Γ',P,Q,S,W,X,Y⟩:=key;exact⟨y,w',Γ',P,z.trans Q,S,λJ=>W (SR.grow B J),X,Y⟩
 ·cases h
end
section
variable {Y : Ctx} {H : List Blk} {w : World} {R : Type} {r : R} {C : Cfg}
def Ap3{b:Type}(l:List b):∀(n j:Nat),j<n*l.length->((j9 n l).flatten)[j]? = l[j % l.length]?
 | 0,j,h=>by simp at h
 | n+1,j,h=>by
  rw[List.replicate_succ,ac8];by_cases a:j<l.length
  ·rw[p5 a,ag7 a]
  ·rw[s9 (by omega),Ap3 l n (j-l.length) (by rw[o6] at h;omega),<-Nat.mod_eq_sub_mod (by omega)]
def Fr{a:Type}(l:List a)(n:Nat):((j9 n l).flatten).length=n*l.length:=by simp
def Ar9{z:Array Value}{n j:Nat}{U:Value}(b:j<n)(a:0<z.size)(h:z[j % z.size]? = some U):(madeCells z n)[j]? = some U:=by
 have c:j % z.size<z.size:=ah5 _ a;have:z[j % z.size]! = U:=by grind
 simp[madeCells,b,this]
def Ab3{sh:Nat->Option Shp}{a:List PV}{z:Array Value}(h:CR Y sh w a z)(c:0<a.length)(n:Nat):CR Y sh w ((j9 n a).flatten) (madeCells z (n*a.length)):=by refine⟨by rw[size_madeCells,Fr],λj b=>?_⟩;rw[Fr] at b;have d:j % a.length<a.length:=ah5 _ c;obtain⟨U,e,k⟩:=h.2 _ d;refine⟨U,Ar9 b (by rw[h.1];exact c) (by rw[h.1];exact e),?_⟩;have:=Ap3 a n j b;grind
def Ci{P:Program}(w:World){t e:Nat}(len:Nat)(parts:Array (Nat × Value))(cells:Array Value){a:TypeInfo}{z:Value}
  (g:P.underlying t=some (.slice e)) (c:P.info? e=some a) (k:a.zero=some z) (d:len*a.size<=16777216)
  (h:ad8 (λi=>some (i*a.size,a.size)) (madeCells z.cells (len*a.size)) parts.toList=some cells) :
  (w9 t len parts).run P w = .ok (.slice (some ⟨w.heap.size,0,none⟩) len len) (w.alloc (.cells cells e)):=by
 have j:¬len*a.size > 2 ^ 24:=by omega
 by_cases b:len*a.size=0
 ·rw[b] at h;have f:ad8 (λi=>some (i*a.size,a.size)) #[] parts.toList=some cells:=by simpa[madeCells,af9] using h
  simp[w9,run_underlying g,sizeOf,typeInfo,c,b,f,newRow,af9]
 ·have f:ad8 (λi=>some (i*a.size,a.size)) ((Array.range (len*a.size)).map (z.cells[· % z.cells.size]!)) parts.toList=some cells:=h;simp[w9,run_underlying g,sizeOf,typeInfo,zeroValue,c,k,j,b,f,newRow]
def Jx{t len:Nat}{parts:List (Nat × PV)}{ps:Array (Nat × Value)}{k:PV->List Blk->Option R}{sl:List PV}{tmps:Array Value}(G:HR Y H w)(h:Cl C t len parts H k=some r)(S:PR Y (A3 H) w parts ps.toList) :
  ∃v H',k v H'=some r/\WV C Y H w sl tmps (w9 t len ps) v sl H'/\∃V o,(w9 t len ps).run C.P w = .ok V (w.alloc o):=by
 unfold Cl at h;split at h
 ·rename_i e x;dsimp only at h;split at h
  ·rename_i a;simp only[j0,af] at a;obtain⟨⟨a,b⟩,K⟩:=a;split at h
   ·rename_i out J;split at h
    ·rename_i vs y;refine⟨_,_,h,?_⟩;obtain⟨i,z,Q,T,f,q⟩:=Ho (Γ:=Y) (sh:=A3 H) (w:=w) a;obtain⟨_,_,_,L⟩:=L6 a;have u:0<(C.ti e).ks.length:=by rename_i h1 h2;omega
     have I:=Ab3 q (by simpa using u) len;rw[j7] at I;obtain⟨B,D,n,X⟩:=Ei (place':=λj=>some (j*i.size,i.size)) (λj off size m Z=>by rw[f];exact m) J I S;obtain⟨F,N⟩:=X7 (As:=B.toList) y (by simpa using n.1.symm) (λj m=>by
      obtain⟨U,e,k⟩:=n.2 j m;exact⟨U,by simpa using e,k⟩)
     have M:=Ci (P:=C.P) w len ps B (L0 x) Q T (by rw[f];exact b) (by rw[f] at D ⊢;exact D);refine⟨?_,_,_,M⟩;have c:(w.alloc (.cells B e)).heap=w.heap.push (.cells B e):=rfl;have l:B.size=len*(C.ti e).ks.length:=by
      have d:∀{place:Nat->Option (Nat × Nat)} {ps:List (Nat × PV)} {cells out:List PV},Dt place cells ps=some out->out.length=cells.length:=by
       intro place ps
       induction ps with
       | nil=>intro cells out h;simp only[Dt,c9] at h;rw[h]
       | cons p ps W=>
        intro cells out h;obtain⟨i,v⟩:=p;simp only[Dt] at h;split at h
        ·split at h
         ·rw[W h,E5]
         grind
        grind
      rw[n.1,d J,Fr,j7]
     refine Fi G M c rfl rfl rfl (BR.row (g:=w.heap.size) (A:=B) (rest:=#[]) (by simp[Ctx.upd]) (by rw[G9 c];simp) (by simp) ?_ (by simpa using F) (λj m=>?_)) (by simp[Blk.nms]) ?_ (by simp[PV.nms])
     ·rw[F,o0,l]
     ·obtain⟨U,e,k⟩:=N j m;exact⟨U,by simpa using e,k.mono (λg O=>H8 c (G.stlt g O)) (λ_ h=>h)⟩
     ·refine .fl H.length w.heap.size false e (C.ti e).ks.length len len ?_ (by simp) (by simp[Ctx.upd]) (j4 _) (by simp only[maxLen];omega) ?_
      ·rw[J0];simp[Blk.shp,V5]
      ·simp only[aa1,G9 c,l]
    ·cases h
   ·cases h
  ·cases h
 ·cases h
def DO{t:Nat}{l c:PV}{L N:Value}{k:PV->List Blk->Option R}{sl:List PV}{tmps:Array Value}(I:HR Y H w)(h:Eo C t l c H k=some r)(hl:VP Y (A3 H) w l L)(hc:VP Y (A3 H) w c N) :
  ∃v H',k v H'=some r/\WV C Y H w sl tmps (Instr.makeSlice t L N) v sl H':=by
 unfold Eo at h;split at h
 ·rename_i e k1 n k2 m B;obtain rfl:=hl.inv_int;obtain rfl:=hc.inv_int;split at h
  ·rename_i y;split at h
   ·rename_i z' D;obtain⟨G,V⟩:=C9 h;simp only[j0,af,G0] at G;obtain⟨⟨W,X⟩,h5⟩:=G;refine⟨_,_,V,?_⟩;obtain⟨i,d,z,M,hd,Q,p,a0,O,a1,K,f⟩:=Dl y;obtain⟨i',z2,q,u,a2,x⟩:=Ho (Γ:=Y) (sh:=A3 H) (w:=w) y;rw[M] at q;simp only[c9] at q;subst q;rw[Q] at u;simp only[c9] at u;subst u;have A:(i.bytes:Int)*m<=281474976710656:=by
     have Z:m<=68719476736:=by omega
     have h7:(i.bytes:Int)<=512:=by omega
     have h8:(i.bytes:Int)*m<=512*68719476736:=Int.mul_le_mul h7 Z (by omega) (by omega);omega
    have hr:=run_make (P:=C.P) w t e i z (L0 B) M Q k1 k2 n m W X A (by omega);obtain⟨S,T⟩:=X7 (As:=z.cells.toList) D (by simpa using x.1.symm) (λj hj=>by
     obtain⟨U,e,k⟩:=x.2 j hj;exact⟨U,by simpa using e,k⟩)
    have F:z'.length=i.size:=by rw[S,o0,p]
    have o:(w.alloc (.cells (madeCells z.cells (m.toNat*i.size)) e)).heap=w.heap.push (.cells (madeCells z.cells (m.toNat*i.size)) e):=rfl;refine Fi I hr o rfl rfl rfl (.inr ⟨by simp,w.heap.size,_,by simp[Ctx.upd],G9 o,?_,λa J=>?_,λa J b A=>?_⟩) (by simp[Blk.nms]) ?_ (by simp[PV.nms])
    ·rw[ae7,size_madeCells,<-f];exact j5 _ (by omega)
    ·rw[ae0,F,f]
    ·rw[ae7] at J;simp only[ae0] at A ⊢;obtain⟨U,e,k⟩:=T b A;refine⟨U,Ar9 ?_ (by omega) ?_,k.mono (λg hg=>H8 o (I.stlt g hg)) (λ_ h=>h)⟩
     ·have:(a+1)*i.size<=m.toNat*i.size:=j5 _ (by omega);rw[o6] at this;rw[<-f];omega
     ·rw[<-f,<-p,Nat.add_comm,Nat.add_mul_mod_self_right,ag7 (by omega)];simpa using e
    ·refine .fl H.length w.heap.size false e (C.ti e).ks.length n.toNat m.toNat ?_ (by simp) (by simp[Ctx.upd]) (by omega) (by simp only[maxLen];omega) ?_
     ·rw[J0];simp[Blk.shp]
     ·simp only[aa1,G9 o,size_madeCells];rw[f]
   ·cases h
  ·cases h
 ·cases h
def Cx9{t:Nat}{s:ByteArray}{sl:List PV}{tmps:Array Value}(b:HR Y H w)(c:C.P.underlying t=some .string) :
  WV C Y H w sl tmps (Instr.range t (.string s)) (.it H.length) sl (H++[.iter s.data.toList 0]):=by
 have a:(w.iter s 0).heap=w.heap.push (.stringIter s 0):=rfl;refine Fi b (run_range_string w t s c) a rfl rfl rfl ⟨w.heap.size,s,by simp[Ctx.upd],G9 a,rfl⟩ (by simp[Blk.nms]) ?_ (by simp[PV.nms]);exact .it _ _ (by rw[J0];rfl) (by simp[Ctx.upd])
def FX{P:Program}{g pos ty:Nat}{s:ByteArray}(a:w.heap[g]? = some (.stringIter s pos)) :
  (ad9 (.pointer (some ⟨g,0,none⟩)) true ty).run P w=if pos<s.size then .ok (.tuple #[.bool true,.int .i64 pos,.int .i32 (ad1 s pos).1]) { w with heap:=w.heap.setIfInBounds g (.stringIter s (pos+(ad1 s pos).2)) }
   else .ok (.tuple #[.bool false]) w:=by
 by_cases h:pos<s.size
 ·simp[ad9,getObj,setObj,Sem.run,a,h,goInt,ah7]
 ·simp[ad9,getObj,Sem.run,a,h,ah7]
def Ey{b g:Nat}{x y:Blk}{w':World}(l:HR Y H w)(i:H[b]? = some x)(m:Y.nm b=some g)(f:y.shp=x.shp)(a:∀k,k≠g->w'.heap[k]? = w.heap[k]?)(n:w'.shape? g=w.shape? g) :
  Am Y (A3 H) w Y (A3 (H.set b y)) w' (λ_=>True):=by
 have d:=(j2.1 i).1;refine⟨λk j=>a k (λe=>(l.lt b g m).2.2 (e▸j)),λ_ h=>h,λ_ _=>rfl,λc _=>?_,λc k _ j=>?_,rfl⟩
 ·rw[UC d];split
  ·rename_i e;subst e;simp[A3,i,f]
  ·rfl
 ·by_cases e:k=g
  ·subst e;exact n
  ·exact F3 (a k e)
def A04{b g:Nat}{x y:Blk}{w':World}(f:HR Y H w)(n:H[b]? = some x)(o:Y.nm b=some g)(l:y.shp=x.shp)(a:∀k,k≠g->w'.heap[k]? = w.heap[k]?)(u:w'.shape? g=w.shape? g)(m:w.heap.size<=w'.heap.size)
  (v:BR Y (A3 (H.set b y)) w' b y) (t:∀c∈y.nms,c<H.length):HR Y (H.set b y) w':=by
 have M:=Ey f n o l a u;have q:=(j2.1 n).1;refine⟨f.inj,λc k i=>?_,λk i=>ab4 (f.stlt k i) m,λc h d j=>?_,λc h=>?_⟩
 ·have:=f.lt c k i;exact⟨by simpa using this.1,by omega,this.2.2⟩
 ·rw[v8] at h ⊢;rw[s8] at j;split at j
  ·exact t d j
  ·exact f.nms c h d j
 ·rw[v8] at h;rw[s8];split
  ·rename_i e;subst e;exact v
  ·rename_i e;exact(f.blk c h).mono M rfl (λk i=>a k (λp=>e (f.inj b c g o (p▸i)))) (λ_ _=>trivial)
def UK{b g:Nat}{x y:Blk}{w':World}(j:HR Y H w)(p:H[b]? = some x)(l:Y.nm b=some g)(f:y.shp=x.shp)(a:∀k,k≠g->w'.heap[k]? = w.heap[k]?)(q:w'.shape? g=w.shape? g)(i:w.heap.size<=w'.heap.size)
  (m:w'.os=w.os) (n:w'.tape=w.tape) (o:w'.output=w.output):Stp C Y H w noΦ Y (H.set b y) w' noΦ where
 os:=m
 tape:=n
 output:=o
 size:=i
 sub:=λ_ h=>h
 stnew:=λ_ h=>.inl h
 own:=λc k d=>.inl ⟨(j.lt c k d).1,d⟩
 foot:=λ_ h=>.inl h
 frame:=λk _ d _=>a k (λe=>d b (e▸l))
 yv:=rfl
 len:=by simp
 keep:=λc t _=>by
  have M:=Ey j p l f a q;exact⟨rfl,M.shp c trivial,λk d=>M.hs c k trivial d⟩
def Nc{m:Sem Value}{b g:Nat}{x y:Blk}{w':World}{V:Value}{v:PV}{sl:List PV}{f:Array Value}(h:HR Y H w)(u:m.run C.P w = .ok V w')(i:H[b]? = some x)(j:Y.nm b=some g)(d:y.shp=x.shp)
  (a:∀k,k≠g->w'.heap[k]? = w.heap[k]?) (l:w'.shape? g=w.shape? g) (e:w.heap.size<=w'.heap.size) (o:w'.os=w.os) (p:w'.tape=w.tape) (q:w'.output=w.output)
  (B:BR Y (A3 (H.set b y)) w' b y) (z:∀c∈y.nms,c<H.length) (A:VP Y (A3 (H.set b y)) w' v V) (hvn:∀c∈v.nms,c<H.length):WV C Y H w sl f m v sl (H.set b y):=
 ⟨V,w',Y,u,UK h i j d a l e o p q,A04 h i j d a l e B z,λn=>n.mono (Ey h i j d a l) (λc t=>⟨trivial,by simpa using n.nms c t⟩),A,by simpa using hvn⟩
def Dy5{b:Nat}{X:Value}(c:A3 H b=some .iter)(d:VP Y (A3 H) w (.it b) X):∃g,Y.nm b=some g/\X = .pointer (some ⟨g,0,none⟩):=by
 cases d with
 | it _ g h a=>exact⟨g,a,rfl⟩
 | mpv _ g h a=>rw[c] at h;cases h
def Ar0{b ty:Nat}{l:List UInt8}{pos:Nat}{X:Value}(j:HR Y H w)(k:VP Y (A3 H) w (.it b) X)(e:H[b]? = some (.iter l pos)) :
  ∃g s,Y.nm b=some g/\X = .pointer (some ⟨g,0,none⟩)/\w.heap[g]? = some (.stringIter s pos)/\s.data.toList=l:=by
 obtain⟨g,f,rfl⟩:=Dy5 (by simp[A3,e,Blk.shp]) k;obtain⟨c,a⟩:=j2.1 e;have:=j.blk b c;rw[a] at this;obtain⟨m,s,d,h,i⟩:=this;rw[f] at d;cases d;exact⟨g,s,f,rfl,h,i⟩
def As3{b ty:Nat}{l:List UInt8}{pos:Nat}{X:Value}(d:HR Y H w)(i:VP Y (A3 H) w (.it b) X)(e:H[b]? = some (.iter l pos))(c:¬pos<l.length):QV C.P Y H w (ad9 X true ty) (.tup [.s (.bool false)]):=by
 obtain⟨g,s,k,rfl,a,rfl⟩:=Ar0 (ty:=ty) d i e;rw[Tv] at c;refine .mk1 (by simp[PV.nms,D1]) (V:=.tuple #[.bool false]) (VP.mk_tup rfl λj f=>?_) λw' h=>?_
 ·have:j=0:=by simpa using f
  subst this;exact⟨_,rfl,.bool _⟩
 ·rw[FX ((h g (x5.1 a).1).trans a),ae c]
def Di1{b ty:Nat}{l:List UInt8}{pos:Nat}{X:Value}{sl:List PV}{tmps:Array Value}(c:HR Y H w)(o:VP Y (A3 H) w (.it b) X)(e:H[b]? = some (.iter l pos))(h:pos<l.length) :
  WV C Y H w sl tmps (ad9 X true ty) (.tup [.s (.bool true),.s (.int .i64 pos),.s (.int .i32 (ad1 ⟨l.toArray⟩ pos).1)]) sl (H.set b (.iter l (pos+(ad1 ⟨l.toArray⟩ pos).2))):=by
 obtain⟨g,s,d,rfl,f,rfl⟩:=Ar0 (ty:=ty) c o e;rw[Tv] at h;have a:g<w.heap.size:=(c.lt b g d).2.1;have n:(⟨s.data.toList.toArray⟩:ByteArray)=s:=by cases s;simp
 rw[n];have i:=FX (P:=C.P) (ty:=ty) f;rw[ac h] at i;refine Nc c i e d rfl (λk p=>?_) ?_ (by simp) rfl rfl rfl ⟨g,s,d,?_,rfl⟩ (by simp[Blk.nms]) (VP.mk_tup rfl λj m=>?_) (by simp[PV.nms,D1])
 ·simp only[w8];rw[ae (by omega)]
 ·simp only[aa1,f,w8,if_true,a]
 ·simp[a]
 ·match j,m with
  | 0,_=>exact⟨_,rfl,.bool _⟩
  | 1,_=>exact⟨_,rfl,.int _ _⟩
  | 2,_=>exact⟨_,rfl,.int _ _⟩
def Do2{m:Sem Value}{o:Obj}{w':World}{V:Value}{v:PV}{sl:List PV}{i:Array Value}(e:HR Y H w)(x:m.run C.P w = .ok V w')(f:w'.heap=w.heap.push o)(n:w'.os=w.os)(p:w'.tape=w.tape)(q:w'.output=w.output)
  (z:VP { Y with St:=λg=>Y.St g\/g=w.heap.size } (A3 H) w' v V) (u:∀c∈v.nms,c<H.length):WV C Y H w sl i m v sl H:=by
 let Γ':Ctx:={ Y with St:=λg=>Y.St g\/g=w.heap.size }
 have d:∀g,g<w.heap.size->w'.heap[g]? = w.heap[g]?:=λg a=>H8 f a
 have M:Am Y (A3 H) w Γ' (A3 H) w' (λ_=>True):=⟨λg a=>d g (e.stlt g a),λ_ h=>.inl h,λ_ _=>rfl,λ_ _=>rfl,λb g _ a=>F3 (d g (e.lt b g a).2.1),rfl⟩
 have y:w'.heap.size=w.heap.size+1:=by rw[f];simp
 have j:HR Γ' H w':=by
  refine⟨e.inj,λb g a=>?_,λg a=>?_,e.nms,λb l=>(e.blk b l).mono M rfl (λg a=>d g (e.lt b g a).2.1) (λ_ _=>trivial)⟩
  ·have:=e.lt b g a;grind
  ·rcases a with h|rfl
   ·have:=e.stlt g h;omega
   ·omega
 exact⟨V,w',Γ',x,⟨n,p,q,by omega,λ_ h=>.inl h,λg a=>by rcases a with h|rfl;exact .inl h;exact .inr (j4 _),λb g a=>.inl ⟨(e.lt b g a).1,a⟩,λ_ h=>.inl h,λg a _ _=>d g a,rfl,j4 _,
  λb l A=>⟨rfl,rfl,λg a=>F3 (d g (e.lt b g a).2.1)⟩⟩,j,λk=>k.mono M (λc t=>⟨trivial,k.nms c t⟩),z,u⟩
def Lt{t len:Nat}{parts:List (Nat × PV)}{ps:Array (Nat × Value)}{k:PV->Option R}{sl:List PV}{tmps:Array Value}(K:HR Y H w)(h:Ea C t len parts k=some r)(hp:PR Y (A3 H) w parts ps.toList) :
  ∃v,k v=some r/\WV C Y H w sl tmps (w9 t len ps) v sl H/\∃V o,(w9 t len ps).run C.P w = .ok V (w.alloc o):=by
 unfold Ea at h;split at h
 ·rename_i e D;dsimp only at h;split at h
  ·rename_i a;simp only[j0,af] at a;obtain⟨⟨a,b⟩,N⟩:=a;split at h
   ·rename_i out M;split at h
    ·rename_i S F;obtain⟨h1,J⟩:=C9 h;refine⟨_,J,?_⟩;obtain⟨i,z,l,hz,d,x⟩:=Ho (Γ:=Y) (sh:=A3 H) (w:=w) a;obtain⟨_,_,_,O⟩:=L6 a;have y:0<(C.ti e).ks.length:=by rename_i h1 J;omega
     have L:=Ab3 x (by simpa using y) len;rw[j7] at L;obtain⟨B,G,q,e3⟩:=Ei (place':=λj=>some (j*i.size,i.size)) (λj off size m h0=>by rw[d];exact m) M L hp;obtain⟨Z,f2⟩:=X7 (As:=B.toList) F (by simpa using q.1.symm) (λj m=>by
      obtain⟨U,e,k⟩:=q.2 j m;exact⟨U,by simpa using e,k⟩)
     have Q:=Ci (P:=C.P) w len ps B (L0 D) l hz (by rw[d];exact b) (by rw[d] at G ⊢;exact G);refine⟨?_,_,_,Q⟩;have f:(w.alloc (.cells B e)).heap=w.heap.push (.cells B e):=rfl;have u:B.size=len*(C.ti e).ks.length:=by
      have c:∀{place:Nat->Option (Nat × Nat)} {ps:List (Nat × PV)} {cells out:List PV},Dt place cells ps=some out->out.length=cells.length:=by
       intro place ps
       induction ps with
       | nil=>intro cells out h;simp only[Dt,c9] at h;rw[h]
       | cons p ps ih=>
        intro cells out h;obtain⟨i,v⟩:=p;simp only[Dt] at h;split at h
        ·split at h
         ·rw[ih h,E5]
         grind
        grind
      rw[q.1,c M,Fr,j7]
     have n:S.length=len*(C.ti e).ks.length:=by rw[Z,o0,u]
     refine Do2 K Q f rfl rfl rfl (.s _ _ ?_) (by simp[PV.nms]);refine .sl true (T6 (C.ti e).ks.length len S) w.heap.size 0 len len (C.ti e).ks.length (λi j=>B.toList.getD (i*(C.ti e).ks.length+j) undef) (V5 _ _ _).symm (j4 _) (by simp only[maxLen];omega) (λ_=>rfl) (.inr rfl) (λi l=>(Cm _ _ _ n i l).1) (λi l j m=>?_) (λi l j m=>?_);all_goals
      obtain⟨c1,T⟩:=Cm _ _ _ n i l;obtain⟨W,X⟩:=T j m;obtain⟨U,I,k⟩:=f2 (i*(C.ti e).ks.length+j) W
     ·rw[cell_of_row (w.alloc (.cells B e)) w.heap.size _ _ _ _ (G9 f)];have A:i*(C.ti e).ks.length+j<B.toList.length:=(j2.1 I).1;rw[Aa A,show 0+i*(C.ti e).ks.length+j=i*(C.ti e).ks.length+j by omega];simp
     ·rw[x7,I,X];exact k.mono (λg hg=>H8 f (K.stlt g hg)) (λ_ h=>.inl h)
    ·cases h
   ·cases h
  ·cases h
 ·cases h
def XU{A q:Nat}{x:PV}{X:Value}{k:PV->Option R}{sl:List PV}{tmps:Array Value}(n:HR Y H w)(h:CH C A q x k=some r)(hx:VP Y (A3 H) w x X) :
  ∃v,k v=some r/\WV C Y H w sl tmps (convert A q X) v sl H:=by
 unfold CH at h;split at h
 ·rename_i e l U V;split at h
  ·rename_i W;obtain⟨L,Z⟩:=C9 h;simp only[G0,af] at L;obtain⟨s,rfl,rfl⟩:=hx.inv_str;rw[Tv] at L;refine⟨_,Z,?_⟩;have K:=run_bytes_of_string (P:=C.P) w A q e s (Cj U) (L0 V) (OA W);generalize p:grownCap w s.size 0 e=cap at K;have F:s.size<=cap:=by rw[<-p];exact grownCap_ge _ _ _ _
   have I:cap<=maxLen:=by rw[<-p];exact grownCap_le_maxLen _ _ _ _ (by simp only[maxLen];omega)
   generalize o:w.drew.alloc (.cells (bytesRow s cap) e ((bytesRow s cap).size,(bytesRow s cap).size+1))=w' at K;have z:w'.heap=w.heap.push (.cells (bytesRow s cap) e ((bytesRow s cap).size,(bytesRow s cap).size+1)):=by rw[<-o];rfl
   have Q:w'.os=w.os:=by rw[<-o];rfl
   have S:w'.tape=w.tape:=by rw[<-o];rfl
   have T:w'.output=w.output:=by rw[<-o];rfl
   let Γ':Ctx:={ Y with St:=λg=>Y.St g\/g=w.heap.size }
   have f:∀g,g<w.heap.size->w'.heap[g]? = w.heap[g]?:=λg d=>H8 z d
   have M:Am Y (A3 H) w Γ' (A3 H) w' (λ_=>True):=⟨λg d=>f g (n.stlt g d),λ_ h=>.inl h,λ_ _=>rfl,λ_ _=>rfl,λb g _ d=>F3 (f g (n.lt b g d).2.1),rfl⟩
   have a0:w'.heap.size=w.heap.size+1:=by rw[z];simp
   have D:HR Γ' H w':=by
    refine⟨n.inj,λb g d=>?_,λg d=>?_,n.nms,λb O=>(n.blk b O).mono M rfl (λg d=>f g (n.lt b g d).2.1) (λ_ _=>trivial)⟩
    ·have:=n.lt b g d;grind
    ·rcases d with h|rfl
     ·have:=n.stlt g h;omega
     ·omega
   refine⟨_,w',Γ',K,⟨Q,S,T,by omega,λ_ h=>.inl h,λg d=>by rcases d with h|rfl;exact .inl h;exact .inr (j4 _),λb g d=>.inl ⟨(n.lt b g d).1,d⟩,λ_ h=>.inl h,λg d _ _=>f g d,rfl,j4 _,
    λb O hf=>⟨rfl,rfl,λg d=>F3 (f g (n.lt b g d).2.1)⟩⟩,D,λN=>N.mono M (λc hc=>⟨trivial,N.nms c hc⟩),.s _ _ ?_,by simp[PV.nms]⟩
   have B:s.data.toList.length=s.size:=Tv s;have y:∀(a:List UInt8) i (t:i<(a.map F1).length),((a.map F1)[i]).length=1:=λa i t=>by simp[F1]
   refine .sl false (s.data.toList.map F1) w.heap.size 0 s.size cap 1 (λi _=>.int .u8 ((s.data.toList.getD i 0).toNat)) (by rw[j7,B]) F I (by simp) (.inr rfl) (y _) (λi t j G=>?_) (λi t j G=>?_)
   ·have u:j=0:=by rw[y _ i t] at G;omega
    subst u;have m:i<s.data.size:=by simpa using t
    rw[cell_of_row w' w.heap.size _ _ _ _ (G9 z)];have J:i<s.data.toList.length:=by simpa using m
    rw[Aa J];simp only[bytesRow];rw[aa8 (by simpa using m)];rw[Array.getElem?_map,show 0+i*1+0=i by omega,Array.getElem?_eq_getElem m];rfl
   ·have u:j=0:=by rw[y _ i t] at G;omega
    subst u;have m:i<s.data.toList.length:=by simpa using t
    rw[Aa m];simp only[x4,F1,o8];exact .int _ _
  ·cases h
 ·cases h
end
section
variable {L : Ctx} {H : List Blk} {w : World} {R : Type} {r : R} {C : Cfg}
def Au0{b:Type}(l a:List b)(off:Nat)(h:off+a.length<=l.length):H7 l off a=l.take off++a++l.drop (off+a.length):=by
 apply ac7;intro j;rw[O7 a l off h j];have c:(l.take off).length=off:=by rw[ab0];omega
 grind
def M3{P:Program}{g o e:Nat}{vs:List Value}{a:Array Value}(c:w.heap[g]? = some (.cells a e (0,0)))(b:o+vs.length<=a.size)(f:∀v∈vs,v.oneCell'=true) :
  ∃w',(storeCells ⟨g,o,none⟩ vs).run P w = .ok () w'/\w'.heap[g]? = some (.cells (H7 a.toList o vs).toArray e (0,0))/\(∀k,k≠g->w'.heap[k]? = w.heap[k]?)/\w'.heap.size=w.heap.size/\w'.os=w.os/\w'.tape=w.tape/\w'.output=w.output/\
   w'.shape? g=w.shape? g:=by
 have:=run_storeCells_at P g o e vs 0 a w c (by simpa using b) f;simp only[ab1] at this;rw[<-Au0 a.toList vs o (by simpa using b)] at this;have d:=setRow_heap w g a (H7 a.toList o vs).toArray e (0,0) c;refine⟨_,this,d,λk h=>setRow_other w g k _ h,by simp,rfl,rfl,rfl,?_⟩;simp only[aa1,d,c];simp[E5]
def Hk{P:Program}{t:Nat}{i:TypeInfo}{a:Addr}{V:Value}(b:P.info? t=some i)(c:V.cells.size=i.size){w w':World}(h:(storeCells a V.cells.toList).run P w = .ok () w') :
  (do ad2 t (.pointer (some a)) V;pure undef:Sem Value).run P w = .ok undef w':=by
 simp[ad2,x6,storeVar,sizeOf,typeInfo,b,c,h]
def Bv6{l:List PV}{a:List Value}{sh:Nat->Option Shp}(g:l.length=a.length)(h:l.all PV.one=true)(c:∀j (h:j<l.length),∃U,a[j]? = some U/\VP L sh w (l[j]) U):∀v∈a,v.oneCell'=true:=by intro v f;obtain⟨j,d,e⟩:=af4 f;obtain⟨U,b,k⟩:=c j (by omega);rw[j1 d] at b;simp only[c9] at b;rw[<-e,b];exact k.oneCell (x3.1 h _ (ad4 _))
def Ak{sh:Nat->Option Shp}:VP L sh w (.tup []) undef:=VP.mk_tup (by rfl) λj a=>by simp at a
def Dj9{c:Type}{Rel:c->Value->Prop}{l vs:List c}{A B:List Value}{o:Nat}(m:l.length=A.length)(n:vs.length=B.length)(i:o+vs.length<=l.length)(d:∀j (h:j<l.length),∃U,A[j]? = some U/\Rel (l[j]) U)
  (f:∀j (h:j<vs.length),∃U,B[j]? = some U/\Rel (vs[j]) U):∀j (h:j<(H7 l o vs).length),∃U,(H7 A o B)[j]? = some U/\Rel ((H7 l o vs)[j]) U:=by
 intro j a;have g:=O7 vs l o i j;rw[j1 a] at g;rw[E5] at a;rw[O7 B A o (by omega) j];by_cases b:o<=j/\j<o+vs.length
 ·rw[ac (by omega)];rw[ac b,j1 (by omega)] at g;simp only[c9] at g;obtain⟨U,e,k⟩:=f (j-o) (by omega);exact⟨U,e,by rw[g];exact k⟩
 ·rw[ae (by omega)];rw[ae b,j1 a] at g;simp only[c9] at g;obtain⟨U,e,k⟩:=d j a;exact⟨U,e,by rw[g];exact k⟩
def HR.box'(hH:HR L H w){b:Nat}{cells:List PV}(hb:H[b]? = some (.box cells)):∃g cur e,L.nm b=some g/\w.heap[g]? = some (.cells cur e (0,0))/\cur.size=cells.length/\(∀j (h:j<cells.length),∃V,cur[j]? = some V/\VP L (A3 H) w (cells[j]) V)/\∀c∈D1 cells,c<H.length:=by obtain⟨hlt,hbe⟩:=j2.1 hb;have:=hH.blk b hlt;rw[hbe] at this;obtain⟨g,cur,e,h1,h2,h3,h4⟩:=this;exact⟨g,cur,e,h1,h2,h3,h4,λc hc=>hH.nms b hlt c (by rw[hbe];exact hc)⟩
def HR.arr'(hH:HR L H w){b:Nat}{v:Bool}{e sz:Nat}{els:List (List SV)}(hb:H[b]? = some (.arr v e sz els))(hne:¬(v=true/\els=[])) :
  ∃g cur,L.nm b=some g/\w.heap[g]? = some (.cells cur e (0,0))/\els.length*sz<=cur.size/\(∀i (h:i<els.length),(els[i]).length=sz)/\∀i (h:i<els.length) j (h':j<(els[i]).length),∃V,cur[i*sz+j]? = some V/\VS L.St w (els[i][j]) V:=by
 obtain⟨hlt,hbe⟩:=j2.1 hb;have:=hH.blk b hlt;rw[hbe] at this;rcases this with h|⟨_,g,cur,h1,h2,h3,h4,h5⟩
 ·exact absurd h hne
 ·exact⟨g,cur,h1,h2,h3,h4,h5⟩
def Cr8{i b j o n a:Nat}(c:b≠i)(d:j<a)(e:o+n<=a):¬(i*a+o<=b*a+j/\b*a+j<i*a+o+n):=by
 rcases Nat.lt_or_gt_of_ne c with h|h
 ·have:(b+1)*a<=i*a:=j5 _ h;grind
 ·have:(i+1)*a<=b*a:=j5 _ h;grind
def Ag6{f:Nat->Nat × Nat}{tid:Nat}{a v:PV}{A V:Value}{k:List Blk->Option R}{sl:List PV}{tmps:Array Value}(hH:HR L H w)(h:Wt f (C.ti tid) a v H k=some r)(J:VP L (A3 H) w a A)(hv:VP L (A3 H) w v V)(hn:∀c∈v.nms,c<H.length) :
  ∃H',k H'=some r/\WV C L H w sl tmps (do ad2 tid A V;pure undef) (.tup []) sl H':=by
 unfold Wt at h;split at h
 ·rename_i hc;obtain⟨b5,q,a8⟩:=hc;obtain⟨i0,hi,b6,c0⟩:=L6 b5;have b4:v.cells≠[]:=by intro e;rw[e] at q;simp at q;omega
  have a7:=hv.cells' b4;have G:v.cells.length=V.cells.toList.length:=by simpa using a7.1.symm
  have a5:∀j (h:j<v.cells.length),∃U,V.cells.toList[j]? = some U/\VP L (A3 H) w (v.cells[j]) U:=λj K=>by
   obtain⟨U,e,k⟩:=a7.2 j K;grind
  have a1:=Bv6 G a8 a5;have a2:V.cells.size=i0.size:=by rw[a7.1,q,b6]
  split at h
  ·rename_i b i off;split at h
   ·rename_i cells N;split at h
    ·rename_i b1;subst b1;dsimp only at h;obtain⟨x,h3⟩:=C9 h;simp only[af] at x;refine⟨_,h3,?_⟩;obtain⟨T,e1,e2,e3,e4,e5,e6,e7⟩:=Af (C:=C) f v.cells 0 H V.cells.toList hH G a5 (λc hc=>hn c (PV.cells_nms c hc));have a4:(H++T)[b]? = some (.box cells):=by rw[p5 (j2.1 N).1];exact N
     obtain⟨g,F,e,I,hh,O,a0,b9⟩:=e2.box' a4;have hA:A = .pointer (some ⟨g,off,none⟩):=by
      cases J with
      | ptrA _ _ _ g' v e sz n h' t=>simp[A3,N,Blk.shp] at h'
      | ptrB _ _ g' h' t=>rw[I] at t;cases t;rfl
     subst hA;obtain⟨w',r1,r2,r3,r4,r5,r6,r7,r8⟩:=M3 (P:=C.P) (o:=off) hh (vs:=V.cells.toList) (by rw[<-G,q,O];exact x) a1;have Z:=Hk hi a2 r1;have M:=Ey (y:=.box (H7 cells off (I8 f v.cells 0 H).1)) e2 a4 I rfl r3 r8;rw[e1];have key:WV C L (H++T) w sl tmps (do ad2 tid (.pointer (some ⟨g,off,none⟩)) V;pure undef) (.tup []) sl ((H++T).set b (.box (H7 cells off (I8 f v.cells 0 H).1))):=by
      refine Nc e2 Z a4 I rfl r3 r8 (by omega) r5 r6 r7 ⟨g,_,e,I,r2,by simp[E5,O],λj K=>?_⟩ (λc hc=>?_) Ak (by simp[PV.nms,D1])
      ·have:=Dj9 (Rel:=λp U=>VP L (A3 ((H++T).set b (.box (H7 cells off (I8 f v.cells 0 H).1)))) w' p U) (l:=cells) (vs:=(I8 f v.cells 0 H).1) (A:=F.toList) (B:=V.cells.toList) (o:=off)
        (by simpa using O.symm) e5 (by rw[e5,<-G,q];exact x)
        (λj K=>by
         obtain⟨U,f1,f2⟩:=a0 j K;exact⟨U,by simpa using f1,f2.mono M (λ_ _=>trivial)⟩)
        (λj K=>by
         obtain⟨U,f1,f2⟩:=e6 j K;exact⟨U,f1,f2.mono M (λ_ _=>trivial)⟩) j K
       grind
      ·rcases Wj _ _ _ c hc with h|h
       all_goals grind
     obtain⟨V',w',Γ',k1,k2,k3,k4,k5,k6⟩:=key;exact⟨V',w',Γ',k1,e3.trans k2,k3,λhS=>k4 (SR.grow e4 hS),k5,k6⟩
    ·cases h
   ·rename_i z e sz d N;split at h
    ·rename_i vs b7;obtain⟨f1,f2⟩:=X7 b7 G a5;split at h
     ·rename_i b8;obtain⟨x,h3⟩:=C9 h;simp only[af] at x;refine⟨_,h3,?_⟩;obtain⟨g,F,I,hh,Y,m,Q⟩:=hH.arr' N (by rintro⟨_,rfl⟩;simp at x);have hA:A = .pointer (some ⟨g,i*sz+off,none⟩):=by
       cases J with
       | ptrA _ _ _ g' v e sz n h' t=>
        rw[I] at t;cases t;obtain⟨_,_,rfl,_⟩:=S9 N h';rfl
       | ptrB _ _ g' h' t=>simp[A3,N,Blk.shp] at h'
      subst hA;have X:i*sz+off+V.cells.toList.length<=F.size:=by
       have:(i+1)*sz<=d.length*sz:=j5 _ x;grind
      obtain⟨w',r1,r2,r3,r4,r5,r6,r7,r8⟩:=M3 (P:=C.P) (o:=i*sz+off) hh (vs:=V.cells.toList) X a1;have Z:=Hk hi a2 r1;rw[Aa x];have a9:off+vs.length<=(d[i]).length:=by rw[m i x,f1];omega
      refine Nc hH Z N I (by simp[Blk.shp]) r3 r8 (by omega) r5 r6 r7 (.inr ⟨λhz=>?_,g,_,I,r2,by simpa[E5] using Y,λa J=>?_,λa J j K=>?_⟩) (by simp[Blk.nms]) Ak (by simp[PV.nms,D1])
      ·have:=congrArg ae8 hz.2;rw[v8] at this;simp only[ae5] at this;omega
      ·rw[s8];rw[v8] at J;split
       ·rw[E5];exact m i x
       ·exact m a J
      ·rw[v8] at J;have u:∀k,L.St k->w'.heap[k]? = w.heap[k]?:=λk hk=>r3 k (λe=>(hH.lt b g I).2.2 (e▸hk))
       simp only[aa5];rw[O7 _ _ _ (by simpa using X)];by_cases a3:i=a
       ·subst a3;have a6:(d.set i (H7 d[i] off vs))[i]'(by simpa using J)=H7 d[i] off vs:=by simp
        have D:j<(H7 d[i] off vs).length:=by rw[<-a6];exact K
        have W:(d.set i (H7 d[i] off vs))[i][j]=(H7 d[i] off vs)[j]:=by simp
        rw[W];have g1:=O7 vs d[i] off a9 j;rw[j1 D] at g1;rw[E5] at D;by_cases hc:off<=j/\j<off+vs.length
        ·rw[ac (by omega)];rw[ac hc,j1 (by omega)] at g1;simp only[c9] at g1;obtain⟨U,q1,q2⟩:=f2 (j-off) (by omega);refine⟨U,?_,by rw[g1];exact q2.mono u (λ_ h=>h)⟩;rw[<-q1];congr 1;omega
        ·rw[ae (by omega)];rw[ae hc,j1 D] at g1;simp only[c9] at g1;obtain⟨U,q1,q2⟩:=Q i x j D;exact⟨U,by simpa using q1,by rw[g1];exact q2.mono u (λ_ h=>h)⟩
       ·have a6:(d.set i (H7 d[i] off vs))[a]'(by simpa using J)=d[a]:=by rw[s8,ae a3]
        have D:j<(d[a]).length:=by rw[<-a6];exact K
        have W:(d.set i (H7 d[i] off vs))[a][j]=d[a][j]:=by congr 1
        rw[W];obtain⟨U,q1,q2⟩:=Q a J j D;have b3:j<sz:=by rw[<-m a J];exact D
        rw[ae (Cr8 (λe=>a3 e.symm) b3 (by rw[<-f1,<-m i x];exact a9))];exact⟨U,by simpa using q1,q2.mono u (λ_ h=>h)⟩
     ·split at h
      ·rename_i b2;obtain⟨rfl,rfl⟩:=b2;obtain⟨x,h3⟩:=C9 h;simp only[af] at x;refine⟨_,h3,?_⟩;have S:d≠[]:=by rintro rfl;rw[ae5,ai7] at x;omega
       obtain⟨g,F,I,hh,Y,m,Q⟩:=hH.arr' N (λhz=>S hz.2);have hA:A = .pointer (some ⟨g,0,none⟩):=by
        cases J with
        | ptrA _ _ _ g' v e sz n h' t=>
         grind
        | ptrB _ _ g' h' t=>simp[A3,N,Blk.shp] at h'
       subst hA;have X:0+V.cells.toList.length<=F.size:=by omega
       obtain⟨w',r1,r2,r3,r4,r5,r6,r7,r8⟩:=M3 (P:=C.P) (o:=0) hh (vs:=V.cells.toList) X a1;have Z:=Hk hi a2 r1;have u:∀k,L.St k->w'.heap[k]? = w.heap[k]?:=λk hk=>r3 k (λe=>(hH.lt b g I).2.2 (e▸hk))
       have b0:w'.heap[g]? = some (.cells (V.cells++(F.toList.drop V.cells.size).toArray) e (0,0)):=by
        rw[r2,Au0 _ _ _ (by simpa using X)];simp_all
       refine Nc hH Z N I (by simp[Blk.shp,V5]) r3 r8 (by omega) r5 r6 r7 (BR.row I b0 (λ_=>?_) ?_ ?_ λj K=>?_) (by simp[Blk.nms]) Ak (by simp[PV.nms,D1])
       ·intro e;exact S (k9.1 e)
       ·rw[f1,<-G,q,x]
       ·rw[f1];simp
       ·obtain⟨U,q1,q2⟩:=f2 j K;exact⟨U,by simpa using q1,q2.mono u (λ_ h=>h)⟩
      ·cases h
    ·cases h
   ·cases h
  ·cases h
 ·cases h
end
section
variable {Γ : Ctx} {H : List Blk} {w : World} {R : Type} {r : R} {C : Cfg}
structure Qi (P:Program) (Γ:Ctx) (w:World) (n:Nat) (X:Value) (news:List (List SV)) (Vs:List Value):Prop where
 len:∀w',(ah9 X).run P w' = .ok news.length w'
 first:∀k,k<=news.length->∀w':World,w'.heap=w.heap->(y9 n k X).run P w' = .ok (Vs.take (k*n)).toArray w'
 size:Vs.length=news.length*n
 one:∀u∈Vs,u.oneCell'=true
 els:∀i (h:i<news.length),(news[i]).length=n/\∀j (h':j<(news[i]).length),∃U,Vs[i*n+j]? = some U/\VS Γ.St w (news[i][j]) U
def Qi.nil{P:Program}{n:Nat}{X:Value}(a:Option Addr)(cap:Nat)(hX:X = .slice a 0 cap):Qi P Γ w n X [] []:=by
 subst hX;refine⟨λw'=>rfl,λk hk w' hw=>?_,by simp,by simp,λi hi=>by simp at hi⟩;have:k=0:=by simpa using hk
 subst this;cases a with
 | none=>simp[y9]
 | some a=>
  have:=run_loadCells_list (P:=P) w' a [] (by simp);simpa[y9] using this
def B86{q m n:Nat}(h:q<m*n):q / n<m/\q % n<n/\q / n*n+q % n=q:=by
 have a:0<n:=by grind
 exact⟨Nat.div_lt_of_lt_mul (by rw[ai6];exact h),ah5 _ a,by rw[ai6];exact Nat.div_add_mod q n⟩
def Qi.slice{P:Program}{n:Nat}{X:Value}{els:List (List SV)}(h:SlV Γ w X els)(hn:∀i (h:i<els.length),(els[i]).length=n):∃Vs,Qi P Γ w n X els Vs:=by
 obtain⟨a,cap,rfl,hcap,hm,hnil,hcells⟩:=h.ex;by_cases he:els=[]
 ·subst he;exact⟨[],Qi.nil a cap rfl⟩
 ·obtain⟨g,o,sz,rfl,hsz,hc⟩:=hcells he;have hcell:∀q,q<els.length*n->∃U,w.cell? ⟨g,o+q,none⟩=some U/\U.oneCell'=true:=λq hq=>by
   obtain⟨h1,h2,h3⟩:=B86 hq;have hs:sz=n:=by rw[<-hsz _ h1];exact hn _ h1
   subst hs;obtain⟨U,e,k⟩:=hc _ h1 (q % sz) (by rw[hsz _ h1];exact h2);exact⟨U,by rw[<-e];congr 2;omega,k.oneCell⟩
  let Vs:=(ac3 (els.length*n)).map λq=>(w.cell? ⟨g,o+q,none⟩).getD undef
  have hVs:∀q,q<els.length*n->∀U,w.cell? ⟨g,o+q,none⟩=some U->Vs[q]? = some U:=λq hq U e=>by simp[Vs,hq,e]
  refine⟨Vs,λw'=>rfl,λk hk w' hw=>?_,by simp[Vs],λu hu=>?_,λi hi=>⟨hn i hi,λj hj=>?_⟩⟩
  ·have hkn:k*n<=els.length*n:=j5 _ hk;have hVl:Vs.length=els.length*n:=by simp[Vs]
   have hl:(Vs.take (k*n)).length=k*n:=by rw[ab0,hVl];omega
   refine run_firstCells_some (P:=P) w' n k ⟨g,o,none⟩ els.length cap (Vs.take (k*n)) hl (λj v hj=>?_);rw[x8] at hj;split at hj
   ·rename_i hjk;obtain⟨U,e,_⟩:=hcell j (by omega);rw[hVs j (by omega) U e] at hj;simp only[c9] at hj;subst hj;rw[N2,B50 hw,e]
   grind
  ·grind
  ·have hs:sz=n:=by rw[<-hsz _ hi];exact hn _ hi
   subst hs;obtain⟨U,e,k⟩:=hc i hi j hj;have hj':j<sz:=by rw[<-hsz i hi];exact hj
   have hlt:i*sz+j<els.length*sz:=by
    have:(i+1)*sz<=els.length*sz:=j5 _ hi;grind
   grind
def UE{n:Nat}{x:PV}{X:Value}{c:List (List SV)}(z:HR Γ H w)(G:VP Γ (A3 H) w x X)(d:Gm n H x=true)(h:Rs H x=some c):∃I,Qi C.P Γ w n X c I:=by
 by_cases q:∃l,x = .s (.str l)
 ·obtain⟨l,rfl⟩:=q;simp only[Rs,c9] at h;subst h;simp only[Gm,af] at d;subst d;obtain⟨s,rfl,rfl⟩:=G.inv_str;refine⟨s.data.toList.map λb=>.int .u8 b.toNat,λw'=>by simp[ah9],λk T w' hw=>?_,by simp,λu K=>?_,λi o=>⟨by simp[F1],λj N=>?_⟩⟩
  ·simp only[y9,p9]
   congr 1
   apply aj8;simp_all
  ·simp only[ae2] at K;obtain⟨b,_,rfl⟩:=K;rfl
  ·have F:j=0:=by simpa[F1] using N
   subst F;have B:i<s.data.toList.length:=by simpa using o
   refine⟨.int .u8 (s.data.toList[i]).toNat,by rw[show i*1+0=i by omega,p6,j1 B];rfl,?_⟩;simp only[x4,F1,o8];exact .int _ _
 ·have a:Gi H x=some c:=by
   unfold Rs at h;grind
  have A:=AJ (C:=C) z G a;refine Qi.slice A λi o=>?_
  unfold Gm at d;unfold Gi at a;split at a
  ·grind
  ·simp only[c9] at a;subst a;simp only[aa2,af] at d;have M:=G.inv_s;cases M with
   | nil=>simp at o
   | emp=>simp at o
   | sl t f g off P cap L I W J V Y S U Q Z=>
    grind
  ·split at a
   ·rename_i b _ v e L f p;simp only[c9] at a;subst a;dsimp only at d;rw[p] at d;simp only[aa2,af,j0,ab5] at d;obtain⟨g,y,_,_,_,m,_⟩:=z.arr' p (by rintro⟨_,rfl⟩;simp at o);grind
   grind
  ·split at a
   ·rename_i b O P _ v e L f p;simp only[c9] at a;subst a;dsimp only at d;rw[p] at d;simp only[aa2,af,j0,ab5] at d;have D:O+i<f.length:=by simp at o;omega
    obtain⟨g,y,_,_,_,m,_⟩:=z.arr' p (by rintro⟨_,rfl⟩;simp at D);grind
   grind
  grind
def Bz4{P:Program}{a b:Nat}:Nat.min a b=min a b:=rfl
def AD{P:Program}{t u ty e:Nat}{h:TypeInfo}{D X:Value}{a:Option Addr}{b f:Nat}{c:List (List SV)}{i:List Value}{w':World}(l:P.underlying t=some (.slice e))(k:P.info? e=some h)(m:D = .slice a b f)
  (g:Qi P Γ w h.size X c i) (d:match a with|some a=>(storeCells a (i.take (min c.length b*h.size))).run P w = .ok () w'|none=>w'=w) :
  (ab2 #[t,u] ty #[D,X]).run P w = .ok (.int .i64 (min c.length b:Nat)) w':=by
 subst m;have j:=g.first (min c.length b) (Nat.min_le_left _ _) w rfl;cases a with
 | none=>
  simp only at d;subst d;simp[ab2,run_underlying l,g.len,sizeOf,typeInfo,k,Bz4,j,goInt]
 | some a=>
  simp only at d;simp[ab2,run_underlying l,g.len,sizeOf,typeInfo,k,Bz4,j,d,goInt]
def Bo7(b a:List (List SV))(i n:Nat)(e:i+n<=b.length)(q:Nat) :
  (b.take i++(a.take n++b.drop (i+min a.length n)))[q]? = if i<=q/\q<i+min a.length n then a[q-i]? else b[q]?:=by
 have c:(b.take i).length=i:=by rw[ab0];omega
 have d:(a.take n).length=min a.length n:=by rw[ab0];omega
 by_cases f:q<i
 ·rw[ae (by omega),p5 (by omega),x8,ac f]
 ·rw[s9 (by omega),c];by_cases g:q<i+min a.length n
  ·rw[ac (by omega),p5 (by omega),x8,ac (by omega)]
  ·rw[ae (by omega),s9 (by omega),d,List.getElem?_drop]
   congr 1;omega
def QA(a b:List (List SV))(i n:Nat)(c:i+n<=a.length):(a.take i++(b.take n++a.drop (i+min b.length n))).length=a.length:=by grind
def Bw7{t u ty e b g i n dCap I Q:Nat}{v:Bool}{f:TypeInfo}{c d:List (List SV)}{D X:Value}{K:List Value}{sl:List PV}{tmps:Array Value}{o:Array Value}(hH:HR Γ H w)(hu:C.P.underlying t=some (.slice e))(Y:C.P.info? e=some f)
  (a8:f.size=I) (hb:H[b]? = some (.arr v Q I c)) (O:i+n<=c.length) (W:Γ.nm b=some g) (hh:w.heap[g]? = some (.cells o Q (0,0))) (G:c.length*I<=o.size) (x:∀i (h:i<c.length),(c[i]).length=I)
  (N:∀i (h:i<c.length) j (h':j<(c[i]).length),∃V,o[i*I+j]? = some V/\VS Γ.St w (c[i][j]) V) (a7:¬(v=true/\c=[])) (J:Qi C.P Γ w f.size X d K) (a:Addr) (ha:n≠0->a=⟨g,i*I,none⟩) (hD:D = .slice (some a) n dCap) :
  WV C Γ H w sl tmps (ab2 #[t,u] ty #[D,X]) (.s (.int .i64 (min d.length n:Nat))) sl (H.set b (.arr v Q I (c.take i++(d.take n++c.drop (i+min d.length n))))):=by
 subst a8;generalize S:min d.length n=m;have a5:m<=d.length:=by omega
 have a9:m<=n:=by omega
 have T:(K.take (m*f.size)).length=m*f.size:=by
  have:m*f.size<=d.length*f.size:=j5 _ a5;rw[ab0,J.size];omega
 have B:i*f.size+(K.take (m*f.size)).length<=o.size:=by
  have:(i+m)*f.size<=c.length*f.size:=j5 _ (by omega);grind
 have l:=QA c d i n O;rw[S] at l;have key:∃w',(storeCells a (K.take (m*f.size))).run C.P w = .ok () w'/\w'.heap[g]? = some (.cells (H7 o.toList (i*f.size) (K.take (m*f.size))).toArray Q (0,0))/\(∀k,k≠g->w'.heap[k]? = w.heap[k]?)/\w'.heap.size=w.heap.size/\w'.os=w.os/\w'.tape=w.tape/\w'.output=w.output/\
   w'.shape? g=w.shape? g:=by
  by_cases a6:n=0
  ·have a4:m=0:=by omega
   subst a4;refine⟨w,by simp[storeCells],by simpa[H7] using hh,λ_ _=>rfl,rfl,rfl,rfl,rfl,rfl⟩
  ·rw[ha a6];exact M3 hh B (λv hv=>J.one v (List.mem_of_mem_take hv))
 obtain⟨w',r1,r2,r3,r4,r5,r6,r7,r8⟩:=key;have F:∀k,Γ.St k->w'.heap[k]? = w.heap[k]?:=λk hk=>r3 k (λe=>(hH.lt b g W).2.2 (e▸hk))
 have hr:=AD (P:=C.P) (w:=w) (u:=u) (ty:=ty) hu Y hD J (w':=w') (by rw[S];exact r1);rw[S] at hr;have A:∀q (z:q<(c.take i++(d.take n++c.drop (i+m))).length),(i<=q/\q<i+m/\∃h:q-i<d.length,(c.take i++(d.take n++c.drop (i+m)))[q]=d[q-i])\/
   (¬(i<=q/\q<i+m)/\∃h:q<c.length,(c.take i++(d.take n++c.drop (i+m)))[q]=c[q]):=λq z=>by
  have:=Bo7 c d i n O q;rw[S,j1 z] at this;rw[l] at z;by_cases M:i<=q/\q<i+m
  ·rw[ac M,j1 (by omega)] at this;exact .inl ⟨M.1,M.2,by omega,by simpa using this⟩
  ·rw[ae M,j1 z] at this;exact .inr ⟨M,z,by simpa using this⟩
 refine Nc hH hr hb W (by simp only[Blk.shp,l]) r3 r8 (by omega) r5 r6 r7 (.inr ⟨λhz=>a7 ⟨hz.1,?_⟩,g,_,W,r2,by rw[l];simpa[E5] using G,λq z=>?_,λq z j hj=>?_⟩) (by simp[Blk.nms]) (.int _ _) (by simp[PV.nms])
 ·have:=congrArg ae8 hz.2;rw[l] at this;exact k9.1 (by simpa using this)
 ·rcases A q z with⟨L,h2,y,e⟩|⟨L,y,e⟩
  ·rw[e];exact(J.els _ y).1
  ·rw[e];exact x _ y
 ·simp only[aa5];rw[O7 _ _ _ (by simpa using B),T];rcases A q z with⟨L,h2,y,e⟩|⟨L,y,e⟩
  ·have p:j<(d[q-i]).length:=by rw[<-e];exact hj
   obtain⟨U,q1,q2⟩:=(J.els _ y).2 j p;have Z:j<f.size:=by rw[<-(J.els _ y).1];exact p
   have a1:i*f.size<=q*f.size:=j5 _ L;have a2:(q+1)*f.size<=(i+m)*f.size:=j5 _ h2;rw[o6,o6] at a2;have a3:q*f.size+j-i*f.size=(q-i)*f.size+j:=by rw[Nat.sub_mul];omega
   rw[ac (by omega),a3];refine⟨U,?_,by simp only[e];exact q2.mono F (λ_ h=>h)⟩;rw[x8,ac]
   ·exact q1
   ·rw[<-a3];omega
  ·have p:j<(c[q]).length:=by rw[<-e];exact hj
   obtain⟨U,q1,q2⟩:=N q y j p;have Z:j<f.size:=by rw[<-x q y];exact p
   rw[ae]
   ·exact⟨U,by simpa using q1,by simp only[e];exact q2.mono F (λ_ h=>h)⟩
   ·rintro⟨b1,b2⟩;apply L;constructor
    ·apply y5;intro a0;have:(q+1)*f.size<=i*f.size:=j5 _ (by omega);rw[o6] at this;omega
    ·apply y5;intro a0;have:(i+m)*f.size<=q*f.size:=j5 _ (by omega);rw[o6] at this;omega
def Ay1{b n e c:Nat}{v:Bool}{a:List (List SV)}(f:H[b]? = some (.arr v e c a))(h:(decide (c=n)||(v&&a.isEmpty))=true)(d:¬(v=true/\a=[])):c=n:=by grind
def An5{t u ty:Nat}{d x:PV}{D X:Value}{k:PV->List Blk->Option R}{sl:List PV}{tmps:Array Value}(J:HR Γ H w)(h:RG C t d x H k=some r)(Z:VP Γ (A3 H) w d D)(hx:VP Γ (A3 H) w x X) :
  ∃v H',k v H'=some r/\WV C Γ H w sl tmps (ab2 #[t,u] ty #[D,X]) v sl H':=by
 unfold RG at h;split at h
 ·rename_i e a0;split at h
  ·rename_i G;simp only[j0] at G;obtain⟨⟨G,Q⟩,o⟩:=G;obtain⟨ie,K,A,a1⟩:=L6 G;split at h
   ·rename_i a2 L;obtain⟨Vs,Y⟩:=UE (C:=C) J hx Q L;have hu:=L0 a0;have j:∀{H':List Blk},(hn:D = .slice none 0 0)->k (.s (.int .i64 0)) H=some r->∃v H',k v H'=some r/\WV C Γ H w sl tmps (ab2 #[t,u] ty #[D,X]) v sl H':=λhn hk=>by
     have hr:=AD (P:=C.P) (w:=w) (u:=u) (ty:=ty) hu K hn (by rw[A];exact Y) (w':=w) rfl;simp only[ag2] at hr;exact⟨_,_,hk,_,w,Γ,hr,Stp.refl J,J,id,.int _ _,by simp[PV.nms]⟩
    split at h
    ·rename_i b;split at h
     ·rename_i v U sz F p;cases Z with
      | flv _ V M I=>
       obtain⟨rfl,_,_,W⟩:=S9 p I;obtain rfl:=k9.1 W;simp only[ae5,ag2,ae9,ai2,ah2] at h;have z:H.set b (.arr true U sz [])=H:=by
        apply ac7;grind
       rw[z] at h;exact j (H':=H) rfl h
      | fl _ g v' V M n' cap I hv O N hm hs=>
       obtain⟨rfl,rfl,rfl,rfl⟩:=S9 p I;have f:¬(v=true/\F=[]):=by rintro⟨q1,q2⟩;exact hv q1 (by rw[q2];rfl)
       simp only[Gm,p] at o;have B:=Ay1 p o f;obtain⟨g',T,y,hh,l,c,q⟩:=J.arr' p f;rw[O] at y;cases y;have:=Bw7 (C:=C) (u:=u) (ty:=ty) (i:=0) (n:=F.length) (dCap:=cap) (sl:=sl) (tmps:=tmps) J hu K (by rw[A,B]) p (by omega) O hh l c q f (by rw[A];exact Y) ⟨g,0,none⟩ (λ_=>by simp) rfl;simp only[ae9,List.nil_append,aa0] at this;exact⟨_,_,h,this⟩
     ·cases h
    ·rename_i b i n;split at h
     ·rename_i v U sz F p;obtain⟨h1,S⟩:=C9 h;simp only[af] at h1;cases Z with
      | vwv _ V M _ I=>
       obtain⟨rfl,_,_,W⟩:=S9 p I;obtain rfl:=k9.1 W;simp only[ag2,ae9,ai2,ah2,List.take_nil] at S;have z:H.set b (.arr true U sz [])=H:=by
        apply ac7;grind
       rw[z] at S;exact j (H':=H) rfl S
      | vw _ _ _ g a cap v' V M m I hv O ha a3 N hm=>
       obtain⟨rfl,rfl,rfl,rfl⟩:=S9 p I;have f:¬(v=true/\F=[]):=by rintro⟨q1,q2⟩;exact hv q1 (by rw[q2];rfl)
       simp only[Gm,p] at o;have B:=Ay1 p o f;obtain⟨g',T,y,hh,l,c,q⟩:=J.arr' p f;rw[O] at y;cases y;have:=Bw7 (C:=C) (u:=u) (ty:=ty) (i:=i) (n:=n) (dCap:=cap) (sl:=sl) (tmps:=tmps) J hu K (by rw[A,B]) p h1 O hh l c q f (by rw[A];exact Y) a ha rfl;exact⟨_,_,S,this⟩
     ·cases h
    ·exact j (H':=H) Z.inv_nsl h
    ·cases h
   ·cases h
  ·cases h
 ·cases h
end
section
variable {Γ : Ctx} {H : List Blk} {w : World} {R : Type} {r : R} {C : Cfg}
def BR.kill{sh:Nat->Option Shp}{b c:Nat}{x:Blk}(h:BR Γ sh w c x):BR Γ sh w c (x.kill b):=by
 cases x with
 | box cells=>
  obtain⟨g,cur,e,h1,h2,h3,h4⟩:=h;simp only[Blk.kill,Dc];refine⟨g,cur,e,h1,h2,by simpa using h3,λj hj=>?_⟩;obtain⟨V,e1,e2⟩:=h4 j (by simpa using hj);exact⟨V,e1,by simpa using e2.kill b⟩
 | arr=>exact h
 | iter=>exact h
 | mp ents=>
  obtain⟨g,es,ck,h1,h2,h3⟩:=h;exact⟨g,es,ck,h1,h2,h3.map λv _ V k=>k.kill b⟩
 | ms=>exact h
 | dead=>exact h
def Blk.kill_nms'{b:Nat}{x:Blk}:∀c∈(x.kill b).nms,c≠b/\c∈x.nms:=by
 intro c hc;cases x with
 | box cells=>
  simp only[Blk.kill,Blk.nms] at hc ⊢;exact⟨λe=>T9 b cells (e▸hc),Cq b cells c hc⟩
 | arr=>simp[Blk.kill,Blk.nms] at hc
 | iter=>simp[Blk.kill,Blk.nms] at hc
 | ms=>simp[Blk.kill,Blk.nms] at hc
 | mp ents=>
  simp only[Blk.kill,Blk.nms] at hc ⊢;obtain⟨j,hj,hc⟩:=C8.1 hc;simp only[PJ,ae1,x4,af1] at hc;exact⟨λe=>PV.not_mem_kill b _ (e▸hc),DP (ae2.2 ⟨_,ad4 _,rfl⟩) c (PV.kill_nms b _ c hc)⟩
 | dead=>simp[Blk.kill,Blk.nms] at hc
def Ctx.re(Γ:Ctx)(b:Nat)(ng:Option Nat):Ctx:={ Γ with nm:=λc=>if c=b then ng else Γ.nm c }
def AH{b c:Nat}{y:Blk}(a:b<H.length):A3 ((H.map (Blk.kill b)).set b y) c=if c=b then some y.shp else A3 H c:=by rw[UC (by simpa using a),OD]
def NP{b:Nat}{y:Blk}{ng:Option Nat}{w':World}(m:HR Γ H w)(D:b<H.length)(F:¬Je C (A3 H b))(p:∀g,ng=some g->g<w'.heap.size/\¬ Γ.St g/\∀c,c≠b->Γ.nm c≠some g)
  (u:∀g,ng=some g->Γ.nm b=some g\/w.heap.size<=g) (n:∀k,k<w.heap.size->Γ.nm b≠some k->w'.heap[k]? = w.heap[k]?) (v:w.heap.size<=w'.heap.size) (N:w'.os=w.os) (O:w'.tape=w.tape) (P:w'.output=w.output)
  (T:BR (Γ.re b ng) (A3 ((H.map (Blk.kill b)).set b y)) w' b y) (I:y.nms=[]) :
  Stp C Γ H w noΦ (Γ.re b ng) ((H.map (Blk.kill b)).set b y) w' noΦ/\HR (Γ.re b ng) ((H.map (Blk.kill b)).set b y) w'/\
   ∀sl o,SR Γ H w sl o->SR (Γ.re b ng) ((H.map (Blk.kill b)).set b y) w' (Z0 b sl) o:=by
 have G:∀k,Γ.St k->w'.heap[k]? = w.heap[k]?:=λk B=>n k (m.stlt k B) (λe=>(m.lt b k e).2.2 B)
 have q:∀c g,c≠b->Γ.nm c=some g->w'.heap[g]? = w.heap[g]?:=λc g a f=>n g (m.lt c g f).2.1 (λe=>a (m.inj c b g f e))
 have M:Am Γ (A3 H) w (Γ.re b ng) (A3 ((H.map (Blk.kill b)).set b y)) w' (λc=>c≠b/\c<H.length):=
  ⟨G,λ_ h=>h,λc a=>by simp only[Ctx.re];rw[ae a.1],λc a=>by rw[AH D,ae a.1],λc g a f=>F3 (q c g a.1 f),rfl⟩
 refine⟨⟨N,O,P,v,λ_ h=>h,λ_ h=>.inl h,λc g f=>?_,λ_ h=>.inl h,λg f S _=>n g f (S b),rfl,by simp,λc a Q=>?_⟩,⟨λc d g a j=>?_,λc g f=>?_,λk B=>ab4 (m.stlt k B) v,λc a d j=>?_,λc a=>?_⟩,λsl o A=>⟨?_,λc a=>?_,λi J=>?_⟩⟩
 ·simp only[Ctx.re] at f;split at f
  ·rename_i e;subst e;rcases u g f with h|h
   ·exact .inl ⟨D,h⟩
   ·exact .inr h
  ·exact .inl ⟨(m.lt c g f).1,f⟩
 ·have l:c≠b:=λe=>F (e▸Q)
  exact⟨M.nm c ⟨l,a⟩,M.shp c ⟨l,a⟩,λg f=>M.hs c g ⟨l,a⟩ f⟩
 ·simp only[Ctx.re] at a j;split at a<;>split at j
  ·omega
  ·rename_i x z;exact absurd j ((p g a).2.2 d z)
  ·rename_i x z;exact absurd a ((p g j).2.2 c x)
  ·exact m.inj c d g a j
 ·simp only[Ctx.re] at f;rw[v8,j7];split at f
  ·rename_i e;subst e;exact⟨D,(p g f).1,(p g f).2.1⟩
  ·have:=m.lt c g f;exact⟨this.1,by omega,this.2.2⟩
 ·rw[v8,j7] at a ⊢;rw[s8] at j;split at j
  ·rw[I] at j;simp at j
  ·rw[x4] at j;exact m.nms c a d (Blk.kill_nms' d j).2
 ·rw[v8,j7] at a;rw[s8];split
  ·rename_i e;subst e;exact T
  ·rename_i e;rw[x4];have l:c≠b:=λK=>e K.symm
   exact(BR.kill (m.blk c a)).mono M (M.nm c ⟨l,a⟩) (λg f=>q c g l f) (λd j=>⟨(Blk.kill_nms' d j).1,m.nms c a d (Blk.kill_nms' d j).2⟩)
 ·rw[Dc,j7];exact A.size
 ·rw[v8,j7];exact A.nms c (Cq b sl c a)
 ·have t:i<sl.length:=by rw[Dc] at J;simpa using J
  obtain⟨V,x,z⟩:=A.slot i t;refine⟨V,x,?_⟩;have L:(Z0 b sl)[i]=(sl[i]).kill b:=by simp[Dc]
  rw[L];exact(z.kill b).mono M λc a=>⟨λe=>PV.not_mem_kill b _ (e▸a),A.nms c (C8.2 ⟨i,t,PV.kill_nms b _ c a⟩)⟩
def Yv{u:Nat}(h:SH (C.sh u)=true):∃d,C.P.underlying u=some d/\(d = .string\/∃b,d = .slice b):=by
 unfold SH at h;split at h
 ·rename_i a;exact⟨_,Cj a,.inl rfl⟩
 ·rename_i e a;exact⟨_,L0 a,.inr ⟨_,rfl⟩⟩
 ·cases h
def Bj{P:Program}{t u ty e n cap:Nat}{i:TypeInfo}{d:TypeDesc}{base:Option Addr}{X:Value}{b:List (List SV)}{g:List Value}{w':World}(o:P.underlying t=some (.slice e))(p:P.underlying u=some d)(l:d = .string\/∃j,d = .slice j)(m:P.info? e=some i)
  (h:Qi P Γ w i.size X b g) (c:n+b.length<=cap) (f:match base with|some a=>(storeCells (a.add (n*i.size)) g).run P w = .ok () w'|none=>w'=w) :
  (v7 #[t,u] ty #[.slice base n cap,X]).run P w = .ok (.slice base (n+b.length) cap) w':=by
 have k:=h.first b.length (j4 _) w rfl;have hV:g.take (b.length*i.size)=g:=z7 (by rw[h.size];exact j4 _);rw[hV] at k;cases base with
 | none=>
  simp only at f;subst f;rcases l with rfl|⟨j,rfl⟩ <;>
   simp[v7,run_underlying o,run_underlying p,sizeOf,typeInfo,m,h.len,c,k]
 | some a=>
  simp only at f;rcases l with rfl|⟨j,rfl⟩ <;>
   simp[v7,run_underlying o,run_underlying p,sizeOf,typeInfo,m,h.len,c,k,f]
def Gl{P:Program}{t u ty e n cap:Nat}{c:TypeInfo}{z:Value}{d:TypeDesc}{base:Option Addr}{X:Value}{a:List (List SV)}{h olds:List Value}(A:P.underlying t=some (.slice e))(B:P.underlying u=some d)(v:d = .string\/∃o,d = .slice o)(x:P.info? e=some c)(D:c.zero=some z)
  (l:Qi P Γ w c.size X a h) (q:∀w':World,w'.heap=w.heap->(y9 c.size n (.slice base n cap)).run P w' = .ok olds.toArray w') (b:cap<n+a.length) (j:n+a.length<=maxLen) (m:(n+a.length)*c.bytes<=140737488355328) :
  (v7 #[t,u] ty #[.slice base n cap,X]).run P w = .ok (.slice (some ⟨w.heap.size,0,none⟩) (n+a.length) (grownCap w (n+a.length) cap e))
   (w.drew.alloc (.cells (olds.toArray++h.toArray++aa6 z.cells (grownCap w (n+a.length) cap e-(n+a.length))) e)):=by
 have p:=l.first a.length (j4 _) w.drew rfl;have hV:h.take (a.length*c.size)=h:=z7 (by rw[l.size];exact j4 _);rw[hV] at p;have k:=q w.drew rfl;have y:¬(n+a.length<=cap):=by omega
 have i:n+a.length<=9223372036854775807:=by simp only[maxLen] at j;omega
 have g:¬(9223372036854775807<((n:Int)+(a.length:Int))):=by omega
 have f:¬(281474976710656<Builtin.nextslicecap (n+a.length) cap*c.bytes):=by have:=growslice_fits b m;omega
 rcases v with rfl|⟨o,rfl⟩ <;>
 ·simp[v7,run_underlying A,run_underlying B,sizeOf,typeInfo,zeroValue,x,D,l.len,y,g,f,Question.forced,p,k,newRow,grownCap]
  congr 2
  apply aj8;simp[aa7]
end
section
variable {Γ : Ctx} {H : List Blk} {w : World} {R : Type} {r : R} {C : Cfg}
def Els(St:Nat->Prop)(w:World)(n:Nat)(a:List (List SV))(b:List Value):Prop:=
 b.length=a.length*n/\∀i (h:i<a.length),(a[i]).length=n/\∀j (c:j<(a[i]).length),∃U,b[i*n+j]? = some U/\VS St w (a[i][j]) U
def Qi.toEls{P:Program}{n:Nat}{X:Value}{news:List (List SV)}{Vs:List Value}(h:Qi P Γ w n X news Vs):Els Γ.St w n news Vs:=⟨h.size,h.els⟩
def Els.append{St:Nat->Prop}{n:Nat}{a b:List (List SV)}{A B:List Value}(ha:Els St w n a A)(hb:Els St w n b B):Els St w n (a++b) (A++B):=by
 refine⟨by rw[j6,j6,ha.1,hb.1,o6],λi hi=>?_⟩;rw[j6] at hi;by_cases h:i<a.length
 ·have e:(a++b)[i]'(by rw[j6];exact hi)=a[i]:=p7 h;refine⟨by rw[e];exact(ha.2 i h).1,λj hj=>?_⟩;have hj':j<(a[i]).length:=by rw[<-e];exact hj
  obtain⟨U,e1,k⟩:=(ha.2 i h).2 j hj';grind
 ·have h':i-a.length<b.length:=by omega
  have e:(a++b)[i]'(by rw[j6];exact hi)=b[i-a.length]:=ac5 (by omega);refine⟨by rw[e];exact(hb.2 _ h').1,λj hj=>?_⟩;have hj':j<(b[i-a.length]).length:=by rw[<-e];exact hj
  obtain⟨U,e1,k⟩:=(hb.2 _ h').2 j hj';refine⟨U,?_,by simp only[e];exact k⟩;have hle:a.length*n<=i*n:=j5 _ (by omega);rw[s9 (by rw[ha.1];omega),ha.1,<-e1]
  congr 1
  rw[Nat.sub_mul];omega
def Els.mono{St St':Nat->Prop}{w':World}{n:Nat}{els:List (List SV)}{Vs:List Value}(h:Els St w n els Vs)(hs:∀g,St g->w'.heap[g]? = w.heap[g]?)(hsub:∀g,St g->St' g):Els St' w' n els Vs:=
 ⟨h.1,λi hi=>⟨(h.2 i hi).1,λj hj=>by obtain⟨U,e,k⟩:=(h.2 i hi).2 j hj;exact⟨U,e,k.mono hs hsub⟩⟩⟩
def BR.els{Γ':Ctx}{sh:Nat->Option Shp}{w':World}{b g e n:Nat}{v:Bool}{els:List (List SV)}{Vs:List Value}{cur:Array Value}(hg:Γ'.nm b=some g)(hh:w'.heap[g]? = some (.cells cur e (0,0)))(hE:Els Γ'.St w' n els Vs)(hne:¬(v=true/\els=[]))
  (hc:∀q,q<Vs.length->cur[q]? = Vs[q]?) (hl:Vs.length<=cur.size):BR Γ' sh w' b (.arr v e n els):=by
 refine .inr ⟨hne,g,cur,hg,hh,by rw[<-hE.1];exact hl,λi hi=>(hE.2 i hi).1,λi hi j hj=>?_⟩;obtain⟨U,e1,k⟩:=(hE.2 i hi).2 j hj;exact⟨U,by rw[hc _ (j2.1 e1).1];exact e1,k⟩
def EO{n m bytes:Nat}(h:n+m<=68719476736)(a:bytes<=512):(n+m)*bytes<=140737488355328:=by have:(n+m)*bytes<=68719476736*512:=Nat.mul_le_mul h a;omega
def Kg{need cap e:Nat}(h:need<=68719476736):need<=grownCap w need cap e/\grownCap w need cap e<=maxLen:=
 ⟨grownCap_ge _ _ _ _,grownCap_le_maxLen _ _ _ _ (by simp only[maxLen];omega)⟩
def DB{olds Vs:List Value}{z:Array Value}{k n m size:Nat}(c:z.size=size)(a:olds.length=n*size)(hV:Vs.length=m*size)(d:n+m<=k) :
  (olds.toArray++Vs.toArray++aa6 z (k-(n+m))).size=k*size/\(∀q,q<(olds++Vs).length->(olds.toArray++Vs.toArray++aa6 z (k-(n+m)))[q]? = (olds++Vs)[q]?):=by
 refine⟨?_,λq b=>?_⟩
 ·simp only[ag0,List.size_toArray,size_zeroCells,c,a,hV,<-o6]
  congr 1;omega
 ·rw[aa8 (by simpa using b)];simp
def D81{z:Bool}{d:Nat}{b:List (List SV)}{S:Value}(h:VS Γ.St w (.sl z true d b) S):∃A,S = .slice A b.length b.length/\(z=true->A=none/\b=[])/\(z=false->A≠none)/\∀i (h:i<b.length),(b[i]).length=d:=by
 cases h with
 | nil=>exact⟨none,rfl,λ_=>⟨rfl,rfl⟩,by simp,λi h=>by simp at h⟩
 | emp _ _ a cap f e=>
  simp_all
 | sl _ _ g off n cap q j o c e f l m k p=>
  simp_all
def KD{t u ty e:Nat}{z:Bool}{els a:List (List SV)}{S X:Value}{A:Option Addr}{sl:List PV}{tmps:Array Value}(l:HR Γ H w)(U:C.P.underlying t=some (.slice e))(hu:SH (C.sh u)=true)(J:(C.ti e).ok=true)
  (hS:S = .slice A els.length els.length) (D:SlV Γ w S els) (hz:z=true->A=none/\els=[]) (j:∀i (h:i<els.length),(els[i]).length=(C.ti e).ks.length) {B:List Value} (y:Qi C.P Γ w (C.ti e).ks.length X a B)
  (I:z=true\/a≠[]) (Q:els.length+a.length<=68719476736) :
  WV C Γ H w sl tmps (v7 #[t,u] ty #[S,X]) (.fl H.length) sl (H++[.arr z e (C.ti e).ks.length (els++a)]):=by
 obtain⟨ud,q,v⟩:=Yv hu;obtain⟨ie,dd,Z,N,hd,L,p,F,O,a0,M,c⟩:=Dl J;subst hS;by_cases G:a=[]
 ·subst G;rcases I with h|h
  ·obtain⟨rfl,rfl⟩:=hz h;subst h;have b:=Bj (P:=C.P) (w:=w) (ty:=ty) (n:=0) (cap:=0) (base:=none) U q v N (by rw[c];exact y) (j4 _) (w':=w) rfl;exact⟨_,w,Γ,b,Ab6 l,Bd4 l rfl (.inl ⟨rfl,rfl⟩),SR.grow (Ze _ l),.flv _ e (C.ti e).ks.length (by rw[J0];rfl),by simp[PV.nms]⟩
  ·exact absurd rfl h
 ·have hm:0<a.length:=af5.2 G;obtain⟨olds,x⟩:=Qi.slice (P:=C.P) D j;have K:olds.take (els.length*(C.ti e).ks.length)=olds:=z7 (by rw[x.size];exact j4 _);have b:=Gl (P:=C.P) (w:=w) (ty:=ty) (olds:=olds) U q v N L (by rw[c];exact y) (λw' hw=>by have:=x.first els.length (j4 _) w' hw;rw[K] at this;rw[c];exact this) (by omega) (by simp only[maxLen];omega) (EO Q F);obtain⟨f,m⟩:=Kg (w:=w) (need:=els.length+a.length) (cap:=els.length) (e:=e) Q;generalize grownCap w (els.length+a.length) els.length e=V at b f m;obtain⟨W,Y⟩:=DB (z:=Z.cells) (by rw[<-p,c]) x.size y.size f;generalize T:olds.toArray++B.toArray++aa6 Z.cells (V-(els.length+a.length))=row at b W Y;have d:(w.drew.alloc (.cells row e)).heap=w.heap.push (.cells row e):=rfl;have hE:=(x.toEls.append y.toEls).mono (w':=w.drew.alloc (.cells row e)) (λg hg=>H8 d (l.stlt g hg)) (λ_ h=>h);have o:¬(z=true/\els++a=[]):=by rintro⟨_,h⟩;simp at h;exact G h.2
  have k:(olds++B).length<=row.size:=by grind
  refine Fi l b d rfl rfl rfl (BR.els (g:=w.heap.size) (cur:=row) (by simp[Ctx.upd]) (G9 d) hE o Y k) (by simp[Blk.nms]) ?_ (by simp[PV.nms]);refine .fl H.length w.heap.size z e (C.ti e).ks.length (els.length+a.length) V ?_ (λ_=>by omega) (by simp[Ctx.upd]) f m ?_
  ·rw[J0];simp[Blk.shp]
  ·simp only[aa1,G9 d,W]
def A40{t u ty e b A sz:Nat}{v:Bool}{a d:List (List SV)}{S X:Value}{sl:List PV}{B:Array Value}(D:HR Γ H w)(ht:C.P.underlying t=some (.slice e))(hu:SH (C.sh u)=true)(b7:(C.ti e).ok=true)(hb:H[b]? = some (.arr v A sz a))(b6:Ge C A=false)
  (Q:(v=true/\a=[])\/(A=e/\sz=(C.ti e).ks.length)) (hS:VP Γ (A3 H) w (.fl b) S) {Vs:List Value} (T:Qi C.P Γ w (C.ti e).ks.length X d Vs) (hr:a.length+d.length<=68719476736) :
  WV C Γ H w sl B (v7 #[t,u] ty #[S,X]) (.fl b) (Z0 b sl) ((H.map (Blk.kill b)).set b (.arr v e (C.ti e).ks.length (a++d))):=by
 obtain⟨ud,a4,a5⟩:=Yv hu;obtain⟨ie,dd,zv,V,hd,c1,a9,b2,c3,c7,c2,x⟩:=Dl b7;have f:=(j2.1 hb).1;have K:¬Je C (A3 H b):=by
  simp only[A3,hb,ab9,Blk.shp,Je,b6];simp
 have c5:b<((H.map (Blk.kill b)).set b (.arr v e (C.ti e).ks.length (a++d))).length:=by simpa using f
 have grow:∀(base:Option Addr) (cap:Nat),S = .slice base a.length cap->cap<a.length+d.length->SlV Γ w S a->(∀i (h:i<a.length),(a[i]).length=(C.ti e).ks.length)->
   WV C Γ H w sl B (v7 #[t,u] ty #[S,X]) (.fl b) (Z0 b sl) ((H.map (Blk.kill b)).set b (.arr v e (C.ti e).ks.length (a++d))):=by
  intro base cap b1 I Y l;subst b1;obtain⟨olds,W⟩:=Qi.slice (P:=C.P) Y l;have b8:olds.take (a.length*(C.ti e).ks.length)=olds:=z7 (by rw[W.size];exact j4 _);have m:=Gl (P:=C.P) (w:=w) (ty:=ty) (olds:=olds) ht a4 a5 V c1 (by rw[x];exact T) (λw' hw=>by have:=W.first a.length (j4 _) w' hw;rw[b8] at this;rw[x];exact this) I (by simp only[maxLen];omega) (EO hr b2);obtain⟨a0,a8⟩:=Kg (w:=w) (need:=a.length+d.length) (cap:=cap) (e:=e) hr;generalize grownCap w (a.length+d.length) cap e=kc at m a0 a8;obtain⟨r1,r2⟩:=DB (z:=zv.cells) (by rw[<-a9,x]) W.size T.size a0;generalize c4:olds.toArray++Vs.toArray++aa6 zv.cells (kc-(a.length+d.length))=row at m r1 r2;have G:(w.drew.alloc (.cells row e)).heap=w.heap.push (.cells row e):=rfl;have N:∀g,Γ.St g->(w.drew.alloc (.cells row e)).heap[g]? = w.heap[g]?:=λg p=>H8 G (D.stlt g p)
  have hE:=(W.toEls.append T.toEls).mono (w':=w.drew.alloc (.cells row e)) N (λ_ h=>h);have b3:0<a.length+d.length:=by omega
  have J:¬(v=true/\a++d=[]):=by rintro⟨_,h⟩;have:=congrArg ae8 h;simp at this;simp[this] at b3
  have M:(olds++Vs).length<=row.size:=by grind
  have L:(Γ.re b (some w.heap.size)).nm b=some w.heap.size:=by simp[Ctx.re]
  obtain⟨s1,s2,s3⟩:=NP (C:=C) (y:=.arr v e (C.ti e).ks.length (a++d)) (ng:=some w.heap.size) (w':=w.drew.alloc (.cells row e)) D f K (λg p=>by
    simp only[c9] at p;subst p;refine⟨by rw[G];simp,λhs=>ai3 _ (D.stlt _ hs),λc _ Q=>ai3 _ (D.lt c _ Q).2.1⟩)
   (λg p=>by simp only[c9] at p;subst p;exact .inr (j4 _)) (λk O _=>H8 G O) (by rw[G];simp) rfl rfl rfl
   (BR.els (g:=w.heap.size) (cur:=row) L (G9 G) hE J r2 M) rfl
  refine⟨_,_,_,m,s1,s2,s3 sl B,?_,by simpa[PV.nms] using f⟩;refine .fl b w.heap.size v e (C.ti e).ks.length (a.length+d.length) kc ?_ (λ_=>by omega) L a0 a8 ?_
  ·rw[AH f,ac rfl];simp[Blk.shp]
  ·simp only[aa1,G9 G,r1]
 cases hS with
 | flv _ e2 b0 h'=>
  obtain⟨rfl,_,_,h4⟩:=S9 hb h';obtain rfl:=k9.1 h4;by_cases hn:d=[]
  ·subst hn;have m:=Bj (P:=C.P) (w:=w) (ty:=ty) (n:=0) (cap:=0) (base:=none) ht a4 a5 V (by rw[x];exact T) (j4 _) (w':=w) rfl;obtain⟨s1,s2,s3⟩:=NP (C:=C) (y:=.arr true e (C.ti e).ks.length ([]++[])) (ng:=Γ.nm b) (w':=w) D f K (λg p=>⟨(D.lt b g p).2.1,(D.lt b g p).2.2,λc Q Z=>Q (D.inj c b g Z p)⟩)
    (λg p=>.inl p) (λ_ _ _=>rfl) (j4 _) rfl rfl rfl (.inl ⟨rfl,rfl⟩) rfl
   exact⟨_,_,_,m,s1,s2,s3 sl B,.flv b e (C.ti e).ks.length (by rw[AH f,ac rfl];rfl),by simpa[PV.nms] using f⟩
  ·have hm:0<d.length:=af5.2 hn;refine grow none 0 rfl (by simpa using hm) ⟨none,0,rfl,j4 _,y7 _,λ_=>rfl,λh=>absurd rfl h⟩ (λi h=>by simp at h)
 | fl _ g v' e2 b0 n' cap h' hv p I hm hs=>
  have Y:=AJ (C:=C) D (VP.fl b g v' e2 b0 n' cap h' hv p I hm hs) (show Gi H (.fl b)=some a by simp only[Gi,hb]);obtain⟨rfl,rfl,rfl,rfl⟩:=S9 hb h';have a2:¬(v=true/\a=[]):=by rintro⟨q1,q2⟩;exact hv q1 (by rw[q2];rfl)
  rcases Q with Q|⟨rfl,rfl⟩
  ·exact absurd Q a2
  ·obtain⟨g',cur,a7,hh,M,l,a6⟩:=D.arr' hb a2;rw[p] at a7;cases a7;by_cases F:a.length+d.length<=cap
   ·have b4:cur.size=cap*(C.ti A).ks.length:=by
     have:=hs;simp only[aa1,hh,c9,ad3,true_and] at this;exact this
    have a1:a.length*(C.ti A).ks.length+Vs.length<=cur.size:=by
     rw[T.size,b4,<-o6];exact j5 _ F
    obtain⟨w',r1,r2,r3,r4,r5,r6,r7,r8⟩:=M3 (P:=C.P) (o:=a.length*(C.ti A).ks.length) hh a1 T.one;have m:=Bj (P:=C.P) (w:=w) (ty:=ty) (n:=a.length) (cap:=cap) (base:=some ⟨g,0,none⟩) ht a4 a5 V (by rw[x];exact T) F (w':=w') (by simp only;rw[N2,x,aa0];exact r1);have N:∀k,Γ.St k->w'.heap[k]? = w.heap[k]?:=λk O=>r3 k (λe=>(D.lt b g p).2.2 (e▸O))
    have W:Els Γ.St w (C.ti A).ks.length a (cur.toList.take (a.length*(C.ti A).ks.length)):=by
     refine⟨by simp;omega,λi V=>⟨l i V,λj hj=>?_⟩⟩;obtain⟨U,e1,k⟩:=a6 i V j hj;refine⟨U,?_,k⟩;have c6:j<(C.ti A).ks.length:=by rw[<-l i V];exact hj
     have:(i+1)*(C.ti A).ks.length<=a.length*(C.ti A).ks.length:=j5 _ V;rw[o6] at this;rw[x8,ac (by omega)];simpa using e1
    have hE:=(W.append T.toEls).mono (w':=w') N (λ_ h=>h);have J:¬(v=true/\a++d=[]):=by rintro⟨h1,h⟩;simp at h;exact a2 ⟨h1,h.1⟩
    have L:(Γ.re b (some g)).nm b=some g:=by simp[Ctx.re]
    have a3:(cur.toList.take (a.length*(C.ti A).ks.length)).length=a.length*(C.ti A).ks.length:=W.1;obtain⟨s1,s2,s3⟩:=NP (C:=C) (y:=.arr v A (C.ti A).ks.length (a++d)) (ng:=some g) (w':=w') D f K (λk O=>by
      simp only[c9] at O;subst O;refine⟨by have:=(D.lt b g p).2.1;omega,(D.lt b g p).2.2,λc Q Z=>Q (D.inj c b g Z p)⟩)
     (λk O=>by simp only[c9] at O;subst O;exact .inl p) (λk O b5=>r3 k (λe=>b5 (e▸p))) (by omega) r5 r6 r7
     (BR.els L r2 hE J (λq hq=>by
      rw[j6,a3] at hq;simp only[aa5];rw[O7 _ _ _ (by simpa using a1)];by_cases b9:q<a.length*(C.ti A).ks.length
      ·rw[ae (by omega),p5 (by omega),x8,ac b9]
      ·rw[ac (by omega),s9 (by omega),a3]) (by rw[j6,a3];simpa[E5] using a1)) rfl
    refine⟨_,_,_,m,s1,s2,s3 sl B,?_,by simpa[PV.nms] using f⟩;refine .fl b g v A (C.ti A).ks.length (a.length+d.length) cap ?_ (λc0=>?_) L F hm ?_
    ·rw[AH f,ac rfl];simp[Blk.shp]
    ·have:=hv c0;omega
    ·rw[r8];exact hs
   ·exact grow _ cap rfl (by omega) Y l
def Uc{t u ty:Nat}{sl:List PV}{s x:PV}{S X:Value}{k:PV->List PV->List Blk->Option R}{tmps:Array Value}(j:HR Γ H w)(F:SH (C.sh u)=true)(h:Gp C t sl s x H k=some r)(n:VP Γ (A3 H) w s S)(J:VP Γ (A3 H) w x X) :
  ∃v m H',k v m H'=some r/\WV C Γ H w sl tmps (v7 #[t,u] ty #[S,X]) v m H':=by
 unfold Gp at h;split at h
 ·rename_i e B;have D:=L0 B;split at h
  ·rename_i a;simp only[j0] at a;obtain⟨a,l⟩:=a;split at h
   ·rename_i G f;obtain⟨L,p⟩:=UE (C:=C) j J l f;split at h
    ·obtain⟨c,g⟩:=C9 h;simp only[G0,af] at c;obtain rfl:=n.inv_nsl;have:=KD (C:=C) (t:=t) (u:=u) (ty:=ty) (z:=true) (els:=[]) (A:=none) (sl:=sl) (tmps:=tmps) j D F a rfl ⟨none,0,rfl,j4 _,y7 _,λ_=>rfl,λh=>absurd rfl h⟩ (λ_=>⟨rfl,rfl⟩) (λi h=>by simp at h) p (.inl rfl) (by simpa using c);exact⟨_,_,_,g,this⟩
    ·rename_i z N els;split at h
     ·rename_i y;subst y;obtain⟨c,g⟩:=C9 h;simp only[G0,j0,aa2,af,ac6,List.isEmpty_eq_false_iff] at c;obtain⟨A,rfl,K,_,d⟩:=D81 n.inv_s;have o:=AJ (C:=C) j n (show Gi H (.s (.sl z true (C.ti e).ks.length els))=some els from rfl);exact⟨_,_,_,g,KD (C:=C) j D F a rfl o K d p c.1 c.2⟩
     ·cases h
    ·rename_i b;split at h
     ·rename_i v M O els I;split at h
      ·rename_i q;simp only[j0,ac6,aa2,af,ab5] at q;obtain⟨c,g⟩:=C9 h;simp only[G0,af] at c;exact⟨_,_,_,g,A40 (C:=C) j D F a I q.1 q.2.symm n p c⟩
      ·cases h
     ·cases h
    ·cases h
   ·cases h
  ·cases h
 ·cases h
end
end
end Go.Proofs.YtddlcgjamdbinaaGreatDoor.E
