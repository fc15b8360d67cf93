/-
  Parts of the proof, merged by a program of the prover's own; no condition.
-/
import Derived.Below
import Derived.Control
import Derived.Laws.AppendOwn
import Derived.Laws.BytesString
import Derived.Laws.CopyRow
import Derived.Laws.IdiomStrings
import Derived.Laws.MakeOwn
import Derived.Laws.RangeString
import Derived.Laws.Runes
import Derived.Laws.Tables
import Derived.Lib.Strings
import Derived.TacticsIn
import Derived.WalkKit
import Derived.WalkLawsBesides
import Derived.WalkSpells
open Option.some renaming injEq->a8
open List renaming getElem?_eq_getElem->b8,getElem?_eq_some_iff->j2,length_append->j6,getElem_map->j7,getElem_mem->j8,length_map->j9,getElem?_map->o0,mem_append->o5,length_eq_zero_iff->o7,getElem?_append_left->o8,replicate->o9,getElem_append_left->p4,all_eq_true->p6,getD_eq_getElem?_getD->p7,getElem?_append_right->p9,getElem_cons_zero->w6,getElem_set->x6,length_set->x8,getElem?_take->x9,eq_nil_of_length_eq_zero->y5,length_singleton->y9,getElem_append_right->z7,foldl_cons->aa0,mem_map->aa1,take_of_length_le->aa5,mem_zipIdx_iff_getElem?->ab0,getElem?_toArray->ab2,append_assoc->ab4,length_take->ab7,mem_cons->ac0,isEmpty_iff->ac3,mem_map_of_mem->ac8,take_zero->ad2,ext_getElem?->ad3,flatten_cons->ad4,getElem_replicate->ae5,range->ae6,length_nil->ae8,map_append->ae9,getElem?_eq_none->af0,length_replicate->af1,length->af2,length_pos_iff->af9,drop_nil->ag1,getElem?_drop->ag3,getElem?_set->ag7,getD->ah2,getElem_inj->ah3,length_drop->ah4,range'->ah9,append_nil->ai2,mem_filter->ai3,nodup_cons->ai4,all_cons->ai9,take_nil->aj0,map_map->aj4
open Bool renaming and_eq_true->b9,or_eq_true->aa9,false_eq_true->ac1,not_eq_true'->ac2,not_eq_true->ah1,true_and->ai6
open Nat renaming le_refl->j4,mul_le_mul_right->j5,add_mul->k9,zero_le->aa2,lt_of_lt_of_le->aa6,zero_add->aa7,add_zero->ab8,le_trans->ad0,add_sub_cancel_left->ad9,le_of_not_lt->ae0,ble->af6,add_assoc->ag2,min_zero->ag8,mod_eq_of_lt->ah5,mod_lt->ai5,lt_irrefl->aj1,mul_comm->aj5,zero_mul->aj6
open Go.Result renaming andThen_ok->o6,andThen->af4
open Array renaming getD_eq_getD_getElem?->p5,length_toList->x4,getElem?_setIfInBounds->y7,getElem?_append_left->ab5,getElem?_eq_some_iff->ad1,getElem?_eq_none->ae1,size_append->ag5,toList_map->ah0,ext'->ak8
open Go.Op renaming equalIn->v7,bytesLess->ae7,equal->ag9,eqFields->ai0,unary->ak5
open Go.Sem renaming run_bind->v8,run_pure->w9
open Option renaming map_eq_some_iff->w8,map_some->x5,map_map->af3,bind_some->ah6,getD_some->ah7
open Decidable renaming byContradiction->x3
open Go.Builtin renaming append_->x7,firstCells->aa4,zeroCells->ab3,copy_->ab9,len_->ae2,lenOf->ai7
open Go.Instr renaming sureAddr->y8,sliceAt->ab1,buildSlice->ab6,indexAt->ac4,loadAt->ac9,storeAt->ad7,fill->ae3,next->ae4,fieldAt->ag0,sliceBounds->ag6,alloc->aj8,field->aj9,index->ak0,slice->ak1
open BitVec renaming ofInt->aa3
open Go.World renaming shape?->aa8,cell?->ac6
open Int renaming ofNat_eq_natCast->ac5,negSucc_lt_zero->af7,toNat_of_nonneg->af8
open Go.ByteArray renaming toList_eq->ac7
open UInt8 renaming ofNat->ad5
open Go.Utf8 renaming decode->ad6,encode->ak7
open Prod.mk renaming injEq->ad8
open Std.Legacy.Range renaming forIn_eq_forIn_range'->af5,size->aj7
open Go.Array renaming range_zero'->ag4
open Or renaming inl->ah8
open ByteArray renaming empty->ai1
open Function renaming comp->ai8
open Go.Program renaming built->aj2
open Go.Value renaming int->aj3
namespace Go.Proofs.YtkegcjamihlmmaaGreatDoor.E
set_option linter.all false
section
open Go
inductive SV where
 | bool (b:Bool)
 | int (k:IntKind) (n:Int)
 | str (l:List UInt8)
 | nilp
 | nilm
 | nilf
 | sl (z t:Bool) (k:Nat) (els:List (List SV))
 | sp (els:List (List SV)) (i off:Nat)
 | fn (f:Fn) (first caps:List SV)
 deriving Inhabited
inductive PV where
 | s (v:SV)
 | nsl
 | fl (b:Nat)
 | vw (b i n:Nat)
 | ptr (b i off:Nat)
 | fnr (f:Fn) (first caps:List PV)
 | it (b:Nat)
 | yd
 | agg (l:List PV)
 | tup (l:List PV)
 | bad
 deriving Inhabited
inductive Blk where
 | arr (v:Bool) (e sz:Nat) (els:List (List SV))
 | box (cells:List PV)
 | iter (s:List UInt8) (pos:Nat)
 | dead
 deriving Inhabited
inductive CK where
 | bool
 | int (k:IntKind)
 | str
 | sl (k:Nat)
 | ptr
 | map
 | fn
 deriving DecidableEq,Inhabited
structure TI where
 ok:Bool
 agg:Bool
 ks:List CK
 deriving Inhabited
inductive Sh where
 | int (k:IntKind)
 | str
 | bool
 | slice (e:Nat)
 | array (n e:Nat)
 | struct (fs:List (Nat × Nat))
 | ptr (e:Nat)
 | map (k e:Nat)
 | fn
 | other
 deriving Inhabited
def Bu1:CK->Value->Bool
 | .bool,.bool b=>!b
 | .int k,.int a n=>decide (k=a)&&decide (n=0)
 | .str,.string s=>s.data.toList.isEmpty
 | .sl _,.slice none 0 0=>true
 | .ptr,.pointer none=>true
 | .map,.map none=>true
 | .fn,.nilFunc=>true
 | _,_=>false
def Da:List CK->List Value->Bool
 | [],[]=>true
 | c::r,v::q=>Bu1 c v&&Da r q
 | _,_=>false
def ksF(f:Nat->Option (List CK)):List Field->Nat->Option (List CK)
 | [],_=>some []
 | x::r,off=>if x.offset==off then match f x.type with
   | some a=>match ksF f r (off+a.length) with
    | some b=>some (a++b)
    | none=>none
   | none=>none else none
def PI(P:Program):Nat->Nat->Option (List CK)
 | 0,_=>none
 | d+1,t=>match P.underlying t with
  | some .bool=>some [.bool]
  | some (.int k)=>some [.int k]
  | some .string=>some [.str]
  | some (.slice e)=>match P.info? e with
   | some i=>some [.sl i.size]
   | none=>none
  | some (.pointer _)=>some [.ptr]
  | some (.map _ _)=>some [.map]
  | some (.func _ _ _)=>some [.fn]
  | some (.struct b)=>ksF (PI P d) b.toList 0
  | some (.array n e)=>match PI P d e with
   | some a=>some (o9 n a).flatten
   | none=>none
  | _=>none
def Dp9(P : Program)(t : Nat) : TI :=
  match P.info? t, P.underlying t, PI P 20 t with
  | some i, some d, some a => match i.zero with
    | some z => { ok := i.size==z.cells.size&&decide (i.bytes <= 512)&&decide (0 < i.size)&&Da a z.cells.toList, ks := a
                  agg := match d with | .struct _ => true | .array _ _ => true|_ => false }
    | none => { ok := false, agg := false, ks := [] }
  | _, _, _ => { ok := false, agg := false, ks := [] }
def Ad1(P:Program)(t:Nat):Sh:=
 match P.underlying t with
 | some (.slice e)=>.slice e
 | some (.array n e)=>.array n e
 | some (.struct a)=>.struct (a.toList.map λf=>(f.offset,f.type))
 | some (.pointer e)=>.ptr e
 | some (.map k e)=>.map k e
 | some (.func _ _ _)=>.fn
 | some (.bool)=>.bool
 | some (.int k)=>.int k
 | some (.string)=>.str
 | _=>.other
def MO(f:Nat->Option (List CK)):List Field->Nat->Option (List CK)
 | [],_=>some []
 | x::r,off=>if x.offset==off&&x.name != "_" then match f x.type with
   | some a=>match MO f r (off+a.length) with
    | some b=>some (a++b)
    | none=>none
   | none=>none else none
def SO(P:Program):Nat->Nat->Option (List CK)
 | 0,_=>none
 | d+1,t=>match P.underlying t with
  | some .bool=>some [.bool]
  | some (.int k)=>some [.int k]
  | some .string=>some [.str]
  | some (.struct c)=>if P.stoodInHeld t then none else match MO (SO P d) c.toList 0 with
   | some b=>if (P.info? t).map (·.size)==some b.length then some b else none
   | none=>none
  | some (.array n e)=>match SO P d e with
   | some a=>if (P.info? e).map (·.size)==some a.length&&(P.info? t).map (·.size)==some (o9 n a).flatten.length then some (o9 n a).flatten else none
   | none=>none
  | _=>none
def Df0(P:Program)(t:Nat):Bool:=SO P 20 t==some (Dp9 P t).ks&&!(P.eqGuardType P.depth t)
inductive Tr where
 | ret (v:PV) (H:List Blk)
 | need (c:Bool) (t:Tr)
 | split (c:Bool) (a b:Tr)
 | fail
def Iv{R:Type}:Tr->(PV->List Blk->Option R)->Option R
 | .ret v H,k=>k v H
 | .need c t,k=>cond c (Iv t k) none
 | .split c a b,k=>cond c (Iv a k) (Iv b k)
 | .fail,_=>none
def M3(t:Tr):Option (PV × List Blk):=Iv t λv H=>some (v,H)
theorem Bn{R:Type}{r:R}:∀{t:Tr} {k:PV->List Blk->Option R},Iv t k=some r->∃v H,M3 t=some (v,H)/\k v H=some r
 | .ret v H,k,h=>⟨v,H,rfl,h⟩
 | .need c t,k,h=>by
  cases c with
  | true=>exact Bn (t:=t) h
  | false=>cases h
 | .split c a b,k,h=>by
  cases c with
  | true=>exact Bn (t:=a) h
  | false=>exact Bn (t:=b) h
 | .fail,_,h=>by cases h
def SV.det:SV->Bool
 | .bool _=>true
 | .int _ _=>true
 | .str _=>true
 | _=>false
def PV.det1:PV->Bool
 | .s x=>x.det
 | _=>false
def PV.det:PV->Bool
 | .s x=>x.det
 | .tup l=>l.all PV.det1
 | _=>false
def Sl:Tr->Tr
 | .ret v H=>cond (v.det&&H.isEmpty) (.ret v H) .fail
 | .need c t=>.need c (Sl t)
 | .split c a b=>.split c (Sl a) (Sl b)
 | .fail=>.fail
theorem Cb:∀{t:Tr} {v:PV} {H:List Blk},M3 (Sl t)=some (v,H)->M3 t=some (v,H)/\v.det=true/\H=[]
 | .ret e H',v,H,h=>by
  simp only[Sl] at h;cases d:(e.det&&H'.isEmpty) with
  | false=>rw[d] at h;cases h
  | true=>
   rw[d] at h;simp only[b9,ac3] at d;simp only[cond_true,M3,Iv,a8,ad8] at h;obtain⟨rfl,rfl⟩:=h;exact⟨rfl,d.1,d.2⟩
 | .need c t,v,H,h=>by
  cases c with
  | true=>exact Cb (t:=t) h
  | false=>cases h
 | .split c a b,v,H,h=>by
  cases c with
  | true=>exact Cb (t:=a) h
  | false=>exact Cb (t:=b) h
 | .fail,_,_,h=>by cases h
structure GT where
 tab:Nat->Option (IntKind × List Int)
 gi:Nat->Bool
structure Cfg where
 P:Program
 G:GT
 X:Nat->Option (List PV->Tr)
 lend:Nat->Bool
 okf:Nat->Bool
 lf:Nat
 keep:Nat->Option (List Nat):=λ_=>none
 keepR:Nat->Option (List Nat):=λ_=>none
 xp:Nat->Bool:=λ_=>false
 keepE:Nat->Option (List Nat):=λ_=>none
 keepT:Option (List Nat):=none
 Y:Nat->Option (List PV->List Blk->Tr):=λ_=>none
 S:Nat->Option (List PV->List Blk->Option (Bool × List (List PV))):=λ_=>none
 nilT:Nat->Nat->Nat × Nat:=λ_ _=>(0,0)
 rowR:Nat->Option Nat:=λ_=>none
 farR:Nat->Option (List Nat × List Nat):=λ_=>none
 Z:Nat->Option (SV->List (List SV)->Bool × List (List SV)):=λ_=>none
def Cfg.ti(C:Cfg)(t:Nat):TI:=Dp9 C.P t
def Cfg.sh(C:Cfg)(t:Nat):Sh:=Ad1 C.P t
def SV.gB:SV->Bool | .bool b=>b|_=>false
def SV.gI:SV->Int | .int _ n=>n|_=>0
def SV.gS:SV->List UInt8 | .str l=>l|_=>[]
def SV.gZ:SV->Bool | .sl z _ _ _=>z|_=>false
def SV.gT:SV->Bool | .sl _ t _ _=>t|_=>false
def SV.gE:SV->List (List SV) | .sl _ _ _ e=>e|_=>[]
def SV.has:CK->SV->Bool
 | .bool,.bool _=>true
 | .int k,.int k' _=>k=k'
 | .str,.str _=>true
 | .sl k,.sl z _ k' _=>decide (k=k')||z
 | .ptr,.nilp=>true
 | .ptr,.sp _ _ _=>true
 | .map,.nilm=>true
 | .fn,.nilf=>true
 | .fn,.fn _ _ _=>true
 | _,_=>false
def SV.as:CK->SV->PV
 | .bool,x=>.s (.bool x.gB)
 | .int k,x=>.s (.int k x.gI)
 | .str,x=>.s (.str x.gS)
 | .sl k,x=>.s (.sl x.gZ x.gT k x.gE)
 | _,x=>.s x
def PV.has:CK->PV->Bool
 | .bool,.s x=>x.has .bool
 | .int k,.s x=>x.has (.int k)
 | .str,.s x=>x.has .str
 | .sl k,.s x=>x.has (.sl k)
 | .sl _,.nsl=>true
 | .sl _,.fl _=>true
 | .sl _,.vw _ _ _=>true
 | .ptr,.s x=>x.has .ptr
 | .ptr,.ptr _ _ _=>true
 | .map,.s x=>x.has .map
 | .fn,.s x=>x.has .fn
 | .fn,.fnr _ _ _=>true
 | .fn,.yd=>true
 | _,_=>false
def PV.toS:PV->SV
 | .s x=>x
 | _=>.nilp
def PV.as:CK->PV->PV
 | .bool,v=>.s (.bool v.toS.gB)
 | .int k,v=>.s (.int k v.toS.gI)
 | .str,v=>.s (.str v.toS.gS)
 | .sl k,.s x=>x.as (.sl k)
 | _,v=>v
def PV.sv?:PV->Option SV
 | .s v=>some v
 | .nsl=>some (.sl true true 0 [])
 | _=>none
def PV.cells:PV->List PV
 | .agg l=>l
 | .bad=>[]
 | v=>[v]
def PV.one:PV->Bool
 | .bad=>false
 | .agg _=>false
 | .tup _=>false
 | _=>true
def Td:List PV->Option (List SV)
 | []=>some []
 | v::r=>match v.sv?,Td r with
  | some x,some y=>some (x::y)
  | _,_=>none
def need{R:Type}(c:Bool)(k:Option R):Option R:=cond c k none
def Ku{R:Type}(b:Bool)(k:Bool->Option R):Option R:=cond b (k true) (k false)
def Qw:Value->PV
 | .bool b=>.s (.bool b)
 | .int k n=>.s (.int k n)
 | .string s=>.s (.str s.data.toList)
 | .pointer none=>.s .nilp
 | .slice none 0 0=>.nsl
 | .map none=>.s .nilm
 | .nilFunc=>.s .nilf
 | _=>.bad
def HH:Value->PV
 | .agg b=>.agg (b.toList.map Qw)
 | .tuple a=>if a.size=0 then .tup [] else .bad
 | v=>Qw v
def opnd(C:Cfg)(sl:List PV):Operand->PV
 | .tmp t=>sl.getD t (.tup [])
 | .const v=>HH v
 | .global g=>match C.G.tab g with
  | some (k,a)=>.s (.sp [a.map (SV.int k)] 0 0)
  | none=>.bad
 | .func f=>.s (.fn (.func f) [] [])
def Bp:CK->PV
 | .bool=>.s (.bool false)
 | .int k=>.s (.int k 0)
 | .str=>.s (.str [])
 | .sl _=>.nsl
 | .ptr=>.s .nilp
 | .map=>.s .nilm
 | .fn=>.s .nilf
def Yj(t:TI)(cells:List PV)(off:Nat):PV:=
 if t.agg then .agg (t.ks.zipIdx.map λ(c,j)=>(cells.getD (off+j) .bad).as c)
 else match t.ks with
  | [c]=>(cells.getD off .bad).as c
  | _=>.bad
def okP(t:TI)(cells:List PV)(off:Nat):Bool:=
 t.ok&&t.ks.zipIdx.all λ(c,j)=>(cells.getD (off+j) .bad).has c
def Ao5(t:TI)(cells:List SV)(off:Nat):PV:=
 if t.agg then .agg (t.ks.zipIdx.map λ(c,j)=>(cells.getD (off+j) .nilp).as c)
 else match t.ks with
  | [c]=>(cells.getD off .nilp).as c
  | _=>.bad
def okS(t:TI)(cells:List SV)(off:Nat):Bool:=
 t.ok&&decide (off+t.ks.length<=cells.length)&&t.ks.zipIdx.all λ(c,j)=>(cells.getD (off+j) .nilp).has c
def G4{a:Type}:List a->Nat->List a->List a
 | l,_,[]=>l
 | l,off,v::b=>G4 (l.set off v) (off+1) b
def H7(f:Nat->Nat × Nat):List PV->Nat->List Blk->List PV × List Blk
 | [],_,H=>([],H)
 | .nsl::r,j,H=>let(r',H'):=H7 f r (j+1) (H++[.arr true (f j).1 (f j).2 []]);(.fl H.length::r',H')
 | v::r,j,H=>let(r',H'):=H7 f r (j+1) H;(v::r',H')
def Oz(H:List Blk):PV->Option (List (List SV))
 | .nsl=>some []
 | .s (.sl _ _ _ a)=>some a
 | .fl b=>match H[b]? with|some (.arr _ _ _ a)=>some a|_=>none
 | .vw b i n=>match H[b]? with|some (.arr _ _ _ a)=>some ((a.drop i).take n)|_=>none
 | _=>none
def Dy(H:List Blk):PV->Option Nat
 | .nsl=>some 0
 | .s (.sl _ _ _ a)=>some a.length
 | .s (.str l)=>some l.length
 | .fl b=>match H[b]? with|some (.arr _ _ _ a)=>some a.length|_=>none
 | .vw _ _ n=>some n
 | _=>none
def B08(H:List Blk):PV->Option Bool
 | .nsl=>some true
 | .s (.sl z _ _ _)=>some z
 | .fl b=>match H[b]? with|some (.arr v _ _ a)=>some (v&&a.isEmpty)|_=>none
 | .vw b _ _=>match H[b]? with|some (.arr v _ _ a)=>some (v&&a.isEmpty)|_=>none
 | _=>none
def E4(b:UInt8):List SV:=[.int .u8 b.toNat]
def Nb(a:List SV):UInt8:=ad5 (a.getD 0 .nilp).gI.toNat
def Pk:List SV->Bool|[.int .u8 n]=>decide (0<=n)&&decide (n<256)|_=>false
def GD(n:Nat)(H:List Blk):PV->Bool
 | .nsl=>true
 | .s (.str _)=>decide (n=1)
 | .s (.sl z _ d _)=>decide (d=n)||z
 | .fl b=>match H[b]? with|some (.arr v _ c a)=>decide (c=n)||(v&&a.isEmpty)|_=>false
 | .vw b _ _=>match H[b]? with|some (.arr v _ c a)=>decide (c=n)||(v&&a.isEmpty)|_=>false
 | _=>false
def MY(H:List Blk):PV->Option (List (List SV))
 | .s (.str l)=>some (l.map E4)
 | v=>Oz H v
mutual
def PV.kill(b:Nat):PV->PV
 | .fl c=>if c=b then .bad else .fl c
 | .vw c i n=>if c=b then .bad else .vw c i n
 | .ptr c i o=>if c=b then .bad else .ptr c i o
 | .it c=>if c=b then .bad else .it c
 | .fnr f x y=>.fnr f (Y2 b x) (Y2 b y)
 | .agg l=>.agg (Y2 b l)
 | .tup l=>.tup (Y2 b l)
 | v=>v
def Y2(b:Nat):List PV->List PV
 | []=>[]
 | v::r=>v.kill b::Y2 b r
end
def Blk.kill(b:Nat):Blk->Blk
 | .box cells=>.box (Y2 b cells)
 | x=>x
def ltI(a b:Int):Bool:=match a,b with
 | .ofNat m,.ofNat n=>af6 (m+1) n
 | .ofNat _,.negSucc _=>false
 | .negSucc _,.ofNat _=>true
 | .negSucc m,.negSucc n=>af6 (n+1) m
theorem Nl(a b:Int):ltI a b=decide (a<b):=by
 rw[Bool.eq_iff_iff];cases a with
 | ofNat m=>
  cases b with
  | ofNat n=>simp only[ltI,Nat.ble_eq,decide_eq_true_eq,ac5];omega
  | negSucc n=>
   have:=af7 n;simp only[ltI,ac1,decide_eq_true_eq,ac5,false_iff];omega
 | negSucc m=>
  cases b with
  | ofNat n=>
   have:=af7 m;simp only[ltI,decide_eq_true_eq,ac5,true_iff];omega
  | negSucc n=>simp only[ltI,Nat.ble_eq,decide_eq_true_eq,Int.negSucc_eq];omega
def Dz1(op:BinOp)(k:IntKind)(a b:Int):Option PV:=
 match op with
 | .add=>some (.s (.int k (k.wrap (a+b))))
 | .sub=>some (.s (.int k (k.wrap (a-b))))
 | .mul=>some (.s (.int k (k.wrap (a*b))))
 | .and=>some (.s (.int k (k.wrap (aa3 k.bits a &&& aa3 k.bits b).toNat)))
 | .or=>some (.s (.int k (k.wrap (aa3 k.bits a ||| aa3 k.bits b).toNat)))
 | .xor=>some (.s (.int k (k.wrap (aa3 k.bits a ^^^ aa3 k.bits b).toNat)))
 | .andNot=>some (.s (.int k (k.wrap (aa3 k.bits a &&& ~~~(aa3 k.bits b)).toNat)))
 | .eql=>some (.s (.bool (a==b)))
 | .neq=>some (.s (.bool (a !=b)))
 | .lss=>some (.s (.bool (ltI a b)))
 | .leq=>some (.s (.bool (!ltI b a)))
 | .gtr=>some (.s (.bool (ltI b a)))
 | .geq=>some (.s (.bool (!ltI a b)))
 | _=>none
def bytesLess:List UInt8->List UInt8->Bool
 | _,[]=>false
 | [],_::_=>true
 | a::x,b::y=>decide (a<b)||(a==b&&bytesLess x y)
def Dz2(op:BinOp)(a b:List UInt8):Option PV:=
 match op with
 | .add=>some (.s (.str (a++b)))
 | .eql=>some (.s (.bool (a==b)))
 | .neq=>some (.s (.bool (!(a==b))))
 | .lss=>some (.s (.bool (bytesLess a b)))
 | .leq=>some (.s (.bool (bytesLess a b||a==b)))
 | .gtr=>some (.s (.bool (!(bytesLess a b||a==b))))
 | .geq=>some (.s (.bool (!bytesLess a b)))
 | _=>none
def LT:PV->PV->Option Bool
 | .s (.bool a),.s (.bool b)=>some (a==b)
 | .s (.int k a),.s (.int c b)=>if k=c then some (a==b) else none
 | .s (.str a),.s (.str b)=>some (a==b)
 | _,_=>none
def P5:List PV->List PV->Option Bool
 | [],[]=>some true
 | a::x,b::y=>match LT a b,P5 x y with
  | some p,some q=>some (p&&q)
  | _,_=>none
 | _,_=>none
def Df1(H:List Blk)(sh:Sh)(x y:PV):Option Bool:=
 match sh,x,y with
 | .ptr _,.s .nilp,.s .nilp=>some true
 | .ptr _,.s .nilp,.s (.sp _ _ _)=>some false
 | .ptr _,.s (.sp _ _ _),.s .nilp=>some false
 | .ptr _,.s .nilp,.ptr _ _ _=>some false
 | .ptr _,.ptr _ _ _,.s .nilp=>some false
 | .fn,.s .nilf,.s .nilf=>some true
 | .fn,.s .nilf,.s (.fn _ _ _)=>some false
 | .fn,.s (.fn _ _ _),.s .nilf=>some false
 | .fn,.s .nilf,.fnr _ _ _=>some false
 | .fn,.fnr _ _ _,.s .nilf=>some false
 | .bool,.s (.bool a),.s (.bool b)=>some (a==b)
 | .slice _,x,.nsl=>B08 H x
 | .slice _,.nsl,y=>B08 H y
 | _,_,_=>none
def U5(a:Nat):Nat->List SV->List (List SV)
 | 0,_=>[]
 | n+1,l=>l.take a::U5 a n (l.drop a)
section ops
variable {R : Type} (C : Cfg)
def B55(op:BinOp)(t:Nat)(x y:PV)(H:List Blk)(k:PV->Option R):Option R:=
 match op,x,y with
 | .shl,.s (.int c a),.s (.int _ b)=>need (decide (0<=b)) (k (.s (.int c (c.wrap (a*2 ^ min b.toNat c.bits)))))
 | .shr,.s (.int c a),.s (.int _ b)=>need (decide (0<=b)) (k (.s (.int c (a.fdiv (2 ^ min b.toNat c.bits)))))
 | .quo,.s (.int c a),.s (.int d b)=>need (decide (c=d)&&b !=0) (k (.s (.int c (c.wrap (a.tdiv b)))))
 | .rem,.s (.int c a),.s (.int d b)=>need (decide (c=d)&&b !=0) (k (.s (.int c (a.tmod b))))
 | op,.s (.int c a),.s (.int d b)=>if c=d then match Dz1 op c a b with|some v=>k v|none=>none else none
 | .add,.s (.str a),.s (.str b)=>need (decide (a.length+b.length<4611686018427387904)) (k (.s (.str (a++b))))
 | op,.s (.str a),.s (.str b)=>match Dz2 op a b with|some v=>k v|none=>none
 | .eql,.agg x,.agg y=>if Df0 C.P t&&(C.ti t).agg&&okP (C.ti t) x 0&&okP (C.ti t) y 0&&decide (x.length=(C.ti t).ks.length) then match P5 x y with|some b=>k (.s (.bool b))|none=>none else none
 | .neq,.agg x,.agg y=>if Df0 C.P t&&(C.ti t).agg&&okP (C.ti t) x 0&&okP (C.ti t) y 0&&decide (x.length=(C.ti t).ks.length) then match P5 x y with|some b=>k (.s (.bool (!b)))|none=>none else none
 | .eql,x,y=>match Df1 H (C.sh t) x y with|some b=>k (.s (.bool b))|none=>none
 | .neq,x,y=>match Df1 H (C.sh t) x y with|some b=>k (.s (.bool (!b)))|none=>none
 | _,_,_=>none
def unK(op:UnOp)(x:PV)(k:PV->Option R):Option R:=
 match op,x with
 | .not,.s (.bool b)=>k (.s (.bool (!b)))
 | .neg,.s (.int a n)=>k (.s (.int a (a.wrap (0-n))))
 | _,_=>none
def Yi(t:TI)(a:PV)(H:List Blk)(k:PV->Option R):Option R:=
 match a with
 | .ptr b i off=>match H[b]? with
  | some (.box cells)=>if i=0 then need (okP t cells off) (k (Yj t cells off)) else none
  | some (.arr _ _ d c)=>
   if off+t.ks.length<=d then need (decide (i<c.length)&&okS t (c.getD i []) off) (k (Ao5 t (c.getD i []) off))
   else if i=0/\off=0 then need (decide (t.ks.length=c.length*d)&&okS t c.flatten 0) (k (Ao5 t c.flatten 0)) else none
  | _=>none
 | .s (.sp c i off)=>need (decide (i<c.length)&&okS t (c.getD i []) off) (k (Ao5 t (c.getD i []) off))
 | _=>none
def Wj(t:TI)(a v:PV)(H:List Blk)(k:List Blk->Option R):Option R:=
 if t.ok=true/\v.cells.length=t.ks.length/\v.cells.all PV.one=true then
  match a with
  | .ptr b i off=>match H[b]? with
   | some (.box cells)=>if i=0 then let(f,H'):=H7 (λ_=>(0,0)) v.cells 0 H;need (decide (off+t.ks.length<=cells.length)) (k (H'.set b (.box (G4 cells off f)))) else none
   | some (.arr z e d c)=>match Td v.cells with
    | some f=>
     if off+t.ks.length<=d then need (decide (i<c.length)) (k (H.set b (.arr z e d (c.set i (G4 (c.getD i []) off f)))))
     else if i=0/\off=0 then need (decide (t.ks.length=c.length*d)) (k (H.set b (.arr z e d (U5 d c.length f)))) else none
    | none=>none
   | _=>none
  | _=>none
 else none
def Dv(t:Nat)(x i:PV)(H:List Blk)(k:PV->Option R):Option R:=
 match i with
 | .s (.int _ n)=>match x with
  | .fl b=>match H[b]?,C.sh t with
   | some (.arr _ _ c a),.slice e=>if (C.ti e).ok/\(C.ti e).ks.length=c then need (decide (0<=n)&&decide (n<a.length)) (k (.ptr b n.toNat 0)) else none
   | _,_=>none
  | .vw b o m=>match H[b]?,C.sh t with
   | some (.arr _ _ c _),.slice e=>if (C.ti e).ok/\(C.ti e).ks.length=c then need (decide (0<=n)&&decide (n<m)) (k (.ptr b (o+n.toNat) 0)) else none
   | _,_=>none
  | .s (.sl _ _ d a)=>match C.sh t with
   | .slice e=>if (C.ti e).ok/\(C.ti e).ks.length=d then need (decide (0<=n)&&decide (n<a.length)) (k (.s (.sp a n.toNat 0))) else none
   | _=>none
  | .ptr b j off=>match C.sh t with
   | .array m e=>match H[b]? with
    | some (.arr _ _ c _)=>if j=0/\off=0/\(C.ti e).ok/\c=(C.ti e).ks.length then need (decide (0<=n)&&decide (n<m)) (k (.ptr b n.toNat 0)) else none
    | some (.box _)=>if (C.ti e).ok then need (decide (0<=n)&&decide (n<m)) (k (.ptr b j (off+n.toNat*(C.ti e).ks.length))) else none
    | _=>none
   | _=>none
  | .s (.sp a j off)=>match C.sh t with
   | .array m e=>if (C.ti e).ok then need (decide (0<=n)&&decide (n<m)) (k (.s (.sp a j (off+n.toNat*(C.ti e).ks.length)))) else none
   | _=>none
  | _=>none
 | _=>none
def DB(t:Nat)(x i:PV)(k:PV->Option R):Option R:=
 match i with
 | .s (.int _ n)=>match x with
  | .s (.str l)=>match C.sh t with
   | .str=>need (decide (0<=n)&&decide (n<l.length)) (k (.s (.int .u8 (l.getD n.toNat 0).toNat)))
   | _=>none
  | .agg cells=>match C.sh t with
   | .array m e=>need (decide (0<=n)&&decide (n<m)&&okP (C.ti e) cells (n.toNat*(C.ti e).ks.length)) (k (Yj (C.ti e) cells (n.toNat*(C.ti e).ks.length)))
   | _=>none
  | _=>none
 | _=>none
def BU(len:Nat):Option PV->Option Int
 | none=>some len
 | some (.s (.int _ n))=>some n
 | _=>none
def Fl(t:Nat)(H:List Blk)(x:PV):Bool:=
 match x with
 | .s (.str _)=>match C.sh t with | .str=>true|_=>false
 | .nsl=>match C.sh t with | .slice e=>(C.ti e).ok|_=>false
 | .s (.sl _ _ c _)=>match C.sh t with | .slice e=>(C.ti e).ok&&decide ((C.ti e).ks.length=c)|_=>false
 | .fl b=>match H[b]?,C.sh t with|some (.arr _ _ a _),.slice e=>(C.ti e).ok&&decide ((C.ti e).ks.length=a)|_,_=>false
 | .vw b _ _=>match H[b]?,C.sh t with|some (.arr _ _ a _),.slice e=>(C.ti e).ok&&decide ((C.ti e).ks.length=a)|_,_=>false
 | _=>false
def EB(t:Nat)(x:PV)(e d f:Option PV)(H:List Blk)(k:PV->Option R):Option R:=
 if Fl C t H x then match Dy H x with
 | none=>none
 | some len=>match BU 0 e,BU len d with
  | some l,some h=>match f with
   | none=>need (decide (0<=l)&&decide (l<=h)&&decide (h<=len)) (match x with
    | .s (.str s)=>k (.s (.str ((s.take h.toNat).drop l.toNat)))
    | .s (.sl z _ c a)=>k (.s (.sl z z c ((a.take h.toNat).drop l.toNat)))
    | .nsl=>k .nsl
    | .fl b=>k (.vw b l.toNat (h.toNat-l.toNat))
    | .vw b i _=>k (.vw b (i+l.toNat) (h.toNat-l.toNat))
    | _=>none)
   | some (.s (.int _ m))=>need (decide (0<=l)&&decide (l<=h)&&decide (h=m)&&decide (m<=len)) (match x with
    | .s (.sl z _ c a)=>k (.s (.sl z true c ((a.take h.toNat).drop l.toNat)))
    | .nsl=>k .nsl
    | _=>none)
   | _=>none
  | _,_=>none else none
def Hm(b n:Nat)(c a d:Option PV)(k:PV->Option R):Option R:=
 match BU 0 c,BU n a,d with
 | some l,some h,none=>need (decide (0<=l)&&decide (l<=h)&&decide (h<=n)) (k (.vw b l.toNat (h.toNat-l.toNat)))
 | _,_,_=>none
def Cj2(t:Nat):Nat:=if (C.ti t).ok then (C.ti t).ks.length else 0
def Nc(e:Nat):Bool:=match C.sh e with | .array _ _=>true|_=>false
def G2(n:Nat):Bool:=decide (n<=68719476736)
def Rv(t:Nat)(sl:List PV)(s x:PV)(H:List Blk)(k:PV->List PV->List Blk->Option R):Option R:=
 match C.sh t with
 | .slice e=>if (C.ti e).ok&&GD (C.ti e).ks.length H x then match MY H x with
  | some a=>match s with
   | .nsl=>need (G2 a.length) (k (.fl H.length) sl (H++[.arr true e (C.ti e).ks.length a]))
   | .s (.sl z true f c)=>if f=(C.ti e).ks.length then need ((z||!a.isEmpty)&&G2 (c.length+a.length)) (k (.fl H.length) sl (H++[.arr z e (C.ti e).ks.length (c++a)])) else none
   | .fl b=>match H[b]? with
    | some (.arr v d g c)=>if !Nc C d&&(decide (d=e/\g=(C.ti e).ks.length)||(v&&c.isEmpty)) then need (G2 (c.length+a.length)) (k (.fl b) (Y2 b sl) ((H.map (Blk.kill b)).set b (.arr v e (C.ti e).ks.length (c++a)))) else none
    | _=>none
   | _=>none
  | none=>none else none
 | _=>none
def RL(t:Nat)(d x:PV)(H:List Blk)(k:PV->List Blk->Option R):Option R:=
 match C.sh t with
 | .slice e=>if (C.ti e).ok&&GD (C.ti e).ks.length H x&&GD (C.ti e).ks.length H d then match MY H x with
  | some a=>match d with
   | .fl b=>match H[b]? with
    | some (.arr v f g c)=>k (.s (.int .i64 ((min a.length c.length:Nat):Int))) (H.set b (.arr v f g (a.take c.length++c.drop (min a.length c.length))))
    | _=>none
   | .vw b i n=>match H[b]? with
    | some (.arr v f g c)=>need (decide (i+n<=c.length)) (k (.s (.int .i64 ((min a.length n:Nat):Int))) (H.set b (.arr v f g (c.take i++(a.take n++c.drop (i+min a.length n))))))
    | _=>none
   | .nsl=>k (.s (.int .i64 0)) H
   | _=>none
  | none=>none else none
 | _=>none
def RK(c b:Nat)(x:PV)(H:List Blk)(k:PV->Option R):Option R:=
 match C.sh c,C.sh b,x with
 | .int _,.int d,.s (.int _ n)=>k (.s (.int d (d.wrap n)))
 | .str,.str,.s (.str l)=>k (.s (.str l))
 | .int _,.str,.s (.int _ n)=>k (.s (.str (ak7 n).data.toList))
 | .slice e,.str,v=>match C.sh e,Oz H v with
  | .int .u8,some a=>need (a.all Pk) (k (.s (.str (a.map Nb))))
  | _,_=>none
 | _,_,_=>none
def BY(b a:Nat)(x:PV)(k:PV->Option R):Option R:=
 match C.sh b,C.sh a,x with
 | .str,.slice e,.s (.str l)=>match C.sh e with
  | .int .u8=>need (G2 l.length) (k (.s (.sl false false 1 (l.map E4))))
  | _=>none
 | _,_,_=>none
def B99(x:PV)(t:Nat)(H:List Blk)(k:PV->Option R):Option R:=
 match C.sh t,x with
 | .array n _,_=>k (.s (.int .i64 n))
 | .str,.s (.str l)=>k (.s (.int .i64 l.length))
 | .slice _,.s (.str _)=>none
 | .slice _,x=>match Dy H x with
  | some n=>k (.s (.int .i64 n))
  | none=>none
 | _,_=>none
def Jq(place:Nat->Option (Nat × Nat)):List PV->List (Nat × PV)->Option (List PV)
 | cells,[]=>some cells
 | cells,(i,v)::r=>match place i with
  | some (off,size)=>if v.cells.length=size&&decide (0<size)&&decide (off+v.cells.length<=cells.length) then Jq place (G4 cells off v.cells) r else none
  | none=>none
def BX(t:Nat)(parts:List (Nat × PV))(k:PV->Option R):Option R:=
 let zero:=(C.ti t).ks.map Bp
 if (C.ti t).ok then match C.sh t with
 | .struct a=>match Jq (λi=>(a[i]?).map λp=>(p.1,Cj2 C p.2)) zero parts with
  | some cells=>k (.agg cells)
  | none=>none
 | .array _ e=>match Jq (λi=>some (i*Cj2 C e,Cj2 C e)) zero parts with
  | some cells=>k (.agg cells)
  | none=>none
 | _=>none else none
def Br(t len:Nat)(parts:List (Nat × PV))(H:List Blk)(k:PV->List Blk->Option R):Option R:=
 match C.sh t with
 | .slice e=>
  let a:=(C.ti e).ks.length
  if (C.ti e).ok&&decide (len*a<=16777216)&&decide (len<=16777216) then match Jq (λi=>some (i*a,a)) ((o9 len ((C.ti e).ks.map Bp)).flatten) parts with
  | some cells=>match Td cells with
   | some b=>k (.fl H.length) (H++[.arr false e a (U5 a len b)])
   | none=>none
  | none=>none else none
 | _=>none
def Ea(t:Nat)(l c:PV)(H:List Blk)(k:PV->List Blk->Option R):Option R:=
 match C.sh t,l,c with
 | .slice e,.s (.int _ n),.s (.int _ m)=>
  if (C.ti e).ok then match Td ((C.ti e).ks.map Bp) with
  | some z=>need (decide (0<=n)&&decide (n<=m)&&G2 m.toNat) (k (.fl H.length) (H++[.arr false e (C.ti e).ks.length (o9 n.toNat z)]))
  | none=>none else none
 | _,_,_=>none
def Nn(e:Bool):List PV->(PV->Option R)->Option R
 | [.s (.int d a),.s (.int c b)],k=>if d=c then k (.s (.int d (cond e (if b > a then b else a) (if b<a then b else a)))) else none
 | _,_=>none
def Dt(t:Nat)(x:PV)(f:Nat)(k:PV->Option R):Option R:=
 match C.sh t with
 | .struct c=>match c[f]?,x with
  | some (o,u),.ptr b i off=>if (C.ti u).ok then k (.ptr b i (off+o)) else none
  | some (o,u),.s (.sp a i off)=>if (C.ti u).ok then k (.s (.sp a i (off+o))) else none
  | _,_=>none
 | _=>none
def CT(t:Nat)(x:PV)(f:Nat)(k:PV->Option R):Option R:=
 match C.sh t,x with
 | .struct a,.agg cells=>match a[f]? with
  | some (o,u)=>need (okP (C.ti u) cells o) (k (Yj (C.ti u) cells o))
  | none=>none
 | _,_=>none
end ops
structure St (σ:Type) where
 sl:List PV
 hp:List Blk
 s:σ
inductive Out where
 | normal
 | exit (id:Nat)
 | ret
 deriving DecidableEq,Inhabited
def Cg(a:Option Nat)(v:PV)(sl:List PV):List PV:=
 match a with
 | some d=>sl.set d v
 | none=>sl
mutual
def PV.nms:PV->List Nat
 | .fl b=>[b]
 | .vw b _ _=>[b]
 | .ptr b _ _=>[b]
 | .it b=>[b]
 | .fnr _ x y=>C8 x++C8 y
 | .agg l=>C8 l
 | .tup l=>C8 l
 | _=>[]
def C8:List PV->List Nat
 | []=>[]
 | v::r=>v.nms++C8 r
end
mutual
def PV.rn(f:Nat->Nat):PV->PV
 | .fl b=>.fl (f b)
 | .vw b i n=>.vw (f b) i n
 | .ptr b i o=>.ptr (f b) i o
 | .it b=>.it (f b)
 | .fnr g x y=>.fnr g (rnL f x) (rnL f y)
 | .agg l=>.agg (rnL f l)
 | .tup l=>.tup (rnL f l)
 | v=>v
def rnL(f:Nat->Nat):List PV->List PV
 | []=>[]
 | v::r=>v.rn f::rnL f r
end
def Blk.nms:Blk->List Nat
 | .box cells=>C8 cells
 | _=>[]
def Blk.rn(f:Nat->Nat):Blk->Blk
 | .box cells=>.box (rnL f cells)
 | b=>b
def Fp(l:List Nat)(b:Nat):List Nat:=if l.contains b then l else l++[b]
def Ab9(H:List Blk)(l:List Nat):List Nat:=l.foldl (λa b=>((H.getD b .dead).nms).foldl Fp a) l
def Dg(H:List Blk)(l:List Nat):List Nat:=Ab9 H (Ab9 H (Ab9 H (l.foldl Fp [])))
def Hv(H:List Blk)(a:List Nat):Bool:=a.all λb=>((H.getD b .dead).nms).all λc=>a.contains c
mutual
def PV.snap(H:List Blk):PV->PV
 | .nsl=>.s (.sl true true 0 [])
 | .fl b=>match H[b]? with|some (.arr v _ sz els)=>.s (.sl (v&&els.isEmpty) (v&&els.isEmpty) sz els)|_=>.bad
 | .vw b i n=>match H[b]? with|some (.arr v _ sz els)=>.s (.sl (v&&els.isEmpty) (v&&els.isEmpty) sz ((els.drop i).take n))|_=>.bad
 | .agg l=>.agg (N5 H l)
 | v=>v
def N5(H:List Blk):List PV->List PV
 | []=>[]
 | v::r=>v.snap H::N5 H r
end
mutual
def PV.rows:PV->Bool
 | .fl _=>true
 | .vw _ _ _=>true
 | .agg l=>Qz l
 | _=>false
def Qz:List PV->Bool
 | []=>false
 | v::r=>v.rows||Qz r
end
mutual
def PV.clean:PV->Bool
 | .s (.sl _ _ _ _)=>false
 | .s (.sp _ _ _)=>false
 | .s (.fn _ _ _)=>false
 | .s _=>true
 | .fnr _ x y=>Qg x&&Qg y
 | .agg l=>Qg l
 | .tup l=>Qg l
 | .yd=>false
 | _=>true
def Qg:List PV->Bool
 | []=>true
 | v::r=>v.clean&&Qg r
end
def SV.plain:SV->Bool
 | .sl _ _ _ _=>false
 | .sp _ _ _=>false
 | .fn _ _ _=>false
 | _=>true
def Blk.clean:Blk->Bool
 | .arr _ _ _ els=>els.all λel=>el.all SV.plain
 | .box cells=>Qg cells
 | _=>true
def PV.low(H:List Blk)(L:Nat):PV->PV
 | .fl b=>if b<L then .fl b else (PV.fl b).snap H
 | .vw b i n=>if b<L then .vw b i n else (PV.vw b i n).snap H
 | .s v=>.s v
 | .nsl=>.nsl
 | .yd=>.yd
 | .ptr b i o=>if b<L then .ptr b i o else .bad
 | .it b=>if b<L then .it b else .bad
 | v=>if v.nms.all (· < L) then v else .bad
def Ca5(L:Nat)(H:List Blk):Bool:=H.all λb=>b.nms.all (· < L)
def Z8{b:Type}(L:Nat)(a:St b):St b:=
 if Ca5 L (a.hp.take L) then { sl:=a.sl.map (PV.low a.hp L),hp:=a.hp.take L,s:=a.s } else a
abbrev Yh(a:Type):=List PV->a->Option (Bool × a)
abbrev F6:=∀(a:Type),Yh a->Nat->List PV->List Blk->a->Option (PV × List Blk × a)
def Gf:List Nat->List PV->List PV
 | _,[]=>[]
 | [],_::l=>.bad::Gf [] l
 | 0::g,v::l=>v::Gf g l
 | (n+1)::g,_::l=>.bad::Gf (n::g) l
def Nf{b:Type}(ds:Option (List Nat))(a:St b):St b:=match ds with
 | some g=>{ sl:=Gf g a.sl,hp:=a.hp,s:=a.s }
 | none=>a
def Bq9:List Nat->Nat->Nat
 | [],m=>m
 | b::r,m=>Bq9 r (cond (af6 m b) (b+1) m)
def Cj7:List Blk->Nat->Nat
 | [],m=>m
 | b::r,m=>Cj7 r (Bq9 b.nms m)
def C58{b:Type}(m:Nat)(a:St b):St b:=cond (af6 (m+1) a.hp.length) (Z8 m a) a
def Ea9{b:Type}(L:Nat)(a:St b):St b:=C58 (Cj7 a.hp (Bq9 (C8 a.sl) L)) a
def Xq{b:Type}(ds:Option (List Nat))(L:Nat)(a:St b):St b:=match ds with
 | some g=>Ea9 L { sl:=Gf g a.sl,hp:=a.hp,s:=a.s }
 | none=>a
def D0{c R:Type}(L:Nat)(ds:Option (List Nat))(a:St c->(Out->St c->Option R)->Option R):Nat->St c->(Out->St c->Option R)->Option R
 | 0,_,_=>none
 | n+1,st,k=>a st λo b=>match o with
  | .normal=>D0 L ds a n (Nf ds (Z8 L b)) k
  | o=>k o (Nf ds b)
def Am1:Code->Nat
 | .region id _ _=>id
 | .seq (.label _) b=>Am1 b
 | .seq a _=>Am1 a
 | .scope a=>Am1 a
 | .block _ a=>Am1 a
 | .loop a=>Am1 a
 | _=>0
def I1(a:List Nat)(b:Nat):Nat:=a.idxOf b
def Mq(a:List Nat)(L:Nat)(i:Nat):Nat:=if i<a.length then a.getD i 0 else L+(i-a.length)
def Bo:List Blk->List Nat->List Blk->List Blk
 | H,b::a,x::xs=>Bo (H.set b x) a xs
 | H,_,_=>H
section calls
variable {L R : Type} (C : Cfg)
def Ez:Blk->Bool
 | .arr _ e _ _=>Nc C e
 | _=>true
def L6(a:List Nat)(sl:List PV):List PV:=a.foldl (λsl b=>Y2 b sl) sl
def T1(a:List Nat)(H:List Blk):List Blk:=a.foldl (λH b=>H.map (Blk.kill b)) H
def Jf(H:List Blk)(a:List Nat)(ret:PV)(b:List Blk):PV × List Blk:=
 (ret.rn (Mq a H.length),
  cond ((ret.rn (Mq a H.length)).nms.all (· < H.length)&&Ca5 H.length ((b.take a.length).map (Blk.rn (Mq a H.length))))
  (Bo H a ((b.take a.length).map (Blk.rn (Mq a H.length))))
  (Bo H a ((b.take a.length).map (Blk.rn (Mq a H.length)))++(b.drop a.length).map (Blk.rn (Mq a H.length))))
def Dc0(C:Cfg)(g:Nat)(args:List PV):Option ((SV->List (List SV)->Bool × List (List SV)) × Nat × SV):=match C.Z g,args with
 | some a,[.fl b,.s x]=>some (a,b,x)
 | _,_=>none
def Wz(j:F6)(n:Yh L)(g:Nat)(args:List PV)(a:St L)(k:PV->St L->Option R):Option R:=
 match C.X g with
 | some f=>
  if (C8 (N5 a.hp args)).isEmpty then Iv (cond (C.xp g) (Sl (f (N5 a.hp args))) (f (N5 a.hp args))) λret d=>
   need (!Qz args||(ret.clean&&d.all Blk.clean)) (k (ret.rn (a.hp.length + ·)) { sl:=a.sl,hp:=a.hp++d.map (Blk.rn (a.hp.length + ·)),s:=a.s })
  else none
 | none=>match Dc0 C g args with
 | some (f,b,x)=>match a.hp[b]? with
  | some (.arr v e m h)=>need (f x h).1 (k (.tup []) { sl:=a.sl,hp:=a.hp.set b (.arr v e m (f x h).2),s:=a.s })
  | _=>none
 | none=>
  if C.lend g||!Qz args then
   let i:=cond (C.lend g) args (N5 a.hp args);let c:=Dg a.hp (C8 i)
   if Hv a.hp c then
    match C.Y g with
    | some f=>Iv (f (rnL (I1 c) i) (c.map λb=>(a.hp.getD b .dead).rn (I1 c))) λret d=>k (Jf (T1 (c.filter λb=>!Ez C (a.hp.getD b .dead)) a.hp) c ret d).1
      { sl:=L6 (c.filter λb=>!Ez C (a.hp.getD b .dead)) a.sl,hp:=(Jf (T1 (c.filter λb=>!Ez C (a.hp.getD b .dead)) a.hp) c ret d).2,s:=a.s }
    | none=>match j L n g (rnL (I1 c) i) (c.map λb=>(a.hp.getD b .dead).rn (I1 c)) a.s with
     | some (ret,d,l)=>k (Jf (T1 (c.filter λb=>!Ez C (a.hp.getD b .dead)) a.hp) c ret d).1
       { sl:=L6 (c.filter λb=>!Ez C (a.hp.getD b .dead)) a.sl,hp:=(Jf (T1 (c.filter λb=>!Ez C (a.hp.getD b .dead)) a.hp) c ret d).2,s:=l }
     | none=>none
   else none
  else if (C8 (N5 a.hp args)).isEmpty then
   match j Unit (λ_ _=>none) g (N5 a.hp args) [] () with
   | some (ret,d,_)=>if ret.clean then need (d.all Blk.clean) (k (ret.rn (a.hp.length + ·)) { sl:=a.sl,hp:=a.hp++d.map (Blk.rn (a.hp.length + ·)),s:=a.s }) else none
   | none=>none
  else none
def Kw:List PV->Bool
 | []=>true
 | .s _::r=>Kw r
 | .agg l::r=>(Td l).isSome&&Kw r
 | _::_=>false
def ydK(x:Option (Bool × L))(k:Bool->L->Option R):Option R:=match x with
 | some (b,a)=>k b a
 | none=>none
def EQ(d:F6)(c:Yh L)(f:PV)(args:List PV)(a:St L)(k:PV->St L->Option R):Option R:=
 match f with
 | .s (.fn (.func g) first caps)=>Wz C d c g (first.map .s++args++caps.map .s) a k
 | .fnr (.func g) first caps=>Wz C d c g (first++args++caps) a k
 | .yd=>if Kw args then ydK (c args a.s) λb e=>k (.s (.bool b)) { sl:=a.sl,hp:=a.hp,s:=e } else none
 | _=>none
def Qx{b c:Type}(f:b->c):Option b->Option c
 | some a=>some (f a)
 | none=>none
def SK:Sh->Bool
 | .str=>true
 | .slice _=>true
 | _=>false
def Lf(b:Builtin)(e:List Nat)(args:List PV)(a:St L)(k:PV->St L->Option R):Option R:=
 match b,e,args with
 | .len,t::_,[x]=>B99 C x t a.hp λv=>k v a
 | .append,[t,u],[s,x]=>if SK (C.sh u) then Rv C t a.sl s x a.hp λv c H'=>k v { a with sl:=c,hp:=H' } else none
 | .copy,[t,_],[d,x]=>RL C t d x a.hp λv H'=>k v { a with hp:=H' }
 | .min,_,args=>Nn false args λv=>k v a
 | .max,_,args=>Nn true args λv=>k v a
 | _,_,_=>none
def GJ(e:Nat)(cells:List PV)(H:List Blk)(k:PV->List Blk->Option R):Option R:=
 if (C.ti e).ok then match C.sh e with
 | .array n a=>match Td cells with
  | some b=>if cells.length=n*(C.ti a).ks.length then k (.ptr H.length 0 0) (H++[.arr false e (C.ti a).ks.length (U5 (C.ti a).ks.length n b)]) else none
  | none=>none
 | _=>
  k (.ptr (H7 (C.nilT e) cells 0 H).2.length 0 0) ((H7 (C.nilT e) cells 0 H).2++[.box (H7 (C.nilT e) cells 0 H).1])
 else none
def Cx8(x:PV):Bool:=
 match x with
 | .ptr _ _ _=>true
 | .s (.sp _ _ _)=>true
 | .s (.fn (.func _) _ _)=>true
 | .fnr (.func _) _ _=>true
 | _=>false
def Cx1(f:Fn)(x y:List PV):PV:=
 match Td x,Td y with
 | some a,some b=>.s (.fn f a b)
 | _,_=>.fnr f x y
def nilT(t:Nat):Nat × Nat:=match C.sh t with
 | .slice e=>(e,(C.ti e).ks.length)
 | _=>(0,0)
def opK(B:F6)(G:Yh L)(o:Oper)(d:St L)(k:St L->Option R):Option R:=
 let ρ:=opnd C d.sl;let h (v:PV):Option R:=k { d with sl:=Cg o.dst v d.sl };let m (v:PV) (H:List Blk):Option R:=k { d with sl:=Cg o.dst v d.sl,hp:=H }
 match o.op with
 | .move x=>h (ρ x)
 | .assign x=>match ρ x with
  | .nsl=>m (.fl d.hp.length) (d.hp++[.arr true (nilT C o.type).1 (nilT C o.type).2 []])
  | v=>h v
 | .pick c a b=>match ρ c with
  | .s (.bool t)=>Ku t λt=>h (cond t (ρ a) (ρ b))
  | _=>none
 | .alloc e=>GJ C e ((C.ti e).ks.map Bp) d.hp m
 | .box e x=>if (ρ x).cells.length=(C.ti e).ks.length then GJ C e (ρ x).cells d.hp m else none
 | .build t parts=>BX C t (parts.toList.map λ(i,x)=>(i,ρ x)) h
 | .buildSlice t len parts=>Br C t len (parts.toList.map λ(i,x)=>(i,ρ x)) d.hp m
 | .load t a=>Yi (C.ti t) (ρ a) d.hp h
 | .store t a x=>Wj (C.ti t) (ρ a) (ρ x) d.hp λH=>m (.tup []) H
 | .nilCheck x=>if Cx8 (ρ x) then h (ρ x) else none
 | .binOp op t x y _=>B55 C op t (ρ x) (ρ y) d.hp h
 | .unOp op _ x=>unK op (ρ x) h
 | .convert r q x=>match C.sh q with
  | .slice _=>BY C r q (ρ x) h
  | _=>RK C r q (ρ x) d.hp h
 | .makeFunc (.func g) x y=>h (Cx1 (.func g) (x.toList.map ρ) (y.toList.map ρ))
 | .makeSlice t l c=>Ea C t (ρ l) (ρ c) d.hp m
 | .slice t x A w z=>match C.sh t,ρ x with
  | .array n e,.ptr b 0 0=>match d.hp[b]? with
   | some (.arr _ _ D u)=>if (C.ti e).ok/\(C.ti e).ks.length=D/\0<n/\n<=65536 then need (decide (u.length=n)) (Hm b n (Qx ρ A) (Qx ρ w) (Qx ρ z) h) else none
   | _=>none
  | _,v=>if z.isSome=true->w.isSome=true then EB C t v (Qx ρ A) (Qx ρ w) (Qx ρ z) d.hp h else none
 | .fieldAddr t x f=>Dt C t (ρ x) f h
 | .field t x f=>CT C t (ρ x) f h
 | .indexAddr t x i=>Dv C t (ρ x) (ρ i) d.hp h
 | .index t x i=>DB C t (ρ x) (ρ i) h
 | .range t x=>match ρ x with
  | .s (.str l)=>match C.sh t with
   | .str=>m (.it d.hp.length) (d.hp++[.iter l 0])
   | _=>none
  | _=>none
 | .next it true=>match ρ it with
  | .it b=>match d.hp[b]? with
   | some (.iter l p)=>Ku (decide (p<l.length)) λt=>
    cond t (let(c,wd):=ad6 ⟨l.toArray⟩ p
     m (.tup [.s (.bool true),.s (.int .i64 p),.s (.int .i32 c)]) (d.hp.set b (.iter l (p+wd)))) (h (.tup [.s (.bool false)]))
   | _=>none
  | _=>none
 | .extract t i=>match ρ t with
  | .tup F=>match F[i]? with
   | some v=>h v
   | none=>none
  | _=>none
 | .call c=>match c.callee with
  | .builtin b=>Lf C b c.argTypes.toList (c.args.toList.map ρ) d λv j=>k { j with sl:=Cg o.dst v j.sl }
  | .value f=>EQ C B G (ρ f) (c.args.toList.map ρ) d λv j=>k { j with sl:=Cg o.dst v j.sl }
  | _=>none
 | _=>none
def Ft(e:F6)(f:Yh L)(all:Array Oper):List Oper->St L->(St L->Option R)->Option R
 | [],c,k=>k c
 | o::a,c,k=>match o.guard with
  | none=>opK C e f o c λd=>Ft e f all a d k
  | some (j,h)=>match ((all[j]?).bind (·.dst)) with
   | some g=>match c.sl.getD g (.tup []) with
    | .s (.bool b)=>Ku b λb=>
     if b==h then opK C e f o { c with sl:=c.sl.set g (.s (.bool b)) } λd=>Ft e f all a d k
     else Ft e f all a { c with sl:=Cg o.dst (.tup []) (c.sl.set g (.s (.bool b))) } k
    | .tup []=>Ft e f all a { c with sl:=Cg o.dst (.tup []) c.sl } k
    | _=>none
   | none=>none
def Mc:List PV->List Nat->List PV->List PV
 | sl,t::a,v::b=>Mc (sl.set t v) a b
 | sl,_,_=>sl
end calls
mutual
def PV.yf:PV->Bool
 | .yd=>false
 | .fnr _ x y=>yfL x&&yfL y
 | .agg l=>yfL l
 | .tup l=>yfL l
 | _=>true
def yfL:List PV->Bool
 | []=>true
 | v::r=>v.yf&&yfL r
end
def Blk.yf:Blk->Bool
 | .box cells=>yfL cells
 | _=>true
def CQ(P:Program)(g:Nat):Bool:=match P.funcs[g]? with
 | some fn=>fn.body.isSome && !(fn.name == "runtime.NumGoroutine")
 | none=>false
def Sn:PV->Option (Nat × List PV × List PV)
 | .s (.fn (.func g) first caps)=>some (g,first.map .s,caps.map .s)
 | .fnr (.func g) first caps=>some (g,first,caps)
 | _=>none
def Ee:Out->Option Out
 | .normal=>none
 | o=>some o
def Bz(C:Cfg):List Blk->Nat->List Nat
 | [],_=>[]
 | b::r,n=>cond (Ez C b) (Bz C r (n+1)) (n::Bz C r (n+1))
def O7(a:List Nat)(H:List Blk):List Blk:=Bo (T1 a H) a (o9 a.length .dead)
def Ld:Blk->Blk
 | .box cells=>.box (cells.map λ_=>.bad)
 | b=>b
def Aj3(C:Cfg)(a:List Nat)(H d c:List Blk):List Blk:=Bo c a (a.map λb=>cond (Ez C (H.getD b .dead)) (Ld (d.getD (I1 a b) .dead)) .dead)
def MJ:Blk->Bool | .box _=>true|_=>false
def D09(C:Cfg):Blk->Bool | .box _=>true | .arr _ e _ _=>Nc C e|_=>false
def Kr{c:Type}(i:Array Tmp)(f:List PV)(d e:St c->(Out->St c->Option (Bool × (List Blk × Option Out × c)))->Option (Bool × (List Blk × Option Out × c))):Yh (List Blk × Option Out × c):=λa x=>match x with
 | (H,none,s)=>if a.length=i.size then
   d { sl:=Mc f i.toList a,hp:=H,s:=s } λo g=>match o with
    | .normal=>e g λh b=>some ((Ee h).isNone,((Z8 H.length b).hp,Ee h,b.s))
    | _=>none
  else none
 | _=>none
def Yz{g R:Type}(C:Cfg)(j:F6)(f:Nat)(first d:List PV)(a:List Nat)(c:St g)(m:List PV->Yh (List Blk × Option Out × g))(k:Out->St g->Option R):Option R:=
 if Hv c.hp a&&yfL (first++d)&&(a.all λb=>(c.hp.getD b .dead).yf)&&CQ C.P f then
  match j (List Blk × Option Out × g) (m (L6 (a++Bz C c.hp 0) c.sl)) f (rnL (I1 a) first++.yd::rnL (I1 a) d) (a.map λb=>(c.hp.getD b .dead).rn (I1 a)) (O7 a c.hp,none,c.s) with
  | some (_,i,(h,e,l))=>k (e.getD .normal) { sl:=L6 (a++Bz C c.hp 0) c.sl,hp:=Aj3 C a c.hp i h,s:=l }
  | none=>none
 else none
def Bi{e R:Type}(g:Array Tmp)(d:List PV)(b c:St e->(Out->St e->Option R)->Option R):List (List PV)->List Blk->e->(Option Out->List Blk->e->Option R)->Option R
 | [],H,s,k=>k none H s
 | x::xs,H,s,k=>if x.length=g.size then
   b { sl:=Mc d g.toList x,hp:=H,s:=s } λo h=>match o with
    | .normal=>c h λf a=>match f with
     | .normal=>Bi g d b c xs (Z8 H.length a).hp a.s k
     | f=>k (some f) (Z8 H.length a).hp a.s
    | _=>none
  else none
def rgK{c R:Type}(b:List PV)(d:List Blk->List Blk)(k:Out->St c->Option R):Option Out->List Blk->c->Option R:=λa H s=>k (a.getD .normal) { sl:=b,hp:=d H,s:=s }
def Bg3{g R:Type}(C:Cfg)(h:List PV->List Blk->Option (Bool × List (List PV)))(f:Nat)(first e:List PV)(a:List Nat)(d:St g)(i:List PV->List (List PV)->List Blk->g->(Option Out->List Blk->g->Option R)->Option R)(k:Out->St g->Option R):Option R:=
 if Hv d.hp a&&yfL (first++e)&&(a.all λb=>(d.hp.getD b .dead).yf)&&CQ C.P f&&(a.all λb=>MJ (d.hp.getD b .dead)) then match h (rnL (I1 a) first++.yd::rnL (I1 a) e) (a.map λb=>(d.hp.getD b .dead).rn (I1 a)) with
  | some (c,L)=>need c (i (L6 (a++Bz C d.hp 0) d.sl) L (O7 a d.hp) d.s (rgK (L6 (a++Bz C d.hp 0) d.sl) (Aj3 C a d.hp ((a.map λb=>(d.hp.getD b .dead).rn (I1 a)).map Ld)) k))
  | none=>none
 else none
def Vr{a R:Type}(C:Cfg)(c:F6)(g:PV)(b:St a)(h:List PV->Yh (List Blk × Option Out × a))(e:List PV->List (List PV)->List Blk->a->(Option Out->List Blk->a->Option R)->Option R)(k:Out->St a->Option R):Option R:=match Sn g with
 | some (f,first,caps)=>match C.S f with
  | some d=>Bg3 C d f first caps (Dg b.hp (C8 (first++caps))) b e k
  | none=>Yz C c f first caps (Dg b.hp (C8 (first++caps))) b h k
 | none=>none
def P7(C:Cfg):Op->Bool
 | .move _=>true
 | .assign _=>true
 | .pick _ _ _=>true
 | .build _ _=>true
 | .load _ _=>true
 | .nilCheck _=>true
 | .binOp _ _ _ _ _=>true
 | .unOp _ _ _=>true
 | .convert _ a _=>match C.sh a with | .slice _=>false|_=>true
 | .makeFunc (.func _) _ _=>true
 | .slice _ _ _ _ _=>true
 | .fieldAddr _ _ _=>true
 | .field _ _ _=>true
 | .indexAddr _ _ _=>true
 | .index _ _ _=>true
 | .extract _ _=>true
 | .call c=>match c.callee with
  | .builtin .len=>true
  | .builtin .min=>true
  | .builtin .max=>true
  | _=>false
 | _=>false
def Sm(C:Cfg):Op->Bool
 | .call c=>match c.callee with
  | .value (.func g)=>C.xp g&&(C.X g).isSome&&CQ C.P g
  | _=>false
 | _=>false
def NP(C:Cfg)(op:Op):Bool:=P7 C op||Sm C op
def By4(C:Cfg):Op->Bool
 | .buildSlice _ _ _=>true
 | .alloc _=>true
 | .call c=>match c.callee with
  | .value (.func g)=>(C.X g).isSome&&CQ C.P g
  | _=>false
 | _=>false
def Dw(C:Cfg)(op:Op):Nat:=match op with
 | .move _=>0
 | .assign _=>0
 | .extract _ _=>0
 | .slice _ _ _ _ _=>0
 | .binOp _ _ _ _ _=>0
 | .fieldAddr _ _ _=>0
 | .indexAddr _ _ _=>0
 | op=>cond (NP C op) 1 (cond (By4 C op) 2 3)
def D32(C:Cfg):List Oper->List (Nat × Bool)->Nat->List (Nat × Bool)
 | [],a,_=>a
 | o::r,a,n=>cond (af6 2 (Dw C o.op)) (D32 C r (a++[(n,true)]) (n+1))
   (D32 C r (a++[(o.after.toList.foldl (λm e=>cond (Region.binds .any e) (match a[e.on]? with|some (s,b)=>Nat.max m (cond b (s+1) s)|none=>m) m) 0,false)]) n)
def Ab0(s:Nat)(b:Bool):List (Nat × Bool)->Nat->List Nat
 | [],_=>[]
 | (t,c)::r,i=>cond (Nat.beq t s&&(c==b)) (i::Ab0 s b r (i+1)) (Ab0 s b r (i+1))
def C51(l:List (Nat × Bool)):Nat->Nat->List Nat
 | 0,_=>[]
 | f+1,s=>Ab0 s false l 0++(Ab0 s true l 0++C51 l f (s+1))
def Yu(C:Cfg)(a:List Oper):List Nat:=
 let l:=D32 C a [] 0
 C51 l ((l.filter (·.2)).length+1) 0
def M9(C:Cfg)(a:Array Oper)(i:Nat):Nat:=match a[i]? with
 | some o=>Dw C o.op
 | none=>1
inductive Trn where
 | row (v:SV)
 | var (e:Nat)
def Bl4{R:Type}(C:Cfg)(o:Oper)(sl:List PV)(k:Trn->Option R):Option R:=match o.guard,o.op with
 | none,.alloc e=>match C.sh e with
  | .array _ _=>none
  | _=>need (C.ti e).ok (k (.var e))
 | none,.buildSlice t len parts=>match C.sh t with
  | .slice e=>if (C.ti e).ok&&decide (len*(C.ti e).ks.length<=16777216)&&decide (len<=16777216) then match Jq (λi=>some (i*(C.ti e).ks.length,(C.ti e).ks.length)) ((o9 len ((C.ti e).ks.map Bp)).flatten) (parts.toList.map λ(i,x)=>(i,opnd C sl x)) with
   | some cells=>match Td cells with
    | some a=>need (a.all SV.plain) (k (.row (.sl false true (C.ti e).ks.length (U5 (C.ti e).ks.length len a))))
    | none=>none
   | none=>none else none
  | _=>none
 | _,_=>none
def To{b R:Type}(C:Cfg)(d:Option Nat)(t:Trn)(a:St b)(k:St b->Option R):Option R:=match t with
 | .row v=>k { a with sl:=Cg d (.s v) a.sl }
 | .var e=>GJ C e ((C.ti e).ks.map Bp) a.hp λv H=>k { a with hp:=H,sl:=Cg d v a.sl }
def ltK(C:Cfg)(c:Array Oper):List Nat->List Nat × List Nat
 | []=>([],[])
 | i::r=>cond (af6 (M9 C c i) 1) (let(a,b):=ltK C c r;(i::a,b)) ([],i::r)
def D37(i:Nat):List Nat->List Nat × List Nat
 | []=>([],[])
 | j::r=>cond (Nat.beq j i) ([],r) (let(a,b):=D37 i r;(j::a,b))
def Ks(C:Cfg)(a:Array Oper):List Nat:=(ltK C a (Yu C a.toList)).1
def Iq(C:Cfg)(a:Array Oper)(i:Nat):List Nat:=(D37 i (ltK C a (Yu C a.toList)).2).1
def Es(C:Cfg)(a:Array Oper)(i:Nat):List Nat:=(D37 i (ltK C a (Yu C a.toList)).2).2
def okN:List Nat->Nat->Bool
 | [],_=>false
 | a::r,n=>Nat.beq n a||okN r n
def EV(C:Cfg)(c:List Nat × List Nat)(a H:List Blk)(sl:List PV)(o:Oper):Bool:=match o.op with
 | .load _ x=>match opnd C sl x with
  | .ptr b _ _=>o.guard.isNone&&(D09 C (a.getD b .dead)&&(D09 C (H.getD b .dead)&&!(okN c.2 b)))
  | _=>false
 | .store _ x _=>match opnd C sl x with
  | .ptr b 0 _=>o.guard.isNone&&(MJ (H.getD b .dead)&&(okN c.2 b||af6 a.length b))
  | _=>false
 | _=>false
def Yt{e R:Type}(C:Cfg)(g:F6)(h:Yh e)(all:Array Oper)(c:List Nat × List Nat)(f:List Blk):List Nat->St e->(St e->Option R)->Option R
 | [],b,k=>k b
 | i::a,b,k=>need (match all[i]? with|some o=>!(okN c.1 i)||EV C c f b.hp b.sl o|none=>false) (Ft C g h all ([i].filterMap (all[·]?)) b λd=>Yt C g h all c f a d k)
def Lu{a R:Type}(C:Cfg)(b:F6)(d:Yh a)(all:Array Oper)(g:Option (List Nat × List Nat))(e:List Blk)(l:List Nat)(c:St a)(k:St a->Option R):Option R:=match g with
 | none=>Ft C b d all (l.filterMap (all[·]?)) c k
 | some f=>Yt C b d all f e l c k
def Pf{e R:Type}(C:Cfg)(g:F6)(j:Yh e)(all:Array Oper)(h:Option (List Nat × List Nat))(f:List Blk)(d:Option Nat):List Nat->St e->(St e->Option R)->Option R
 | [],c,k=>k c
 | i::a,c,k=>Lu C g j all h f [i] c λb=>Pf C g j all h f d a { b with sl:=Cg d .bad b.sl } k
def Bh3{j R:Type}(C:Cfg)(e:F6)(f:Yh j)(id:Nat)(a:Array Oper)(d:Bool)(b:St j)(k:St j->Option R):Option R:=match C.rowR id with
 | none=>match d with
  | true=>Lu C e f a (C.farR id) b.hp (Yu C a.toList) b k
  | false=>Ft C e f a a.toList b k
 | some i=>match d,a[i]? with
  | true,some o=>Lu C e f a (C.farR id) b.hp (Ks C a) b λc=>Bl4 C o c.sl λt=>
    Pf C e f a (C.farR id) b.hp o.dst (Iq C a i) { c with sl:=Cg o.dst .bad c.sl } λg=>To C o.dst t g λh=>
     Lu C e f a (C.farR id) b.hp (Es C a i) h k
  | _,_=>none
def B3(C:Cfg)(h:F6){p:Type}(i:Yh p):Code->{R:Type}->St p->(Out->St p->Option R)->Option R
 | .skip,_,e,k=>k .normal e
 | .label _,_,e,k=>k .normal e
 | .region id n d,_,e,k=>Bh3 C h i id n d e λf=>k .normal (Xq (C.keepR id) e.hp.length f)
 | .seq a b,_,e,k=>B3 C h i a e λo f=>match o with
  | .normal=>B3 C h i b f k
  | o=>k o f
 | .cond c a b,_,e,k=>match opnd C e.sl c with
  | .s (.bool t)=>Ku t λt=>cond t (B3 C h i a e k) (B3 C h i b e k)
  | _=>none
 | .block id a,_,e,k=>B3 C h i a e λo f=>match o with
  | .exit j=>if j=id then k .normal f else k (.exit j) f
  | o=>k o f
 | .loop a,_,e,k=>D0 e.hp.length (C.keep (Am1 a)) (λe k=>B3 C h i a e k) C.lf (Nf (C.keep (Am1 a)) e) k
 | .scope a,_,e,k=>B3 C h i a e k
 | .exit id,_,e,k=>k (.exit id) (Nf (C.keepE id) e)
 | .ret,_,e,k=>k .ret (Nf C.keepT e)
 | .rangeFunc g r q l,_,e,k=>Vr C h (opnd C e.sl g) e (λm=>Kr r m (λe k=>B3 C h i q e k) (λe k=>B3 C h i l e k)) (λm=>Bi r m (λe k=>B3 C h i q e k) (λe k=>B3 C h i l e k)) k
 | _,_,_,_=>none
def GL{R:Type}(C:Cfg)(sl:List PV)(H:List Blk):List ResultVar->(List PV->Option R)->Option R
 | [],k=>k []
 | .tmp t::r,k=>GL C sl H r λb=>k (sl.getD t (.tup [])::b)
 | .cell a t::r,k=>Yi (C.ti t) (sl.getD a (.tup [])) H λv=>GL C sl H r λb=>k (v::b)
def Cq:List PV->PV
 | [v]=>v
 | a=>.tup a
def evC(C:Cfg):Nat->F6
 | 0=>λ_ _ _ _ _ _=>none
 | d+1=>λ_ e f args H s=>
  match C.okf f,C.P.funcs[f]? with
  | true,some fn=>match fn.body with
   | some c=>B3 C (evC C d) e c { sl:=args++o9 (fn.ntmps-args.length) (.tup []),hp:=H,s:=s } λo a=>match o with
    | .normal=>GL C a.sl a.hp fn.results.toList λb=>some (Cq b,a.hp,a.s)
    | .ret=>GL C a.sl a.hp fn.results.toList λb=>some (Cq b,a.hp,a.s)
    | _=>none
   | none=>none
  | _,_=>none
structure Ctx where
 St:Nat->Prop
 nm:Nat->Option Nat
 yv:Value
 yv1:yv.oneCell'=true
inductive Shp where
 | arr (v:Bool) (e sz n:Nat)
 | box
 | iter
 | dead
def Blk.shp:Blk->Shp
 | .arr v e sz els=>.arr v e sz els.length
 | .box _=>.box
 | .iter _ _=>.iter
 | .dead=>.dead
def A5(H:List Blk)(b:Nat):Option Shp:=(H[b]?).map Blk.shp
inductive VS (St:Nat->Prop) (w:World):SV->Value->Prop
 | bool (b:Bool):VS St w (.bool b) (.bool b)
 | int (k:IntKind) (n:Int):VS St w (.int k n) (.int k n)
 | str (s:ByteArray):VS St w (.str s.data.toList) (.string s)
 | nilp:VS St w .nilp (.pointer none)
 | nilm:VS St w .nilm (.map none)
 | nilf:VS St w .nilf .nilFunc
 | nil (t:Bool) (k:Nat):VS St w (.sl true t k []) (.slice none 0 0)
 | emp (t:Bool) (k:Nat) (a:Addr) (cap:Nat) (ht:t=true->cap=0) (hm:cap<=maxLen):VS St w (.sl false t k []) (.slice (some a) 0 cap)
 | sl (t:Bool) (els:List (List SV)) (g off n cap sz:Nat) (Vs:Nat->Nat->Value) (hn:n=els.length) (hcap:n<=cap) (hm:cap<=maxLen) (ht:t=true->cap=n) (hg:St g)
   (hl:∀i (h:i<els.length),(els[i]).length=sz)
   (hc:∀i (h:i<els.length) j (h':j<(els[i]).length),w.cell? ⟨g,off+i*sz+j,none⟩=some (Vs i j))
   (hv:∀i (h:i<els.length) j (h':j<(els[i]).length),VS St w (els[i][j]) (Vs i j)) :
   VS St w (.sl false t sz els) (.slice (some ⟨g,off,none⟩) n cap)
 | sp (els:List (List SV)) (i o:Nat) (g off sz:Nat) (Vs:Nat->Nat->Value) (hg:St g)
   (hl:∀i (h:i<els.length),(els[i]).length=sz)
   (hc:∀i (h:i<els.length) j (h':j<(els[i]).length),w.cell? ⟨g,off+i*sz+j,none⟩=some (Vs i j))
   (hv:∀i (h:i<els.length) j (h':j<(els[i]).length),VS St w (els[i][j]) (Vs i j)) :
   VS St w (.sp els i o) (.pointer (some ⟨g,off+i*sz+o,none⟩))
 | fn (f:Fn) (x y:List SV) (A B:Array Value) (As Bs:Nat->Value) (hf:∀l,f≠.yield l) (hA:A.size=x.length) (hB:B.size=y.length)
   (ha:∀j,j<x.length->A[j]? = some (As j)) (hb:∀j,j<y.length->B[j]? = some (Bs j))
   (hx:∀j (h:j<x.length),VS St w (x[j]) (As j)) (hy:∀j (h:j<y.length),VS St w (y[j]) (Bs j)) :
   VS St w (.fn f x y) (.func f A B)
theorem VS.mono{St St':Nat->Prop}{w w':World}(hs:∀g,St g->w'.heap[g]? = w.heap[g]?)(hsub:∀g,St g->St' g){s:SV}{V:Value}(h:VS St w s V):VS St' w' s V:=by
 have hcell:∀g o,St g->w'.cell? ⟨g,o,none⟩=w.cell? ⟨g,o,none⟩:=λg o hg=>by simp[ac6,hs g hg]
 induction h with
 | bool b=>exact .bool b
 | int k n=>exact .int k n
 | str s=>exact .str s
 | nilp=>exact .nilp
 | nilm=>exact .nilm
 | nilf=>exact .nilf
 | nil t k=>exact .nil t k
 | emp t k a cap ht hm=>exact .emp t k a cap ht hm
 | sl t els g off n cap sz Vs hn hcap hm ht hg hl hc hv ih=>
  exact .sl t els g off n cap sz Vs hn hcap hm ht (hsub g hg) hl (λi h j h'=>by rw[hcell g _ hg];exact hc i h j h') ih
 | sp els i o g off sz Vs hg hl hc hv ih=>
  exact .sp els i o g off sz Vs (hsub g hg) hl (λi h j h'=>by rw[hcell g _ hg];exact hc i h j h') ih
 | fn f x y A B As Bs hf hA hB ha hb hx hy ihx ihy=>exact .fn f x y A B As Bs hf hA hB ha hb ihx ihy
inductive VP (Γ:Ctx) (sh:Nat->Option Shp) (w:World):PV->Value->Prop
 | s (v:SV) (V:Value) (h:VS Γ.St w v V):VP Γ sh w (.s v) V
 | nsl:VP Γ sh w .nsl (.slice none 0 0)
 | flv (b e sz:Nat) (h:sh b=some (.arr true e sz 0)):VP Γ sh w (.fl b) (.slice none 0 0)
 | fl (b g:Nat) (v:Bool) (e sz n cap:Nat) (h:sh b=some (.arr v e sz n)) (hv:v=true->n≠0) (hg:Γ.nm b=some g) (hcap:n<=cap) (hm:cap<=maxLen)
   (hs:w.shape? g=some (e,cap*sz)):VP Γ sh w (.fl b) (.slice (some ⟨g,0,none⟩) n cap)
 | vwv (b e sz i:Nat) (h:sh b=some (.arr true e sz 0)):VP Γ sh w (.vw b i 0) (.slice none 0 0)
 | vw (b i n g:Nat) (a:Addr) (cap:Nat) (v:Bool) (e sz m:Nat) (h:sh b=some (.arr v e sz m)) (hv:v=true->m≠0) (hg:Γ.nm b=some g)
   (ha:n≠0->a=⟨g,i*sz,none⟩) (hi:i+n<=m) (hcap:n<=cap) (hm:cap<=maxLen):VP Γ sh w (.vw b i n) (.slice (some a) n cap)
 | ptrA (b i off g:Nat) (v:Bool) (e sz n:Nat) (h:sh b=some (.arr v e sz n)) (hg:Γ.nm b=some g):VP Γ sh w (.ptr b i off) (.pointer (some ⟨g,i*sz+off,none⟩))
 | ptrB (b off g:Nat) (h:sh b=some .box) (hg:Γ.nm b=some g):VP Γ sh w (.ptr b 0 off) (.pointer (some ⟨g,off,none⟩))
 | fnr (f:Fn) (x y:List PV) (A B:Array Value) (As Bs:Nat->Value) (hf:∀l,f≠.yield l) (hA:A.size=x.length) (hB:B.size=y.length)
   (ha:∀j,j<x.length->A[j]? = some (As j)) (hb:∀j,j<y.length->B[j]? = some (Bs j))
   (hx:∀j (h:j<x.length),VP Γ sh w (x[j]) (As j)) (hy:∀j (h:j<y.length),VP Γ sh w (y[j]) (Bs j)) :
   VP Γ sh w (.fnr f x y) (.func f A B)
 | it (b g:Nat) (h:sh b=some .iter) (hg:Γ.nm b=some g):VP Γ sh w (.it b) (.pointer (some ⟨g,0,none⟩))
 | yd:VP Γ sh w .yd Γ.yv
 | agg (l:List PV) (A:Array Value) (As:Nat->Value) (hA:A.size=l.length) (ha:∀j,j<l.length->A[j]? = some (As j)) (hl:∀j (h:j<l.length),VP Γ sh w (l[j]) (As j)) :
   VP Γ sh w (.agg l) (.agg A)
 | tup (l:List PV) (A:Array Value) (As:Nat->Value) (hA:A.size=l.length) (ha:∀j,j<l.length->A[j]? = some (As j)) (hl:∀j (h:j<l.length),VP Γ sh w (l[j]) (As j)) :
   VP Γ sh w (.tup l) (.tuple A)
 | bad (V:Value):VP Γ sh w .bad V
theorem C0{l:List PV}{b:Nat}:b∈C8 l↔∃j,∃h:j<l.length,b∈(l[j]).nms:=by
 induction l with
 | nil=>simp[C8]
 | cons v r a=>
  simp only[C8,o5,a];constructor
  ·rintro(h|⟨j,hj,h⟩)
   ·exact⟨0,by simp,by simpa using h⟩
   ·exact⟨j+1,by simpa using hj,by simpa using h⟩
  grind
structure Ax (Γ:Ctx) (sh:Nat->Option Shp) (w:World) (Γ':Ctx) (sh':Nat->Option Shp) (w':World) (ok:Nat->Prop):Prop where
 st:∀g,Γ.St g->w'.heap[g]? = w.heap[g]?
 sub:∀g,Γ.St g->Γ'.St g
 nm:∀b,ok b->Γ'.nm b=Γ.nm b
 shp:∀b,ok b->sh' b=sh b
 hs:∀b g,ok b->Γ.nm b=some g->w'.shape? g=w.shape? g
 yv:Γ'.yv=Γ.yv
theorem VP.mono{Γ Γ':Ctx}{sh sh':Nat->Option Shp}{w w':World}{ok:Nat->Prop}(M:Ax Γ sh w Γ' sh' w' ok){v:PV}{V:Value}(h:VP Γ sh w v V) :
  (∀b∈v.nms,ok b)->VP Γ' sh' w' v V:=by
 induction h with
 | s v V h=>intro _;exact .s v V (h.mono M.st M.sub)
 | nsl=>intro _;exact .nsl
 | flv b e sz h=>intro hok;exact .flv b e sz (by rw[M.shp b (hok b (by simp[PV.nms]))];exact h)
 | fl b g v e sz n cap h hv hg hcap hm hs=>
  intro hok;have o:=hok b (by simp[PV.nms]);exact .fl b g v e sz n cap (by rw[M.shp b o];exact h) hv (by rw[M.nm b o];exact hg) hcap hm (by rw[M.hs b g o hg];exact hs)
 | vwv b e sz i h=>intro hok;exact .vwv b e sz i (by rw[M.shp b (hok b (by simp[PV.nms]))];exact h)
 | vw b i n g a cap v e sz m h hv hg ha hi hcap hm=>
  intro hok;have o:=hok b (by simp[PV.nms]);exact .vw b i n g a cap v e sz m (by rw[M.shp b o];exact h) hv (by rw[M.nm b o];exact hg) ha hi hcap hm
 | ptrA b i off g v e sz n h hg=>
  intro hok;have o:=hok b (by simp[PV.nms]);exact .ptrA b i off g v e sz n (by rw[M.shp b o];exact h) (by rw[M.nm b o];exact hg)
 | ptrB b off g h hg=>
  intro hok;have o:=hok b (by simp[PV.nms]);exact .ptrB b off g (by rw[M.shp b o];exact h) (by rw[M.nm b o];exact hg)
 | fnr f x y A B As Bs hf hA hB ha hb hx hy ihx ihy=>
  intro hok;exact .fnr f x y A B As Bs hf hA hB ha hb
   (λj h=>ihx j h λb hb=>hok b (by simp only[PV.nms,o5];exact .inl (C0.2 ⟨j,h,hb⟩)))
   (λj h=>ihy j h λb hb=>hok b (by simp only[PV.nms,o5];exact .inr (C0.2 ⟨j,h,hb⟩)))
 | it b g h hg=>
  intro hok;have o:=hok b (by simp[PV.nms]);exact .it b g (by rw[M.shp b o];exact h) (by rw[M.nm b o];exact hg)
 | yd=>intro _;rw[<-M.yv];exact .yd
 | agg l A As hA ha hl ih=>intro hok;exact .agg l A As hA ha λj h=>ih j h λb hb=>hok b (by simp only[PV.nms];exact C0.2 ⟨j,h,hb⟩)
 | tup l A As hA ha hl ih=>intro hok;exact .tup l A As hA ha λj h=>ih j h λb hb=>hok b (by simp only[PV.nms];exact C0.2 ⟨j,h,hb⟩)
 | bad V=>intro _;exact .bad V
theorem Cp(b:Nat)(l:List PV):Y2 b l=l.map (PV.kill b):=by
 induction l with
 | nil=>rfl
 | cons v r a=>simp[Y2,a]
theorem VP.kill{Γ:Ctx}{sh:Nat->Option Shp}{w:World}(c:Nat){v:PV}{V:Value}(h:VP Γ sh w v V):VP Γ sh w (v.kill c) V:=by
 induction h with
 | s v V h=>exact .s v V h
 | nsl=>exact .nsl
 | flv b e sz h=>unfold PV.kill;split;exact .bad _;exact .flv b e sz h
 | fl b g v e sz n cap h hv hg hcap hm hs=>unfold PV.kill;split;exact .bad _;exact .fl b g v e sz n cap h hv hg hcap hm hs
 | vwv b e sz i h=>unfold PV.kill;split;exact .bad _;exact .vwv b e sz i h
 | vw b i n g a cap v e sz m h hv hg ha hi hcap hm=>unfold PV.kill;split;exact .bad _;exact .vw b i n g a cap v e sz m h hv hg ha hi hcap hm
 | ptrA b i off g v e sz n h hg=>unfold PV.kill;split;exact .bad _;exact .ptrA b i off g v e sz n h hg
 | ptrB b off g h hg=>unfold PV.kill;split;exact .bad _;exact .ptrB b off g h hg
 | fnr f x y A B As Bs hf hA hB ha hb hx hy ihx ihy=>
  simp only[PV.kill,Cp];exact .fnr f _ _ A B As Bs hf (by simpa using hA) (by simpa using hB) (λj h=>ha j (by simpa using h)) (λj h=>hb j (by simpa using h))
   (λj h=>by simpa using ihx j (by simpa using h)) (λj h=>by simpa using ihy j (by simpa using h))
 | it b g h hg=>unfold PV.kill;split;exact .bad _;exact .it b g h hg
 | yd=>exact .yd
 | agg l A As hA ha hl ih=>
  simp only[PV.kill,Cp];exact .agg _ A As (by simpa using hA) (λj h=>ha j (by simpa using h)) (λj h=>by simpa using ih j (by simpa using h))
 | tup l A As hA ha hl ih=>
  simp only[PV.kill,Cp];exact .tup _ A As (by simpa using hA) (λj h=>ha j (by simpa using h)) (λj h=>by simpa using ih j (by simpa using h))
 | bad V=>exact .bad V
mutual
theorem PV.not_mem_kill(c:Nat):∀v:PV,c∉(v.kill c).nms
 | .s _=>by simp[PV.kill,PV.nms]
 | .nsl=>by simp[PV.kill,PV.nms]
 | .fl b=>by unfold PV.kill;split<;>simp_all [PV.nms,eq_comm]
 | .vw b _ _=>by unfold PV.kill;split<;>simp_all [PV.nms,eq_comm]
 | .ptr b _ _=>by unfold PV.kill;split<;>simp_all [PV.nms,eq_comm]
 | .fnr _ x y=>by simp only[PV.kill,PV.nms,o5,not_or];exact⟨T8 c x,T8 c y⟩
 | .it b=>by unfold PV.kill;split<;>simp_all [PV.nms,eq_comm]
 | .yd=>by simp[PV.kill,PV.nms]
 | .agg l=>by simp only[PV.kill,PV.nms];exact T8 c l
 | .tup l=>by simp only[PV.kill,PV.nms];exact T8 c l
 | .bad=>by simp[PV.kill,PV.nms]
theorem T8(c:Nat):∀l:List PV,c∉C8 (Y2 c l)
 | []=>by simp[Y2,C8]
 | v::r=>by simp only[Y2,C8,o5,not_or];exact⟨PV.not_mem_kill c v,T8 c r⟩
end
mutual
theorem PV.kill_nms(c:Nat):∀(v:PV) b,b∈(v.kill c).nms->b∈v.nms
 | .s _,b=>by simp[PV.kill,PV.nms]
 | .nsl,b=>by simp[PV.kill,PV.nms]
 | .fl a,b=>by unfold PV.kill;split<;>simp_all [PV.nms]
 | .vw a _ _,b=>by unfold PV.kill;split<;>simp_all [PV.nms]
 | .ptr a _ _,b=>by unfold PV.kill;split<;>simp_all [PV.nms]
 | .fnr _ x y,b=>by
  simp only[PV.kill,PV.nms,o5];rintro(h|h)
  ·exact .inl (Bw c x b h)
  ·exact .inr (Bw c y b h)
 | .it a,b=>by unfold PV.kill;split<;>simp_all [PV.nms]
 | .yd,b=>by simp[PV.kill,PV.nms]
 | .agg l,b=>by simp only[PV.kill,PV.nms];exact Bw c l b
 | .tup l,b=>by simp only[PV.kill,PV.nms];exact Bw c l b
 | .bad,b=>by simp[PV.kill,PV.nms]
theorem Bw(c:Nat):∀(l:List PV) b,b∈C8 (Y2 c l)->b∈C8 l
 | [],b=>by simp[Y2,C8]
 | v::r,b=>by
  simp only[Y2,C8,o5];rintro(h|h)
  ·exact .inl (PV.kill_nms c v b h)
  ·exact .inr (Bw c r b h)
end
def BR(Γ:Ctx)(sh:Nat->Option Shp)(w:World)(b:Nat):Blk->Prop
 | .arr v e c a=>(v=true/\a=[])\/(¬(v=true/\a=[])/\∃g cur,Γ.nm b=some g/\w.heap[g]? = some (.cells cur e (0,0))/\a.length*c<=cur.size/\
   (∀i (h:i<a.length),(a[i]).length=c)/\∀i (h:i<a.length) j (f:j<(a[i]).length),∃V,cur[i*c+j]? = some V/\VS Γ.St w (a[i][j]) V)
 | .box cells=>∃g cur e,Γ.nm b=some g/\w.heap[g]? = some (.cells cur e (0,0))/\cur.size=cells.length/\∀j (h:j<cells.length),∃V,cur[j]? = some V/\VP Γ sh w (cells[j]) V
 | .iter s p=>∃g d,Γ.nm b=some g/\w.heap[g]? = some (.stringIter d p)/\d.data.toList=s
 | .dead=>True
structure HR (Γ:Ctx) (H:List Blk) (w:World):Prop where
 inj:∀b b' g,Γ.nm b=some g->Γ.nm b'=some g->b=b'
 lt:∀b g,Γ.nm b=some g->b<H.length/\g<w.heap.size/\¬ Γ.St g
 stlt:∀g,Γ.St g->g<w.heap.size
 nms:∀b (h:b<H.length),∀c∈(H[b]).nms,c<H.length
 blk:∀b (h:b<H.length),BR Γ (A5 H) w b (H[b])
structure SR (Γ:Ctx) (H:List Blk) (w:World) (sl:List PV) (tmps:Array Value):Prop where
 size:tmps.size=sl.length
 nms:∀c∈C8 sl,c<H.length
 slot:∀i (h:i<sl.length),∃V,tmps[i]? = some V/\VP Γ (A5 H) w (sl[i]) V
theorem BR.mono{Γ Γ':Ctx}{sh sh':Nat->Option Shp}{w w':World}{ok:Nat->Prop}(M:Ax Γ sh w Γ' sh' w' ok){b:Nat}{x:Blk}
  (h:BR Γ sh w b x) (hnm:Γ'.nm b=Γ.nm b) (hheap:∀g,Γ.nm b=some g->w'.heap[g]? = w.heap[g]?) (hok:∀c∈x.nms,ok c):BR Γ' sh' w' b x:=by
 cases x with
 | arr v e sz els=>
  rcases h with h|⟨hn,g,cur,h1,h2,h3,h4,h5⟩
  ·exact .inl h
  ·refine .inr ⟨hn,g,cur,by rw[hnm];exact h1,by rw[hheap g h1];exact h2,h3,h4,λi h j h'=>?_⟩;obtain⟨V,e1,e2⟩:=h5 i h j h';exact⟨V,e1,e2.mono M.st M.sub⟩
 | box cells=>
  obtain⟨g,cur,e,h1,h2,h3,h4⟩:=h;refine⟨g,cur,e,by rw[hnm];exact h1,by rw[hheap g h1];exact h2,h3,λj h=>?_⟩;obtain⟨V,e1,e2⟩:=h4 j h;exact⟨V,e1,e2.mono M λc hc=>hok c (by simp only[Blk.nms];exact C0.2 ⟨j,h,hc⟩)⟩
 | iter s p=>
  obtain⟨g,s',h1,h2,h3⟩:=h;exact⟨g,s',by rw[hnm];exact h1,by rw[hheap g h1];exact h2,h3⟩
 | dead=>trivial
theorem SR.mono{Γ Γ':Ctx}{H H':List Blk}{w w':World}{ok:Nat->Prop}{sl:List PV}{tmps:Array Value}(M:Ax Γ (A5 H) w Γ' (A5 H') w' ok)
  (h:SR Γ H w sl tmps) (hok:∀c∈C8 sl,ok c/\c<H'.length):SR Γ' H' w' sl tmps:=by
 refine⟨h.size,λc hc=>(hok c hc).2,λi hi=>?_⟩;obtain⟨V,e1,e2⟩:=h.slot i hi;exact⟨V,e1,e2.mono M λc hc=>(hok c (C0.2 ⟨i,hi,hc⟩)).1⟩
def Ext(w w':World):Prop:=∀g,g<w.heap.size->w'.heap[g]? = w.heap[g]?
theorem Ext.refl(w:World):Ext w w:=λ_ _=>rfl
theorem LK{w w':World}(h:Ext w w'){a:Addr}{v:Value}(c:w.cell? a=some v):w'.cell? a=some v:=by
 have b:a.block<w.heap.size:=x3 λd=>by
  simp[ac6,ae1 (ae0 d)] at c
 rw[<-c];simp only[ac6,h a.block b]
def D84(P:Program)(w:World)(m:Sem Value)(V:Value):Prop:=∀w':World,Ext w w'->m.run P w' = .ok V w'
def QV(P:Program)(a:Ctx)(H:List Blk)(w:World)(m:Sem Value)(v:PV):Prop:=
 (∀c∈v.nms,c<H.length)/\∃V,VP a (A5 H) w v V/\D84 P w m V
def QV0(P:Program)(a:Ctx)(H:List Blk)(w:World)(m:Sem Value)(v:PV):Prop:=
 (∀c∈v.nms,c<H.length)/\∃V,VP a (A5 H) w v V/\∀w':World,m.run P w' = .ok V w'
theorem QV0.qv{P:Program}{Γ:Ctx}{H:List Blk}{w:World}{m:Sem Value}{v:PV}(h:QV0 P Γ H w m v):QV P Γ H w m v:=
 ⟨h.1,h.2.imp λV k=>⟨k.1,λw' _=>k.2 w'⟩⟩
theorem QV0.mk0{P:Program}{Γ:Ctx}{H:List Blk}{w:World}{m:Sem Value}{v:PV}{V:Value}(hn:∀c∈v.nms,c<H.length)(h:VP Γ (A5 H) w v V)(hm:∀w':World,m.run P w' = .ok V w'):QV0 P Γ H w m v:=⟨hn,V,h,hm⟩
section inv
variable {Γ : Ctx} {sh : Nat -> Option Shp} {w : World} {V : Value} {St : Nat -> Prop}
theorem VP.inv_s{x:SV}(h:VP Γ sh w (.s x) V):VS Γ.St w x V:=by cases h;assumption
theorem VS.inv_bool{b:Bool}(h:VS St w (.bool b) V):V = .bool b:=by cases h;rfl
theorem VS.inv_int{k:IntKind}{n:Int}(h:VS St w (.int k n) V):V = .int k n:=by cases h;rfl
theorem VS.inv_str{l:List UInt8}(h:VS St w (.str l) V):∃s:ByteArray,V = .string s/\s.data.toList=l:=by cases h;exact⟨_,rfl,rfl⟩
theorem VP.inv_bool{b:Bool}(h:VP Γ sh w (.s (.bool b)) V):V = .bool b:=h.inv_s.inv_bool
theorem VP.inv_int{k:IntKind}{n:Int}(h:VP Γ sh w (.s (.int k n)) V):V = .int k n:=h.inv_s.inv_int
theorem VP.inv_str{l:List UInt8}(h:VP Γ sh w (.s (.str l)) V):∃s:ByteArray,V = .string s/\s.data.toList=l:=h.inv_s.inv_str
theorem VP.inv_agg{l:List PV}(h:VP Γ sh w (.agg l) V):∃A:Array Value,V = .agg A/\A.size=l.length/\∀j (h:j<l.length),∃U,A[j]? = some U/\VP Γ sh w (l[j]) U:=by
 cases h with
 | agg l A As hA ha hl=>exact⟨A,rfl,hA,λj h=>⟨As j,ha j h,hl j h⟩⟩
theorem VP.inv_tup{l:List PV}(h:VP Γ sh w (.tup l) V):∃A:Array Value,V = .tuple A/\A.size=l.length/\∀j (h:j<l.length),∃U,A[j]? = some U/\VP Γ sh w (l[j]) U:=by
 cases h with
 | tup l A As hA ha hl=>exact⟨A,rfl,hA,λj h=>⟨As j,ha j h,hl j h⟩⟩
theorem VP.mk_agg{l:List PV}{A:Array Value}(hA:A.size=l.length)(h:∀j (h:j<l.length),∃U,A[j]? = some U/\VP Γ sh w (l[j]) U):VP Γ sh w (.agg l) (.agg A):=
 .agg l A (λj=>A.getD j undef) hA (λj hj=>by obtain⟨U,e,_⟩:=h j hj;simp[e]) (λj hj=>by obtain⟨U,e,k⟩:=h j hj;simpa[e] using k)
theorem VP.mk_tup{l:List PV}{A:Array Value}(hA:A.size=l.length)(h:∀j (h:j<l.length),∃U,A[j]? = some U/\VP Γ sh w (l[j]) U):VP Γ sh w (.tup l) (.tuple A):=
 .tup l A (λj=>A.getD j undef) hA (λj hj=>by obtain⟨U,e,_⟩:=h j hj;simp[e]) (λj hj=>by obtain⟨U,e,k⟩:=h j hj;simpa[e] using k)
theorem VP.bool(b:Bool):VP Γ sh w (.s (.bool b)) (.bool b):=.s _ _ (.bool b)
theorem VP.int(k:IntKind)(n:Int):VP Γ sh w (.s (.int k n)) (.int k n):=.s _ _ (.int k n)
theorem VP.str{l:List UInt8}(s:ByteArray)(h:s.data.toList=l):VP Γ sh w (.s (.str l)) (.string s):=by subst h;exact .s _ _ (.str s)
end inv
theorem C3{R:Type}{c:Bool}{k:Option R}{r:R}(h:need c k=some r):c=true/\k=some r:=by cases c<;>simp_all [need]
theorem XT(a b:List UInt8):bytesLess a b=ae7 a b:=by
 induction a generalizing b with
 | nil=>cases b<;>simp[bytesLess,ae7]
 | cons x a c=>
  cases b with
  | nil=>simp[bytesLess,ae7]
  | cons y b=>simp[bytesLess,ae7,c]
section ops
variable {P : Program} {Γ : Ctx} {H : List Blk} {w : World} {R : Type} {r : R}
theorem QV.val{m:Sem Value}{v:PV}{V:Value}(hn:v.nms=[])(h:VP Γ (A5 H) w v V)(hm:∀w':World,Ext w w'->m.run P w' = .ok V w'):QV P Γ H w m v:=
 ⟨by simp[hn],V,h,hm⟩
theorem QV0.val{m:Sem Value}{v:PV}{V:Value}(hn:v.nms=[])(h:VP Γ (A5 H) w v V)(hm:∀w':World,m.run P w' = .ok V w'):QV0 P Γ H w m v:=
 ⟨by simp[hn],V,h,hm⟩
theorem Cj9{op:UnOp}{x:PV}{X:Value}{k:PV->Option R}(h:unK op x k=some r)(a:VP Γ (A5 H) w x X) :
  ∃v,k v=some r/\QV P Γ H w (ak5 op X) v:=by
 unfold unK at h;split at h
 ·obtain rfl:=a.inv_bool;exact⟨_,h,.val rfl (.bool _) λw' _=>by simp[ak5]⟩
 ·obtain rfl:=a.inv_int;exact⟨_,h,.val rfl (.int _ _) λw' _=>by simp[ak5,Op.intArith]⟩
 ·cases h
theorem Cy0(a b:Int):(!decide (b<a))=decide (a<=b):=by grind
theorem A44{op:BinOp}{t:Nat}{d e:Operand}{c:IntKind}{a b:Int}{v:PV}(h:Dz1 op c a b=some v) :
  QV0 P Γ H w (do eqGuard op t d e (.int c a) (.int c b);binOp op t (.int c a) (.int c b)) v:=by
 cases op<;>simp only[Dz1,a8,reduceCtorEq] at h<;>subst h <;>
  first
  | exact .val rfl (.int _ _) λw'=>by simp[eqGuard,binOp,Op.intArith,Op.intBits]
  | exact .val rfl (.bool _) λw'=>by simp[eqGuard,binOp,Op.intCmp,Nl,Cy0]
theorem A45{op:BinOp}{t:Nat}{d e:Operand}{a b:ByteArray}{v:PV}(h:Dz2 op a.data.toList b.data.toList=some v)(c:op≠.add) :
  QV0 P Γ H w (do eqGuard op t d e (.string a) (.string b);binOp op t (.string a) (.string b)) v:=by
 cases op<;>simp only[Dz2,a8,reduceCtorEq,ne_eq,not_true_eq_false] at h c<;>subst h <;>
  exact .val rfl (.bool _) λw'=>by simp[eqGuard,binOp,Op.stringOp,ac7,XT]
theorem FG{x:PV}{X:Value}{z:Bool}(o:VP Γ (A5 H) w x X)(h:B08 H x=some z) :
  ∃a n c,X = .slice a n c/\a.isNone=z/\(a=none->n=0/\c=0):=by
 unfold B08 at h;split at h
 ·cases o;simp at h;exact⟨none,0,0,rfl,by simp[h],λ_=>⟨rfl,rfl⟩⟩
 ·have A:=o.inv_s;cases A<;>simp at h<;>subst h<;>first|exact⟨_,_,_,rfl,rfl,λh=>⟨rfl,rfl⟩⟩|exact⟨_,_,_,rfl,rfl,λh=>by simp at h⟩
 ·rename_i b;split at h
  ·rename_i v e y f t;have j:A5 H b=some (.arr v e y f.length):=by simp[A5,t,Blk.shp]
   simp only[a8] at h;subst h;cases o with
   | flv _ p k d=>
    rw[j] at d;simp only[a8,Shp.arr.injEq] at d;obtain⟨rfl,_,_,q⟩:=d;exact⟨none,0,0,rfl,by simp[o7.1 q],λ_=>⟨rfl,rfl⟩⟩
   | fl _ g D p k n cap d u B l C A=>
    rw[j] at d;simp only[a8,Shp.arr.injEq] at d;obtain⟨rfl,_,_,rfl⟩:=d;refine⟨_,_,_,rfl,?_,λh=>by simp at h⟩;cases v
    ·rfl
    ·have:=u rfl;cases f<;>simp_all
  ·cases h
 ·rename_i b i n;split at h
  ·rename_i v e y f t;have j:A5 H b=some (.arr v e y f.length):=by simp[A5,t,Blk.shp]
   simp only[a8] at h;subst h;cases o with
   | vwv _ p k _ d=>
    rw[j] at d;simp only[a8,Shp.arr.injEq] at d;obtain⟨rfl,_,_,q⟩:=d;exact⟨none,0,0,rfl,by simp[o7.1 q],λ_=>⟨rfl,rfl⟩⟩
   | vw _ _ _ g a cap D p k m d u B F G l C=>
    rw[j] at d;simp only[a8,Shp.arr.injEq] at d;obtain⟨rfl,_,_,rfl⟩:=d;refine⟨_,_,_,rfl,?_,λh=>by simp at h⟩;cases v
    ·rfl
    ·have:=u rfl;cases f<;>simp_all
  ·cases h
 ·cases h
theorem K5{C:Cfg}{t e:Nat}(h:C.sh t = .slice e):C.P.underlying t=some (.slice e):=by simp only[Cfg.sh,Ad1] at h;split at h<;>simp_all
theorem Jb{C:Cfg}{t n e:Nat}(h:C.sh t = .array n e):C.P.underlying t=some (.array n e):=by simp only[Cfg.sh,Ad1] at h;split at h<;>simp_all
theorem OJ{C:Cfg}{t e:Nat}(h:C.sh t = .ptr e):C.P.underlying t=some (.pointer e):=by simp only[Cfg.sh,Ad1] at h;split at h<;>simp_all
theorem EA{C:Cfg}{t:Nat}{a:List (Nat × Nat)}(h:C.sh t = .struct a):∃F:Array Field,C.P.underlying t=some (.struct F)/\a=F.toList.map λf=>(f.offset,f.type):=by simp only[Cfg.sh,Ad1] at h;split at h<;>simp_all
theorem Ax0{C:Cfg}{t:Nat}(h:C.sh t = .fn):∃a b c,C.P.underlying t=some (.func a b c):=by simp only[Cfg.sh,Ad1] at h;split at h<;>simp_all
theorem Dp5{C:Cfg}{t:Nat}(h:C.sh t = .bool):C.P.underlying t=some .bool:=by simp only[Cfg.sh,Ad1] at h;split at h<;>simp_all
theorem Y1{P:Program}{t:Nat}{X Y:Value}{b:Bool}{w':World}(e:(ag9 t X Y).run P w' = .ok b w')
  (d:∀op a c,(eqGuard op t a c X Y).run P w' = .ok () w') (f:binOp .eql t X Y=(do pure (.bool (<-ag9 t X Y)))) (g:binOp .neq t X Y=(do pure (.bool (!(<-ag9 t X Y))))) :
  (∀a c,(do eqGuard .eql t a c X Y;binOp .eql t X Y).run P w' = .ok (.bool b) w')/\(∀a c,(do eqGuard .neq t a c X Y;binOp .neq t X Y).run P w' = .ok (.bool (!b)) w'):=by
 refine⟨λa c=>?_,λa c=>?_⟩
 ·rw[f];simp[d,e]
 ·rw[g];simp[d,e]
theorem CS{P:Program}{t:Nat}{X Y:Value}{b:Bool}{w':World}(h:∀d,(v7 (d+1) t X Y).run P w' = .ok b w'):(ag9 t X Y).run P w' = .ok b w':=h 9999
theorem VP.inv_nilp{Γ:Ctx}{sh:Nat->Option Shp}{w:World}{V:Value}(h:VP Γ sh w (.s .nilp) V):V = .pointer none:=by have:=h.inv_s;cases this;rfl
theorem VP.inv_nilf{Γ:Ctx}{sh:Nat->Option Shp}{w:World}{V:Value}(h:VP Γ sh w (.s .nilf) V):V = .nilFunc:=by have:=h.inv_s;cases this;rfl
theorem VP.inv_sp{Γ:Ctx}{sh:Nat->Option Shp}{w:World}{V:Value}{els i o}(h:VP Γ sh w (.s (.sp els i o)) V):∃a,V = .pointer (some a):=by have:=h.inv_s;cases this;exact⟨_,rfl⟩
theorem VP.inv_ptr{Γ:Ctx}{sh:Nat->Option Shp}{w:World}{V:Value}{b i o}(h:VP Γ sh w (.ptr b i o) V):∃a,V = .pointer (some a):=by cases h<;>exact⟨_,rfl⟩
theorem VP.inv_fn{Γ:Ctx}{sh:Nat->Option Shp}{w:World}{V:Value}{f x y}(h:VP Γ sh w (.s (.fn f x y)) V):∃A B,V = .func f A B:=by have:=h.inv_s;cases this;exact⟨_,_,rfl⟩
theorem VP.inv_fnr{Γ:Ctx}{sh:Nat->Option Shp}{w:World}{V:Value}{f x y}(h:VP Γ sh w (.fnr f x y) V):∃A B,V = .func f A B:=by cases h;exact⟨_,_,rfl⟩
theorem VP.inv_nsl{Γ:Ctx}{sh:Nat->Option Shp}{w:World}{V:Value}(h:VP Γ sh w .nsl V):V = .slice none 0 0:=by cases h;rfl
theorem LU{C:Cfg}{t:Nat}{x y:PV}{X Y:Value}{b:Bool}(h:Df1 H (C.sh t) x y=some b)(g:VP Γ (A5 H) w x X)(i:VP Γ (A5 H) w y Y)(w':World) :
  (∀o u,(do eqGuard .eql t o u X Y;binOp .eql t X Y).run C.P w' = .ok (.bool b) w')/\(∀o u,(do eqGuard .neq t o u X Y;binOp .neq t X Y).run C.P w' = .ok (.bool (!b)) w'):=by
 unfold Df1 at h;split at h
 ·rename_i e f;obtain rfl:=g.inv_nilp;obtain rfl:=i.inv_nilp;simp only[a8] at h;subst h;exact Y1 (CS λd=>by simp[v7,run_underlying (OJ f)]) (by intros;simp[eqGuard]) (by simp[binOp]) (by simp[binOp])
 ·rename_i e _ _ _ f;obtain rfl:=g.inv_nilp;obtain⟨a,rfl⟩:=i.inv_sp;simp only[a8] at h;subst h;exact Y1 (CS λd=>by simp[v7,run_underlying (OJ f)]) (by intros;simp[eqGuard]) (by simp[binOp]) (by simp[binOp])
 ·rename_i e _ _ _ f;obtain rfl:=i.inv_nilp;obtain⟨a,rfl⟩:=g.inv_sp;simp only[a8] at h;subst h;exact Y1 (CS λd=>by simp[v7,run_underlying (OJ f)]) (by intros;simp[eqGuard]) (by simp[binOp]) (by simp[binOp])
 ·rename_i e _ _ _ f;obtain rfl:=g.inv_nilp;obtain⟨a,rfl⟩:=i.inv_ptr;simp only[a8] at h;subst h;exact Y1 (CS λd=>by simp[v7,run_underlying (OJ f)]) (by intros;simp[eqGuard]) (by simp[binOp]) (by simp[binOp])
 ·rename_i e _ _ _ f;obtain rfl:=i.inv_nilp;obtain⟨a,rfl⟩:=g.inv_ptr;simp only[a8] at h;subst h;exact Y1 (CS λd=>by simp[v7,run_underlying (OJ f)]) (by intros;simp[eqGuard]) (by simp[binOp]) (by simp[binOp])
 ·rename_i f;obtain⟨k,l,m,j⟩:=Ax0 f;obtain rfl:=g.inv_nilf;obtain rfl:=i.inv_nilf;simp only[a8] at h;subst h;exact Y1 (CS λd=>by simp[v7,run_underlying j]) (by intros;simp[eqGuard]) (by simp[binOp]) (by simp[binOp])
 ·rename_i f;obtain⟨k,l,m,j⟩:=Ax0 f;obtain rfl:=g.inv_nilf;obtain⟨A,B,rfl⟩:=i.inv_fn;simp only[a8] at h;subst h;exact Y1 (CS λd=>by simp[v7,run_underlying j]) (by intros;simp[eqGuard]) (by simp[binOp]) (by simp[binOp])
 ·rename_i f;obtain⟨k,l,m,j⟩:=Ax0 f;obtain rfl:=i.inv_nilf;obtain⟨A,B,rfl⟩:=g.inv_fn;simp only[a8] at h;subst h;exact Y1 (CS λd=>by simp[v7,run_underlying j]) (by intros;simp[eqGuard]) (by simp[binOp]) (by simp[binOp])
 ·rename_i f;obtain⟨k,l,m,j⟩:=Ax0 f;obtain rfl:=g.inv_nilf;obtain⟨A,B,rfl⟩:=i.inv_fnr;simp only[a8] at h;subst h;exact Y1 (CS λd=>by simp[v7,run_underlying j]) (by intros;simp[eqGuard]) (by simp[binOp]) (by simp[binOp])
 ·rename_i f;obtain⟨k,l,m,j⟩:=Ax0 f;obtain rfl:=i.inv_nilf;obtain⟨A,B,rfl⟩:=g.inv_fnr;simp only[a8] at h;subst h;exact Y1 (CS λd=>by simp[v7,run_underlying j]) (by intros;simp[eqGuard]) (by simp[binOp]) (by simp[binOp])
 ·rename_i p q f;obtain rfl:=g.inv_bool;obtain rfl:=i.inv_bool;simp only[a8] at h;subst h;exact Y1 (CS λd=>by simp[v7,run_underlying (Dp5 f)]) (by intros;simp[eqGuard]) (by simp[binOp]) (by simp[binOp])
 ·rename_i e f;obtain rfl:=i.inv_nsl;obtain⟨a,n,c,rfl,rfl,v⟩:=FG g h;refine Y1 ?_ (by intros;simp[eqGuard]) (by simp[binOp]) (by simp[binOp]);exact CS λd=>by cases a<;>simp[v7,run_underlying (K5 f)]
 ·rename_i e f _;obtain rfl:=g.inv_nsl;obtain⟨a,n,c,rfl,rfl,v⟩:=FG i h;refine Y1 ?_ (by intros;simp[eqGuard]) (by simp[binOp]) (by simp[binOp]);exact CS λd=>by cases a<;>simp[v7,run_underlying (K5 f)]
 ·cases h
end ops
theorem Ia:∀{x y:List PV} {b:Bool},P5 x y=some b->x.length=y.length
 | [],[],_,_=>rfl
 | a::x,c::y,b,h=>by
  simp only[P5] at h;split at h
  ·rename_i p q e d;simp[Ia d]
  ·cases h
 | [],_::_,_,h=>by simp[P5] at h
 | _::_,[],_,h=>by simp[P5] at h
theorem Hz:∀{x e y f:List PV} {b:Bool},x.length=y.length->P5 (x++e) (y++f)=some b->∃p q,P5 x y=some p/\P5 e f=some q/\b=(p&&q)
 | [],e,[],f,b,_,h=>⟨true,b,rfl,h,by simp⟩
 | a::x,e,c::y,f,b,d,h=>by
  simp only[List.cons_append,P5] at h;split at h
  ·rename_i p q j k;obtain⟨l,m,g,i,rfl⟩:=Hz (by simpa using d) k;refine⟨p&&l,m,by simp[P5,j,g],i,?_⟩;grind
  ·cases h
 | [],_,_::_,_,_,d,_=>by simp at d
 | _::_,_,[],_,_,d,_=>by simp at d
def KS(a:List CK)(x:List PV):Prop:=x.length=a.length/\∀j (h:j<a.length) (b:j<x.length),(x[j]).has (a[j])=true
theorem KS.append_inv{a b:List CK}{x:List PV}(h:KS (a++b) x):∃y z,x=y++z/\KS a y/\KS b z:=by obtain⟨hl,hk⟩:=h;refine⟨x.take a.length,x.drop a.length,(List.take_append_drop _ _).symm,⟨by simp at hl ⊢;omega,λj h h'=>?_⟩,⟨by simp at hl ⊢;omega,λj h h'=>?_⟩⟩;all_goals grind
def At(a:Ctx)(sh:Nat->Option Shp)(w:World)(A:Array Value)(off:Nat)(x:List PV):Prop:=∀j (h:j<x.length),∃U,A[off+j]? = some U/\VP a sh w (x[j]) U
theorem At.append_inv{Γ:Ctx}{sh:Nat->Option Shp}{w:World}{A:Array Value}{off:Nat}{x y:List PV}(h:At Γ sh w A off (x++y)):At Γ sh w A off x/\At Γ sh w A (off+x.length) y:=by
 refine⟨λj hj=>?_,λj hj=>?_⟩
 ·obtain⟨U,e,k⟩:=h j (by simp;omega);grind
 ·obtain⟨U,e,k⟩:=h (x.length+j) (by simp;omega);grind
def Ig:TypeDesc->Bool
 | .struct _=>true
 | .array _ _=>true
 | _=>false
theorem Hk{P:Program}{t:TypeId}{d:TypeDesc}(h:P.underlying t=some d)(w:World):(isAgg t).run P w = .ok (Ig d) w:=by unfold isAgg;rw[v8,run_underlying h w];cases d<;>simp[Ig]
theorem Ai{P:Program}{t:TypeId}{d:TypeDesc}{i:TypeInfo}(h:P.underlying t=some d)(a:Ig d=true)(b:P.info? t=some i)(A:Array Value)(off:Nat)(w:World) :
  (part t A off).run P w = .ok (.agg (A.extract off (off+i.size))) w:=by
 simp[part,Hk h,a,sizeOf,typeInfo,b]
theorem Gq{P:Program}{t:TypeId}{d:TypeDesc}(h:P.underlying t=some d)(b:Ig d=false){A:Array Value}{off:Nat}{U:Value}(a:A[off]? = some U)(w:World) :
  (part t A off).run P w = .ok U w:=by
 simp[part,Hk h,b,a]
theorem At.extract{Γ:Ctx}{sh:Nat->Option Shp}{w:World}{A:Array Value}{off n:Nat}{x:List PV}(h:At Γ sh w A off x)(hn:x.length<=n):At Γ sh w (A.extract off (off+n)) 0 x:=by intro j hj;obtain⟨U,e,k⟩:=h j hj;grind
def Dy3(P:Program)(d:Nat)(t:TypeId)(f:List CK):Prop:=
 ∀(g:Ctx) (sh:Nat->Option Shp) (w:World) (A B:Array Value) (off e:Nat) (x y:List PV) (b:Bool),KS f x->KS f y->At g sh w A off x->At g sh w B e y->P5 x y=some b->
  ∀(D:Nat),d<=D->∀w',∃a c,(part t A off).run P w' = .ok a w'/\(part t B e).run P w' = .ok c w'/\(v7 D t a c).run P w' = .ok b w'
theorem A85{P:Program}{t:TypeId}{h:TypeDesc}{ck:CK}(m:P.underlying t=some h)(l:Ig h=false)
  (v:∀(p q:PV) (b:Bool),p.has ck=true->q.has ck=true->LT p q=some b->∀(c:Ctx) (sh:Nat->Option Shp) (w:World) U V,VP c sh w p U->VP c sh w q V->∀D w',(v7 (D+1) t U V).run P w' = .ok b w') :
  Dy3 P 1 t [ck]:=by
 intro c sh w A B off n x y b d e hA u a D I w';obtain⟨f,z⟩:=d;obtain⟨g,C⟩:=e
 match x,y,f,g with
 | [p],[q],_,_=>
  obtain⟨U,i,F⟩:=hA 0 (by simp);obtain⟨V,j,G⟩:=u 0 (by simp);simp only[ab8] at i j;obtain⟨D,rfl⟩:∃o,D=o+1:=⟨D-1,by omega⟩
  simp only[P5] at a;split at a
  ·rename_i H J r k;simp only[a8] at k a;subst k a;refine⟨U,V,Gq m l i w',Gq m l j w',?_⟩;rw[Bool.and_true];exact v p q H (by simpa using z 0 (by simp) (by simp)) (by simpa using C 0 (by simp) (by simp)) r c sh w U V F G D w'
  ·cases a
theorem SE{c:CK}{p:PV}(h:p.has c=true)(a:c = .bool\/(∃k,c = .int k)\/c = .str):∃x,p = .s x/\x.has c=true:=by rcases a with rfl|⟨k,rfl⟩|rfl<;>cases p<;>simp_all [PV.has]
theorem Xm{P:Program}{d:Nat}{f:Nat->Option (List CK)}(I:∀t e,f t=some e->Dy3 P d t e){Γ:Ctx}{sh:Nat->Option Shp}{w:World}{A B:Array Value}{D:Nat}(H:d<=D)(w':World) :
  ∀(m:List Field) (off:Nat) (e:List CK) (x y:List PV) (b:Bool),MO f m off=some e->KS e x->KS e y->At Γ sh w A off x->At Γ sh w B off y->P5 x y=some b->
   (ai0 D A B m).run P w' = .ok b w'
 | [],off,e,x,y,b,h,z,F,_,_,n=>by
  simp only[MO,a8] at h;subst h;obtain rfl:=y5 z.1;obtain rfl:=y5 F.1;simp only[P5,a8] at n;subst n;simp[ai0]
 | g::m,off,e,x,y,b,h,z,F,hA,L,n=>by
  simp only[MO] at h;split at h
  ·rename_i o;simp only[b9,beq_iff_eq,bne_iff_ne,ne_eq] at o;split at h
   ·rename_i a M;split at h
    ·rename_i c r;simp only[a8] at h;subst h;obtain⟨S,T,rfl,i,C⟩:=z.append_inv;obtain⟨U,V,rfl,j,G⟩:=F.append_inv;obtain⟨p,q,J,K,rfl⟩:=Hz (by rw[i.1,j.1]) n;have k:=hA.append_inv;have l:=L.append_inv;obtain⟨u,v,O,Q,R⟩:=I g.type a M Γ sh w A B off off S U p i j k.1 l.1 J D H w';have N:=Xm I H w' m (off+a.length) c T V q r C G (by rw[<-i.1];exact k.2) (by rw[<-j.1];exact l.2) K;simp only[ai0];rw[if_pos o.2,o.1];simp only[v8,O,Q,R,o6,Sem.run_ite,w9,N];grind
    grind
   ·cases h
  ·cases h
theorem Ac8{P:Program}{D:Nat}{t e:TypeId}{n:Nat}{i:TypeInfo}(k:P.underlying t=some (.array n e))(f:P.info? e=some i){A B:Array Value}(w':World)(q:Nat->Bool)
  (h:∀j,j<n->∃a c,(part e A (j*i.size)).run P w' = .ok a w'/\(part e B (j*i.size)).run P w' = .ok c w'/\(v7 D e a c).run P w' = .ok (q j) w') :
  (v7 (D+1) t (.agg A) (.agg B)).run P w' = .ok ((ae6 n).all q) w':=by
 simp only[v7,v8,run_underlying k,o6,sizeOf,typeInfo,run_program,f,w9];rw[af5];simp only[aj7,Nat.sub_zero,Nat.add_sub_cancel,Nat.div_one];have key:∀(m s:Nat),s+m=n->
   (Sem.run P (forIn (m:=Sem) (ah9 s m 1) ((none,()):Option Bool × Unit) λb __s=>do
      let __do_lift <-part e A (b*i.size);let __do_lift_1 <-part e B (b*i.size);let __do_lift <-v7 D e __do_lift __do_lift_1
      if (!__do_lift)=true then pure (ForInStep.done (some false,())) else pure (ForInStep.yield (none,()))) w') =
    .ok (if ((ah9 s m).all q) then (none,()) else (some false,())) w':=by
  intro m
  induction m with
  | zero=>intro s g;simp
  | succ m l=>
   intro s g;obtain⟨a,c,o,p,r⟩:=h s (by omega);simp only[List.range'_succ,List.forIn_cons,v8,o,p,r,o6,Sem.run_ite,w9];cases d:q s
   ·simp[d]
   ·simp only[Bool.not_true,ac1,if_false,o6];rw[l (s+1) (by omega)];simp only[ai9,d,ai6]
 have:=key n 0 (by omega);rw[List.range_eq_range'];rw[this];cases (ah9 0 n).all q<;>simp
theorem Nd{b:Type}(n:Nat)(a:List b):(o9 (n+1) a).flatten=a++(o9 n a).flatten:=by grind
theorem Qh:∀(n:Nat) (a:List CK) (x y:List PV) (b:Bool),KS (o9 n a).flatten x->KS (o9 n a).flatten y->P5 x y=some b->
  ∃q:Nat->Bool,b=(ae6 n).all q/\∀j,j<n->∃u v,KS a u/\KS a v/\P5 u v=some (q j)/\
   (∃p r,x=p++(u++r)/\p.length=j*a.length)/\(∃p r,y=p++(v++r)/\p.length=j*a.length)
 | 0,a,x,y,b,e,f,g=>by
  simp only[List.replicate_zero,List.flatten_nil] at e f;obtain rfl:=y5 e.1;obtain rfl:=y5 f.1;simp only[P5,a8] at g;simp_all
 | n+1,a,x,y,b,e,f,g=>by
  rw[Nd] at e f;obtain⟨k,l,rfl,c,h⟩:=e.append_inv;obtain⟨m,o,rfl,d,i⟩:=f.append_inv;obtain⟨p,q,t,w,rfl⟩:=Hz (by rw[c.1,d.1]) g;obtain⟨K,rfl,D⟩:=Qh n a l o q h i w;refine⟨λj=>match j with|0=>p|j+1=>K j,?_,λj N=>?_⟩
  ·rw[List.range_succ_eq_map,ai9,List.all_map];rfl
  ·cases j with
   | zero=>exact⟨k,m,c,d,t,⟨[],l,rfl,by simp⟩,⟨[],o,rfl,by simp⟩⟩
   | succ j=>
    obtain⟨u,v,F,G,H,⟨I,L,z,A⟩,⟨J,M,B,C⟩⟩:=D j (by omega);exact⟨u,v,F,G,H,⟨k++I,L,by rw[z,ab4],by rw[j6,A,c.1,k9];omega⟩,⟨m++J,M,by rw[B,ab4],by rw[j6,C,d.1,k9];omega⟩⟩
theorem At.mid{Γ:Ctx}{sh:Nat->Option Shp}{w:World}{A:Array Value}{off:Nat}{p u r:List PV}(h:At Γ sh w A off (p++(u++r))):At Γ sh w A (off+p.length) u:=
 (h.append_inv.2).append_inv.1
theorem LS{P:Program}:∀(d t:Nat) (R:List CK),SO P d t=some R->Dy3 P d t R
 | 0,t,R,h=>by simp[SO] at h
 | d+1,t,R,h=>by
  have ih:=LS (P:=P) d;simp only[SO] at h;split at h
  ·rename_i g;simp only[a8] at h;subst h;have:=A85 (P:=P) (ck:=.bool) g rfl (λp q b O F l Γ sh w U V N hV D w'=>by
    obtain⟨x,rfl,I⟩:=SE O (.inl rfl);obtain⟨y,rfl,J⟩:=SE F (.inl rfl);cases x<;>simp[SV.has] at I
    cases y<;>simp[SV.has] at J
    obtain rfl:=N.inv_bool;obtain rfl:=hV.inv_bool;simp only[LT,a8] at l;subst l;exact run_equalIn_bool' w' D t _ _ g)
   exact λΓ sh w A B off c x y b z G C H K D Q=>this Γ sh w A B off c x y b z G C H K D (by omega)
  ·rename_i k g;simp only[a8] at h;subst h;have:=A85 (P:=P) (ck:=.int k) g rfl (λp q b O F l Γ sh w U V N hV D w'=>by
    obtain⟨x,rfl,I⟩:=SE O (.inr (.inl ⟨k,rfl⟩));obtain⟨y,rfl,J⟩:=SE F (.inr (.inl ⟨k,rfl⟩));cases x<;>simp[SV.has] at I
    cases y<;>simp[SV.has] at J
    subst I J;obtain rfl:=N.inv_int;obtain rfl:=hV.inv_int;simp only[LT,if_true,a8] at l;subst l;exact run_equalIn_int w' D t _ _ _ _ g)
   exact λΓ sh w A B off c x y b z G C H K D Q=>this Γ sh w A B off c x y b z G C H K D (by omega)
  ·rename_i g;simp only[a8] at h;subst h;have:=A85 (P:=P) (ck:=.str) g rfl (λp q b O F l Γ sh w U V N hV D w'=>by
    obtain⟨x,rfl,I⟩:=SE O (.inr (.inr rfl));obtain⟨y,rfl,J⟩:=SE F (.inr (.inr rfl));cases x<;>simp[SV.has] at I
    cases y<;>simp[SV.has] at J
    obtain⟨s1,rfl,rfl⟩:=N.inv_str;obtain⟨s2,rfl,rfl⟩:=hV.inv_str;simp only[LT,a8] at l;subst l;rw[<-ac7,<-ac7];exact run_equalIn_string w' D t _ _ g)
   exact λΓ sh w A B off c x y b z G C H K D Q=>this Γ sh w A B off c x y b z G C H K D (by omega)
  ·rename_i X g;split at h
   ·cases h
   ·rename_i r;split at h
    ·rename_i a1 hl;split at h
     ·rename_i f;simp only[a8] at h;subst h;simp only[beq_iff_eq,w8] at f;obtain⟨i,Z,f⟩:=f;intro Γ sh w A B off c x y b m o hA T l D Q w';obtain⟨D,rfl⟩:∃S,D=S+1:=⟨D-1,by omega⟩
      refine⟨_,_,Ai g rfl Z A off w',Ai g rfl Z B c w',?_⟩;have Y:P.fieldsOf t=X:=by simp[Program.fieldsOf,g]
      rw[run_equalIn_struct w' D t _ _ (by rw[Y];exact g) (by simpa using r),Y];exact Xm ih (Γ:=Γ) (sh:=sh) (w:=w) (by omega) w' X.toList 0 _ x y b hl m o (hA.extract (by rw[m.1,f];exact j4 _)) (T.extract (by rw[o.1,f];exact j4 _)) l
     grind
    grind
  ·rename_i n e g;split at h
   ·rename_i a ha;split at h
    ·rename_i f;simp only[a8] at h;subst h;simp only[b9,beq_iff_eq,w8] at f;obtain⟨⟨ie,W,a0⟩,it,hit,r⟩:=f;intro Γ sh w A B off c x y b m o hA T l D Q w';obtain⟨D,rfl⟩:∃S,D=S+1:=⟨D-1,by omega⟩
     refine⟨_,_,Ai g rfl hit A off w',Ai g rfl hit B c w',?_⟩;obtain⟨q,rfl,F⟩:=Qh n a x y b m o l;have L:At Γ sh w (A.extract off (off+it.size)) 0 x:=hA.extract (by rw[m.1,r];exact j4 _);have M:At Γ sh w (B.extract c (c+it.size)) 0 y:=T.extract (by rw[o.1,r];exact j4 _);refine Ac8 g W w' q λj hj=>?_
     obtain⟨u,v,k1,k2,k3,⟨p1,r1,z,G⟩,⟨p2,r2,C,H⟩⟩:=F j hj;have m1:At Γ sh w (A.extract off (off+it.size)) (j*ie.size) u:=by
      have:=(by rw[z] at L;exact L.mid:At Γ sh w (A.extract off (off+it.size)) (0+p1.length) u)
      grind
     have m2:At Γ sh w (B.extract c (c+it.size)) (j*ie.size) v:=by
      have:=(by rw[C] at M;exact M.mid:At Γ sh w (B.extract c (c+it.size)) (0+p2.length) v)
      grind
     exact ih e a ha Γ sh w _ _ _ _ u v (q j) k1 k2 m1 m2 k3 D (by omega) w'
    grind
   ·cases h
  ·cases h
theorem Cy5{t:TI}{x:List PV}(h:okP t x 0=true)(c:x.length=t.ks.length):KS t.ks x:=by refine⟨c,λj a b=>?_⟩;simp only[okP,b9,p6] at h;have:=h.2 (t.ks[j],j) (by rw[ab0];simp[a]);grind
section
variable {L : Ctx} {H : List Blk} {w : World} {R : Type} {r : R}
theorem Ro:∀{a:List CK} {l:List Value},Da a l=true->a.length=l.length
 | [],[],_=>rfl
 | c::r,v::q,h=>by
  simp only[Da,b9] at h;simp[Ro h.2]
 | [],_::_,h=>by simp[Da] at h
 | _::_,[],h=>by simp[Da] at h
theorem Eu{C:Cfg}{t:Nat}(h:(C.ti t).ok=true):∃i d z,C.P.info? t=some i/\C.P.underlying t=some d/\i.zero=some z/\i.size=z.cells.size/\i.bytes<=512/\0<i.size/\
  Da (C.ti t).ks z.cells.toList=true/\(C.ti t).agg=Ig d/\i.size=(C.ti t).ks.length:=by
 simp only[Cfg.ti,Dp9] at h ⊢;split at h
 ·rename_i i d f b a c;split at h
  ·rename_i z e;simp only[b9,beq_iff_eq,decide_eq_true_eq] at h;refine⟨i,d,z,b,a,e,h.1.1.1,h.1.1.2,h.1.2,h.2,?_,?_⟩
   ·cases d<;>rfl
   ·rw[h.1.1.1,Ro h.2];simp
  ·cases h
 ·cases h
theorem ET{C:Cfg}{t:Nat}{x y:List PV}{X Y:Value}{b:Bool}(M:(Df0 C.P t&&(C.ti t).agg&&okP (C.ti t) x 0&&okP (C.ti t) y 0&&decide (x.length=(C.ti t).ks.length))=true)(F:P5 x y=some b)
  (W:VP L (A5 H) w (.agg x) X) (Z:VP L (A5 H) w (.agg y) Y) (w':World) :
  (∀f g,(do eqGuard .eql t f g X Y;binOp .eql t X Y).run C.P w' = .ok (.bool b) w')/\(∀f g,(do eqGuard .neq t f g X Y;binOp .neq t X Y).run C.P w' = .ok (.bool (!b)) w'):=by
 simp only[b9,decide_eq_true_eq,Df0,beq_iff_eq,ac2] at M;obtain⟨⟨⟨⟨⟨O,Q⟩,h6⟩,n⟩,S⟩,K⟩:=M;have o:y.length=(C.ti t).ks.length:=by rw[<-Ia F];exact K
 obtain⟨A,rfl,p,q⟩:=W.inv_agg;obtain⟨B,rfl,u,v⟩:=Z.inv_agg;have D:=LS (P:=C.P) 20 t _ O L (A5 H) w A B 0 0 x y b (Cy5 n K) (Cy5 S o) (λj h=>by simpa using q j h) (λj h=>by simpa using v j h) F 10000 (by omega) w';obtain⟨a,c,k,l,r3⟩:=D;have e:∃i m,C.P.info? t=some i/\C.P.underlying t=some m/\Ig m=true/\i.size=x.length:=by
  have G:(C.ti t).ok=true:=by simp only[okP,b9] at n;exact n.1
  obtain⟨i,d,z,I,J,e3,e4,e5,e6,e7,e8,e9⟩:=Eu G;grind
 obtain⟨i,m,U,V,T,N⟩:=e;rw[Ai V T U] at k l;simp only[Result.ok.injEq,and_true] at k l;have I:A.extract 0 (0+i.size)=A:=by rw[N,aa7,<-p];simp
 have J:B.extract 0 (0+i.size)=B:=by rw[N,aa7,Ia F,<-u];simp
 rw[I] at k;rw[J] at l;subst k l;have r4:(ag9 t (.agg A) (.agg B)).run C.P w' = .ok b w':=r3;exact Y1 r4 (λop f g=>run_eqGuard_agg w' op t f g A B Q) (by simp[binOp]) (by simp[binOp])
theorem KQ{C:Cfg}{op:BinOp}{t:Nat}{ox oy:Operand}{x y:PV}{X Y:Value}{k:PV->Option R}(h:B55 C op t x y H k=some r)(d:VP L (A5 H) w x X)(e:VP L (A5 H) w y Y) :
  ∃v,k v=some r/\QV0 C.P L H w (do eqGuard op t ox oy X Y;binOp op t X Y) v:=by
 unfold B55 at h;split at h
 ·obtain rfl:=d.inv_int;obtain rfl:=e.inv_int;obtain⟨c,f⟩:=C3 h;simp only[decide_eq_true_eq] at c;refine⟨_,f,.val rfl (.int _ _) λw'=>?_⟩;simp[eqGuard,binOp,Op.shift,Int.not_lt.2 c]
 ·obtain rfl:=d.inv_int;obtain rfl:=e.inv_int;obtain⟨c,f⟩:=C3 h;simp only[decide_eq_true_eq] at c;refine⟨_,f,.val rfl (.int _ _) λw'=>?_⟩;simp[eqGuard,binOp,Op.shift,Int.not_lt.2 c]
 ·obtain rfl:=d.inv_int;obtain rfl:=e.inv_int;obtain⟨c,f⟩:=C3 h;simp only[b9,decide_eq_true_eq,bne_iff_ne,ne_eq] at c;obtain⟨rfl,c⟩:=c;refine⟨_,f,.val rfl (.int _ _) λw'=>?_⟩;simp[eqGuard,binOp,Op.intDiv,c]
 ·obtain rfl:=d.inv_int;obtain rfl:=e.inv_int;obtain⟨c,f⟩:=C3 h;simp only[b9,decide_eq_true_eq,bne_iff_ne,ne_eq] at c;obtain⟨rfl,c⟩:=c;refine⟨_,f,.val rfl (.int _ _) λw'=>?_⟩;simp[eqGuard,binOp,Op.intDiv,c]
 ·obtain rfl:=d.inv_int;obtain rfl:=e.inv_int;split at h
  ·rename_i o;subst o;split at h
   ·rename_i v l;exact⟨v,h,A44 l⟩
   ·cases h
  ·cases h
 ·obtain⟨a,rfl,rfl⟩:=d.inv_str;obtain⟨b,rfl,rfl⟩:=e.inv_str;obtain⟨c,f⟩:=C3 h;simp only[decide_eq_true_eq] at c;refine⟨_,f,.val rfl (.str (a++b) (by simp)) λw'=>?_⟩;have m:a.size=a.data.toList.length:=by rw[x4];rfl
  have n:b.size=b.data.toList.length:=by rw[x4];rfl
  have:¬(((a.size+b.size:Nat):Int) > IntKind.i64.max):=by rw[m,n];simp[IntKind.max,IntKind.signed,IntKind.bits];omega
  simp only[eqGuard,binOp,Op.stringOp,v8];rw[if_neg this];simp
 ·rename_i j;obtain⟨a,rfl,rfl⟩:=d.inv_str;obtain⟨b,rfl,rfl⟩:=e.inv_str;split at h
  ·rename_i v l;exact⟨v,h,A45 l (by rintro rfl;exact j rfl)⟩
  ·cases h
 ·split at h
  ·rename_i i;split at h
   ·rename_i b g;exact⟨_,h,.val rfl (.bool _) λw'=>(ET i g d e w').1 ox oy⟩
   ·cases h
  ·cases h
 ·split at h
  ·rename_i i;split at h
   ·rename_i b g;exact⟨_,h,.val rfl (.bool _) λw'=>(ET i g d e w').2 ox oy⟩
   ·cases h
  ·cases h
 ·split at h
  ·rename_i b g;exact⟨_,h,.val rfl (.bool _) λw'=>(LU g d e w').1 ox oy⟩
  ·cases h
 ·split at h
  ·rename_i b g;exact⟨_,h,.val rfl (.bool _) λw'=>(LU g d e w').2 ox oy⟩
  ·cases h
 ·cases h
end
theorem VS.as{St:Nat->Prop}{Γ:Ctx}{sh:Nat->Option Shp}{w:World}(hSt:Γ.St=St){c:CK}{x:SV}{V:Value}(hx:VS St w x V)(h:x.has c=true):VP Γ sh w (x.as c) V:=by
 subst hSt;cases c with
 | bool=>cases x<;>simp[SV.has] at h;exact .s _ _ hx
 | int k=>cases x<;>simp[SV.has] at h;subst h;exact .s _ _ hx
 | str=>cases x<;>simp[SV.has] at h;exact .s _ _ hx
 | ptr=>exact .s _ _ hx
 | map=>exact .s _ _ hx
 | fn=>exact .s _ _ hx
 | sl k=>
  cases x<;>simp[SV.has] at h
  rename_i z t k' els;show VP Γ sh w (.s (.sl z t k els)) V;rcases h with rfl|rfl
  ·exact .s _ _ hx
  ·cases hx;exact .s _ _ (.nil t k)
theorem VP.as{Γ:Ctx}{sh:Nat->Option Shp}{w:World}{c:CK}{x:PV}{V:Value}(hx:VP Γ sh w x V)(h:x.has c=true):VP Γ sh w (x.as c) V:=by
 cases x with
 | s x=>
  have h':x.has c=true:=by cases c<;>simpa[PV.has] using h
  have:=VS.as (Γ:=Γ) (sh:=sh) rfl hx.inv_s h';cases c<;>simpa[PV.as,SV.as,PV.toS] using this
 | _=>cases c<;>simp_all [PV.has,PV.as]
theorem PV.as_nms{c:CK}{x:PV}:∀b∈(x.as c).nms,b∈x.nms:=by
 intro b;cases x with
 | s x=>cases c<;>simp[PV.as,SV.as,PV.nms]
 | _=>cases c<;>simp[PV.as,PV.nms]
theorem B57{w w':World}(h:w'.heap=w.heap)(a:Addr):w'.cell? a=w.cell? a:=by simp[ac6,h]
theorem Fa{a:Type}{l:List a}{i:Nat}{d:a}(h:i<l.length):l.getD i d=l[i]:=by simp[ah2,b8 h]
section
variable {Γ : Ctx} {H : List Blk} {w : World} {R : Type} {r : R}
def En(Γ:Ctx)(sh:Nat->Option Shp)(w:World)(g o:Nat)(x:List PV):Prop:=∀j (h:j<x.length),∃U,w.cell? ⟨g,o+j,none⟩=some U/\VP Γ sh w (x[j]) U
theorem M4(g o j:Nat):(⟨g,o,none⟩:Addr).add j=⟨g,o+j,none⟩:=by unfold Addr.add;split<;>simp_all
theorem PL{C:Cfg}{tid g o:Nat}{x:List PV}(y:(C.ti tid).ok=true)(F:x.length=(C.ti tid).ks.length)(u:En Γ (A5 H) w g o x)
  (G:∀c∈C8 x,c<H.length):QV C.P Γ H w (loadVar tid ⟨g,o,none⟩) (if (C.ti tid).agg then .agg x else x.getD 0 .bad):=by
 obtain⟨i,d,z,O,D,T,S,N,I,Q,h,t⟩:=Eu y;rw[<-t] at F;let f:Nat->Value:=λj=>(w.cell? ⟨g,o+j,none⟩).getD undef
 have l:∀j,j<x.length->w.cell? ⟨g,o+j,none⟩=some (f j):=λj p=>by obtain⟨U,e,_⟩:=u j p;simp[f,e]
 have m:∀j (p:j<x.length),VP Γ (A5 H) w (x[j]) (f j):=λj p=>by obtain⟨U,e,k⟩:=u j p;simpa[f,e] using k
 by_cases n:Ig d=true
 ·rw[h,if_pos n];refine⟨by simpa[PV.nms] using G,.agg ((ae6 i.size).map f).toArray,.agg x _ f (by simp[F]) (λj p=>by simp[List.getElem?_range (by omega:j<i.size)]) m,λw' A=>?_⟩;have q:=run_loadCells_list (P:=C.P) w' ⟨g,o,none⟩ ((ae6 i.size).map f) (λj v J=>by
   rw[M4];refine LK A ?_;simp only[o0,w8] at J;obtain⟨a,K,L⟩:=J;have:=j2.1 K;obtain⟨M,B⟩:=this;simp at M B;subst B L;exact l j (by omega))
  simp only[j9,List.length_range] at q;simp[loadVar,Hk D,n,sizeOf,typeInfo,O,q]
 ·simp only[ah1] at n;rw[h,n];have b:0<x.length:=by omega
  have e0:x.getD 0 .bad=x[0]:=by simp[ah2,b8 b]
  simp only[ac1,if_false];rw[e0];refine⟨λc u=>G c (C0.2 ⟨0,b,u⟩),f 0,m 0 b,λw' A=>?_⟩;have:=l 0 b;simp only[ab8] at this;simp[loadVar,Hk D,n,LK A this]
def Fw(t:TI)(cells:List PV)(off:Nat):List PV:=t.ks.zipIdx.map λ(c,j)=>(cells.getD (off+j) .bad).as c
theorem Ac(t:TI)(cells:List PV)(off:Nat):(Fw t cells off).length=t.ks.length:=by simp[Fw]
theorem B11{t:TI}{cells:List PV}{off:Nat}(h:okP t cells off=true)(j:Nat)(a:j<t.ks.length):(cells.getD (off+j) .bad).has (t.ks[j])=true:=by simp only[okP,b9,p6] at h;exact h.2 (t.ks[j],j) (by rw[ab0];simp[a])
theorem Ao4{t:TI}{cells:List PV}{off:Nat}:Yj t cells off=(if t.agg then .agg (Fw t cells off) else if t.ks.length=1 then (Fw t cells off).getD 0 .bad else .bad):=by
 unfold Yj Fw;split
 ·rfl
 ·split
  ·grind
  ·rename_i a;split
   ·rename_i b
    match d:t.ks,b with
    | [c],_=>exact absurd d (a c)
   ·rfl
theorem Bd4{t:TI}{cells:List PV}{off:Nat}(h:okP t cells off=true):∀j,j<t.ks.length->off+j<cells.length:=by intro j a;simp only[okP,b9,p6] at h;have:=h.2 (t.ks[j],j) (by rw[ab0];simp[a]);apply x3;intro b;rw[p7,af0 (by omega)] at this;generalize t.ks[j]=c at this;cases c<;>simp[PV.has] at this
theorem Yk{C:Cfg}{tid g o off:Nat}{cells:List PV}(h:okP (C.ti tid) cells off=true)(u:En Γ (A5 H) w g o cells)(v:∀c∈C8 cells,c<H.length) :
  QV C.P Γ H w (loadVar tid ⟨g,o+off,none⟩) (Yj (C.ti tid) cells off):=by
 have l:(C.ti tid).ok=true:=by simp only[okP,b9] at h;exact h.1
 have f:=Bd4 h;have q:∀j (a:j<(Fw (C.ti tid) cells off).length),∃(d:off+j<cells.length) (k:j<(C.ti tid).ks.length),(Fw (C.ti tid) cells off)[j]=(cells[off+j]).as ((C.ti tid).ks[j]):=by
  intro j a;have b:j<(C.ti tid).ks.length:=by rw[Ac] at a;exact a
  exact⟨f j b,b,by simp[Fw,b8 (f j b)]⟩
 have key:=PL (Γ:=Γ) (H:=H) (w:=w) (C:=C) (tid:=tid) (g:=g) (o:=o+off) (x:=Fw (C.ti tid) cells off) l (Ac _ _ _)
  (λj a=>by
   obtain⟨d,k,e⟩:=q j a;obtain⟨U,t,z⟩:=u (off+j) d;have:=B11 h j k;rw[Fa d] at this;exact⟨U,by rw[<-t];congr 2;omega,by rw[e];exact z.as this⟩)
  (λc i=>by
   obtain⟨j,a,p⟩:=C0.1 i;obtain⟨d,k,e⟩:=q j a;rw[e] at p;exact v c (C0.2 ⟨off+j,d,PV.as_nms c p⟩))
 rw[Ao4];by_cases n:(C.ti tid).agg=true
 ·simpa[n] using key
 ·simp only[n] at key ⊢;by_cases m:(C.ti tid).ks.length=1
  ·rw[if_pos m];simpa using key
  ·rw[if_neg m];refine⟨by simp[PV.nms],?_⟩;obtain⟨_,V,_,y⟩:=key;exact⟨V,.bad V,y⟩
theorem HR.box{C:Cfg}(hH:HR Γ H w){b:Nat}{cells:List PV}(hb:H[b]? = some (.box cells)):∃g,Γ.nm b=some g/\En Γ (A5 H) w g 0 cells/\∀c∈C8 cells,c<H.length:=by obtain⟨hlt,hbe⟩:=j2.1 hb;have:=hH.blk b hlt;rw[hbe] at this;obtain⟨g,cur,e,h1,h2,h3,h4⟩:=this;refine⟨g,h1,λj hj=>?_,λc hc=>hH.nms b hlt c (by rw[hbe];exact hc)⟩;obtain⟨V,e1,e2⟩:=h4 j hj;exact⟨V,by rw[cell_of_row w g _ cur e (0,0) h2,aa7];exact e1,e2⟩
theorem MZ(l:List SV):C8 (l.map PV.s)=[]:=by induction l with
 | nil=>rfl
 | cons a l b=>simp[C8,PV.nms,b]
theorem HR.arr{C:Cfg}(hH:HR Γ H w){b:Nat}{v:Bool}{e sz:Nat}{els:List (List SV)}(hb:H[b]? = some (.arr v e sz els))(hne:¬(v=true/\els=[])) :
  ∃g cur,Γ.nm b=some g/\w.heap[g]? = some (.cells cur e (0,0))/\els.length*sz<=cur.size/\(∀i (h:i<els.length),(els[i]).length=sz)/\∀i (h:i<els.length),En Γ (A5 H) w g (i*sz) ((els[i]).map .s):=by
 obtain⟨hlt,hbe⟩:=j2.1 hb;have:=hH.blk b hlt;rw[hbe] at this;rcases this with h|⟨_,g,cur,h1,h2,h3,h4,h5⟩
 ·exact absurd h hne
 ·refine⟨g,cur,h1,h2,h3,h4,λi hi j hj=>?_⟩;simp at hj;obtain⟨V,e1,e2⟩:=h5 i hi j hj;exact⟨V,by rw[cell_of_row w g _ cur e (0,0) h2];exact e1,by simpa using .s _ _ e2⟩
theorem En.flatten{sh:Nat->Option Shp}{g sz:Nat}:∀(els:List (List SV)) (o:Nat),(∀i (h:i<els.length),(els[i]).length=sz)->(∀i (h:i<els.length),En Γ sh w g (o+i*sz) ((els[i]).map .s))->
  En Γ sh w g o (els.flatten.map .s)
 | [],o,_,_=>λj hj=>by simp at hj
 | el::els,o,hl,hc=>by
  have ih:=En.flatten (sh:=sh) (g:=g) (sz:=sz) els (o+sz) (λi h=>hl (i+1) (by simpa using h)) (λi h=>by
   have:=hc (i+1) (by simpa using h);simp only[List.getElem_cons_succ] at this;rw[show o+(i+1)*sz=o+sz+i*sz by rw[k9];omega] at this;exact this)
  have h0:=hc 0 (by simp);simp only[aj6,ab8,w6] at h0;have hsz:=hl 0 (by simp);simp only[w6] at hsz;intro j hj;rw[j9,ad4,j6] at hj;by_cases hlt:j<el.length
  ·obtain⟨U,e,k⟩:=h0 j (by simpa using hlt);exact⟨U,e,by simpa[p4,hlt] using k⟩
  ·obtain⟨U,e,k⟩:=ih (j-sz) (by rw[j9];omega);refine⟨U,by rw[<-e];congr 2;omega,?_⟩;simp only[ad4,ae9];rw[z7 (by simp;omega)];simpa[hsz] using k
theorem VS.sp_cells{sh:Nat->Option Shp}{els:List (List SV)}{i o:Nat}{V:Value}(h:VS Γ.St w (.sp els i o) V)(hi:i<els.length) :
  ∃g off,V = .pointer (some ⟨g,off+o,none⟩)/\En Γ sh w g off ((els[i]).map .s):=by
 cases h with
 | sp _ _ _ g off sz Vs hg hl hc hv=>
  exact⟨g,off+i*sz,rfl,λj hj=>by
   simp at hj;exact⟨_,hc i hi j hj,by simpa using .s _ _ (hv i hi j hj)⟩⟩
theorem Xr{a:Type}{l:List a}{i:Nat}{d:a}(h:i<l.length):l.getD i d=l[i]:=by simp[ah2,b8 h]
theorem Aa1{t:TI}{cells:List SV}{off:Nat}(h:okS t cells off=true):okP t (cells.map .s) off=true/\Ao5 t cells off=Yj t (cells.map .s) off:=by
 simp only[okS,b9,decide_eq_true_eq,p6] at h;obtain⟨⟨d,k⟩,f⟩:=h;have a:∀j,j<t.ks.length->(cells.map PV.s).getD (off+j) .bad = .s (cells.getD (off+j) .nilp):=λj b=>by grind
 have g:∀(c:CK) (x:SV),(PV.s x).as c=x.as c:=λc x=>by cases c<;>rfl
 refine⟨?_,?_⟩
 ·simp only[okP,d,ai6,p6];rintro⟨c,j⟩ i;have b:j<t.ks.length:=by grind
  have:=f _ i;dsimp only at this ⊢;rw[a j b];cases c<;>exact this
 ·unfold Ao5 Yj;have e:(t.ks.zipIdx.map λ(c,j)=>(cells.getD (off+j) .nilp).as c)=t.ks.zipIdx.map λ(c,j)=>((cells.map PV.s).getD (off+j) .bad).as c:=by
   apply List.map_congr_left;grind
  grind
theorem FE{C:Cfg}{tid:Nat}{a:PV}{A:Value}{k:PV->Option R}(G:HR Γ H w)(h:Yi (C.ti tid) a H k=some r)(B:VP Γ (A5 H) w a A) :
  ∃v,k v=some r/\QV C.P Γ H w (ac9 tid A) v:=by
 unfold Yi at h;split at h
 ·rename_i b i off;split at h
  ·rename_i cells l;split at h
   ·rename_i m;subst m;obtain⟨c,f⟩:=C3 h;obtain⟨g,D,q,O⟩:=G.box (C:=C) l;have hA:A = .pointer (some ⟨g,0+off,none⟩):=by
     cases B with
     | ptrA _ _ _ u v e M n j d=>simp[A5,l,Blk.shp] at j
     | ptrB _ _ u j d=>rw[D] at d;cases d;simp
    subst hA;refine⟨_,f,?_⟩;have:=Yk (C:=C) (tid:=tid) c q O;exact⟨this.1,let⟨V,x,y⟩:=this.2;⟨V,x,λw' t=>by simp only[ac9,y8,v8,w9,o6];exact y w' t⟩⟩
   ·cases h
  ·rename_i v e M p l;split at h
   ·obtain⟨c,f⟩:=C3 h;simp only[b9,decide_eq_true_eq] at c;obtain⟨m,c⟩:=c;obtain⟨c,z⟩:=Aa1 c;rw[z] at f;obtain⟨g,F,D,_,_,_,q⟩:=G.arr (C:=C) l (by rintro⟨_,rfl⟩;simp at m);have hA:A = .pointer (some ⟨g,i*M+off,none⟩):=by
     cases B with
     | ptrA _ _ _ u Q N L P j d=>
      rw[D] at d;cases d;simp[A5,l,Blk.shp] at j;grind
     | ptrB _ _ u j d=>simp[A5,l,Blk.shp] at j
    subst hA;rw[Xr m] at c f;refine⟨_,f,?_⟩;have:=Yk (C:=C) (tid:=tid) c (q i m) (by rw[MZ];simp);exact⟨this.1,let⟨V,x,y⟩:=this.2;⟨V,x,λw' t=>by simp only[ac9,y8,v8,w9,o6];exact y w' t⟩⟩
   ·split at h
    ·rename_i I;obtain⟨rfl,rfl⟩:=I;obtain⟨c,f⟩:=C3 h;simp only[b9,decide_eq_true_eq] at c;obtain⟨S,c⟩:=c;obtain⟨c,z⟩:=Aa1 c;rw[z] at f;have J:¬(v=true/\p=[]):=by grind
     obtain⟨g,F,D,_,_,K,q⟩:=G.arr (C:=C) l J;have hA:A = .pointer (some ⟨g,0+0,none⟩):=by
      cases B with
      | ptrA _ _ _ u Q N L P j d=>
       grind
      | ptrB _ _ u j d=>simp[A5,l,Blk.shp] at j
     subst hA;refine⟨_,f,?_⟩;have:=Yk (C:=C) (tid:=tid) c (En.flatten p 0 K (λi h=>by simpa using q i h)) (by rw[MZ];simp);exact⟨this.1,let⟨V,x,y⟩:=this.2;⟨V,x,λw' t=>by simp only[ac9,y8,v8,w9,o6];exact y w' t⟩⟩
    ·cases h
  ·cases h
 ·rename_i p i off;obtain⟨c,f⟩:=C3 h;simp only[b9,decide_eq_true_eq] at c;obtain⟨m,c⟩:=c;obtain⟨c,z⟩:=Aa1 c;rw[z] at f;obtain⟨g,o,rfl,q⟩:=VS.sp_cells (sh:=A5 H) B.inv_s m;rw[Xr m] at c f;refine⟨_,f,?_⟩;have:=Yk (C:=C) (tid:=tid) c q (by rw[MZ];simp);exact⟨this.1,let⟨V,x,y⟩:=this.2;⟨V,x,λw' t=>by simp only[ac9,y8,v8,w9,o6];exact y w' t⟩⟩
 ·cases h
end
section
variable {Γ : Ctx} {H : List Blk} {w : World} {R : Type} {r : R}
theorem Ij{sh:Nat->Option Shp}(v:Value):VP Γ sh w (Qw v) v/\(Qw v).nms=[]:=by
 unfold Qw;split<;>first
  | exact⟨.bool _,rfl⟩
  | exact⟨.int _ _,rfl⟩
  | exact⟨.str _ rfl,rfl⟩
  | exact⟨.s _ _ .nilp,rfl⟩
  | exact⟨.nsl,rfl⟩
  | exact⟨.s _ _ .nilm,rfl⟩
  | exact⟨.s _ _ .nilf,rfl⟩
  | exact⟨.bad _,rfl⟩
theorem Cx9{l:List PV}(h:∀v∈l,v.nms=[]):C8 l=[]:=by
 induction l with
 | nil=>rfl
 | cons a l c=>simp[C8,h a (by simp),c (λv b=>h v (by simp[b]))]
theorem PN{sh:Nat->Option Shp}(v:Value):VP Γ sh w (HH v) v/\(HH v).nms=[]:=by
 unfold HH;split
 ·rename_i c;refine⟨VP.mk_agg (by simp) λj b=>?_,?_⟩
  ·simp at b;exact⟨c[j],by simp[b],by simpa using(Ij c[j]).1⟩
  ·simp only[PV.nms];refine Cx9 λv d=>?_
   simp only[aa1] at d;obtain⟨u,_,rfl⟩:=d;exact(Ij (Γ:=Γ) (w:=w) (sh:=sh) u).2
 ·rename_i a;split
  ·rename_i h;obtain rfl:a = #[]:=Array.eq_empty_of_size_eq_zero h;exact⟨VP.mk_tup (by simp) λj b=>by simp at b,rfl⟩
  ·exact⟨.bad _,rfl⟩
 ·exact Ij v
def GOK(C:Cfg)(St:Nat->Prop)(w:World):Prop:=
 (∀g k a,C.G.tab g=some (k,a)->St g/\∃e x,w.heap[g]? = some (.cells (a.map λz=>aj3 k z).toArray e x))/\∀g,C.G.gi g=true->St g/\∃m,w.cell? ⟨g,0,none⟩=some (.int .i64 m)
theorem GOK.congr{C C':Cfg}{St:Nat->Prop}{w:World}(h:C'.G=C.G)(hg:GOK C St w):GOK C' St w:=by unfold GOK at hg ⊢;rw[h];exact hg
theorem D33{St:Nat->Prop}{w:World}{g:Nat}{k:IntKind}{b:List Int}(d:St g){e:Nat}{x:Nat × Nat}(h:w.heap[g]? = some (.cells (b.map λz=>aj3 k z).toArray e x)):VS St w (.sp [b.map (SV.int k)] 0 0) (.pointer (some ⟨g,0,none⟩)):=by
 have e:(0:Nat)=0+0*b.length+0:=by omega
 rw[show(some (⟨g,0,none⟩:Addr))=some ⟨g,0+0*b.length+0,none⟩ by rw[<-e]];refine VS.sp [b.map (SV.int k)] 0 0 g 0 b.length (λ_ j=>.int k (b.getD j 0)) d (λi a=>?_) (λi a j c=>?_) (λi a j c=>?_)
 ·simp at a;subst a;simp
 ·simp at a;subst a;simp at c;simp[ac6,h,p7,b8 c]
 ·simp at a;subst a;simp at c;simp only[w6,j7,p7,b8 c,ah7];exact .int _ _
theorem Bd6{C:Cfg}{sl:List PV}{a:Array Value}{ds:List Deferred}(o:GOK C Γ.St w)(l:SR Γ H w sl a)(x:Operand) :
  VP Γ (A5 H) w (opnd C sl x) (({ tmps:=a,defers:=ds }:Act).eval x)/\∀c∈(opnd C sl x).nms,c<H.length:=by
 cases x with
 | tmp t=>
  simp only[opnd,Act.eval];by_cases b:t<sl.length
  ·obtain⟨V,e,k⟩:=l.slot t b;rw[Xr b];refine⟨by simpa[e] using k,λc p=>l.nms c (C0.2 ⟨t,b,p⟩)⟩
  ·have d:sl.getD t (.tup []) = .tup []:=by simp[ah2,af0 (ae0 b)]
   have i:a.getD t undef=undef:=by
    have m:a.size<=t:=by rw[l.size];exact ae0 b
    rw[p5,ae1 m];rfl
   rw[d,i];exact⟨VP.mk_tup (by simp) λj u=>by simp at u,by simp[PV.nms,C8]⟩
 | const v=>
  have:=PN (Γ:=Γ) (w:=w) (sh:=A5 H) v;exact⟨this.1,by simp only[opnd];rw[this.2];simp⟩
 | global g=>
  simp only[opnd,Act.eval];cases q:C.G.tab g with
  | none=>exact⟨.bad _,by simp[PV.nms]⟩
  | some n=>
   obtain⟨d,e,x,i⟩:=o.1 g n.1 n.2 q;exact⟨.s _ _ (D33 d i),by simp[PV.nms]⟩
 | func f=>exact⟨.s _ _ (.fn (.func f) [] [] #[] #[] (λ_=>undef) (λ_=>undef) (by simp) rfl rfl (by simp) (by simp) (λj h=>by simp at h) (λj h=>by simp at h)),by simp[opnd,PV.nms]⟩
theorem OI{C:Cfg}{t:Nat}{k:IntKind}(h:C.sh t = .int k):C.P.underlying t=some (.int k):=by simp only[Cfg.sh,Ad1] at h;split at h<;>simp_all
theorem Kt{C:Cfg}{t:Nat}(h:C.sh t = .str):C.P.underlying t=some .string:=by simp only[Cfg.sh,Ad1] at h;split at h<;>simp_all
structure SlV (Γ:Ctx) (w:World) (X:Value) (els:List (List SV)):Prop where
 ex:∃a cap,X = .slice a els.length cap/\els.length<=cap/\cap<=maxLen/\(a=none->cap=0)/\
  (els≠[]->∃g o sz,a=some ⟨g,o,none⟩/\(∀i (h:i<els.length),(els[i]).length=sz)/\∀i (h:i<els.length) j (h':j<(els[i]).length),∃U,w.cell? ⟨g,o+i*sz+j,none⟩=some U/\VS Γ.St w (els[i][j]) U)
theorem S8{b:Nat}{v:Bool}{e g:Nat}{a:List (List SV)}(j:H[b]? = some (.arr v e g a)){i:Bool}{d c f:Nat}(h:A5 H b=some (.arr i d c f)) :
  v=i/\e=d/\g=c/\a.length=f:=by
 simp[A5,j,Blk.shp] at h;exact h
theorem Zy{C:Cfg}{x:PV}{X:Value}{u:List (List SV)}(Y:HR Γ H w)(K:VP Γ (A5 H) w x X)(h:Oz H x=some u):SlV Γ w X u:=by
 unfold Oz at h;split at h
 ·cases K;simp only[a8] at h;subst h;exact⟨none,0,rfl,j4 _,aa2 _,λ_=>rfl,λh=>absurd rfl h⟩
 ·simp only[a8] at h;subst h;have hs:=K.inv_s;cases hs with
  | nil t k=>exact⟨none,0,rfl,j4 _,aa2 _,λ_=>rfl,λh=>absurd rfl h⟩
  | emp t k a cap ht A=>exact⟨some a,cap,rfl,aa2 _,A,by simp,λh=>absurd rfl h⟩
  | sl t u g off n cap L Vs hn d A ht J hl hc W=>
   subst hn;exact⟨_,cap,rfl,d,A,by simp,λ_=>⟨g,off,_,rfl,hl,λi h j f=>⟨_,hc i h j f,W i h j f⟩⟩⟩
 ·rename_i b;split at h
  ·rename_i v e L c D;simp only[a8] at h;subst h;cases K with
   | flv _ M B f=>
    obtain⟨_,_,_,I⟩:=S8 D f;obtain rfl:=o7.1 I;exact⟨none,0,rfl,j4 _,aa2 _,λ_=>rfl,λh=>absurd rfl h⟩
   | fl _ g v' M B n cap f W J d A hs=>
    obtain⟨rfl,rfl,rfl,rfl⟩:=S8 D f;refine⟨_,cap,rfl,d,A,by simp,λo=>?_⟩;obtain⟨z,y⟩:=j2.1 D;have:=Y.blk b z;rw[y] at this;rcases this with h|⟨_,g',q,G,P,h3,I,Q⟩
    ·exact absurd h.2 o
    ·rw[J] at G;cases G;refine⟨g,0,_,rfl,I,λi Z j S=>?_⟩;obtain⟨V,N,O⟩:=Q i Z j S;exact⟨V,by rw[cell_of_row w g _ q _ (0,0) P,aa7];exact N,O⟩
  ·cases h
 ·rename_i b i n;split at h
  ·rename_i v e L c D;simp only[a8] at h;subst h;cases K with
   | vwv _ M B _ f=>exact⟨none,0,by simp,by simp,aa2 _,λ_=>rfl,λh=>absurd (by simp) h⟩
   | vw _ _ _ g a cap v' M B m f W J ha Z d A=>
    obtain⟨rfl,rfl,rfl,rfl⟩:=S8 D f;have l:((c.drop i).take n).length=n:=by simp;omega
    refine⟨some a,cap,by rw[l],by rw[l];exact d,A,by simp,λo=>?_⟩;have U:n≠0:=by rintro rfl;simp at o
    obtain⟨z,y⟩:=j2.1 D;have:=Y.blk b z;rw[y] at this;rcases this with h|⟨_,g',q,G,P,h3,I,Q⟩
    ·exact absurd (by simp[h.2]) o
    ·rw[J] at G;cases G;have p:∀k (F:k<((c.drop i).take n).length),∃f:i+k<c.length,((c.drop i).take n)[k]=c[i+k]:=λk F=>by
      rw[l] at F;exact⟨by omega,by simp⟩
     refine⟨g,i*L,L,by rw[ha U],λk F=>?_,λk F j S=>?_⟩
     ·obtain⟨f,e⟩:=p k F;rw[e];exact I _ f
     ·obtain⟨f,e⟩:=p k F;have T:j<(c[i+k]).length:=by rw[<-e];exact S
      obtain⟨V,N,O⟩:=Q (i+k) f j T;refine⟨V,?_,by simp only[e];exact O⟩;rw[cell_of_row w g _ q _ (0,0) P,<-N]
      congr 1
      rw[k9]
  ·cases h
 ·cases h
theorem Bb6{x:PV}{n:Nat}(h:Dy H x=some n)(j:∀l,x≠.s (.str l))(d:∀b i m,x = .vw b i m->∃v e f a,H[b]? = some (.arr v e f a)/\i+m<=a.length):∃a,Oz H x=some a/\a.length=n:=by
 unfold Dy at h;split at h
 ·simp only[a8] at h;subst h;exact⟨[],rfl,rfl⟩
 ·simp only[a8] at h;subst h;exact⟨_,rfl,rfl⟩
 ·exact absurd rfl (j _)
 ·split at h
  ·rename_i c;simp only[a8] at h;subst h;exact⟨_,by simp[Oz,c],rfl⟩
  ·cases h
 ·rename_i b i m;simp only[a8] at h;subst h;obtain⟨v,e,f,a,c,g⟩:=d b i m rfl;exact⟨(a.drop i).take m,by simp only[Oz,c],by simp;omega⟩
 ·cases h
theorem ZP{C:Cfg}{x:PV}{X:Value}{n:Nat}(t:HR Γ H w)(f:VP Γ (A5 H) w x X)(h:Dy H x=some n)(u:∀l,x≠.s (.str l)):∃a cap,X = .slice a n cap/\n<=cap:=by
 by_cases d:∃b i m,x = .vw b i m
 ·obtain⟨b,i,m,rfl⟩:=d;simp only[Dy,a8] at h;subst h;cases f with
  | vwv=>exact⟨none,0,rfl,j4 _⟩
  | vw _ _ _ g a cap G y v m z d B A D c F=>exact⟨some a,cap,rfl,c⟩
 ·obtain⟨q,j,k⟩:=Bb6 h u (λb i m e=>absurd ⟨b,i,m,e⟩ d);obtain⟨a,cap,o,p,_⟩:=(Zy (C:=C) t f j).ex;subst k;exact⟨a,cap,o,p⟩
theorem Bb5{C:Cfg}{x:PV}{X:Value}{t ty:Nat}{ts:List Nat}{k:PV->Option R}(f:HR Γ H w)(h:B99 C x t H k=some r)(d:VP Γ (A5 H) w x X) :
  ∃v,k v=some r/\QV C.P Γ H w (ae2 (t::ts).toArray ty #[X]) v:=by
 unfold B99 at h;split at h
 ·rename_i n e b;exact⟨_,h,.val rfl (.int _ _) λw' _=>by simp[ae2,run_underlying (Jb b),goInt]⟩
 ·rename_i l b;obtain⟨s,rfl,rfl⟩:=d.inv_str;exact⟨_,h,.val rfl (.int _ _) λw' _=>by simp[ae2,run_underlying (Kt b),goInt]⟩
 ·cases h
 ·rename_i e b c;split at h
  ·rename_i n g;obtain⟨a,cap,rfl,_⟩:=ZP (C:=C) f d g (λl e=>c l e);exact⟨_,h,.val rfl (.int _ _) λw' _=>by simp[ae2,run_underlying (K5 b),goInt]⟩
  ·cases h
 ·cases h
theorem Tk{P:Program}{d:Bool}{xs:List PV}{k:PV->Option R}(e:Array TypeId)(f:TypeId)(h:Nn d xs k=some r) :
  ∃v a b c,k v=some r/\xs=[.s (.int c a),.s (.int c b)]/\QV P Γ H w (if d then Builtin.max_ e f #[.int c a,.int c b] else Builtin.min_ e f #[.int c a,.int c b]) v:=by
 unfold Nn at h;split at h
 ·rename_i c a i b;split at h
  ·rename_i g;subst g;refine⟨_,a,b,c,h,rfl,.val rfl (.int _ _) λw' _=>?_⟩;cases d
   ·simp[run_min_int2]
   ·simp[run_max_int2]
  ·cases h
 ·cases h
end
section
variable {L : Ctx} {H : List Blk} {w : World} {R : Type} {r : R}
theorem N1{C:Cfg}{t:Nat}(h:(C.ti t).ok=true):∃i,C.P.info? t=some i/\i.size=(C.ti t).ks.length/\0<i.size:=by obtain⟨i,d,z,k,j,l,g,e,c,f,a,b⟩:=Eu h;grind
theorem Cu{P:Program}{t e:Nat}{i:TypeInfo}{g:IntKind}{a:Addr}{len cap:Nat}{n:Int}(f:P.underlying t=some (.slice e))(d:P.info? e=some i)(b:0<=n)(c:n<len)(w':World) :
  (ac4 t (.slice (some a) len cap) (.int g n)).run P w' = .ok (.pointer (some (a.add (n.toNat*i.size)))) w':=by
 simp[ac4,asIntOf,run_underlying f,b,c,sizeOf,typeInfo,d]
theorem Ct{P:Program}{t e m:Nat}{i:TypeInfo}{g:IntKind}{a:Addr}{n:Int}(f:P.underlying t=some (.array m e))(d:P.info? e=some i)(b:0<=n)(c:n<m)(w':World) :
  (ac4 t (.pointer (some a)) (.int g n)).run P w' = .ok (.pointer (some (a.add (n.toNat*i.size)))) w':=by
 simp[ac4,asIntOf,run_underlying f,b,c,sizeOf,typeInfo,d,y8]
theorem DO{b i off:Nat}{A:Value}(a:VP L (A5 H) w (.ptr b i off) A) :
  (∃g v e j d,H[b]? = some (.arr v e j d)/\L.nm b=some g/\A = .pointer (some ⟨g,i*j+off,none⟩))\/(∃g cells,i=0/\H[b]? = some (.box cells)/\L.nm b=some g/\A = .pointer (some ⟨g,off,none⟩)):=by
 have key:∀{s:Shp},A5 H b=some s->∃x,H[b]? = some x/\x.shp=s:=λh=>by simpa[A5] using h
 cases a with
 | ptrA _ _ _ g v e j n h f=>
  obtain⟨x,a,c⟩:=key h;cases x<;>simp[Blk.shp] at c
  obtain⟨rfl,rfl,rfl,rfl⟩:=c;exact .inl ⟨g,_,_,_,_,a,f,rfl⟩
 | ptrB _ _ g h f=>
  obtain⟨x,a,c⟩:=key h;cases x<;>simp[Blk.shp] at c
  exact .inr ⟨g,_,rfl,a,f,rfl⟩
theorem QV.mk1{P:Program}{m:Sem Value}{v:PV}{V:Value}(hn:∀c∈v.nms,c<H.length)(h:VP L (A5 H) w v V)(hm:∀w':World,Ext w w'->m.run P w' = .ok V w'):QV P L H w m v:=⟨hn,V,h,hm⟩
theorem Ln{C:Cfg}{t:Nat}{x i:PV}{X I:Value}{k:PV->Option R}(hH:HR L H w)(h:Dv C t x i H k=some r)(Q:VP L (A5 H) w x X)(u:VP L (A5 H) w i I)
  (J:∀c∈x.nms,c<H.length):∃v,k v=some r/\QV0 C.P L H w (ac4 t X I) v:=by
 unfold Dv at h;split at h
 ·rename_i kd n;obtain rfl:=u.inv_int;split at h
  ·rename_i b;split at h
   ·rename_i v U G p e D l;split at h
    ·rename_i F;obtain⟨d,y⟩:=C3 h;simp only[b9,decide_eq_true_eq] at d;obtain⟨i,u,f,q⟩:=N1 F.1;refine⟨_,y,?_⟩;cases Q with
     | flv _ W O K=>obtain⟨_,_,_,h4⟩:=S8 D K;omega
     | fl _ g v' W O n' cap K P A M Z S=>
      obtain⟨rfl,rfl,rfl,rfl⟩:=S8 D K;refine .mk0 J (V:=.pointer (some ⟨g,n.toNat*G+0,none⟩)) (.ptrA b _ 0 g _ _ G _ K A) λw'=>?_
      rw[Cu (K5 l) u d.1 d.2,M4,f,F.2];simp
    ·cases h
   ·cases h
  ·rename_i b o m;split at h
   ·rename_i v U G p e D l;split at h
    ·rename_i F;obtain⟨d,y⟩:=C3 h;simp only[b9,decide_eq_true_eq] at d;obtain⟨i,u,f,q⟩:=N1 F.1;refine⟨_,y,?_⟩;cases Q with
     | vwv _ W O _ K=>omega
     | vw _ _ _ g a cap v' W O m' K P A ha a0 M Z=>
      obtain⟨rfl,rfl,rfl,rfl⟩:=S8 D K;refine .mk0 J (V:=.pointer (some ⟨g,(o+n.toNat)*G+0,none⟩)) (.ptrA b _ 0 g _ _ G _ K A) λw'=>?_
      rw[Cu (K5 l) u d.1 d.2,ha (by omega),M4,f,F.2,k9];rfl
    ·cases h
   ·cases h
  ·rename_i z tt kk p;split at h
   ·rename_i e l;split at h
    ·rename_i F;obtain⟨d,y⟩:=C3 h;simp only[b9,decide_eq_true_eq] at d;obtain⟨i,u,f,q⟩:=N1 F.1;refine⟨_,y,?_⟩;have S:=Q.inv_s;cases S with
     | nil=>simp at d;omega
     | emp=>simp at d;omega
     | sl t' p g off n' cap G T hn M Z ht A Y N P=>
      refine .mk0 (by simp[PV.nms]) (V:=.pointer (some ⟨g,off+n.toNat*kk+0,none⟩)) (.s _ _ (.sp p n.toNat 0 g off kk T A Y N P)) λw'=>?_
      rw[Cu (K5 l) u d.1 (by omega),M4,f,F.2];rfl
    ·cases h
   ·cases h
  ·rename_i b j off;split at h
   ·rename_i m e l;rcases DO Q with⟨g,v,U,G,p,D,A,rfl⟩|⟨g,cells,rfl,D,A,rfl⟩
    ·rw[D] at h;dsimp only at h;split at h
     ·rename_i F;obtain⟨rfl,rfl,B,rfl⟩:=F;obtain⟨d,y⟩:=C3 h;simp only[b9,decide_eq_true_eq] at d;obtain⟨i,u,f,q⟩:=N1 B;refine⟨_,y,.mk0 J (V:=.pointer (some ⟨g,n.toNat*(C.ti e).ks.length+0,none⟩)) (.ptrA b _ 0 g v U _ p.length (by simp[A5,D,Blk.shp]) A) λw'=>?_⟩;rw[Ct (Jb l) u d.1 d.2,M4,f];simp
     ·cases h
    ·rw[D] at h;dsimp only at h;split at h
     ·rename_i B;obtain⟨d,y⟩:=C3 h;simp only[b9,decide_eq_true_eq] at d;obtain⟨i,u,f,q⟩:=N1 B;refine⟨_,y,.mk0 J (V:=.pointer (some ⟨g,off+n.toNat*(C.ti e).ks.length,none⟩)) (.ptrB b _ g (by simp[A5,D,Blk.shp]) A) λw'=>?_⟩;rw[Ct (Jb l) u d.1 d.2,M4,f]
     ·cases h
   ·cases h
  ·rename_i p j off;split at h
   ·rename_i m e l;split at h
    ·rename_i B;obtain⟨d,y⟩:=C3 h;simp only[b9,decide_eq_true_eq] at d;obtain⟨i,u,f,q⟩:=N1 B;refine⟨_,y,?_⟩;have S:=Q.inv_s;cases S with
     | sp _ _ _ g o G T A Y N P=>
      refine .mk0 (by simp[PV.nms]) (V:=.pointer (some ⟨g,o+j*G+(off+n.toNat*(C.ti e).ks.length),none⟩)) (.s _ _ (.sp p j _ g o G T A Y N P)) λw'=>?_
      rw[Ct (Jb l) u d.1 d.2,M4,f];simp[ag2]
    ·cases h
   ·cases h
  ·cases h
 ·cases h
theorem QV.part{C:Cfg}{u o:Nat}{cells:List PV}{A:Array Value}(h:okP (C.ti u) cells o=true)(hA:A.size=cells.length)(hc:∀j (h:j<cells.length),∃U,A[j]? = some U/\VP L (A5 H) w (cells[j]) U)
  (hn:∀c∈C8 cells,c<H.length):QV C.P L H w (part u A o) (Yj (C.ti u) cells o):=by
 have hok:(C.ti u).ok=true:=by simp only[okP,b9] at h;exact h.1
 obtain⟨i,d,z,hi,hd,hz,hsz,hby,hpos,hks,hagg,hlen⟩:=Eu hok;have hlt:=Bd4 h;have hx:∀j (hj:j<(Fw (C.ti u) cells o).length),∃(h':o+j<cells.length) (hk:j<(C.ti u).ks.length),(Fw (C.ti u) cells o)[j]=(cells[o+j]).as ((C.ti u).ks[j]):=by
  intro j hj;have hj':j<(C.ti u).ks.length:=by rw[Ac] at hj;exact hj
  exact⟨hlt j hj',hj',by simp[Fw,b8 (hlt j hj')]⟩
 have hvp:∀j (hj:j<(Fw (C.ti u) cells o).length),∃U,A[o+j]? = some U/\VP L (A5 H) w ((Fw (C.ti u) cells o)[j]) U:=λj hj=>by
  obtain⟨h',hk,e⟩:=hx j hj;obtain⟨U,e1,k1⟩:=hc (o+j) h';have:=B11 h j hk;rw[Fa h'] at this;exact⟨U,e1,by rw[e];exact k1.as this⟩
 have hnm:∀c∈C8 (Fw (C.ti u) cells o),c<H.length:=λc hc'=>by
  obtain⟨j,hj,hm⟩:=C0.1 hc';obtain⟨h',hk,e⟩:=hx j hj;rw[e] at hm;exact hn c (C0.2 ⟨o+j,h',PV.as_nms c hm⟩)
 rw[Ao4];have hpos':0<(Fw (C.ti u) cells o).length:=by rw[Ac,<-hlen];exact hpos
 by_cases ha:Ig d=true
 ·rw[hagg,if_pos ha];refine .mk1 (by simpa[PV.nms] using hnm) (VP.mk_agg (A:=A.extract o (o+i.size)) ?_ λj hj=>?_) λw' hw=>Ai hd ha hi A o w'
  ·have:=hlt ((C.ti u).ks.length-1) (by omega);rw[Array.size_extract,Ac,hlen];omega
  ·obtain⟨U,e,k⟩:=hvp j hj;refine⟨U,?_,k⟩;rw[Array.getElem?_extract,if_pos]
   ·exact e
   ·have:=(ad1.1 e).1;rw[Ac,<-hlen] at hj;omega
 ·simp only[ah1] at ha;rw[hagg,ha];simp only[ac1,if_false];obtain⟨U,e,k⟩:=hvp 0 hpos';simp only[ab8] at e;split
  ·rw[Fa hpos'];exact .mk1 (λc hc'=>hnm c (C0.2 ⟨0,hpos',hc'⟩)) k λw' hw=>Gq hd ha e w'
  ·exact .mk1 (by simp[PV.nms]) (.bad U) λw' hw=>Gq hd ha e w'
theorem ZA{C:Cfg}{t f:Nat}{x:PV}{X:Value}{k:PV->Option R}(h:CT C t x f k=some r)(z:VP L (A5 H) w x X)(l:∀c∈x.nms,c<H.length) :
  ∃v,k v=some r/\QV C.P L H w (aj9 t X f) v:=by
 unfold CT at h;split at h
 ·rename_i B cells j;split at h
  ·rename_i o u d;obtain⟨m,n⟩:=C3 h;obtain⟨A,rfl,e,g⟩:=z.inv_agg;obtain⟨F,q,rfl⟩:=EA j;simp only[o0,w8] at d;obtain⟨fl,d,p⟩:=d;cases p;have:=QV.part (C:=C) m e g (by simpa[PV.nms] using l);refine⟨_,n,this.1,let⟨V,a,b⟩:=this.2;⟨V,a,λw' y=>?_⟩⟩;have i:F[f]? = some fl:=by simpa using d
   simp only[aj9,v8,run_underlying q,o6,i,asAgg,w9];exact b w' y
  ·cases h
 ·cases h
theorem Rb{P:Program}{t f:Nat}{F:Array Field}{fl:Field}{i:TypeInfo}{a:Addr}(e:P.underlying t=some (.struct F))(c:F[f]? = some fl)(d:P.info? fl.type=some i)(b:0<i.size)(w':World) :
  (ag0 t (.pointer (some a)) f).run P w' = .ok (.pointer (some (a.add fl.offset))) w':=by
 have:¬i.size=0:=by omega
 simp[ag0,run_underlying e,c,y8,fieldPlace,sizeOf,typeInfo,d,this]
theorem Lk{C:Cfg}{t f:Nat}{x:PV}{X:Value}{k:PV->Option R}(h:Dt C t x f k=some r)(I:VP L (A5 H) w x X)(n:∀c∈x.nms,c<H.length) :
  ∃v,k v=some r/\QV0 C.P L H w (ag0 t X f) v:=by
 unfold Dt at h;split at h
 ·rename_i P B;obtain⟨F,G,rfl⟩:=EA B;split at h
  ·rename_i o u b i off d;split at h
   ·rename_i l;simp only[o0,w8] at d;obtain⟨fl,d,A⟩:=d;cases A;have e:F[f]? = some fl:=by simpa using d
    obtain⟨ii,p,D,a⟩:=N1 l;refine⟨_,h,?_⟩;rcases DO I with⟨g,v,K,q,j,y,m,rfl⟩|⟨g,cells,rfl,y,m,rfl⟩
    ·refine .mk0 n (V:=.pointer (some ⟨g,i*q+(off+fl.offset),none⟩)) (.ptrA b _ _ g v K _ j.length (by simp[A5,y,Blk.shp]) m) λw'=>?_
     rw[Rb G e p a,M4,ag2]
    ·refine .mk0 n (V:=.pointer (some ⟨g,off+fl.offset,none⟩)) (.ptrB b _ g (by simp[A5,y,Blk.shp]) m) λw'=>?_
     rw[Rb G e p a,M4]
   ·cases h
  ·rename_i o u j i off d;split at h
   ·rename_i l;simp only[o0,w8] at d;obtain⟨fl,d,A⟩:=d;cases A;have e:F[f]? = some fl:=by simpa using d
    obtain⟨ii,p,D,a⟩:=N1 l;refine⟨_,h,?_⟩;have N:=I.inv_s;cases N with
    | sp _ _ _ g o q J m M z O=>
     refine .mk0 (by simp[PV.nms]) (V:=.pointer (some ⟨g,o+i*q+(off+fl.offset),none⟩)) (.s _ _ (.sp j i _ g o q J m M z O)) λw'=>?_
     rw[Rb G e p a,M4];simp[ag2]
   ·cases h
  ·cases h
 ·cases h
theorem ZK{C:Cfg}{t:Nat}{x i:PV}{X I:Value}{k:PV->Option R}(h:DB C t x i k=some r)(F:VP L (A5 H) w x X)(G:VP L (A5 H) w i I)(z:∀c∈x.nms,c<H.length) :
  ∃v,k v=some r/\QV C.P L H w (ak0 t X I) v:=by
 unfold DB at h;split at h
 ·rename_i J n;obtain rfl:=G.inv_int;split at h
  ·rename_i l;split at h
   ·rename_i f;obtain⟨s,rfl,rfl⟩:=F.inv_str;obtain⟨d,j⟩:=C3 h;simp only[b9,decide_eq_true_eq] at d;refine⟨_,j,.val rfl (.int _ _) λw' D=>?_⟩;have g:s.size=s.data.toList.length:=by rw[x4];rfl
    rw[run_index_string w' t s J n (Kt f),dif_pos ⟨d.1,by rw[g];exact d.2⟩]
    congr 2
    have u:n.toNat<s.data.toList.length:=by omega
    rw[Fa u];rfl
   ·cases h
  ·rename_i cells;split at h
   ·rename_i m e f;obtain⟨d,j⟩:=C3 h;simp only[b9,decide_eq_true_eq] at d;obtain⟨A,rfl,o,p⟩:=F.inv_agg;have y:(C.ti e).ok=true:=by have:=d.2;simp only[okP,b9] at this;exact this.1
    obtain⟨ii,q,g,B⟩:=N1 y;have:=QV.part (C:=C) d.2 o p (by simpa[PV.nms] using z);refine⟨_,j,this.1,let⟨V,a,b⟩:=this.2;⟨V,a,λw' D=>?_⟩⟩;have:=b w' D;simp only[ak0,asIntOf,v8,w9,run_underlying (Jb f),o6];rw[if_pos d.1];simp only[sizeOf,typeInfo,v8,run_program,q,o6,w9,g];exact this
   ·cases h
  ·cases h
 ·cases h
end
section
variable {Γ : Ctx} {H : List Blk} {w : World} {R : Type} {r : R}
def BV(d:Nat)(n:Nat):Option Value->Prop
 | none=>n=d
 | some v=>∃k,v = .int k n
theorem BV.none(d:Nat):BV d d none:=rfl
theorem Vw{P:Program}{isSlice:Bool}{len cap l h m:Nat}{f a mx:Option Value}(c:BV 0 l f)(b:BV len h a)(d:BV cap m mx)(e:mx.isSome=true->a.isSome=true)(g:l<=h)(i:h<=m)(j:m<=cap)(w':World) :
  (ag6 isSlice len cap f a mx).run P w' = .ok (l,h,m) w':=by
 cases f<;>cases a<;>cases mx<;>simp only[BV] at c b d<;>simp at e <;>
  (try (obtain⟨n,rfl⟩:=c))<;>(try (obtain⟨k,rfl⟩:=b))<;>(try (obtain⟨o,rfl⟩:=d))<;>(try subst c)<;>(try subst b)<;>(try subst d) <;>
  simp[ag6,run_sliceBound_if,Int.ofNat_le,g,i,j]
def OV(Γ:Ctx)(sh:Nat->Option Shp)(w:World)(p:Option PV)(V:Option Value):Prop:=
 match p,V with
 | none,none=>True
 | some p,some V=>VP Γ sh w p V
 | _,_=>False
theorem Gw{sh:Nat->Option Shp}{d:Nat}{p:Option PV}{V:Option Value}{n:Int}(a:BU d p=some n)(b:OV Γ sh w p V)(f:0<=n):BV d n.toNat V:=by
 unfold BU at a;split at a
 ·simp only[a8] at a;subst a;cases V with
  | none=>simp[BV]
  | some V=>exact b.elim
 ·simp only[a8] at a;subst a;cases V with
  | none=>exact b.elim
  | some V=>
   rename_i e g;have c:VP Γ sh w (.s (.int e g)) V:=b;obtain rfl:=c.inv_int;exact⟨e,by simp[af8 f]⟩
 ·cases a
theorem R1{P:Program}{t e:Nat}{i:TypeInfo}{a:Option Addr}{len cap l h m:Nat}{g b f:Option Value}(u:P.underlying t=some (.slice e))(c:P.info? e=some i)
  (p:BV 0 l g) (o:BV len h b) (q:BV cap m f) (d:f.isSome=true->b.isSome=true) (j:l<=h) (k:h<=m) (n:m<=cap) (w':World) :
  (ab1 t (.slice a len cap) g b f).run P w' = .ok (.slice (if m=l then a else a.map (·.add (l*i.size))) (h-l) (m-l)) w':=by
 simp only[ab1,ak1,v8,run_underlying u,o6,Vw p o q d j k n,sizeOf,typeInfo,run_program,c,w9]
theorem QG{P:Program}{t:Nat}{s:ByteArray}{l h:Nat}{b a:Option Value}(i:P.underlying t=some .string)
  (g:BV 0 l b) (f:BV s.size h a) (c:l<=h) (d:h<=s.size) (w':World) :
  (ab1 t (.string s) b a none).run P w' = .ok (.string (s.extract l h)) w':=by
 have e:=Vw (P:=P) (isSlice:=false) (mx:=none) (m:=s.size) (cap:=s.size) g f rfl (by simp) c d (j4 _) w';simp[ab1,ak1,run_underlying i,e]
theorem YZ(s:ByteArray)(a b:Nat):(s.extract a b).data.toList=(s.data.toList.take b).drop a:=by rw[Lib.extract_data,List.drop_take]
theorem OV.none{sh:Nat->Option Shp}{V:Option Value}(h:OV Γ sh w none V):V=none:=by
 cases V with
 | none=>rfl
 | some V=>exact h.elim
theorem OV.int{sh:Nat->Option Shp}{V:Option Value}{kd:IntKind}{n:Int}(h:OV Γ sh w (some (.s (.int kd n))) V):V=some (.int kd n):=by
 cases V with
 | none=>exact h.elim
 | some V=>
  have hv':VP Γ sh w (.s (.int kd n)) V:=h;rw[hv'.inv_int]
theorem OV.isSome{sh:Nat->Option Shp}{p:Option PV}{V:Option Value}(h:OV Γ sh w p V):V.isSome=p.isSome:=by cases p<;>cases V<;>first|rfl|exact h.elim
theorem LQ{c:Type}{l:List c}{a b:Nat}(h:a<=b)(e:b<=l.length):((l.take b).drop a).length=b-a/\∀i (f:i<((l.take b).drop a).length),∃d:a+i<l.length,((l.take b).drop a)[i]=l[a+i]:=by grind
theorem VS.slice{St:Nat->Prop}{z t:Bool}{kk:Nat}{els:List (List SV)}{A:Option Addr}{len cap:Nat}(hs:VS St w (.sl z t kk els) (.slice A len cap)){l h m:Nat}(h1:l<=h)(h2:h<=len)(hm1:h<=m)(hm2:m<=cap){t':Bool}(ht':t'=true->m=h\/cap=0){size:Nat}(hsz:size=kk\/z=true) :
  len=els.length/\VS St w (.sl z t' kk ((els.take h).drop l)) (.slice (if m=l then A else A.map (·.add (l*size))) (h-l) (m-l)):=by
 cases hs with
 | nil=>
  refine⟨rfl,?_⟩;have:h=0:=by omega
  have:m=0:=by omega
  subst h m;have:l=0:=by omega
  subst l;simpa using VS.nil t' kk
 | emp _ _ a _ ht hmx=>
  refine⟨rfl,?_⟩;have:h=0:=by omega
  subst h;have:l=0:=by omega
  subst l;have:=VS.emp (St:=St) (w:=w) t' kk (if m=0 then a else a.add (0*size)) m (λe=>by rcases ht' e with h|h<;>omega) (by omega);split at this
  ·rename_i e;simpa[e] using this
  ·rename_i e;simpa[e] using this
 | sl _ _ g off n _ _ Vs hn hcap hm ht hg hl hc hv=>
  refine⟨hn,?_⟩;obtain⟨e1,e2⟩:=LQ (l:=els) h1 (by omega);have hsz':size=kk:=by rcases hsz with h|h<;>first|exact h|cases h
  subst hsz';by_cases he:h=l
  ·subst he;have e3:(els.take h).drop h=[]:=by simp
   rw[e3,Nat.sub_self];by_cases hml:m=h
   ·rw[if_pos hml];exact .emp t' _ _ _ (λ_=>by omega) (by omega)
   ·rw[if_neg hml];exact .emp t' _ _ _ (λe=>by rcases ht' e with h|h<;>omega) (by omega)
  ·have hml:¬m=l:=by omega
   rw[if_neg hml];simp only[x5];rw[M4];refine .sl t' _ g (off+l*size) (h-l) (m-l) size (λi j=>Vs (l+i) j) (by omega) (by omega) (by omega) (λe=>by rcases ht' e with h|h<;>omega) hg (λi hi=>?_) (λi hi j hj=>?_) (λi hi j hj=>?_)
   ·obtain⟨h',e⟩:=e2 i hi;rw[e];exact hl _ h'
   ·obtain⟨h',e⟩:=e2 i hi;rw[show off+l*size+i*size+j=off+(l+i)*size+j by rw[k9];omega];exact hc _ h' j (by rw[<-e];exact hj)
   ·obtain⟨h',e⟩:=e2 i hi;simp only[e];exact hv _ h' j (by rw[<-e];exact hj)
theorem Sw(s:ByteArray):s.data.toList.length=s.size:=by rw[x4];rfl
theorem Zz{C:Cfg}{t:Nat}{x:PV}{X:Value}{lo u mx:Option PV}{LO HI MX:Option Value}{k:PV->Option R}(hH:HR Γ H w)(h:EB C t x lo u mx H k=some r)(Q:VP Γ (A5 H) w x X)(M:∀c∈x.nms,c<H.length)
  (Z:OV Γ (A5 H) w lo LO) (O:OV Γ (A5 H) w u HI) (a0:OV Γ (A5 H) w mx MX) (hm:mx.isSome=true->u.isSome=true):∃v,k v=some r/\QV0 C.P Γ H w (ab1 t X LO HI MX) v:=by
 unfold EB at h;split at h
 ·rename_i f;split at h
  ·cases h
  ·rename_i len j;split at h
   ·rename_i I N hl hh;split at h
    ·obtain⟨h1,G⟩:=C3 h;simp only[b9,decide_eq_true_eq] at h1;obtain rfl:=a0.none;have L:=Gw hl Z (by omega);have J:=Gw hh O (by omega);split at G
     ·rename_i s;simp only[Fl] at f;split at f
      ·rename_i p;obtain⟨s',rfl,rfl⟩:=Q.inv_str;simp only[Dy,a8] at j;subst j;rw[Sw] at J;refine⟨_,G,.mk0 (by simp[PV.nms]) (.str (s'.extract I.toNat N.toNat) (YZ _ _ _)) λw'=>?_⟩;rw[QG (Kt p) L J (by omega) (by rw[<-Sw];omega)]
      ·cases f
     ·rename_i z tt kk B;simp only[Fl] at f;split at f
      ·rename_i e p;simp only[b9,decide_eq_true_eq] at f;obtain⟨i,u,F,y⟩:=N1 f.1;simp only[Dy,a8] at j;subst j;have U:=Q.inv_s;have key:∃A cap,X = .slice A B.length cap/\B.length<=cap/\(z=true->cap=0):=by
        cases U with
        | nil=>exact⟨_,_,rfl,j4 _,λ_=>rfl⟩
        | emp=>exact⟨_,_,rfl,aa2 _,by simp⟩
        | sl _ _ g off n cap _ Vs hn q hm ht Y hl hc hv=>subst hn;exact⟨_,_,rfl,q,by simp⟩
       obtain⟨A,cap,rfl,q,hz⟩:=key;have:=VS.slice U (l:=I.toNat) (h:=N.toNat) (m:=cap) (by omega) (by omega) (by omega) (j4 _) (t':=z) (λe=>.inr (hz e)) (size:=i.size) (.inl (by omega));refine⟨_,G,.mk0 (by simp[PV.nms]) (.s _ _ this.2) λw'=>?_⟩;rw[R1 (K5 p) u L J (BV.none cap) (by simp) (by omega) (by omega) (j4 _)]
      ·cases f
     ·simp only[Fl] at f;split at f
      ·rename_i e p;obtain⟨i,u,F,y⟩:=N1 f;obtain rfl:=Q.inv_nsl;simp only[Dy,a8] at j;subst j;refine⟨_,G,.mk0 (by simp[PV.nms]) .nsl λw'=>?_⟩;rw[R1 (K5 p) u L J (m:=0) (cap:=0) (BV.none _) (by simp) (by omega) (by omega) (j4 _)];simp;omega
      ·cases f
     ·rename_i b;simp only[Fl] at f;split at f
      ·rename_i v e' sz B e T p;simp only[b9,decide_eq_true_eq] at f;obtain⟨i,u,F,y⟩:=N1 f.1;simp only[Dy,T,a8] at j;subst j;cases Q with
       | flv _ e2 S K=>
        obtain⟨_,_,_,h4⟩:=S8 T K;have P:I.toNat=0:=by omega
        have D:N.toNat=0:=by omega
        refine⟨_,G,.mk0 M (V:=.slice none 0 0) ?_ λw'=>?_⟩
        ·rw[P,D];exact .vwv b _ _ _ K
        ·rw[R1 (K5 p) u L (by rw[h4] at J;exact J) (m:=0) (cap:=0) (BV.none _) (by simp) (by omega) (by omega) (j4 _)];simp[D]
       | fl _ g v' e2 S n' cap K hv Y q hm U=>
        obtain⟨rfl,rfl,rfl,rfl⟩:=S8 T K;refine⟨_,G,.mk0 M (V:=.slice (some (if cap=I.toNat then ⟨g,0,none⟩ else (⟨g,0,none⟩:Addr).add (I.toNat*i.size))) (N.toNat-I.toNat) (cap-I.toNat)) ?_ λw'=>?_⟩
        ·refine .vw b _ _ g _ _ _ _ _ _ K hv Y (λa2=>?_) (by omega) (by omega) (by omega);rw[if_neg (by omega),M4,F,f.2,aa7]
        ·rw[R1 (K5 p) u L J (m:=cap) (BV.none _) (by simp) (by omega) (by omega) (j4 _)]
         congr 2
         split<;>simp
      ·cases f
     ·rename_i b o n;simp only[Fl] at f;split at f
      ·rename_i v e' sz B e T p;simp only[b9,decide_eq_true_eq] at f;obtain⟨i,u,F,y⟩:=N1 f.1;simp only[Dy,a8] at j;subst j;cases Q with
       | vwv _ e2 S _ K=>
        obtain⟨_,_,_,h4⟩:=S8 T K;have P:I.toNat=0:=by omega
        have D:N.toNat=0:=by omega
        refine⟨_,G,.mk0 M (V:=.slice none 0 0) ?_ λw'=>?_⟩
        ·rw[P,D];exact .vwv b _ _ _ K
        ·rw[R1 (K5 p) u L J (m:=0) (cap:=0) (BV.none _) (by simp) (by omega) (by omega) (j4 _)];simp[D]
       | vw _ _ _ g a cap v' e2 S m K hv Y ha a3 q hm=>
        obtain⟨rfl,rfl,rfl,rfl⟩:=S8 T K;refine⟨_,G,.mk0 M (V:=.slice (some (if cap=I.toNat then a else a.add (I.toNat*i.size))) (N.toNat-I.toNat) (cap-I.toNat)) ?_ λw'=>?_⟩
        ·refine .vw b _ _ g _ _ _ _ _ _ K hv Y (λa2=>?_) (by omega) (by omega) (by omega);rw[if_neg (by omega),ha (by omega),M4,F,f.2,k9]
        ·rw[R1 (K5 p) u L J (m:=cap) (BV.none _) (by simp) (by omega) (by omega) (j4 _)]
         congr 2
         split<;>simp
      ·cases f
     ·cases G
    ·rename_i kd m;obtain⟨h1,G⟩:=C3 h;simp only[b9,decide_eq_true_eq] at h1;obtain rfl:=a0.int;have W:HI.isSome=true:=by rw[O.isSome];exact hm rfl
     have L:=Gw hl Z (by omega);have J:=Gw hh O (by omega);have bm:∀d,BV d m.toNat (some (.int kd m)):=λd=>⟨kd,by rw[af8 (by omega)]⟩
     split at G
     ·rename_i z tt kk B;simp only[Fl] at f;split at f
      ·rename_i e p;simp only[b9,decide_eq_true_eq] at f;obtain⟨i,u,F,y⟩:=N1 f.1;simp only[Dy,a8] at j;subst j;have U:=Q.inv_s;have key:∃A cap,X = .slice A B.length cap/\B.length<=cap:=by
        cases U with
        | nil=>exact⟨_,_,rfl,j4 _⟩
        | emp=>exact⟨_,_,rfl,aa2 _⟩
        | sl _ _ g off n cap _ Vs hn q hm ht Y hl hc hv=>subst hn;exact⟨_,_,rfl,q⟩
       obtain⟨A,cap,rfl,q⟩:=key;have:=VS.slice U (l:=I.toNat) (h:=N.toNat) (m:=m.toNat) (by omega) (by omega) (by omega) (by omega) (t':=true) (λe=>.inl (by omega)) (size:=i.size) (.inl (by omega));refine⟨_,G,.mk0 (by simp[PV.nms]) (.s _ _ this.2) λw'=>?_⟩;rw[R1 (K5 p) u L J (bm _) (λ_=>W) (by omega) (by omega) (by omega)]
      ·cases f
     ·simp only[Fl] at f;split at f
      ·rename_i e p;obtain⟨i,u,F,y⟩:=N1 f;obtain rfl:=Q.inv_nsl;simp only[Dy,a8] at j;subst j;refine⟨_,G,.mk0 (by simp[PV.nms]) .nsl λw'=>?_⟩;rw[R1 (K5 p) u L J (bm _) (λ_=>W) (by omega) (by omega) (by omega)];have D:N.toNat=0:=by omega
       have a1:m.toNat=0:=by omega
       simp[D,a1]
      ·cases f
     ·cases G
    ·cases h
   ·cases h
 ·cases h
theorem Ph{C:Cfg}{t e b n:Nat}{v:Bool}{D z:Nat}{c:List (List SV)}{X:Value}{J f K:Option PV}{A HI B:Option Value}{k:PV->Option R}(hH:HR Γ H w)(h:Hm b n J f K k=some r)
  (x:C.sh t = .array n e) (u:(C.ti e).ok=true) (o:(C.ti e).ks.length=z) (d:H[b]? = some (.arr v D z c)) (hn:c.length=n) (T:n≠0) (W:n<=maxLen) (Y:VP Γ (A5 H) w (.ptr b 0 0) X)
  (p:OV Γ (A5 H) w J A) (l:OV Γ (A5 H) w f HI) (q:OV Γ (A5 H) w K B):∃v,k v=some r/\QV0 C.P Γ H w (ab1 t X A HI B) v:=by
 unfold Hm at h;split at h
 ·rename_i j N S Q;obtain⟨O,P⟩:=C3 h;simp only[b9,decide_eq_true_eq] at O;obtain rfl:=q.none;have M:=Gw S p (by omega);have L:=Gw Q l (by omega);obtain⟨i,f,y,I⟩:=N1 u;rcases DO Y with⟨g,v',e2,Z,F,a,G,rfl⟩|⟨g,cells,_,a,G,rfl⟩
  ·rw[d] at a;simp only[a8,Blk.arr.injEq] at a;obtain⟨rfl,rfl,rfl,rfl⟩:=a;refine⟨_,P,.mk0 (by simp[PV.nms];exact(j2.1 d).1) (V:=.slice (some (if n=j.toNat then ⟨g,0,none⟩ else (⟨g,0,none⟩:Addr).add (j.toNat*i.size))) (N.toNat-j.toNat) (n-j.toNat)) ?_ λw'=>?_⟩
   ·refine .vw b _ _ g _ _ v D z c.length (by simp[A5,d,Blk.shp]) (λ_=>by omega) G (λU=>?_) (by omega) (by omega) (by omega);rw[if_neg (by omega),M4,y,o,aa7]
   ·simp only[ab1,v8,run_underlying (Jb x),o6,y8,w9];rw[Vw M L (m:=n) (BV.none _) (by simp) (by omega) (by omega) (j4 _)];simp[sizeOf,typeInfo,f]
  ·rw[d] at a;cases a
 ·cases h
end
def CR(a:Ctx)(sh:Nat->Option Shp)(w:World)(l:List PV)(A:Array Value):Prop:=A.size=l.length/\∀j (h:j<l.length),∃U,A[j]? = some U/\VP a sh w (l[j]) U
section
variable {Γ : Ctx} {sh : Nat -> Option Shp} {H : List Blk} {w : World} {R : Type} {r : R}
theorem CR.one{v:PV}{V:Value}(h:VP Γ sh w v V):CR Γ sh w [v] #[V]:=by refine⟨rfl,λj hj=>?_⟩;grind
theorem B58{V:Value}(h:V.oneCell'=true):V.cells = #[V]:=by cases V<;>first|rfl|simp[Value.oneCell'] at h
theorem VS.oneCell{St:Nat->Prop}{v:SV}{V:Value}(h:VS St w v V):V.oneCell'=true:=by cases h<;>rfl
theorem VP.oneCell{v:PV}{V:Value}(h:VP Γ sh w v V)(h1:v.one=true):V.oneCell'=true:=by
 cases h with
 | s v V h=>exact h.oneCell
 | yd=>exact Γ.yv1
 | agg=>simp[PV.one] at h1
 | tup=>simp[PV.one] at h1
 | bad=>simp[PV.one] at h1
 | _=>rfl
theorem VP.cells{v:PV}{V:Value}(h:VP Γ sh w v V)(hb:v.cells≠[])(ht:∀l,v≠.tup l):CR Γ sh w v.cells V.cells:=by
 by_cases ha:∃l,v = .agg l
 ·obtain⟨l,rfl⟩:=ha;obtain⟨A,rfl,hA,hc⟩:=h.inv_agg;exact⟨hA,hc⟩
 ·have h1:v.one=true:=by
   cases v<;>simp_all [PV.cells,PV.one]
  have hv:v.cells=[v]:=by cases v<;>simp_all [PV.cells,PV.one]
  rw[hv,B58 (h.oneCell h1)];exact CR.one h
theorem VP.cells'{v:PV}{V:Value}(h:VP Γ sh w v V)(hb:v.cells≠[]):CR Γ sh w v.cells V.cells:=by
 by_cases ht:∃l,v = .tup l
 ·obtain⟨l,rfl⟩:=ht;obtain⟨A,rfl,hA,hc⟩:=h.inv_tup;exact CR.one h
 ·exact h.cells hb (λl e=>ht ⟨l,e⟩)
theorem PV.cells_nms{v:PV}:∀c∈C8 v.cells,c∈v.nms:=by intro c;cases v<;>simp[PV.cells,C8,PV.nms]
theorem Ag3{c:CK}{V:Value}(h:Bu1 c V=true):VP Γ sh w (Bp c) V:=by
 unfold Bu1 at h;split at h
 ·rename_i b;cases b<;>simp at h;exact .bool _
 ·simp only[b9,decide_eq_true_eq] at h;obtain⟨rfl,rfl⟩:=h;exact .int _ _
 ·exact .str _ (by simpa using h)
 ·exact .nsl
 ·exact .s _ _ .nilp
 ·exact .s _ _ .nilm
 ·exact .s _ _ .nilf
 ·cases h
theorem Ts:∀{a:List CK} {l:List Value},Da a l=true->∀j (h:j<a.length),∃U,l[j]? = some U/\VP Γ sh w (Bp a[j]) U
 | [],[],_=>λj h=>by simp at h
 | c::r,v::q,h=>by
  simp only[Da,b9] at h;intro j b;cases j with
  | zero=>exact⟨v,rfl,by simpa using Ag3 h.1⟩
  | succ j=>
   obtain⟨U,e,k⟩:=Ts h.2 j (by simpa using b);exact⟨U,by simpa using e,by simpa using k⟩
 | [],_::_,h=>by simp[Da] at h
 | _::_,[],h=>by simp[Da] at h
theorem Ov{C:Cfg}{t:Nat}(h:(C.ti t).ok=true):∃i z,C.P.info? t=some i/\i.zero=some z/\i.size=(C.ti t).ks.length/\CR Γ sh w ((C.ti t).ks.map Bp) z.cells:=by obtain⟨i,d,z,m,p,o,c,l,g,b,f,a⟩:=Eu h;refine⟨i,z,m,o,a,by rw[j9,<-a,c],λj n=>?_⟩;obtain⟨U,e,k⟩:=Ts b j (by simpa using n);exact⟨U,by simpa using e,by simpa using k⟩
theorem D8{b:Type}:∀(a:List b) (l:List b) (off:Nat),(G4 l off a).length=l.length
 | [],l,off=>by simp[G4]
 | v::a,l,off=>by simp[G4,D8 a]
theorem O5{b:Type}:∀(a:List b) (l:List b) (off:Nat),off+a.length<=l.length->∀j,(G4 l off a)[j]? = if off<=j/\j<off+a.length then a[j-off]? else l[j]?
 | [],l,off,_,j=>by simp[G4];intro c d;omega
 | v::a,l,off,h,j=>by
  simp only[List.length_cons] at h;rw[G4,O5 a _ _ (by simp;omega)];grind
theorem RW:∀(a:List Value) (k:Nat) (off:Nat) (A:Array Value),(((a.zipIdx k).foldl (λb (c,j)=>b.setIfInBounds (off+j) c) A).toList=G4 A.toList (off+k) a)
 | [],k,off,A=>by simp[G4]
 | v::a,k,off,A=>by
  rw[List.zipIdx_cons,aa0,RW a (k+1) off,G4];grind
theorem CR.put{l x:List PV}{A X:Array Value}{off:Nat}(h:CR Γ sh w l A)(hx:CR Γ sh w x X)(hl:off+x.length<=l.length) :
  CR Γ sh w (G4 l off x) (X.zipIdx.foldl (λcs (c,j)=>cs.setIfInBounds (off+j) c) A):=by
 have e:(X.zipIdx.foldl (λcs (c,j)=>cs.setIfInBounds (off+j) c) A).toList=G4 A.toList off X.toList:=by
  have:=RW X.toList 0 off A;rw[ab8] at this;rw[<-this,<-Array.foldl_toList,Array.toList_zipIdx]
 have hAl:A.toList.length=l.length:=by simpa using h.1
 have hXl:X.toList.length=x.length:=by simpa using hx.1
 refine⟨?_,λj hj=>?_⟩
 ·rw[<-x4,e,D8,D8,hAl]
 ·rw[D8] at hj;have g1:(X.zipIdx.foldl (λcs (c,j)=>cs.setIfInBounds (off+j) c) A)[j]? = (G4 A.toList off X.toList)[j]?:=by rw[<-e,Array.getElem?_toList]
  rw[g1,O5 _ _ _ (by omega)];have g2:=O5 x l off hl j;have hj':j<(G4 l off x).length:=by rw[D8];exact hj
  rw[b8 hj'] at g2;by_cases hc:off<=j/\j<off+x.length
  ·rw[if_pos (by omega)];rw[if_pos hc] at g2;obtain⟨U,e1,k1⟩:=hx.2 (j-off) (by omega);refine⟨U,by simpa using e1,?_⟩;rw[b8 (by omega)] at g2;simp only[a8] at g2;rw[g2];exact k1
  ·rw[if_neg (by omega)];rw[if_neg hc] at g2;obtain⟨U,e1,k1⟩:=h.2 j hj;refine⟨U,by simpa using e1,?_⟩;rw[b8 hj] at g2;simp only[a8] at g2;rw[g2];exact k1
def PR(Γ:Ctx)(sh:Nat->Option Shp)(w:World):List (Nat × PV)->List (Nat × Value)->Prop
 | [],[]=>True
 | (i,v)::r,(a,V)::q=>i=a/\VP Γ sh w v V/\PR Γ sh w r q
 | _,_=>False
theorem Vn:∀(b l:List PV) (off:Nat),∀c∈C8 (G4 l off b),c∈C8 l\/c∈C8 b
 | [],l,off,c,h=>.inl (by simpa[G4] using h)
 | v::b,l,off,c,h=>by
  rw[G4] at h;rcases Vn b _ _ c h with h|h
  ·obtain⟨j,d,a⟩:=C0.1 h;rw[x6] at a;split at a
   ·exact .inr (by simp only[C8,o5];exact .inl a)
   ·exact .inl (C0.2 ⟨j,by simpa using d,a⟩)
  ·exact .inr (by simp only[C8,o5];exact .inr h)
theorem Ib{place:Nat->Option (Nat × Nat)}{place':Nat->Option (Nat × Nat)}(k:∀i off size,place i=some (off,size)->0<size->place' i=some (off,size)) :
  ∀{parts:List (Nat × PV)} {n:List (Nat × Value)} {cells out:List PV} {A:Array Value},Jq place cells parts=some out->CR Γ sh w cells A->PR Γ sh w parts n->
   ∃B,ae3 place' A n=some B/\CR Γ sh w out B/\∀c∈C8 out,c∈C8 cells\/∃p∈parts,c∈p.2.nms
 | [],[],cells,out,A,h,b,_=>by
  simp only[Jq,a8] at h;subst h;exact⟨A,rfl,b,λc b=>.inl b⟩
 | (i,v)::r,(z,V)::q,cells,out,A,h,b,d=>by
  obtain⟨rfl,y,d⟩:=d;simp only[Jq] at h;split at h
  ·rename_i off size l;split at h
   ·rename_i a;simp only[b9,decide_eq_true_eq] at a;obtain⟨⟨m,o⟩,t⟩:=a;have j:v.cells≠[]:=by intro e;rw[e] at m;simp at m;omega
    have f:=y.cells' j;obtain⟨B,e,u,x⟩:=Ib k h (b.put f t) d;refine⟨B,?_,u,λc g=>?_⟩
    ·simp only[ae3,k i off size l o];rw[if_neg,e];simp only[aa9,decide_eq_true_eq,not_or];rw[f.1,b.1];omega
    ·rcases x c g with h|⟨p,k,b⟩
     ·rcases Vn _ _ _ c h with h|h
      ·grind
      ·exact .inr ⟨(i,v),by simp,PV.cells_nms c h⟩
     grind
   ·cases h
  ·cases h
 | [],_::_,_,_,_,_,_,d=>d.elim
 | _::_,[],_,_,_,_,_,d=>by simp[PR] at d
theorem AM(a:List CK):C8 (a.map Bp)=[]:=by
 induction a with
 | nil=>rfl
 | cons c r b=>cases c<;>simp[C8,Bp,PV.nms,b]
theorem GM{P:Program}{t:Nat}{d:TypeDesc}(h:P.underlying t=some d):∃i,P.info? t=some i:=by unfold Program.underlying at h;grind
theorem SM{P:Program}{d t:Nat}{b:List CK}(h:PI P d t=some b):∃i,P.info? t=some i:=by
 cases d with
 | zero=>simp[PI] at h
 | succ d=>
  unfold PI at h;cases a:P.underlying t with
  | none=>simp[a] at h
  | some x=>exact GM a
theorem Ao0{P:Program}{d:Nat}:∀{e:List Field} {off:Nat} {g:List CK},ksF (PI P d) e off=some g->∀f∈e,∃i,P.info? f.type=some i
 | [],_,_,_,f,c=>by simp at c
 | x::r,off,g,h,f,c=>by
  simp only[ksF] at h;split at h
  ·split at h
   ·rename_i a j;split at h
    ·rename_i b k;rcases ac0.1 c with rfl|c
     ·exact SM j
     ·exact Ao0 k f c
    grind
   ·cases h
  ·cases h
theorem ST{a b:Type}{f:a->Option b}{g:a->b}:∀(l:List a),(∀x∈l,f x=some (g x))->l.mapM f=some (l.map g)
 | [],_=>rfl
 | x::r,h=>by
  rw[List.mapM_cons,h x (by simp),ST r (λy c=>h y (by simp[c]))];rfl
theorem Ay7{C:Cfg}{t:Nat}(h:0<Cj2 C t):∃i,C.P.info? t=some i/\i.size=Cj2 C t:=by
 unfold Cj2 at h ⊢;split at h
 ·rename_i a;obtain⟨i,b,c,_⟩:=N1 a;grind
 ·omega
theorem Dx9{C:Cfg}{t:Nat}(h:(C.ti t).ok=true):PI C.P 20 t=some (C.ti t).ks:=by simp only[Cfg.ti,Dp9] at h ⊢;grind
theorem XR{C:Cfg}{t:Nat}{parts:List (Nat × PV)}{ps:Array (Nat × Value)}{k:PV->Option R}(h:BX C t parts k=some r)(u:PR Γ (A5 H) w parts ps.toList)(N:∀p∈parts,∀c∈p.2.nms,c<H.length) :
  ∃v,k v=some r/\QV C.P Γ H w (Instr.build t ps) v:=by
 unfold BX at h;split at h
 ·rename_i o;obtain⟨i,z,a,O,S,y⟩:=Ov (Γ:=Γ) (sh:=A5 H) (w:=w) o;split at h
  ·rename_i U q;obtain⟨F,D,rfl⟩:=EA q;dsimp only at h;split at h
   ·rename_i out l;have m:∀f∈F.toList,∃i,C.P.info? f.type=some i:=by
     have:=Dx9 o;unfold PI at this;rw[D] at this;exact Ao0 this
    let g:Field->Nat × Nat:=λf=>(f.offset,((C.P.info? f.type).map (·.size)).getD 0)
    have Q:F.toList.mapM (λf=>(C.P.info? f.type).map λi=>(f.offset,i.size))=some (F.toList.map g):=ST _ λf l=>by
     obtain⟨i,a⟩:=m f l;simp[g,a]
    obtain⟨B,I,x,J⟩:=Ib (place':=λj=>((F.toList.map g).toArray)[j]?) (λj off size A K=>by
     simp only[o0,af3,w8] at A;obtain⟨f,l,M⟩:=A;simp only[ai8,ad8] at M;obtain⟨rfl,rfl⟩:=M;obtain⟨i,a,L⟩:=Ay7 K;simp only[ab2,o0,l,x5,g,a,ah7,L]) l y u
    refine⟨_,h,.mk1 (λc d=>?_) (VP.mk_agg x.1 x.2) λw' T=>run_build w' t ps B ?_⟩
    ·rcases J c (by simpa[PV.nms] using d) with h|⟨p,u,d⟩
     ·rw[AM] at h;simp at h
     ·exact N p u c d
    ·simp only[aj2,a,D,O,Q];exact I
   ·cases h
  ·rename_i n e q;dsimp only at h;split at h
   ·rename_i out l;have D:=Jb q;have b:∃G,C.P.info? e=some G:=by
     have:=Dx9 o;unfold PI at this;rw[D] at this;dsimp only at this;split at this
     ·rename_i P;exact SM P
     ·cases this
    obtain⟨G,b⟩:=b;obtain⟨B,I,x,J⟩:=Ib (place':=λj=>some (j*G.size,G.size)) (λj off size A K=>by
     simp only[a8,ad8] at A;obtain⟨rfl,rfl⟩:=A;obtain⟨i,a,L⟩:=Ay7 K;rw[b] at a;simp only[a8] at a;subst a;rw[L]) l y u
    refine⟨_,h,.mk1 (λc d=>?_) (VP.mk_agg x.1 x.2) λw' T=>run_build w' t ps B ?_⟩
    ·rcases J c (by simpa[PV.nms] using d) with h|⟨p,u,d⟩
     ·rw[AM] at h;simp at h
     ·exact N p u c d
    ·simp only[aj2,a,D,O,b];exact I
   ·cases h
  ·cases h
 ·cases h
theorem Ak0{C:Cfg}{f d:Nat}{x:PV}{X:Value}{k:PV->Option R}(hH:HR Γ H w)(h:RK C f d x H k=some r)(J:VP Γ (A5 H) w x X) :
  ∃v,k v=some r/\QV C.P Γ H w (convert f d X) v:=by
 unfold RK at h;split at h
 ·rename_i k1 kd Q n t u;obtain rfl:=J.inv_int;refine⟨_,h,.val rfl (.int _ _) λw' I=>?_⟩;have Y:=OI u;have hk:C.P.intKind d=kd:=by simp[Program.intKind,Y]
  have:=run_convert_int (P:=C.P) (w:=w') f d Q n (by rw[OI t];rfl) (by rw[hk];exact Y);rw[hk] at this;exact this
 ·rename_i l t u;obtain⟨s,rfl,rfl⟩:=J.inv_str;refine⟨_,h,.val rfl (.str s rfl) λw' I=>?_⟩;simp[convert,run_underlying (Kt t),run_underlying (Kt u)]
 ·rename_i k1 Q n t u;obtain rfl:=J.inv_int;refine⟨_,h,.val rfl (.str (ak7 n) rfl) λw' I=>?_⟩;exact run_convert_int_string w' f d Q n (by rw[OI t];rfl) (Kt u)
 ·rename_i v e t u;split at h
  ·rename_i c D y;obtain⟨h3,h4⟩:=C3 h;obtain⟨a,cap,rfl,W,hm,A,q⟩:=(Zy (C:=C) hH J y).ex;have B:∀w':World,(convert f d (.slice a c.length cap)).run C.P w'=(Conv.bytesToString (.slice a c.length cap)).run C.P w':=
    λw'=>run_convert_bytes_string w' f d e a _ cap (K5 t) (OI D) (Kt u)
   have O:∀i (Z:i<c.length),∃n:Int,c[i]=[.int .u8 n]:=λi Z=>by
    have:=p6.1 h3 (c[i]) (j8 Z);unfold Pk at this;grind
   let p:List Int:=c.map λel=>(el.getD 0 .nilp).gI
   have F:(p.foldl (λr n=>r.push (ad5 n.toNat)) ai1).data.toList=c.map Nb:=by
    have key:∀(l:List Int) (b:ByteArray),(l.foldl (λr n=>r.push (ad5 n.toNat)) b).data.toList=b.data.toList++l.map λn=>ad5 n.toNat:=by
     intro l
     induction l with
     | nil=>intro b;simp
     | cons n l ih=>intro b;rw[aa0,ih];simp[ByteArray.push]
    rw[key];simp only[p,aj4];rfl
   refine⟨_,h4,.val rfl (.str (p.foldl (λr n=>r.push (ad5 n.toNat)) ai1) F) λw' I=>?_⟩;rw[B w'];cases a with
   | none=>
    have a0:=A rfl;have:c=[]:=o7.1 (by omega);subst this;rfl
   | some a=>
    have z:p.length=c.length:=by simp[p]
    rw[<-z];refine run_bytesToString w' a p.length cap p ?_;have:=run_loadCells_list (P:=C.P) w' a (p.map (aj3 .u8)) (λj v K=>?_)
    ·simpa using this
    ·have m:j<c.length:=by
      have:=(j2.1 K).1;simpa[p] using this
     have L:c≠[]:=by rintro rfl;simp at m
     obtain⟨g,o,sz,V,N,hc⟩:=q L;simp only[a8] at V;subst V;obtain⟨n,G⟩:=O j m;have M:sz=1:=by rw[<-N j m,G];rfl
     subst M;obtain⟨U,S,T⟩:=hc j m 0 (by rw[G];simp);simp only[G,w6] at T;have:=T.inv_int;subst this;rw[Nat.mul_one,ab8] at S;rw[M4];refine(LK I S).trans ?_;have:v = .int .u8 n:=by
      simp only[p,aj4,o0,b8 m,x5,ai8,G,a8] at K;exact K.symm
     rw[this]
  ·cases h
 ·cases h
end
def Kn(C:Cfg):Option Shp->Prop
 | some (.arr _ e _ _)=>Nc C e=true
 | some _=>True
 | none=>False
structure Stp (C:Cfg) (Γ:Ctx) (H:List Blk) (w:World) (Φ:Nat->Prop) (Γ':Ctx) (H':List Blk) (w':World) (Φ':Nat->Prop):Prop where
 os:w'.os=w.os
 tape:w'.tape=w.tape
 output:w'.output=w.output
 size:w.heap.size<=w'.heap.size
 sub:∀g,Γ.St g->Γ'.St g
 stnew:∀g,Γ'.St g->Γ.St g\/w.heap.size<=g
 own:∀b g,Γ'.nm b=some g->(b<H.length/\Γ.nm b=some g)\/w.heap.size<=g
 foot:∀g,Φ' g->Φ g\/w.heap.size<=g
 frame:∀g,g<w.heap.size->(∀b,Γ.nm b≠some g)->¬ Φ g->w'.heap[g]? = w.heap[g]?
 yv:Γ'.yv=Γ.yv
 len:H.length<=H'.length
 keep:∀b,b<H.length->Kn C (A5 H b)->Γ'.nm b=Γ.nm b/\A5 H' b=A5 H b/\∀g,Γ.nm b=some g->w'.shape? g=w.shape? g
theorem Stp.refl{C:Cfg}{Γ:Ctx}{H:List Blk}{w:World}{Φ:Nat->Prop}(hH:HR Γ H w):Stp C Γ H w Φ Γ H w Φ where
 os:=rfl
 tape:=rfl
 output:=rfl
 size:=j4 _
 sub:=λ_ h=>h
 stnew:=λ_ h=>.inl h
 own:=λb g h=>.inl ⟨(hH.lt b g h).1,h⟩
 foot:=λ_ h=>.inl h
 frame:=λ_ _ _ _=>rfl
 yv:=rfl
 len:=j4 _
 keep:=λ_ _ _=>⟨rfl,rfl,λ_ _=>rfl⟩
theorem Stp.trans{C:Cfg}{Γ Γ' Γ'':Ctx}{H H' H'':List Blk}{w w' w'':World}{Φ Φ' Φ'':Nat->Prop}(h:Stp C Γ H w Φ Γ' H' w' Φ')(k:Stp C Γ' H' w' Φ' Γ'' H'' w'' Φ''):Stp C Γ H w Φ Γ'' H'' w'' Φ'' where
 os:=k.os.trans h.os
 tape:=k.tape.trans h.tape
 output:=k.output.trans h.output
 size:=ad0 h.size k.size
 sub:=λg hg=>k.sub g (h.sub g hg)
 stnew:=λg hg=>by
  rcases k.stnew g hg with hg|hg
  ·exact h.stnew g hg
  ·exact .inr (ad0 h.size hg)
 own:=λb g hg=>by
  rcases k.own b g hg with⟨_,hg⟩|hg
  ·exact h.own b g hg
  ·exact .inr (ad0 h.size hg)
 foot:=λg hg=>by
  rcases k.foot g hg with hg|hg
  ·exact h.foot g hg
  ·exact .inr (ad0 h.size hg)
 frame:=λg hg hn hp=>by
  rw[k.frame g (aa6 hg h.size) (λb hb=>by rcases h.own b g hb with⟨_,e⟩|e;exact hn b e;omega) (λhp'=>by rcases h.foot g hp' with e|e;exact hp e;omega),h.frame g hg hn hp]
 yv:=k.yv.trans h.yv
 len:=ad0 h.len k.len
 keep:=λb hb hf=>by
  obtain⟨e1,e2,e3⟩:=h.keep b hb hf;obtain⟨f1,f2,f3⟩:=k.keep b (aa6 hb h.len) (by rw[e2];exact hf);grind
structure HI {σ:Type} (I:σ->(Nat->Prop)->(Nat->Prop)->World->Prop):Prop where
 foot:∀s St Φ w,I s St Φ w->∀g,Φ g->g<w.heap.size/\¬St g
 mono:∀s St Φ w St' w',I s St Φ w->(∀g,St g->St' g)->(∀g,St' g->¬ Φ g)->(∀g,St' g->g<w'.heap.size)->(∀g,St g\/Φ g->w'.heap[g]? = w.heap[g]?)->w.heap.size<=w'.heap.size->
  w'.os=w.os->w'.tape=w.tape->w'.output=w.output->I s St' Φ w'
structure SI {σ:Type} (C:Cfg) (I:σ->(Nat->Prop)->(Nat->Prop)->World->Prop) (Γ:Ctx) (Φ:Nat->Prop) (st:St σ) (tmps:Array Value) (w:World):Prop where
 hr:HR Γ st.hp w
 sr:SR Γ st.hp w st.sl tmps
 g:GOK C Γ.St w
 inv:I st.s Γ.St Φ w
 dis:∀b g,Γ.nm b=some g->¬ Φ g
def Ctx.upd(Γ:Ctx)(b g:Nat):Ctx:={ Γ with nm:=λc=>if c=b then some g else Γ.nm c }
section
variable {L : Ctx} {H : List Blk} {w w' : World} {R : Type} {r : R} {C : Cfg}
theorem Q0{b:Nat}{T:List Blk}(h:b<H.length):A5 (H++T) b=A5 H b:=by simp[A5,o8 h]
theorem K3{x:Blk}:A5 (H++[x]) H.length=some x.shp:=by simp[A5]
theorem TU{b c:Nat}{x:Blk}(h:b<H.length):A5 (H.set b x) c=if c=b then some x.shp else A5 H c:=by simp only[A5,ag7];grind
theorem Blk.kill_shp(b:Nat)(x:Blk):(x.kill b).shp=x.shp:=by cases x<;>rfl
theorem OK(b c:Nat):A5 (H.map (Blk.kill b)) c=A5 H c:=by
 simp only[A5,o0,af3]
 congr 1
 funext x
 exact Blk.kill_shp b x
theorem I8{o:Obj}(a:w'.heap=w.heap.push o){g:Nat}(h:g<w.heap.size):w'.heap[g]? = w.heap[g]?:=by grind
theorem I7{o:Obj}(a:w'.heap=w.heap.push o):w'.heap[w.heap.size]? = some o:=by grind
theorem F5{g:Nat}(h:w'.heap[g]? = w.heap[g]?):w'.shape? g=w.shape? g:=by simp[aa8,h]
theorem Mo{x:Blk}{o:Obj}(d:HR L H w)(e:w'.heap=w.heap.push o):Ax L (A5 H) w (L.upd H.length w.heap.size) (A5 (H++[x])) w' (· < H.length) where
 st:=λg c=>I8 e (d.stlt g c)
 sub:=λ_ h=>h
 nm:=λb a=>by simp only[Ctx.upd];rw[if_neg (by omega)]
 shp:=λb a=>Q0 a
 hs:=λb g a c=>F5 (I8 e (d.lt b g c).2.1)
 yv:=rfl
theorem Cq2{x:Blk}{o:Obj}(d:HR L H w)(m:w'.heap=w.heap.push o)(u:BR (L.upd H.length w.heap.size) (A5 (H++[x])) w' H.length x)(p:∀c∈x.nms,c<H.length+1) :
  HR (L.upd H.length w.heap.size) (H++[x]) w':=by
 have M:=Mo (x:=x) d m;have t:w'.heap.size=w.heap.size+1:=by rw[m];simp
 refine⟨λb n g i j=>?_,λb g h=>?_,λg l=>?_,λb k c f=>?_,λb k=>?_⟩
 ·simp only[Ctx.upd] at i j;split at i<;>split at j
  ·omega
  ·simp only[a8] at i;have:=(d.lt n g j).2.1;omega
  ·simp only[a8] at j;have:=(d.lt b g i).2.1;omega
  ·exact d.inj b n g i j
 ·simp only[Ctx.upd] at h;split at h
  ·simp only[a8] at h;subst h;refine⟨by simp;omega,by omega,λq=>?_⟩;have:=d.stlt _ q;omega
  ·have:=d.lt b g h;exact⟨by simp;omega,by omega,this.2.2⟩
 ·have:=d.stlt g l;omega
 ·rw[j6,y9];rw[j6,y9] at k;by_cases e:b=H.length
  ·subst e;simp at f;exact p c f
  ·have a:b<H.length:=by omega
   rw[p4 a] at f;have:=d.nms b a c f;omega
 ·rw[j6,y9] at k;by_cases e:b=H.length
  ·subst e;simpa using u
  ·have a:b<H.length:=by omega
   rw[p4 a];exact(d.blk b a).mono M (M.nm b a) (λg l=>I8 m (d.lt b g l).2.1) (λc f=>d.nms b a c f)
theorem B54{x:Blk}{o:Obj}{f:Nat->Prop}(e:HR L H w)(d:w'.heap=w.heap.push o)(i:w'.os=w.os)(j:w'.tape=w.tape)(k:w'.output=w.output) :
  Stp C L H w f (L.upd H.length w.heap.size) (H++[x]) w' f where
 os:=i
 tape:=j
 output:=k
 size:=by rw[d];simp
 sub:=λ_ h=>h
 stnew:=λ_ h=>.inl h
 own:=λb g h=>by
  simp only[Ctx.upd] at h;split at h
  ·grind
  ·exact .inl ⟨(e.lt b g h).1,h⟩
 foot:=λ_ h=>.inl h
 frame:=λg c _ _=>I8 d c
 yv:=rfl
 len:=by simp
 keep:=λb a l=>by
  have M:=Mo (x:=x) e d;exact⟨M.nm b a,M.shp b a,λg c=>M.hs b g a c⟩
theorem Yq(x:Blk)(c:HR L H w):Ax L (A5 H) w L (A5 (H++[x])) w (· < H.length) where
 st:=λ_ _=>rfl
 sub:=λ_ h=>h
 nm:=λ_ _=>rfl
 shp:=λb a=>Q0 a
 hs:=λ_ _ _ _=>rfl
 yv:=rfl
theorem Bd0{x:Blk}(f:HR L H w)(l:x.nms=[])(j:BR L (A5 (H++[x])) w H.length x):HR L (H++[x]) w:=by
 have M:=Yq x f;refine⟨f.inj,λb g h=>?_,f.stlt,λb j c i=>?_,λb d=>?_⟩
 ·have:=f.lt b g h;grind
 ·rw[j6,y9] at j ⊢;by_cases e:b=H.length
  ·grind
  ·have d:b<H.length:=by omega
   rw[p4 d] at i;have:=f.nms b d c i;omega
 ·rw[j6,y9] at d;by_cases e:b=H.length
  ·grind
  ·have a:b<H.length:=by omega
   rw[p4 a];exact(f.blk b a).mono M rfl (λg k=>rfl) (λc i=>f.nms b a c i)
theorem ZU{x:Blk}{a:Nat->Prop}(c:HR L H w):Stp C L H w a L (H++[x]) w a where
 os:=rfl
 tape:=rfl
 output:=rfl
 size:=j4 _
 sub:=λ_ h=>h
 stnew:=λ_ h=>.inl h
 own:=λb g h=>.inl ⟨(c.lt b g h).1,h⟩
 foot:=λ_ h=>.inl h
 frame:=λ_ _ _ _=>rfl
 yv:=rfl
 len:=by simp
 keep:=λb d e=>⟨rfl,Q0 d,λ_ _=>rfl⟩
theorem GOK.mono{St St':Nat->Prop}(h:GOK C St w)(hs:∀g,St g->w'.heap[g]? = w.heap[g]?)(hsub:∀g,St g->St' g):GOK C St' w':=
 ⟨λg k zs hg=>by
  obtain⟨h1,e,x,h2⟩:=h.1 g k zs hg;exact⟨hsub g h1,e,x,by rw[hs g h1];exact h2⟩,λg hg=>by
  obtain⟨h1,m,h2⟩:=h.2 g hg;exact⟨hsub g h1,m,by rw[<-h2];simp[ac6,hs g h1]⟩⟩
theorem Stp.st{Φ Φ':Nat->Prop}{Γ':Ctx}{H':List Blk}(h:Stp C L H w Φ Γ' H' w' Φ')(hH:HR L H w)(hΦ:∀g,Φ g->¬L.St g)(g:Nat)(hg:L.St g):w'.heap[g]? = w.heap[g]?:=
 h.frame g (hH.stlt g hg) (λb hb=>(hH.lt b g hb).2.2 hg) (λhp=>hΦ g hp hg)
theorem SI.step{σ:Type}{I:σ->(Nat->Prop)->(Nat->Prop)->World->Prop}(hI:HI I){Φ:Nat->Prop}{st:St σ}{tmps:Array Value}{Γ':Ctx}{H':List Blk}(S:SI C I L Φ st tmps w)(h:Stp C L st.hp w Φ Γ' H' w' Φ)
  (hΦ:∀g,Φ g->w'.heap[g]? = w.heap[g]?) (hr:HR Γ' H' w') {sl':List PV} {tmps':Array Value} (sr:SR Γ' H' w' sl' tmps') :
  SI C I Γ' Φ { sl:=sl',hp:=H',s:=st.s } tmps' w':=by
 have hf:=hI.foot _ _ _ _ S.inv;have hst:=h.st S.hr (λg hg=>(hf g hg).2);refine⟨hr,sr,S.g.mono hst h.sub,hI.mono _ _ _ _ _ _ S.inv h.sub (λg hg hp=>?_) hr.stlt (λg hg=>?_) h.size h.os h.tape h.output,λb g hb hp=>?_⟩
 ·rcases h.stnew g hg with hg|hg
  ·exact(hf g hp).2 hg
  ·have:=(hf g hp).1;omega
 ·rcases hg with hg|hg
  ·exact hst g hg
  ·exact hΦ g hg
 ·rcases h.own b g hb with⟨_,e⟩|e
  ·exact S.dis b g e hp
  ·have:=(hf g hp).1;omega
theorem SR.put{sl:List PV}{tmps:Array Value}(h:SR L H w sl tmps)(o:Oper){v:PV}{V:Value}(hv:VP L (A5 H) w v V)(hn:∀c∈v.nms,c<H.length){ds:List Deferred} :
  SR L H w (Cg o.dst v sl) (({ tmps:=tmps,defers:=ds }:Act).put o.dst V).tmps:=by
 cases hd:o.dst with
 | none=>exact h
 | some d=>
  simp only[Cg,Act.put];refine⟨by simp[h.size],λc hc=>?_,λi hi=>?_⟩
  ·obtain⟨j,hj,hc⟩:=C0.1 hc;rw[x6] at hc;split at hc
   ·exact hn c hc
   ·exact h.nms c (C0.2 ⟨j,by simpa using hj,hc⟩)
  ·have hi':i<sl.length:=by simpa using hi
   rw[x6];by_cases e:d=i
   ·subst e;rw[if_pos rfl];exact⟨V,by rw[y7,if_pos rfl,if_pos (by rw[h.size];exact hi')],hv⟩
   ·rw[if_neg e];obtain⟨U,e1,e2⟩:=h.slot i hi';exact⟨U,by rw[y7,if_neg e];exact e1,e2⟩
end
section
variable {Γ : Ctx} {H : List Blk} {w : World} {R : Type} {r : R} {C : Cfg}
abbrev noΦ:Nat->Prop:=λ_=>False
def WV(C:Cfg)(Γ:Ctx)(H:List Blk)(w:World)(sl:List PV)(a:Array Value)(m:Sem Value)(v:PV)(b:List PV)(H':List Blk):Prop:=
 ∃V w' Γ',m.run C.P w = .ok V w'/\Stp C Γ H w noΦ Γ' H' w' noΦ/\HR Γ' H' w'/\(SR Γ H w sl a->SR Γ' H' w' b a)/\VP Γ' (A5 H') w' v V/\∀c∈v.nms,c<H'.length
theorem SR.grow{Γ':Ctx}{T:List Blk}{w':World}{sl:List PV}{tmps:Array Value}(M:Ax Γ (A5 H) w Γ' (A5 (H++T)) w' (· < H.length))(h:SR Γ H w sl tmps):SR Γ' (H++T) w' sl tmps:=
 h.mono M λc hc=>⟨h.nms c hc,by rw[j6];have:=h.nms c hc;omega⟩
theorem CR.mono{Γ':Ctx}{H':List Blk}{w':World}{ok:Nat->Prop}{l:List PV}{A:Array Value}(M:Ax Γ (A5 H) w Γ' (A5 H') w' ok)(h:CR Γ (A5 H) w l A)(hn:∀c∈C8 l,ok c):CR Γ' (A5 H') w' l A:=
 ⟨h.1,λj hj=>by
  obtain⟨U,e,k⟩:=h.2 j hj;exact⟨U,e,k.mono M λc hc=>hn c (C0.2 ⟨j,hj,hc⟩)⟩⟩
theorem Lb{m:Sem Value}{x:Blk}{o:Obj}{w':World}{V:Value}{v:PV}{sl:List PV}{a:Array Value}(b:HR Γ H w)(h:m.run C.P w = .ok V w')(d:w'.heap=w.heap.push o)(e:w'.os=w.os)(f:w'.tape=w.tape)(g:w'.output=w.output)
  (k:BR (Γ.upd H.length w.heap.size) (A5 (H++[x])) w' H.length x) (i:∀c∈x.nms,c<H.length+1) (j:VP (Γ.upd H.length w.heap.size) (A5 (H++[x])) w' v V) (hvn:∀c∈v.nms,c<H.length+1) :
  WV C Γ H w sl a m v sl (H++[x]):=
 ⟨V,w',_,h,B54 b d e f g,Cq2 b d k i,SR.grow (Mo b d),j,by simpa using hvn⟩
theorem Ax.trans{Γ1 Γ2 Γ3:Ctx}{s1 s2 s3:Nat->Option Shp}{w1 w2 w3:World}{ok ok':Nat->Prop}(M:Ax Γ1 s1 w1 Γ2 s2 w2 ok)(N:Ax Γ2 s2 w2 Γ3 s3 w3 ok')(hok:∀b,ok b->ok' b):Ax Γ1 s1 w1 Γ3 s3 w3 ok where
 st:=λg hg=>(N.st g (M.sub g hg)).trans (M.st g hg)
 sub:=λg hg=>N.sub g (M.sub g hg)
 nm:=λb hb=>(N.nm b (hok b hb)).trans (M.nm b hb)
 shp:=λb hb=>(N.shp b (hok b hb)).trans (M.shp b hb)
 hs:=λb g hb hg=>(N.hs b g (hok b hb) ((M.nm b hb).trans hg)).trans (M.hs b g hb hg)
 yv:=N.yv.trans M.yv
theorem Ax.refl{Γ:Ctx}{s:Nat->Option Shp}{w:World}{ok:Nat->Prop}:Ax Γ s w Γ s w ok:=
 ⟨λ_ _=>rfl,λ_ h=>h,λ_ _=>rfl,λ_ _=>rfl,λ_ _ _ _=>rfl,rfl⟩
theorem Z4(f:Nat->Nat × Nat):∀(cells:List PV) (i:Nat) (H:List Blk) (a:List Value),HR Γ H w->cells.length=a.length->(∀j (h:j<cells.length),∃U,a[j]? = some U/\VP Γ (A5 H) w (cells[j]) U)->(∀c∈C8 cells,c<H.length)->
  ∃T,(H7 f cells i H).2=H++T/\HR Γ (H++T) w/\Stp C Γ H w noΦ Γ (H++T) w noΦ/\Ax Γ (A5 H) w Γ (A5 (H++T)) w (· < H.length)/\(H7 f cells i H).1.length=a.length/\
   (∀j (h:j<(H7 f cells i H).1.length),∃U,a[j]? = some U/\VP Γ (A5 (H++T)) w ((H7 f cells i H).1[j]) U)/\∀c∈C8 (H7 f cells i H).1,c<(H++T).length
 | [],i,H,a,g,q,_,_=>⟨[],by simp[H7],by simpa using g,by simpa using Stp.refl g,by simpa using Ax.refl,by simpa[H7] using q,by simp[H7],by simp[H7,C8]⟩
 | v::cells,i,H,[],g,q,_,_=>by simp at q
 | v::cells,i,H,A::a,g,q,d,I=>by
  have J:VP Γ (A5 H) w v A:=by
   obtain⟨U,e,k⟩:=d 0 (by simp);grind
  have t:cells.length=a.length:=by simpa using q
  have p:∀j (h:j<cells.length),∃U,a[j]? = some U/\VP Γ (A5 H) w (cells[j]) U:=λj o=>by
   obtain⟨U,e,k⟩:=d (j+1) (by simpa using o);grind
  have D:∀c∈v.nms,c<H.length:=λc h=>I c (by simp only[C8,o5];exact .inl h)
  have m:∀c∈C8 cells,c<H.length:=λc h=>I c (by simp only[C8,o5];exact .inr h)
  by_cases l:v = .nsl
  ·subst l;have B:HR Γ (H++[.arr true (f i).1 (f i).2 []]) w:=Bd0 g rfl (.inl ⟨rfl,rfl⟩);have F:=Yq (.arr true (f i).1 (f i).2 []) g;obtain⟨T,u,x,y,n,z,K,G⟩:=Z4 f cells (i+1) (H++[.arr true (f i).1 (f i).2 []]) a B t (λj o=>by
    obtain⟨U,e,k⟩:=p j o;exact⟨U,e,k.mono F λc d=>m c (C0.2 ⟨j,o,d⟩)⟩) (λc d=>by have:=m c d;simp;omega)
   have key:H7 f (.nsl::cells) i H=(.fl H.length::(H7 f cells (i+1) (H++[.arr true (f i).1 (f i).2 []])).1,(H7 f cells (i+1) (H++[.arr true (f i).1 (f i).2 []])).2):=rfl;rw[key];rw[ab4] at u x y n G;have L:=n;refine⟨[.arr true (f i).1 (f i).2 []]++T,u,x,(ZU g).trans y,F.trans n (λb M=>by simp;omega),by simpa using z,λj o=>?_,λc d=>?_⟩
   ·cases j with
    | zero=>
     refine⟨A,rfl,?_⟩;rw[J.inv_nsl];refine .flv _ (f i).1 (f i).2 ?_;rw[<-ab4,Q0 (by simp),K3];rfl
    | succ j=>
     grind
   ·simp only[C8,o5,PV.nms,List.mem_singleton] at d;grind
  ·have key:H7 f (v::cells) i H=(v::(H7 f cells (i+1) H).1,(H7 f cells (i+1) H).2):=by
    cases v<;>first|rfl|exact absurd rfl l
   rw[key];obtain⟨T,u,x,y,n,z,K,G⟩:=Z4 f cells (i+1) H a g t p m;refine⟨T,u,x,y,n,by simpa using z,λj o=>?_,λc d=>?_⟩
   ·cases j with
    | zero=>exact⟨A,rfl,J.mono n D⟩
    | succ j=>
     grind
   ·simp only[C8,o5] at d;grind
theorem Ab(a:Nat):∀(n:Nat) (l:List SV),(U5 a n l).length=n
 | 0,_=>rfl
 | n+1,l=>by simp[U5,Ab a n]
theorem Gx(a:Nat):∀(n:Nat) (l:List SV),l.length=n*a->∀i (h:i<(U5 a n l).length),(U5 a n l)[i].length=a/\∀j (c:j<(U5 a n l)[i].length),∃d:i*a+j<l.length,(U5 a n l)[i][j]=l[i*a+j]
 | 0,_,_,i,h=>by simp[U5] at h
 | n+1,l,hl,i,h=>by
  have k:a<=l.length:=by rw[hl,k9];omega
  cases i with
  | zero=>
   refine⟨by simp[U5];omega,λj b=>?_⟩;simp[U5] at b;exact⟨by omega,by simp[U5]⟩
  | succ i=>
   have c:i<(U5 a n (l.drop a)).length:=by simpa[U5] using h
   obtain⟨f,g⟩:=Gx a n (l.drop a) (by rw[ah4,hl,k9];omega) i c;refine⟨by simpa[U5] using f,λj b=>?_⟩;obtain⟨d,e⟩:=g j (by simpa[U5] using b);rw[ah4] at d;refine⟨by rw[k9];omega,?_⟩;have m:(U5 a (n+1) l)[i+1][j]=(U5 a n (l.drop a))[i][j]'(by simpa[U5] using b):=rfl;grind
theorem Ce{sh:Nat->Option Shp}:∀{l:List PV} {a:List SV} {As:List Value},Td l=some a->l.length=As.length->(∀j (h:j<l.length),∃U,As[j]? = some U/\VP Γ sh w (l[j]) U)->
  a.length=As.length/\∀j (h:j<a.length),∃U,As[j]? = some U/\VS Γ.St w (a[j]) U
 | [],a,As,h,c,_=>by
  simp only[Td,a8] at h;grind
 | v::l,a,[],h,c,_=>by simp at c
 | v::l,a,A::As,h,c,d=>by
  simp only[Td] at h;split at h
  ·rename_i x y b i;simp only[a8] at h;subst h;obtain⟨g,m⟩:=Ce (As:=As) i (by simpa using c) (λj f=>by
    obtain⟨U,e,k⟩:=d (j+1) (by simpa using f);exact⟨U,by simpa using e,by simpa using k⟩)
   refine⟨by simp[g],λj f=>?_⟩;cases j with
   | zero=>
    obtain⟨U,e,k⟩:=d 0 (by simp);refine⟨U,e,?_⟩;simp only[w6] at k ⊢;unfold PV.sv? at b;split at b
    ·simp only[a8] at b;subst b;exact k.inv_s
    ·simp only[a8] at b;subst b;rw[k.inv_nsl];exact .nil _ _
    grind
   | succ j=>
    grind
  ·cases h
theorem BR.row{sh:Nat->Option Shp}{w':World}{b g e sz n:Nat}{z:Bool}{vs:List SV}{A:Array Value}{rest:Array Value}{Γ':Ctx}(hg:Γ'.nm b=some g)(hh:w'.heap[g]? = some (.cells (A++rest) e (0,0)))(hz:z=true->n≠0)
  (hl:vs.length=n*sz) (hA:vs.length=A.size) (hc:∀j (h:j<vs.length),∃U,A[j]? = some U/\VS Γ'.St w' (vs[j]) U):BR Γ' sh w' b (.arr z e sz (U5 sz n vs)):=by
 refine .inr ⟨λh=>?_,g,_,hg,hh,?_,λi hi=>(Gx sz n vs hl i hi).1,λi hi j hj=>?_⟩
 ·have:=congrArg af2 h.2;rw[Ab] at this;exact hz h.1 this
 ·rw[Ab,ag5];omega
 ·obtain⟨h2,e⟩:=(Gx sz n vs hl i hi).2 j hj;obtain⟨U,e1,k⟩:=hc _ h2;refine⟨U,?_,by rw[e];exact k⟩;rw[ab5 (by omega)];exact e1
theorem KR{e:Nat}{V:Value}{cells:List PV}{k:PV->List Blk->Option R}{sl:List PV}{tmps:Array Value}{m:Sem Value}(o:HR Γ H w)(h:GJ C e cells H k=some r)(b:CR Γ (A5 H) w cells V.cells)(L:∀c∈C8 cells,c<H.length)
  (u:m.run C.P w = .ok (.pointer (some ⟨w.heap.size,0,none⟩)) (w.alloc (.cells V.cells e))) :
  ∃v H',k v H'=some r/\WV C Γ H w sl tmps m v sl H':=by
 unfold GJ at h;split at h
 ·rename_i N;split at h
  ·rename_i n t O;split at h
   ·rename_i Z p;split at h
    ·rename_i f;refine⟨_,_,h,?_⟩;obtain⟨i,l⟩:=Ce (As:=V.cells.toList) p (by simpa using b.1.symm) (λj d=>by
      obtain⟨U,e,k⟩:=b.2 j d;exact⟨U,by simpa using e,k⟩)
     have a:(w.alloc (.cells V.cells e)).heap=w.heap.push (.cells V.cells e):=rfl;refine Lb o u a rfl rfl rfl (BR.row (g:=w.heap.size) (A:=V.cells) (rest:=#[]) (by simp[Ctx.upd]) (by rw[I7 a];simp) (by simp) ?_ (by simpa using i) (λj d=>?_)) (by simp[Blk.nms]) ?_ (by simp[PV.nms])
     ·rw[i,x4,b.1,f]
     ·obtain⟨U,e,k⟩:=l j d;exact⟨U,by simpa using e,k.mono (λg K=>I8 a (o.stlt g K)) (λ_ h=>h)⟩
     ·have:=VP.ptrA (Γ:=Γ.upd H.length w.heap.size) (w:=w.alloc (.cells V.cells e)) (sh:=A5 (H++[Blk.arr false e (C.ti t).ks.length (U5 (C.ti t).ks.length n Z)])) H.length 0 0 w.heap.size _ _ _ _ K3 (by simp[Ctx.upd]);simpa using this
    ·cases h
   ·cases h
  ·refine⟨_,_,h,?_⟩;obtain⟨T,i,l,z,B,D,F,q⟩:=Z4 (C:=C) (C.nilT e) cells 0 H V.cells.toList o (by simpa using b.1.symm) (λj d=>by
    obtain⟨U,e,k⟩:=b.2 j d;exact⟨U,by simpa using e,k⟩) L
   rw[i];have a:(w.alloc (.cells V.cells e)).heap=w.heap.push (.cells V.cells e):=rfl;have M:=Mo (x:=.box (H7 (C.nilT e) cells 0 H).1) l a;have key:WV C Γ (H++T) w sl tmps m (.ptr (H++T).length 0 0) sl ((H++T)++[.box (H7 (C.nilT e) cells 0 H).1]):=by
    refine Lb l u a rfl rfl rfl ⟨w.heap.size,V.cells,e,by simp[Ctx.upd],by rw[I7 a],by simpa using D.symm,λj d=>?_⟩ (λc b=>?_) ?_ (by simp[PV.nms])
    ·obtain⟨U,G,I⟩:=F j d;exact⟨U,by simpa using G,I.mono M λc b=>q c (C0.2 ⟨j,d,b⟩)⟩
    ·have:=q c b;omega
    ·exact .ptrB _ 0 w.heap.size K3 (by simp[Ctx.upd])
   obtain⟨y,w',Γ',P,Q,S,W,X,Y⟩:=key;exact⟨y,w',Γ',P,z.trans Q,S,λJ=>W (SR.grow B J),X,Y⟩
 ·cases h
end
section
variable {Y : Ctx} {H : List Blk} {w : World} {R : Type} {r : R} {C : Cfg}
theorem Am0{b:Type}(l:List b):∀(n j:Nat),j<n*l.length->((o9 n l).flatten)[j]? = l[j % l.length]?
 | 0,j,h=>by simp at h
 | n+1,j,h=>by
  rw[List.replicate_succ,ad4];by_cases a:j<l.length
  ·rw[o8 a,ah5 a]
  ·rw[p9 (by omega),Am0 l n (j-l.length) (by rw[k9] at h;omega),<-Nat.mod_eq_sub_mod (by omega)]
theorem Jr{a:Type}(l:List a)(n:Nat):((o9 n l).flatten).length=n*l.length:=by simp
theorem Ao7{z:Array Value}{n j:Nat}{U:Value}(b:j<n)(a:0<z.size)(h:z[j % z.size]? = some U):(madeCells z n)[j]? = some U:=by
 have c:j % z.size<z.size:=ai5 _ a;have:z[j % z.size]! = U:=by grind
 simp[madeCells,b,this]
theorem B05{sh:Nat->Option Shp}{a:List PV}{z:Array Value}(h:CR Y sh w a z)(c:0<a.length)(n:Nat):CR Y sh w ((o9 n a).flatten) (madeCells z (n*a.length)):=by refine⟨by rw[size_madeCells,Jr],λj b=>?_⟩;rw[Jr] at b;have d:j % a.length<a.length:=ai5 _ c;obtain⟨U,e,k⟩:=h.2 _ d;refine⟨U,Ao7 b (by rw[h.1];exact c) (by rw[h.1];exact e),?_⟩;have:=Am0 a n j b;grind
theorem Iw{P:Program}(w:World){t e:Nat}(len:Nat)(parts:Array (Nat × Value))(cells:Array Value){a:TypeInfo}{z:Value}
  (g:P.underlying t=some (.slice e)) (c:P.info? e=some a) (k:a.zero=some z) (d:len*a.size<=16777216)
  (h:ae3 (λi=>some (i*a.size,a.size)) (madeCells z.cells (len*a.size)) parts.toList=some cells) :
  (ab6 t len parts).run P w = .ok (.slice (some ⟨w.heap.size,0,none⟩) len len) (w.alloc (.cells cells e)):=by
 have j:¬len*a.size > 2 ^ 24:=by omega
 by_cases b:len*a.size=0
 ·rw[b] at h;have f:ae3 (λi=>some (i*a.size,a.size)) #[] parts.toList=some cells:=by simpa[madeCells,ag4] using h
  simp[ab6,run_underlying g,sizeOf,typeInfo,c,b,f,newRow,ag4]
 ·have f:ae3 (λi=>some (i*a.size,a.size)) ((Array.range (len*a.size)).map (z.cells[· % z.cells.size]!)) parts.toList=some cells:=h;simp[ab6,run_underlying g,sizeOf,typeInfo,zeroValue,c,k,j,b,f,newRow]
theorem Jn{t len:Nat}{parts:List (Nat × PV)}{ps:Array (Nat × Value)}{k:PV->List Blk->Option R}{sl:List PV}{tmps:Array Value}(G:HR Y H w)(h:Br C t len parts H k=some r)(S:PR Y (A5 H) w parts ps.toList) :
  ∃v H',k v H'=some r/\WV C Y H w sl tmps (ab6 t len ps) v sl H'/\∃V o,(ab6 t len ps).run C.P w = .ok V (w.alloc o):=by
 unfold Br at h;split at h
 ·rename_i e x;dsimp only at h;split at h
  ·rename_i a;simp only[b9,decide_eq_true_eq] at a;obtain⟨⟨a,b⟩,K⟩:=a;split at h
   ·rename_i out J;split at h
    ·rename_i vs y;refine⟨_,_,h,?_⟩;obtain⟨i,z,Q,T,f,q⟩:=Ov (Γ:=Y) (sh:=A5 H) (w:=w) a;obtain⟨_,_,_,L⟩:=N1 a;have u:0<(C.ti e).ks.length:=by rename_i h1 h2;omega
     have I:=B05 q (by simpa using u) len;rw[j9] at I;obtain⟨B,D,n,X⟩:=Ib (place':=λj=>some (j*i.size,i.size)) (λj off size m Z=>by rw[f];exact m) J I S;obtain⟨F,N⟩:=Ce (As:=B.toList) y (by simpa using n.1.symm) (λj m=>by
      obtain⟨U,e,k⟩:=n.2 j m;exact⟨U,by simpa using e,k⟩)
     have M:=Iw (P:=C.P) w len ps B (K5 x) Q T (by rw[f];exact b) (by rw[f] at D ⊢;exact D);refine⟨?_,_,_,M⟩;have c:(w.alloc (.cells B e)).heap=w.heap.push (.cells B e):=rfl;have l:B.size=len*(C.ti e).ks.length:=by
      have d:∀{place:Nat->Option (Nat × Nat)} {ps:List (Nat × PV)} {cells out:List PV},Jq place cells ps=some out->out.length=cells.length:=by
       intro place ps
       induction ps with
       | nil=>intro cells out h;simp only[Jq,a8] at h;rw[h]
       | cons p ps W=>
        intro cells out h;obtain⟨i,v⟩:=p;simp only[Jq] at h;split at h
        ·split at h
         ·rw[W h,D8]
         grind
        grind
      rw[n.1,d J,Jr,j9]
     refine Lb G M c rfl rfl rfl (BR.row (g:=w.heap.size) (A:=B) (rest:=#[]) (by simp[Ctx.upd]) (by rw[I7 c];simp) (by simp) ?_ (by simpa using F) (λj m=>?_)) (by simp[Blk.nms]) ?_ (by simp[PV.nms])
     ·rw[F,x4,l]
     ·obtain⟨U,e,k⟩:=N j m;exact⟨U,by simpa using e,k.mono (λg O=>I8 c (G.stlt g O)) (λ_ h=>h)⟩
     ·refine .fl H.length w.heap.size false e (C.ti e).ks.length len len ?_ (by simp) (by simp[Ctx.upd]) (j4 _) (by simp only[maxLen];omega) ?_
      ·rw[K3];simp[Blk.shp,Ab]
      ·simp only[aa8,I7 c,l]
    ·cases h
   ·cases h
  ·cases h
 ·cases h
theorem DL{t:Nat}{l c:PV}{L N:Value}{k:PV->List Blk->Option R}{sl:List PV}{tmps:Array Value}(I:HR Y H w)(h:Ea C t l c H k=some r)(hl:VP Y (A5 H) w l L)(hc:VP Y (A5 H) w c N) :
  ∃v H',k v H'=some r/\WV C Y H w sl tmps (Instr.makeSlice t L N) v sl H':=by
 unfold Ea at h;split at h
 ·rename_i e k1 n k2 m B;obtain rfl:=hl.inv_int;obtain rfl:=hc.inv_int;split at h
  ·rename_i y;split at h
   ·rename_i z' D;obtain⟨G,V⟩:=C3 h;simp only[b9,decide_eq_true_eq,G2] at G;obtain⟨⟨W,X⟩,h5⟩:=G;refine⟨_,_,V,?_⟩;obtain⟨i,d,z,M,hd,Q,p,a0,O,a1,K,f⟩:=Eu y;obtain⟨i',z2,q,u,a2,x⟩:=Ov (Γ:=Y) (sh:=A5 H) (w:=w) y;rw[M] at q;simp only[a8] at q;subst q;rw[Q] at u;simp only[a8] at u;subst u;have A:(i.bytes:Int)*m<=281474976710656:=by
     have Z:m<=68719476736:=by omega
     have h7:(i.bytes:Int)<=512:=by omega
     have h8:(i.bytes:Int)*m<=512*68719476736:=Int.mul_le_mul h7 Z (by omega) (by omega);omega
    have hr:=run_make (P:=C.P) w t e i z (K5 B) M Q k1 k2 n m W X A (by omega);obtain⟨S,T⟩:=Ce (As:=z.cells.toList) D (by simpa using x.1.symm) (λj hj=>by
     obtain⟨U,e,k⟩:=x.2 j hj;exact⟨U,by simpa using e,k⟩)
    have F:z'.length=i.size:=by rw[S,x4,p]
    have o:(w.alloc (.cells (madeCells z.cells (m.toNat*i.size)) e)).heap=w.heap.push (.cells (madeCells z.cells (m.toNat*i.size)) e):=rfl;refine Lb I hr o rfl rfl rfl (.inr ⟨by simp,w.heap.size,_,by simp[Ctx.upd],I7 o,?_,λa J=>?_,λa J b A=>?_⟩) (by simp[Blk.nms]) ?_ (by simp[PV.nms])
    ·rw[af1,size_madeCells,<-f];exact j5 _ (by omega)
    ·rw[ae5,F,f]
    ·rw[af1] at J;simp only[ae5] at A ⊢;obtain⟨U,e,k⟩:=T b A;refine⟨U,Ao7 ?_ (by omega) ?_,k.mono (λg hg=>I8 o (I.stlt g hg)) (λ_ h=>h)⟩
     ·have:(a+1)*i.size<=m.toNat*i.size:=j5 _ (by omega);rw[k9] at this;rw[<-f];omega
     ·rw[<-f,<-p,Nat.add_comm,Nat.add_mul_mod_self_right,ah5 (by omega)];simpa using e
    ·refine .fl H.length w.heap.size false e (C.ti e).ks.length n.toNat m.toNat ?_ (by simp) (by simp[Ctx.upd]) (by omega) (by simp only[maxLen];omega) ?_
     ·rw[K3];simp[Blk.shp]
     ·simp only[aa8,I7 o,size_madeCells];rw[f]
   ·cases h
  ·cases h
 ·cases h
theorem Cz8{t:Nat}{s:ByteArray}{sl:List PV}{tmps:Array Value}(b:HR Y H w)(c:C.P.underlying t=some .string) :
  WV C Y H w sl tmps (Instr.range t (.string s)) (.it H.length) sl (H++[.iter s.data.toList 0]):=by
 have a:(w.iter s 0).heap=w.heap.push (.stringIter s 0):=rfl;refine Lb b (run_range_string w t s c) a rfl rfl rfl ⟨w.heap.size,s,by simp[Ctx.upd],I7 a,rfl⟩ (by simp[Blk.nms]) ?_ (by simp[PV.nms]);exact .it _ _ (by rw[K3];rfl) (by simp[Ctx.upd])
theorem FQ{P:Program}{g pos ty:Nat}{s:ByteArray}(a:w.heap[g]? = some (.stringIter s pos)) :
  (ae4 (.pointer (some ⟨g,0,none⟩)) true ty).run P w=if pos<s.size then .ok (.tuple #[.bool true,.int .i64 pos,.int .i32 (ad6 s pos).1]) { w with heap:=w.heap.setIfInBounds g (.stringIter s (pos+(ad6 s pos).2)) }
   else .ok (.tuple #[.bool false]) w:=by
 by_cases h:pos<s.size
 ·simp[ae4,getObj,setObj,Sem.run,a,h,goInt,af4]
 ·simp[ae4,getObj,Sem.run,a,h,af4]
theorem Jj{b g:Nat}{x y:Blk}{w':World}(l:HR Y H w)(i:H[b]? = some x)(m:Y.nm b=some g)(f:y.shp=x.shp)(a:∀k,k≠g->w'.heap[k]? = w.heap[k]?)(n:w'.shape? g=w.shape? g) :
  Ax Y (A5 H) w Y (A5 (H.set b y)) w' (λ_=>True):=by
 have d:=(j2.1 i).1;refine⟨λk j=>a k (λe=>(l.lt b g m).2.2 (e▸j)),λ_ h=>h,λ_ _=>rfl,λc _=>?_,λc k _ j=>?_,rfl⟩
 ·rw[TU d];split
  ·rename_i e;subst e;simp[A5,i,f]
  ·rfl
 ·by_cases e:k=g
  ·subst e;exact n
  ·exact F5 (a k e)
theorem A00{b g:Nat}{x y:Blk}{w':World}(f:HR Y H w)(n:H[b]? = some x)(o:Y.nm b=some g)(l:y.shp=x.shp)(a:∀k,k≠g->w'.heap[k]? = w.heap[k]?)(u:w'.shape? g=w.shape? g)(m:w.heap.size<=w'.heap.size)
  (v:BR Y (A5 (H.set b y)) w' b y) (t:∀c∈y.nms,c<H.length):HR Y (H.set b y) w':=by
 have M:=Jj f n o l a u;have q:=(j2.1 n).1;refine⟨f.inj,λc k i=>?_,λk i=>aa6 (f.stlt k i) m,λc h d j=>?_,λc h=>?_⟩
 ·have:=f.lt c k i;exact⟨by simpa using this.1,by omega,this.2.2⟩
 ·rw[x8] at h ⊢;rw[x6] at j;split at j
  ·exact t d j
  ·exact f.nms c h d j
 ·rw[x8] at h;rw[x6];split
  ·rename_i e;subst e;exact v
  ·rename_i e;exact(f.blk c h).mono M rfl (λk i=>a k (λp=>e (f.inj b c g o (p▸i)))) (λ_ _=>trivial)
theorem UD{b g:Nat}{x y:Blk}{w':World}(j:HR Y H w)(p:H[b]? = some x)(l:Y.nm b=some g)(f:y.shp=x.shp)(a:∀k,k≠g->w'.heap[k]? = w.heap[k]?)(q:w'.shape? g=w.shape? g)(i:w.heap.size<=w'.heap.size)
  (m:w'.os=w.os) (n:w'.tape=w.tape) (o:w'.output=w.output):Stp C Y H w noΦ Y (H.set b y) w' noΦ where
 os:=m
 tape:=n
 output:=o
 size:=i
 sub:=λ_ h=>h
 stnew:=λ_ h=>.inl h
 own:=λc k d=>.inl ⟨(j.lt c k d).1,d⟩
 foot:=λ_ h=>.inl h
 frame:=λk _ d _=>a k (λe=>d b (e▸l))
 yv:=rfl
 len:=by simp
 keep:=λc t _=>by
  have M:=Jj j p l f a q;exact⟨rfl,M.shp c trivial,λk d=>M.hs c k trivial d⟩
theorem Rl{m:Sem Value}{b g:Nat}{x y:Blk}{w':World}{V:Value}{v:PV}{sl:List PV}{f:Array Value}(h:HR Y H w)(u:m.run C.P w = .ok V w')(i:H[b]? = some x)(j:Y.nm b=some g)(d:y.shp=x.shp)
  (a:∀k,k≠g->w'.heap[k]? = w.heap[k]?) (l:w'.shape? g=w.shape? g) (e:w.heap.size<=w'.heap.size) (o:w'.os=w.os) (p:w'.tape=w.tape) (q:w'.output=w.output)
  (B:BR Y (A5 (H.set b y)) w' b y) (z:∀c∈y.nms,c<H.length) (A:VP Y (A5 (H.set b y)) w' v V) (hvn:∀c∈v.nms,c<H.length):WV C Y H w sl f m v sl (H.set b y):=
 ⟨V,w',Y,u,UD h i j d a l e o p q,A00 h i j d a l e B z,λn=>n.mono (Jj h i j d a l) (λc t=>⟨trivial,by simpa using n.nms c t⟩),A,by simpa using hvn⟩
theorem D10{b:Nat}{X:Value}(c:VP Y (A5 H) w (.it b) X):∃g,Y.nm b=some g/\X = .pointer (some ⟨g,0,none⟩):=by
 cases c with
 | it _ g h a=>exact⟨g,a,rfl⟩
theorem An8{b ty:Nat}{l:List UInt8}{pos:Nat}{X:Value}(i:HR Y H w)(k:VP Y (A5 H) w (.it b) X)(j:H[b]? = some (.iter l pos)) :
  ∃g s,Y.nm b=some g/\X = .pointer (some ⟨g,0,none⟩)/\w.heap[g]? = some (.stringIter s pos)/\s.data.toList=l:=by
 obtain⟨g,e,rfl⟩:=D10 k;obtain⟨c,a⟩:=j2.1 j;have:=i.blk b c;rw[a] at this;obtain⟨m,s,d,f,h⟩:=this;rw[e] at d;cases d;exact⟨g,s,e,rfl,f,h⟩
theorem Ap3{b ty:Nat}{l:List UInt8}{pos:Nat}{X:Value}(d:HR Y H w)(i:VP Y (A5 H) w (.it b) X)(e:H[b]? = some (.iter l pos))(c:¬pos<l.length):QV C.P Y H w (ae4 X true ty) (.tup [.s (.bool false)]):=by
 obtain⟨g,s,k,rfl,a,rfl⟩:=An8 (ty:=ty) d i e;rw[Sw] at c;refine .mk1 (by simp[PV.nms,C8]) (V:=.tuple #[.bool false]) (VP.mk_tup rfl λj f=>?_) λw' h=>?_
 ·have:j=0:=by simpa using f
  subst this;exact⟨_,rfl,.bool _⟩
 ·rw[FQ ((h g (ad1.1 a).1).trans a),if_neg c]
theorem Dk0{b ty:Nat}{l:List UInt8}{pos:Nat}{X:Value}{sl:List PV}{tmps:Array Value}(c:HR Y H w)(o:VP Y (A5 H) w (.it b) X)(e:H[b]? = some (.iter l pos))(h:pos<l.length) :
  WV C Y H w sl tmps (ae4 X true ty) (.tup [.s (.bool true),.s (.int .i64 pos),.s (.int .i32 (ad6 ⟨l.toArray⟩ pos).1)]) sl (H.set b (.iter l (pos+(ad6 ⟨l.toArray⟩ pos).2))):=by
 obtain⟨g,s,d,rfl,f,rfl⟩:=An8 (ty:=ty) c o e;rw[Sw] at h;have a:g<w.heap.size:=(c.lt b g d).2.1;have n:(⟨s.data.toList.toArray⟩:ByteArray)=s:=by cases s;simp
 rw[n];have i:=FQ (P:=C.P) (ty:=ty) f;rw[if_pos h] at i;refine Rl c i e d rfl (λk p=>?_) ?_ (by simp) rfl rfl rfl ⟨g,s,d,?_,rfl⟩ (by simp[Blk.nms]) (VP.mk_tup rfl λj m=>?_) (by simp[PV.nms,C8])
 ·simp only[y7];rw[if_neg (by omega)]
 ·simp only[aa8,f,y7,if_true,a]
 ·simp[a]
 ·match j,m with
  | 0,_=>exact⟨_,rfl,.bool _⟩
  | 1,_=>exact⟨_,rfl,.int _ _⟩
  | 2,_=>exact⟨_,rfl,.int _ _⟩
theorem XS{A q:Nat}{x:PV}{X:Value}{k:PV->Option R}{sl:List PV}{tmps:Array Value}(n:HR Y H w)(h:BY C A q x k=some r)(hx:VP Y (A5 H) w x X) :
  ∃v,k v=some r/\WV C Y H w sl tmps (convert A q X) v sl H:=by
 unfold BY at h;split at h
 ·rename_i e l U V;split at h
  ·rename_i W;obtain⟨L,Z⟩:=C3 h;simp only[G2,decide_eq_true_eq] at L;obtain⟨s,rfl,rfl⟩:=hx.inv_str;rw[Sw] at L;refine⟨_,Z,?_⟩;have K:=run_bytes_of_string (P:=C.P) w A q e s (Kt U) (K5 V) (OI W);generalize p:grownCap w s.size 0 e=cap at K;have F:s.size<=cap:=by rw[<-p];exact grownCap_ge _ _ _ _
   have I:cap<=maxLen:=by rw[<-p];exact grownCap_le_maxLen _ _ _ _ (by simp only[maxLen];omega)
   generalize o:w.drew.alloc (.cells (bytesRow s cap) e ((bytesRow s cap).size,(bytesRow s cap).size+1))=w' at K;have z:w'.heap=w.heap.push (.cells (bytesRow s cap) e ((bytesRow s cap).size,(bytesRow s cap).size+1)):=by rw[<-o];rfl
   have Q:w'.os=w.os:=by rw[<-o];rfl
   have S:w'.tape=w.tape:=by rw[<-o];rfl
   have T:w'.output=w.output:=by rw[<-o];rfl
   let Γ':Ctx:={ Y with St:=λg=>Y.St g\/g=w.heap.size }
   have f:∀g,g<w.heap.size->w'.heap[g]? = w.heap[g]?:=λg d=>I8 z d
   have M:Ax Y (A5 H) w Γ' (A5 H) w' (λ_=>True):=⟨λg d=>f g (n.stlt g d),λ_ h=>.inl h,λ_ _=>rfl,λ_ _=>rfl,λb g _ d=>F5 (f g (n.lt b g d).2.1),rfl⟩
   have a0:w'.heap.size=w.heap.size+1:=by rw[z];simp
   have D:HR Γ' H w':=by
    refine⟨n.inj,λb g d=>?_,λg d=>?_,n.nms,λb O=>(n.blk b O).mono M rfl (λg d=>f g (n.lt b g d).2.1) (λ_ _=>trivial)⟩
    ·have:=n.lt b g d;grind
    ·rcases d with h|rfl
     ·have:=n.stlt g h;omega
     ·omega
   refine⟨_,w',Γ',K,⟨Q,S,T,by omega,λ_ h=>.inl h,λg d=>by rcases d with h|rfl;exact .inl h;exact .inr (j4 _),λb g d=>.inl ⟨(n.lt b g d).1,d⟩,λ_ h=>.inl h,λg d _ _=>f g d,rfl,j4 _,
    λb O hf=>⟨rfl,rfl,λg d=>F5 (f g (n.lt b g d).2.1)⟩⟩,D,λN=>N.mono M (λc hc=>⟨trivial,N.nms c hc⟩),.s _ _ ?_,by simp[PV.nms]⟩
   have B:s.data.toList.length=s.size:=Sw s;have y:∀(a:List UInt8) i (t:i<(a.map E4).length),((a.map E4)[i]).length=1:=λa i t=>by simp[E4]
   refine .sl false (s.data.toList.map E4) w.heap.size 0 s.size cap 1 (λi _=>.int .u8 ((s.data.toList.getD i 0).toNat)) (by rw[j9,B]) F I (by simp) (.inr rfl) (y _) (λi t j G=>?_) (λi t j G=>?_)
   ·have u:j=0:=by rw[y _ i t] at G;omega
    subst u;have m:i<s.data.size:=by simpa using t
    rw[cell_of_row w' w.heap.size _ _ _ _ (I7 z)];have J:i<s.data.toList.length:=by simpa using m
    rw[Fa J];simp only[bytesRow];rw[ab5 (by simpa using m)];rw[Array.getElem?_map,show 0+i*1+0=i by omega,Array.getElem?_eq_getElem m];rfl
   ·have u:j=0:=by rw[y _ i t] at G;omega
    subst u;have m:i<s.data.toList.length:=by simpa using t
    rw[Fa m];simp only[j7,E4,w6];exact .int _ _
  ·cases h
 ·cases h
end
section
variable {L : Ctx} {H : List Blk} {w : World} {R : Type} {r : R} {C : Cfg}
theorem Ar1{b:Type}(l a:List b)(off:Nat)(h:off+a.length<=l.length):G4 l off a=l.take off++a++l.drop (off+a.length):=by
 apply ad3;intro j;rw[O5 a l off h j];have c:(l.take off).length=off:=by rw[ab7];omega
 grind
theorem L0{P:Program}{g o e:Nat}{vs:List Value}{a:Array Value}(c:w.heap[g]? = some (.cells a e (0,0)))(b:o+vs.length<=a.size)(f:∀v∈vs,v.oneCell'=true) :
  ∃w',(storeCells ⟨g,o,none⟩ vs).run P w = .ok () w'/\w'.heap[g]? = some (.cells (G4 a.toList o vs).toArray e (0,0))/\(∀k,k≠g->w'.heap[k]? = w.heap[k]?)/\w'.heap.size=w.heap.size/\w'.os=w.os/\w'.tape=w.tape/\w'.output=w.output/\
   w'.shape? g=w.shape? g:=by
 have:=run_storeCells_at P g o e vs 0 a w c (by simpa using b) f;simp only[ab8] at this;rw[<-Ar1 a.toList vs o (by simpa using b)] at this;have d:=setRow_heap w g a (G4 a.toList o vs).toArray e (0,0) c;refine⟨_,this,d,λk h=>setRow_other w g k _ h,by simp,rfl,rfl,rfl,?_⟩;simp only[aa8,d,c];simp[D8]
theorem Gr{P:Program}{t:Nat}{i:TypeInfo}{a:Addr}{V:Value}(b:P.info? t=some i)(c:V.cells.size=i.size){w w':World}(h:(storeCells a V.cells.toList).run P w = .ok () w') :
  (do ad7 t (.pointer (some a)) V;pure undef:Sem Value).run P w = .ok undef w':=by
 simp[ad7,y8,storeVar,sizeOf,typeInfo,b,c,h]
theorem Bw9{l:List PV}{a:List Value}{sh:Nat->Option Shp}(g:l.length=a.length)(h:l.all PV.one=true)(c:∀j (h:j<l.length),∃U,a[j]? = some U/\VP L sh w (l[j]) U):∀v∈a,v.oneCell'=true:=by intro v f;obtain⟨j,d,e⟩:=List.getElem_of_mem f;obtain⟨U,b,k⟩:=c j (by omega);rw[b8 d] at b;simp only[a8] at b;rw[<-e,b];exact k.oneCell (p6.1 h _ (j8 _))
theorem Cy{sh:Nat->Option Shp}:VP L sh w (.tup []) undef:=VP.mk_tup (by rfl) λj a=>by simp at a
theorem Dl8{c:Type}{Rel:c->Value->Prop}{l vs:List c}{A B:List Value}{o:Nat}(m:l.length=A.length)(n:vs.length=B.length)(i:o+vs.length<=l.length)(d:∀j (h:j<l.length),∃U,A[j]? = some U/\Rel (l[j]) U)
  (f:∀j (h:j<vs.length),∃U,B[j]? = some U/\Rel (vs[j]) U):∀j (h:j<(G4 l o vs).length),∃U,(G4 A o B)[j]? = some U/\Rel ((G4 l o vs)[j]) U:=by
 intro j a;have g:=O5 vs l o i j;rw[b8 a] at g;rw[D8] at a;rw[O5 B A o (by omega) j];by_cases b:o<=j/\j<o+vs.length
 ·rw[if_pos (by omega)];rw[if_pos b,b8 (by omega)] at g;simp only[a8] at g;obtain⟨U,e,k⟩:=f (j-o) (by omega);exact⟨U,e,by rw[g];exact k⟩
 ·rw[if_neg (by omega)];rw[if_neg b,b8 a] at g;simp only[a8] at g;obtain⟨U,e,k⟩:=d j a;exact⟨U,e,by rw[g];exact k⟩
theorem HR.box'(hH:HR L H w){b:Nat}{cells:List PV}(hb:H[b]? = some (.box cells)):∃g cur e,L.nm b=some g/\w.heap[g]? = some (.cells cur e (0,0))/\cur.size=cells.length/\(∀j (h:j<cells.length),∃V,cur[j]? = some V/\VP L (A5 H) w (cells[j]) V)/\∀c∈C8 cells,c<H.length:=by obtain⟨hlt,hbe⟩:=j2.1 hb;have:=hH.blk b hlt;rw[hbe] at this;obtain⟨g,cur,e,h1,h2,h3,h4⟩:=this;exact⟨g,cur,e,h1,h2,h3,h4,λc hc=>hH.nms b hlt c (by rw[hbe];exact hc)⟩
theorem HR.arr'(hH:HR L H w){b:Nat}{v:Bool}{e sz:Nat}{els:List (List SV)}(hb:H[b]? = some (.arr v e sz els))(hne:¬(v=true/\els=[])) :
  ∃g cur,L.nm b=some g/\w.heap[g]? = some (.cells cur e (0,0))/\els.length*sz<=cur.size/\(∀i (h:i<els.length),(els[i]).length=sz)/\∀i (h:i<els.length) j (h':j<(els[i]).length),∃V,cur[i*sz+j]? = some V/\VS L.St w (els[i][j]) V:=by
 obtain⟨hlt,hbe⟩:=j2.1 hb;have:=hH.blk b hlt;rw[hbe] at this;rcases this with h|⟨_,g,cur,h1,h2,h3,h4,h5⟩
 ·exact absurd h hne
 ·exact⟨g,cur,h1,h2,h3,h4,h5⟩
theorem Ct0{i b j o n a:Nat}(c:b≠i)(d:j<a)(e:o+n<=a):¬(i*a+o<=b*a+j/\b*a+j<i*a+o+n):=by
 rcases Nat.lt_or_gt_of_ne c with h|h
 ·have:(b+1)*a<=i*a:=j5 _ h;grind
 ·have:(i+1)*a<=b*a:=j5 _ h;grind
theorem Ae2{tid:Nat}{a v:PV}{A V:Value}{k:List Blk->Option R}{sl:List PV}{tmps:Array Value}(hH:HR L H w)(h:Wj (C.ti tid) a v H k=some r)(I:VP L (A5 H) w a A)(hv:VP L (A5 H) w v V)(hn:∀c∈v.nms,c<H.length) :
  ∃H',k H'=some r/\WV C L H w sl tmps (do ad7 tid A V;pure undef) (.tup []) sl H':=by
 unfold Wj at h;split at h
 ·rename_i hc;obtain⟨b6,m,a9⟩:=hc;obtain⟨i0,hi,b7,c3⟩:=N1 b6;have b5:v.cells≠[]:=by intro e;rw[e] at m;simp at m;omega
  have a7:=hv.cells' b5;have F:v.cells.length=V.cells.toList.length:=by simpa using a7.1.symm
  have a5:∀j (h:j<v.cells.length),∃U,V.cells.toList[j]? = some U/\VP L (A5 H) w (v.cells[j]) U:=λj J=>by
   obtain⟨U,e,k⟩:=a7.2 j J;grind
  have a1:=Bw9 F a9 a5;have a2:V.cells.size=i0.size:=by rw[a7.1,m,b7]
  split at h
  ·rename_i b i off;split at h
   ·rename_i cells K;split at h
    ·rename_i b2;subst b2;dsimp only at h;obtain⟨u,h3⟩:=C3 h;simp only[decide_eq_true_eq] at u;refine⟨_,h3,?_⟩;obtain⟨T,e1,e2,e3,e4,e5,e6,e7⟩:=Z4 (C:=C) (λ_=>(0,0)) v.cells 0 H V.cells.toList hH F a5 (λc hc=>hn c (PV.cells_nms c hc));have a4:(H++T)[b]? = some (.box cells):=by rw[o8 (j2.1 K).1];exact K
     obtain⟨g,D,e,G,hh,N,a0,c2⟩:=e2.box' a4;have hA:A = .pointer (some ⟨g,off,none⟩):=by
      cases I with
      | ptrA _ _ _ g' v e sz n Z q=>simp[A5,K,Blk.shp] at Z
      | ptrB _ _ g' Z q=>rw[G] at q;cases q;rfl
     subst hA;obtain⟨w',r1,r2,r3,r4,r5,r6,r7,r8⟩:=L0 (P:=C.P) (o:=off) hh (vs:=V.cells.toList) (by rw[<-F,m,N];exact u) a1;have Y:=Gr hi a2 r1;have M:=Jj (y:=.box (G4 cells off (H7 (λ_=>(0,0)) v.cells 0 H).1)) e2 a4 G rfl r3 r8;rw[e1];have key:WV C L (H++T) w sl tmps (do ad7 tid (.pointer (some ⟨g,off,none⟩)) V;pure undef) (.tup []) sl ((H++T).set b (.box (G4 cells off (H7 (λ_=>(0,0)) v.cells 0 H).1))):=by
      refine Rl e2 Y a4 G rfl r3 r8 (by omega) r5 r6 r7 ⟨g,_,e,G,r2,by simp[D8,N],λj J=>?_⟩ (λc hc=>?_) Cy (by simp[PV.nms,C8])
      ·have:=Dl8 (Rel:=λp U=>VP L (A5 ((H++T).set b (.box (G4 cells off (H7 (λ_=>(0,0)) v.cells 0 H).1)))) w' p U) (l:=cells) (vs:=(H7 (λ_=>(0,0)) v.cells 0 H).1) (A:=D.toList) (B:=V.cells.toList) (o:=off)
        (by simpa using N.symm) e5 (by rw[e5,<-F,m];exact u)
        (λj J=>by
         obtain⟨U,f1,f2⟩:=a0 j J;exact⟨U,by simpa using f1,f2.mono M (λ_ _=>trivial)⟩)
        (λj J=>by
         obtain⟨U,f1,f2⟩:=e6 j J;exact⟨U,f1,f2.mono M (λ_ _=>trivial)⟩) j J
       grind
      ·rcases Vn _ _ _ c hc with h|h
       all_goals grind
     obtain⟨V',w',Γ',k1,k2,k3,k4,k5,k6⟩:=key;exact⟨V',w',Γ',k1,e3.trans k2,k3,λhS=>k4 (SR.grow e4 hS),k5,k6⟩
    ·cases h
   ·rename_i z e sz d K;split at h
    ·rename_i vs c0;obtain⟨f1,f2⟩:=Ce c0 F a5;split at h
     ·rename_i c1;obtain⟨u,h3⟩:=C3 h;simp only[decide_eq_true_eq] at u;refine⟨_,h3,?_⟩;obtain⟨g,D,G,hh,X,f,O⟩:=hH.arr' K (by rintro⟨_,rfl⟩;simp at u);have hA:A = .pointer (some ⟨g,i*sz+off,none⟩):=by
       cases I with
       | ptrA _ _ _ g' v e sz n Z q=>
        rw[G] at q;cases q;obtain⟨_,_,rfl,_⟩:=S8 K Z;rfl
       | ptrB _ _ g' Z q=>simp[A5,K,Blk.shp] at Z
      subst hA;have W:i*sz+off+V.cells.toList.length<=D.size:=by
       have:(i+1)*sz<=d.length*sz:=j5 _ u;grind
      obtain⟨w',r1,r2,r3,r4,r5,r6,r7,r8⟩:=L0 (P:=C.P) (o:=i*sz+off) hh (vs:=V.cells.toList) W a1;have Y:=Gr hi a2 r1;rw[Fa u];have b0:off+vs.length<=(d[i]).length:=by rw[f i u,f1];omega
      refine Rl hH Y K G (by simp[Blk.shp]) r3 r8 (by omega) r5 r6 r7 (.inr ⟨λhz=>?_,g,_,G,r2,by simpa[D8] using X,λa I=>?_,λa I j J=>?_⟩) (by simp[Blk.nms]) Cy (by simp[PV.nms,C8])
      ·have:=congrArg af2 hz.2;rw[x8] at this;simp only[ae8] at this;omega
      ·rw[x6];rw[x8] at I;split
       ·rw[D8];exact f i u
       ·exact f a I
      ·rw[x8] at I;have t:∀k,L.St k->w'.heap[k]? = w.heap[k]?:=λk hk=>r3 k (λe=>(hH.lt b g G).2.2 (e▸hk))
       simp only[ab2];rw[O5 _ _ _ (by simpa using W)];by_cases a3:i=a
       ·subst a3;have a6:(d.set i (G4 d[i] off vs))[i]'(by simpa using I)=G4 d[i] off vs:=by simp
        have x:j<(G4 d[i] off vs).length:=by rw[<-a6];exact J
        have S:(d.set i (G4 d[i] off vs))[i][j]=(G4 d[i] off vs)[j]:=by simp
        rw[S];have g1:=O5 vs d[i] off b0 j;rw[b8 x] at g1;rw[D8] at x;by_cases hc:off<=j/\j<off+vs.length
        ·rw[if_pos (by omega)];rw[if_pos hc,b8 (by omega)] at g1;simp only[a8] at g1;obtain⟨U,q1,q2⟩:=f2 (j-off) (by omega);refine⟨U,?_,by rw[g1];exact q2.mono t (λ_ h=>h)⟩;rw[<-q1];congr 1;omega
        ·rw[if_neg (by omega)];rw[if_neg hc,b8 x] at g1;simp only[a8] at g1;obtain⟨U,q1,q2⟩:=O i u j x;exact⟨U,by simpa using q1,by rw[g1];exact q2.mono t (λ_ h=>h)⟩
       ·have a6:(d.set i (G4 d[i] off vs))[a]'(by simpa using I)=d[a]:=by rw[x6,if_neg a3]
        have x:j<(d[a]).length:=by rw[<-a6];exact J
        have S:(d.set i (G4 d[i] off vs))[a][j]=d[a][j]:=by congr 1
        rw[S];obtain⟨U,q1,q2⟩:=O a I j x;have b4:j<sz:=by rw[<-f a I];exact x
        rw[if_neg (Ct0 (λe=>a3 e.symm) b4 (by rw[<-f1,<-f i u];exact b0))];exact⟨U,by simpa using q1,q2.mono t (λ_ h=>h)⟩
     ·split at h
      ·rename_i b3;obtain⟨rfl,rfl⟩:=b3;obtain⟨u,h3⟩:=C3 h;simp only[decide_eq_true_eq] at u;refine⟨_,h3,?_⟩;have Q:d≠[]:=by rintro rfl;rw[ae8,aj6] at u;omega
       obtain⟨g,D,G,hh,X,f,O⟩:=hH.arr' K (λhz=>Q hz.2);have hA:A = .pointer (some ⟨g,0,none⟩):=by
        cases I with
        | ptrA _ _ _ g' v e sz n Z q=>
         grind
        | ptrB _ _ g' Z q=>simp[A5,K,Blk.shp] at Z
       subst hA;have W:0+V.cells.toList.length<=D.size:=by omega
       obtain⟨w',r1,r2,r3,r4,r5,r6,r7,r8⟩:=L0 (P:=C.P) (o:=0) hh (vs:=V.cells.toList) W a1;have Y:=Gr hi a2 r1;have t:∀k,L.St k->w'.heap[k]? = w.heap[k]?:=λk hk=>r3 k (λe=>(hH.lt b g G).2.2 (e▸hk))
       have b1:w'.heap[g]? = some (.cells (V.cells++(D.toList.drop V.cells.size).toArray) e (0,0)):=by
        rw[r2,Ar1 _ _ _ (by simpa using W)];simp_all
       refine Rl hH Y K G (by simp[Blk.shp,Ab]) r3 r8 (by omega) r5 r6 r7 (BR.row G b1 (λ_=>?_) ?_ ?_ λj J=>?_) (by simp[Blk.nms]) Cy (by simp[PV.nms,C8])
       ·intro e;exact Q (o7.1 e)
       ·rw[f1,<-F,m,u]
       ·rw[f1];simp
       ·obtain⟨U,q1,q2⟩:=f2 j J;exact⟨U,by simpa using q1,q2.mono t (λ_ h=>h)⟩
      ·cases h
    ·cases h
   ·cases h
  ·cases h
 ·cases h
end
section
variable {Γ : Ctx} {H : List Blk} {w : World} {R : Type} {r : R} {C : Cfg}
structure Pn (P:Program) (Γ:Ctx) (w:World) (n:Nat) (X:Value) (news:List (List SV)) (Vs:List Value):Prop where
 len:∀w',(ai7 X).run P w' = .ok news.length w'
 first:∀k,k<=news.length->∀w':World,w'.heap=w.heap->(aa4 n k X).run P w' = .ok (Vs.take (k*n)).toArray w'
 size:Vs.length=news.length*n
 one:∀u∈Vs,u.oneCell'=true
 els:∀i (h:i<news.length),(news[i]).length=n/\∀j (h':j<(news[i]).length),∃U,Vs[i*n+j]? = some U/\VS Γ.St w (news[i][j]) U
theorem Pn.nil{P:Program}{n:Nat}{X:Value}(a:Option Addr)(cap:Nat)(hX:X = .slice a 0 cap):Pn P Γ w n X [] []:=by
 subst hX;refine⟨λw'=>rfl,λk hk w' hw=>?_,by simp,by simp,λi hi=>by simp at hi⟩;have:k=0:=by simpa using hk
 subst this;cases a with
 | none=>simp[aa4]
 | some a=>
  have:=run_loadCells_list (P:=P) w' a [] (by simp);simpa[aa4] using this
theorem B91{q m n:Nat}(h:q<m*n):q / n<m/\q % n<n/\q / n*n+q % n=q:=by
 have a:0<n:=by grind
 exact⟨Nat.div_lt_of_lt_mul (by rw[aj5];exact h),ai5 _ a,by rw[aj5];exact Nat.div_add_mod q n⟩
theorem Pn.slice{P:Program}{n:Nat}{X:Value}{els:List (List SV)}(h:SlV Γ w X els)(hn:∀i (h:i<els.length),(els[i]).length=n):∃Vs,Pn P Γ w n X els Vs:=by
 obtain⟨a,cap,rfl,hcap,hm,hnil,hcells⟩:=h.ex;by_cases he:els=[]
 ·subst he;exact⟨[],Pn.nil a cap rfl⟩
 ·obtain⟨g,o,sz,rfl,hsz,hc⟩:=hcells he;have hcell:∀q,q<els.length*n->∃U,w.cell? ⟨g,o+q,none⟩=some U/\U.oneCell'=true:=λq hq=>by
   obtain⟨h1,h2,h3⟩:=B91 hq;have hs:sz=n:=by rw[<-hsz _ h1];exact hn _ h1
   subst hs;obtain⟨U,e,k⟩:=hc _ h1 (q % sz) (by rw[hsz _ h1];exact h2);exact⟨U,by rw[<-e];congr 2;omega,k.oneCell⟩
  let Vs:=(ae6 (els.length*n)).map λq=>(w.cell? ⟨g,o+q,none⟩).getD undef
  have hVs:∀q,q<els.length*n->∀U,w.cell? ⟨g,o+q,none⟩=some U->Vs[q]? = some U:=λq hq U e=>by simp[Vs,hq,e]
  refine⟨Vs,λw'=>rfl,λk hk w' hw=>?_,by simp[Vs],λu hu=>?_,λi hi=>⟨hn i hi,λj hj=>?_⟩⟩
  ·have hkn:k*n<=els.length*n:=j5 _ hk;have hVl:Vs.length=els.length*n:=by simp[Vs]
   have hl:(Vs.take (k*n)).length=k*n:=by rw[ab7,hVl];omega
   refine run_firstCells_some (P:=P) w' n k ⟨g,o,none⟩ els.length cap (Vs.take (k*n)) hl (λj v hj=>?_);rw[x9] at hj;split at hj
   ·rename_i hjk;obtain⟨U,e,_⟩:=hcell j (by omega);rw[hVs j (by omega) U e] at hj;simp only[a8] at hj;subst hj;rw[M4,B57 hw,e]
   grind
  ·grind
  ·have hs:sz=n:=by rw[<-hsz _ hi];exact hn _ hi
   subst hs;obtain⟨U,e,k⟩:=hc i hi j hj;have hj':j<sz:=by rw[<-hsz i hi];exact hj
   have hlt:i*sz+j<els.length*sz:=by
    have:(i+1)*sz<=els.length*sz:=j5 _ hi;grind
   grind
theorem TW{n:Nat}{x:PV}{X:Value}{c:List (List SV)}(z:HR Γ H w)(G:VP Γ (A5 H) w x X)(d:GD n H x=true)(h:MY H x=some c):∃I,Pn C.P Γ w n X c I:=by
 by_cases q:∃l,x = .s (.str l)
 ·obtain⟨l,rfl⟩:=q;simp only[MY,a8] at h;subst h;simp only[GD,decide_eq_true_eq] at d;subst d;obtain⟨s,rfl,rfl⟩:=G.inv_str;refine⟨s.data.toList.map λb=>.int .u8 b.toNat,λw'=>by simp[ai7],λk T w' hw=>?_,by simp,λu K=>?_,λi o=>⟨by simp[E4],λj N=>?_⟩⟩
  ·simp only[aa4,w9]
   congr 1
   apply ak8;simp_all
  ·simp only[aa1] at K;obtain⟨b,_,rfl⟩:=K;rfl
  ·have F:j=0:=by simpa[E4] using N
   subst F;have B:i<s.data.toList.length:=by simpa using o
   refine⟨.int .u8 (s.data.toList[i]).toNat,by rw[show i*1+0=i by omega,o0,b8 B];rfl,?_⟩;simp only[j7,E4,w6];exact .int _ _
 ·have a:Oz H x=some c:=by
   unfold MY at h;grind
  have A:=Zy (C:=C) z G a;refine Pn.slice A λi o=>?_
  unfold GD at d;unfold Oz at a;split at a
  ·grind
  ·simp only[a8] at a;subst a;simp only[aa9,decide_eq_true_eq] at d;have M:=G.inv_s;cases M with
   | nil=>simp at o
   | emp=>simp at o
   | sl t f g off P cap L I W J V Y S U Q Z=>
    grind
  ·split at a
   ·rename_i b _ v e L f p;simp only[a8] at a;subst a;dsimp only at d;rw[p] at d;simp only[aa9,decide_eq_true_eq,b9,ac3] at d;obtain⟨g,y,_,_,_,m,_⟩:=z.arr' p (by rintro⟨_,rfl⟩;simp at o);grind
   grind
  ·split at a
   ·rename_i b O P _ v e L f p;simp only[a8] at a;subst a;dsimp only at d;rw[p] at d;simp only[aa9,decide_eq_true_eq,b9,ac3] at d;have D:O+i<f.length:=by simp at o;omega
    obtain⟨g,y,_,_,_,m,_⟩:=z.arr' p (by rintro⟨_,rfl⟩;simp at D);grind
   grind
  grind
theorem B07{P:Program}{a b:Nat}:Nat.min a b=min a b:=rfl
theorem Zp{P:Program}{t u ty e:Nat}{h:TypeInfo}{D X:Value}{a:Option Addr}{b f:Nat}{c:List (List SV)}{i:List Value}{w':World}(l:P.underlying t=some (.slice e))(k:P.info? e=some h)(m:D = .slice a b f)
  (g:Pn P Γ w h.size X c i) (d:match a with|some a=>(storeCells a (i.take (min c.length b*h.size))).run P w = .ok () w'|none=>w'=w) :
  (ab9 #[t,u] ty #[D,X]).run P w = .ok (.int .i64 (min c.length b:Nat)) w':=by
 subst m;have j:=g.first (min c.length b) (Nat.min_le_left _ _) w rfl;cases a with
 | none=>
  simp only at d;subst d;simp[ab9,run_underlying l,g.len,sizeOf,typeInfo,k,B07,j,goInt]
 | some a=>
  simp only at d;simp[ab9,run_underlying l,g.len,sizeOf,typeInfo,k,B07,j,d,goInt]
theorem Bp9(b a:List (List SV))(i n:Nat)(e:i+n<=b.length)(q:Nat) :
  (b.take i++(a.take n++b.drop (i+min a.length n)))[q]? = if i<=q/\q<i+min a.length n then a[q-i]? else b[q]?:=by
 have c:(b.take i).length=i:=by rw[ab7];omega
 have d:(a.take n).length=min a.length n:=by rw[ab7];omega
 by_cases f:q<i
 ·rw[if_neg (by omega),o8 (by omega),x9,if_pos f]
 ·rw[p9 (by omega),c];by_cases g:q<i+min a.length n
  ·rw[if_pos (by omega),o8 (by omega),x9,if_pos (by omega)]
  ·rw[if_neg (by omega),p9 (by omega),d,ag3]
   congr 1;omega
theorem QI(a b:List (List SV))(i n:Nat)(c:i+n<=a.length):(a.take i++(b.take n++a.drop (i+min b.length n))).length=a.length:=by grind
theorem By0{t u ty e b g i n dCap I Q:Nat}{v:Bool}{f:TypeInfo}{c d:List (List SV)}{D X:Value}{K:List Value}{sl:List PV}{tmps:Array Value}{o:Array Value}(hH:HR Γ H w)(hu:C.P.underlying t=some (.slice e))(Y:C.P.info? e=some f)
  (a9:f.size=I) (hb:H[b]? = some (.arr v Q I c)) (O:i+n<=c.length) (W:Γ.nm b=some g) (hh:w.heap[g]? = some (.cells o Q (0,0))) (G:c.length*I<=o.size) (x:∀i (h:i<c.length),(c[i]).length=I)
  (N:∀i (h:i<c.length) j (h':j<(c[i]).length),∃V,o[i*I+j]? = some V/\VS Γ.St w (c[i][j]) V) (a7:¬(v=true/\c=[])) (J:Pn C.P Γ w f.size X d K) (a:Addr) (ha:n≠0->a=⟨g,i*I,none⟩) (hD:D = .slice (some a) n dCap) :
  WV C Γ H w sl tmps (ab9 #[t,u] ty #[D,X]) (.s (.int .i64 (min d.length n:Nat))) sl (H.set b (.arr v Q I (c.take i++(d.take n++c.drop (i+min d.length n))))):=by
 subst a9;generalize S:min d.length n=m;have a5:m<=d.length:=by omega
 have b0:m<=n:=by omega
 have T:(K.take (m*f.size)).length=m*f.size:=by
  have:m*f.size<=d.length*f.size:=j5 _ a5;rw[ab7,J.size];omega
 have B:i*f.size+(K.take (m*f.size)).length<=o.size:=by
  have:(i+m)*f.size<=c.length*f.size:=j5 _ (by omega);grind
 have l:=QI c d i n O;rw[S] at l;have key:∃w',(storeCells a (K.take (m*f.size))).run C.P w = .ok () w'/\w'.heap[g]? = some (.cells (G4 o.toList (i*f.size) (K.take (m*f.size))).toArray Q (0,0))/\(∀k,k≠g->w'.heap[k]? = w.heap[k]?)/\w'.heap.size=w.heap.size/\w'.os=w.os/\w'.tape=w.tape/\w'.output=w.output/\
   w'.shape? g=w.shape? g:=by
  by_cases a6:n=0
  ·have a4:m=0:=by omega
   subst a4;refine⟨w,by simp[storeCells],by simpa[G4] using hh,λ_ _=>rfl,rfl,rfl,rfl,rfl,rfl⟩
  ·rw[ha a6];exact L0 hh B (λv hv=>J.one v (List.mem_of_mem_take hv))
 obtain⟨w',r1,r2,r3,r4,r5,r6,r7,r8⟩:=key;have F:∀k,Γ.St k->w'.heap[k]? = w.heap[k]?:=λk hk=>r3 k (λe=>(hH.lt b g W).2.2 (e▸hk))
 have hr:=Zp (P:=C.P) (w:=w) (u:=u) (ty:=ty) hu Y hD J (w':=w') (by rw[S];exact r1);rw[S] at hr;have A:∀q (z:q<(c.take i++(d.take n++c.drop (i+m))).length),(i<=q/\q<i+m/\∃h:q-i<d.length,(c.take i++(d.take n++c.drop (i+m)))[q]=d[q-i])\/
   (¬(i<=q/\q<i+m)/\∃h:q<c.length,(c.take i++(d.take n++c.drop (i+m)))[q]=c[q]):=λq z=>by
  have:=Bp9 c d i n O q;rw[S,b8 z] at this;rw[l] at z;by_cases M:i<=q/\q<i+m
  ·rw[if_pos M,b8 (by omega)] at this;exact .inl ⟨M.1,M.2,by omega,by simpa using this⟩
  ·rw[if_neg M,b8 z] at this;exact .inr ⟨M,z,by simpa using this⟩
 refine Rl hH hr hb W (by simp only[Blk.shp,l]) r3 r8 (by omega) r5 r6 r7 (.inr ⟨λhz=>a7 ⟨hz.1,?_⟩,g,_,W,r2,by rw[l];simpa[D8] using G,λq z=>?_,λq z j hj=>?_⟩) (by simp[Blk.nms]) (.int _ _) (by simp[PV.nms])
 ·have:=congrArg af2 hz.2;rw[l] at this;exact o7.1 (by simpa using this)
 ·rcases A q z with⟨L,h2,y,e⟩|⟨L,y,e⟩
  ·rw[e];exact(J.els _ y).1
  ·rw[e];exact x _ y
 ·simp only[ab2];rw[O5 _ _ _ (by simpa using B),T];rcases A q z with⟨L,h2,y,e⟩|⟨L,y,e⟩
  ·have p:j<(d[q-i]).length:=by rw[<-e];exact hj
   obtain⟨U,q1,q2⟩:=(J.els _ y).2 j p;have Z:j<f.size:=by rw[<-(J.els _ y).1];exact p
   have a1:i*f.size<=q*f.size:=j5 _ L;have a2:(q+1)*f.size<=(i+m)*f.size:=j5 _ h2;rw[k9,k9] at a2;have a3:q*f.size+j-i*f.size=(q-i)*f.size+j:=by rw[Nat.sub_mul];omega
   rw[if_pos (by omega),a3];refine⟨U,?_,by simp only[e];exact q2.mono F (λ_ h=>h)⟩;rw[x9,if_pos]
   ·exact q1
   ·rw[<-a3];omega
  ·have p:j<(c[q]).length:=by rw[<-e];exact hj
   obtain⟨U,q1,q2⟩:=N q y j p;have Z:j<f.size:=by rw[<-x q y];exact p
   rw[if_neg]
   ·exact⟨U,by simpa using q1,by simp only[e];exact q2.mono F (λ_ h=>h)⟩
   ·rintro⟨b1,b2⟩;apply L;constructor
    ·apply x3;intro a0;have:(q+1)*f.size<=i*f.size:=j5 _ (by omega);rw[k9] at this;omega
    ·apply x3;intro a0;have:(i+m)*f.size<=q*f.size:=j5 _ (by omega);rw[k9] at this;omega
theorem Ax9{b n e c:Nat}{v:Bool}{a:List (List SV)}(f:H[b]? = some (.arr v e c a))(h:(decide (c=n)||(v&&a.isEmpty))=true)(d:¬(v=true/\a=[])):c=n:=by grind
theorem Ak1{t u ty:Nat}{d x:PV}{D X:Value}{k:PV->List Blk->Option R}{sl:List PV}{tmps:Array Value}(J:HR Γ H w)(h:RL C t d x H k=some r)(Z:VP Γ (A5 H) w d D)(hx:VP Γ (A5 H) w x X) :
  ∃v H',k v H'=some r/\WV C Γ H w sl tmps (ab9 #[t,u] ty #[D,X]) v sl H':=by
 unfold RL at h;split at h
 ·rename_i e a0;split at h
  ·rename_i G;simp only[b9] at G;obtain⟨⟨G,Q⟩,o⟩:=G;obtain⟨ie,K,A,a1⟩:=N1 G;split at h
   ·rename_i a2 L;obtain⟨Vs,Y⟩:=TW (C:=C) J hx Q L;have hu:=K5 a0;have j:∀{H':List Blk},(hn:D = .slice none 0 0)->k (.s (.int .i64 0)) H=some r->∃v H',k v H'=some r/\WV C Γ H w sl tmps (ab9 #[t,u] ty #[D,X]) v sl H':=λhn hk=>by
     have hr:=Zp (P:=C.P) (w:=w) (u:=u) (ty:=ty) hu K hn (by rw[A];exact Y) (w':=w) rfl;simp only[ag8] at hr;exact⟨_,_,hk,_,w,Γ,hr,Stp.refl J,J,id,.int _ _,by simp[PV.nms]⟩
    split at h
    ·rename_i b;split at h
     ·rename_i v U sz F p;cases Z with
      | flv _ V M I=>
       obtain⟨rfl,_,_,W⟩:=S8 p I;obtain rfl:=o7.1 W;simp only[ae8,ag8,ad2,ag1,ai2] at h;have z:H.set b (.arr true U sz [])=H:=by
        apply ad3;grind
       rw[z] at h;exact j (H':=H) rfl h
      | fl _ g v' V M n' cap I hv O N hm hs=>
       obtain⟨rfl,rfl,rfl,rfl⟩:=S8 p I;have f:¬(v=true/\F=[]):=by rintro⟨q1,q2⟩;exact hv q1 (by rw[q2];rfl)
       simp only[GD,p] at o;have B:=Ax9 p o f;obtain⟨g',T,y,hh,l,c,q⟩:=J.arr' p f;rw[O] at y;cases y;have:=By0 (C:=C) (u:=u) (ty:=ty) (i:=0) (n:=F.length) (dCap:=cap) (sl:=sl) (tmps:=tmps) J hu K (by rw[A,B]) p (by omega) O hh l c q f (by rw[A];exact Y) ⟨g,0,none⟩ (λ_=>by simp) rfl;simp only[ad2,List.nil_append,aa7] at this;exact⟨_,_,h,this⟩
     ·cases h
    ·rename_i b i n;split at h
     ·rename_i v U sz F p;obtain⟨h1,S⟩:=C3 h;simp only[decide_eq_true_eq] at h1;cases Z with
      | vwv _ V M _ I=>
       obtain⟨rfl,_,_,W⟩:=S8 p I;obtain rfl:=o7.1 W;simp only[ag8,ad2,ag1,ai2,aj0] at S;have z:H.set b (.arr true U sz [])=H:=by
        apply ad3;grind
       rw[z] at S;exact j (H':=H) rfl S
      | vw _ _ _ g a cap v' V M m I hv O ha a3 N hm=>
       obtain⟨rfl,rfl,rfl,rfl⟩:=S8 p I;have f:¬(v=true/\F=[]):=by rintro⟨q1,q2⟩;exact hv q1 (by rw[q2];rfl)
       simp only[GD,p] at o;have B:=Ax9 p o f;obtain⟨g',T,y,hh,l,c,q⟩:=J.arr' p f;rw[O] at y;cases y;have:=By0 (C:=C) (u:=u) (ty:=ty) (i:=i) (n:=n) (dCap:=cap) (sl:=sl) (tmps:=tmps) J hu K (by rw[A,B]) p h1 O hh l c q f (by rw[A];exact Y) a ha rfl;exact⟨_,_,S,this⟩
     ·cases h
    ·exact j (H':=H) Z.inv_nsl h
    ·cases h
   ·cases h
  ·cases h
 ·cases h
end
section
variable {Γ : Ctx} {H : List Blk} {w : World} {R : Type} {r : R} {C : Cfg}
theorem BR.kill{sh:Nat->Option Shp}{b c:Nat}{x:Blk}(h:BR Γ sh w c x):BR Γ sh w c (x.kill b):=by
 cases x with
 | box cells=>
  obtain⟨g,cur,e,h1,h2,h3,h4⟩:=h;simp only[Blk.kill,Cp];refine⟨g,cur,e,h1,h2,by simpa using h3,λj hj=>?_⟩;obtain⟨V,e1,e2⟩:=h4 j (by simpa using hj);exact⟨V,e1,by simpa using e2.kill b⟩
 | arr=>exact h
 | iter=>exact h
 | dead=>exact h
theorem Blk.kill_nms'{b:Nat}{x:Blk}:∀c∈(x.kill b).nms,c≠b/\c∈x.nms:=by
 intro c hc;cases x with
 | box cells=>
  simp only[Blk.kill,Blk.nms] at hc ⊢;exact⟨λe=>T8 b cells (e▸hc),Bw b cells c hc⟩
 | arr=>simp[Blk.kill,Blk.nms] at hc
 | iter=>simp[Blk.kill,Blk.nms] at hc
 | dead=>simp[Blk.kill,Blk.nms] at hc
def Ctx.re(Γ:Ctx)(b:Nat)(ng:Option Nat):Ctx:={ Γ with nm:=λc=>if c=b then ng else Γ.nm c }
theorem Zw{b c:Nat}{y:Blk}(a:b<H.length):A5 ((H.map (Blk.kill b)).set b y) c=if c=b then some y.shp else A5 H c:=by rw[TU (by simpa using a),OK]
theorem Ac0{b:Nat}{y:Blk}{ng:Option Nat}{w':World}(m:HR Γ H w)(D:b<H.length)(F:¬Kn C (A5 H b))(p:∀g,ng=some g->g<w'.heap.size/\¬ Γ.St g/\∀c,c≠b->Γ.nm c≠some g)
  (u:∀g,ng=some g->Γ.nm b=some g\/w.heap.size<=g) (n:∀k,k<w.heap.size->Γ.nm b≠some k->w'.heap[k]? = w.heap[k]?) (v:w.heap.size<=w'.heap.size) (N:w'.os=w.os) (O:w'.tape=w.tape) (P:w'.output=w.output)
  (T:BR (Γ.re b ng) (A5 ((H.map (Blk.kill b)).set b y)) w' b y) (I:y.nms=[]) :
  Stp C Γ H w noΦ (Γ.re b ng) ((H.map (Blk.kill b)).set b y) w' noΦ/\HR (Γ.re b ng) ((H.map (Blk.kill b)).set b y) w'/\
   ∀sl o,SR Γ H w sl o->SR (Γ.re b ng) ((H.map (Blk.kill b)).set b y) w' (Y2 b sl) o:=by
 have G:∀k,Γ.St k->w'.heap[k]? = w.heap[k]?:=λk B=>n k (m.stlt k B) (λe=>(m.lt b k e).2.2 B)
 have q:∀c g,c≠b->Γ.nm c=some g->w'.heap[g]? = w.heap[g]?:=λc g a f=>n g (m.lt c g f).2.1 (λe=>a (m.inj c b g f e))
 have M:Ax Γ (A5 H) w (Γ.re b ng) (A5 ((H.map (Blk.kill b)).set b y)) w' (λc=>c≠b/\c<H.length):=
  ⟨G,λ_ h=>h,λc a=>by simp only[Ctx.re];rw[if_neg a.1],λc a=>by rw[Zw D,if_neg a.1],λc g a f=>F5 (q c g a.1 f),rfl⟩
 refine⟨⟨N,O,P,v,λ_ h=>h,λ_ h=>.inl h,λc g f=>?_,λ_ h=>.inl h,λg f S _=>n g f (S b),rfl,by simp,λc a Q=>?_⟩,⟨λc d g a j=>?_,λc g f=>?_,λk B=>aa6 (m.stlt k B) v,λc a d j=>?_,λc a=>?_⟩,λsl o A=>⟨?_,λc a=>?_,λi J=>?_⟩⟩
 ·simp only[Ctx.re] at f;split at f
  ·rename_i e;subst e;rcases u g f with h|h
   ·exact .inl ⟨D,h⟩
   ·exact .inr h
  ·exact .inl ⟨(m.lt c g f).1,f⟩
 ·have l:c≠b:=λe=>F (e▸Q)
  exact⟨M.nm c ⟨l,a⟩,M.shp c ⟨l,a⟩,λg f=>M.hs c g ⟨l,a⟩ f⟩
 ·simp only[Ctx.re] at a j;split at a<;>split at j
  ·omega
  ·rename_i x z;exact absurd j ((p g a).2.2 d z)
  ·rename_i x z;exact absurd a ((p g j).2.2 c x)
  ·exact m.inj c d g a j
 ·simp only[Ctx.re] at f;rw[x8,j9];split at f
  ·rename_i e;subst e;exact⟨D,(p g f).1,(p g f).2.1⟩
  ·have:=m.lt c g f;exact⟨this.1,by omega,this.2.2⟩
 ·rw[x8,j9] at a ⊢;rw[x6] at j;split at j
  ·rw[I] at j;simp at j
  ·rw[j7] at j;exact m.nms c a d (Blk.kill_nms' d j).2
 ·rw[x8,j9] at a;rw[x6];split
  ·rename_i e;subst e;exact T
  ·rename_i e;rw[j7];have l:c≠b:=λK=>e K.symm
   exact(BR.kill (m.blk c a)).mono M (M.nm c ⟨l,a⟩) (λg f=>q c g l f) (λd j=>⟨(Blk.kill_nms' d j).1,m.nms c a d (Blk.kill_nms' d j).2⟩)
 ·rw[Cp,j9];exact A.size
 ·rw[x8,j9];exact A.nms c (Bw b sl c a)
 ·have t:i<sl.length:=by rw[Cp] at J;simpa using J
  obtain⟨V,x,z⟩:=A.slot i t;refine⟨V,x,?_⟩;have L:(Y2 b sl)[i]=(sl[i]).kill b:=by simp[Cp]
  rw[L];exact(z.kill b).mono M λc a=>⟨λe=>PV.not_mem_kill b _ (e▸a),A.nms c (C0.2 ⟨i,t,PV.kill_nms b _ c a⟩)⟩
theorem Ye{u:Nat}(h:SK (C.sh u)=true):∃d,C.P.underlying u=some d/\(d = .string\/∃b,d = .slice b):=by
 unfold SK at h;split at h
 ·rename_i a;exact⟨_,Kt a,.inl rfl⟩
 ·rename_i e a;exact⟨_,K5 a,.inr ⟨_,rfl⟩⟩
 ·cases h
theorem Av{P:Program}{t u ty e n cap:Nat}{i:TypeInfo}{d:TypeDesc}{base:Option Addr}{X:Value}{b:List (List SV)}{g:List Value}{w':World}(o:P.underlying t=some (.slice e))(p:P.underlying u=some d)(l:d = .string\/∃j,d = .slice j)(m:P.info? e=some i)
  (h:Pn P Γ w i.size X b g) (c:n+b.length<=cap) (f:match base with|some a=>(storeCells (a.add (n*i.size)) g).run P w = .ok () w'|none=>w'=w) :
  (x7 #[t,u] ty #[.slice base n cap,X]).run P w = .ok (.slice base (n+b.length) cap) w':=by
 have k:=h.first b.length (j4 _) w rfl;have hV:g.take (b.length*i.size)=g:=aa5 (by rw[h.size];exact j4 _);rw[hV] at k;cases base with
 | none=>
  simp only at f;subst f;rcases l with rfl|⟨j,rfl⟩ <;>
   simp[x7,run_underlying o,run_underlying p,sizeOf,typeInfo,m,h.len,c,k]
 | some a=>
  simp only at f;rcases l with rfl|⟨j,rfl⟩ <;>
   simp[x7,run_underlying o,run_underlying p,sizeOf,typeInfo,m,h.len,c,k,f]
theorem Fx{P:Program}{t u ty e n cap:Nat}{c:TypeInfo}{z:Value}{d:TypeDesc}{base:Option Addr}{X:Value}{a:List (List SV)}{h olds:List Value}(A:P.underlying t=some (.slice e))(B:P.underlying u=some d)(v:d = .string\/∃o,d = .slice o)(x:P.info? e=some c)(D:c.zero=some z)
  (l:Pn P Γ w c.size X a h) (q:∀w':World,w'.heap=w.heap->(aa4 c.size n (.slice base n cap)).run P w' = .ok olds.toArray w') (b:cap<n+a.length) (j:n+a.length<=maxLen) (m:(n+a.length)*c.bytes<=140737488355328) :
  (x7 #[t,u] ty #[.slice base n cap,X]).run P w = .ok (.slice (some ⟨w.heap.size,0,none⟩) (n+a.length) (grownCap w (n+a.length) cap e))
   (w.drew.alloc (.cells (olds.toArray++h.toArray++ab3 z.cells (grownCap w (n+a.length) cap e-(n+a.length))) e)):=by
 have p:=l.first a.length (j4 _) w.drew rfl;have hV:h.take (a.length*c.size)=h:=aa5 (by rw[l.size];exact j4 _);rw[hV] at p;have k:=q w.drew rfl;have y:¬(n+a.length<=cap):=by omega
 have i:n+a.length<=9223372036854775807:=by simp only[maxLen] at j;omega
 have g:¬(9223372036854775807<((n:Int)+(a.length:Int))):=by omega
 have f:¬(281474976710656<Builtin.nextslicecap (n+a.length) cap*c.bytes):=by have:=growslice_fits b m;omega
 rcases v with rfl|⟨o,rfl⟩ <;>
 ·simp[x7,run_underlying A,run_underlying B,sizeOf,typeInfo,zeroValue,x,D,l.len,y,g,f,Question.forced,p,k,newRow,grownCap]
  congr 2
  apply ak8;simp[ab4]
end
section
variable {Γ : Ctx} {H : List Blk} {w : World} {R : Type} {r : R} {C : Cfg}
def Els(St:Nat->Prop)(w:World)(n:Nat)(a:List (List SV))(b:List Value):Prop:=
 b.length=a.length*n/\∀i (h:i<a.length),(a[i]).length=n/\∀j (c:j<(a[i]).length),∃U,b[i*n+j]? = some U/\VS St w (a[i][j]) U
theorem Pn.toEls{P:Program}{n:Nat}{X:Value}{news:List (List SV)}{Vs:List Value}(h:Pn P Γ w n X news Vs):Els Γ.St w n news Vs:=⟨h.size,h.els⟩
theorem Els.append{St:Nat->Prop}{n:Nat}{a b:List (List SV)}{A B:List Value}(ha:Els St w n a A)(hb:Els St w n b B):Els St w n (a++b) (A++B):=by
 refine⟨by rw[j6,j6,ha.1,hb.1,k9],λi hi=>?_⟩;rw[j6] at hi;by_cases h:i<a.length
 ·have e:(a++b)[i]'(by rw[j6];exact hi)=a[i]:=p4 h;refine⟨by rw[e];exact(ha.2 i h).1,λj hj=>?_⟩;have hj':j<(a[i]).length:=by rw[<-e];exact hj
  obtain⟨U,e1,k⟩:=(ha.2 i h).2 j hj';grind
 ·have h':i-a.length<b.length:=by omega
  have e:(a++b)[i]'(by rw[j6];exact hi)=b[i-a.length]:=z7 (by omega);refine⟨by rw[e];exact(hb.2 _ h').1,λj hj=>?_⟩;have hj':j<(b[i-a.length]).length:=by rw[<-e];exact hj
  obtain⟨U,e1,k⟩:=(hb.2 _ h').2 j hj';refine⟨U,?_,by simp only[e];exact k⟩;have hle:a.length*n<=i*n:=j5 _ (by omega);rw[p9 (by rw[ha.1];omega),ha.1,<-e1]
  congr 1
  rw[Nat.sub_mul];omega
theorem Els.mono{St St':Nat->Prop}{w':World}{n:Nat}{els:List (List SV)}{Vs:List Value}(h:Els St w n els Vs)(hs:∀g,St g->w'.heap[g]? = w.heap[g]?)(hsub:∀g,St g->St' g):Els St' w' n els Vs:=
 ⟨h.1,λi hi=>⟨(h.2 i hi).1,λj hj=>by obtain⟨U,e,k⟩:=(h.2 i hi).2 j hj;exact⟨U,e,k.mono hs hsub⟩⟩⟩
theorem BR.els{Γ':Ctx}{sh:Nat->Option Shp}{w':World}{b g e n:Nat}{v:Bool}{els:List (List SV)}{Vs:List Value}{cur:Array Value}(hg:Γ'.nm b=some g)(hh:w'.heap[g]? = some (.cells cur e (0,0)))(hE:Els Γ'.St w' n els Vs)(hne:¬(v=true/\els=[]))
  (hc:∀q,q<Vs.length->cur[q]? = Vs[q]?) (hl:Vs.length<=cur.size):BR Γ' sh w' b (.arr v e n els):=by
 refine .inr ⟨hne,g,cur,hg,hh,by rw[<-hE.1];exact hl,λi hi=>(hE.2 i hi).1,λi hi j hj=>?_⟩;obtain⟨U,e1,k⟩:=(hE.2 i hi).2 j hj;exact⟨U,by rw[hc _ (j2.1 e1).1];exact e1,k⟩
theorem EL{n m bytes:Nat}(h:n+m<=68719476736)(a:bytes<=512):(n+m)*bytes<=140737488355328:=by have:(n+m)*bytes<=68719476736*512:=Nat.mul_le_mul h a;omega
theorem Js{need cap e:Nat}(h:need<=68719476736):need<=grownCap w need cap e/\grownCap w need cap e<=maxLen:=
 ⟨grownCap_ge _ _ _ _,grownCap_le_maxLen _ _ _ _ (by simp only[maxLen];omega)⟩
theorem CW{olds Vs:List Value}{z:Array Value}{k n m size:Nat}(c:z.size=size)(a:olds.length=n*size)(hV:Vs.length=m*size)(d:n+m<=k) :
  (olds.toArray++Vs.toArray++ab3 z (k-(n+m))).size=k*size/\(∀q,q<(olds++Vs).length->(olds.toArray++Vs.toArray++ab3 z (k-(n+m)))[q]? = (olds++Vs)[q]?):=by
 refine⟨?_,λq b=>?_⟩
 ·simp only[ag5,List.size_toArray,size_zeroCells,c,a,hV,<-k9]
  congr 1;omega
 ·rw[ab5 (by simpa using b)];simp
theorem Eb0{z:Bool}{d:Nat}{b:List (List SV)}{S:Value}(h:VS Γ.St w (.sl z true d b) S):∃A,S = .slice A b.length b.length/\(z=true->A=none/\b=[])/\(z=false->A≠none)/\∀i (h:i<b.length),(b[i]).length=d:=by
 cases h with
 | nil=>exact⟨none,rfl,λ_=>⟨rfl,rfl⟩,by simp,λi h=>by simp at h⟩
 | emp _ _ a cap f e=>
  simp_all
 | sl _ _ g off n cap q j o c e f l m k p=>
  simp_all
theorem KL{t u ty e:Nat}{z:Bool}{els a:List (List SV)}{S X:Value}{A:Option Addr}{sl:List PV}{tmps:Array Value}(l:HR Γ H w)(U:C.P.underlying t=some (.slice e))(hu:SK (C.sh u)=true)(J:(C.ti e).ok=true)
  (hS:S = .slice A els.length els.length) (D:SlV Γ w S els) (hz:z=true->A=none/\els=[]) (j:∀i (h:i<els.length),(els[i]).length=(C.ti e).ks.length) {B:List Value} (y:Pn C.P Γ w (C.ti e).ks.length X a B)
  (I:z=true\/a≠[]) (Q:els.length+a.length<=68719476736) :
  WV C Γ H w sl tmps (x7 #[t,u] ty #[S,X]) (.fl H.length) sl (H++[.arr z e (C.ti e).ks.length (els++a)]):=by
 obtain⟨ud,q,v⟩:=Ye hu;obtain⟨ie,dd,Z,N,hd,L,p,F,O,a0,M,c⟩:=Eu J;subst hS;by_cases G:a=[]
 ·subst G;rcases I with h|h
  ·obtain⟨rfl,rfl⟩:=hz h;subst h;have b:=Av (P:=C.P) (w:=w) (ty:=ty) (n:=0) (cap:=0) (base:=none) U q v N (by rw[c];exact y) (j4 _) (w':=w) rfl;exact⟨_,w,Γ,b,ZU l,Bd0 l rfl (.inl ⟨rfl,rfl⟩),SR.grow (Yq _ l),.flv _ e (C.ti e).ks.length (by rw[K3];rfl),by simp[PV.nms]⟩
  ·exact absurd rfl h
 ·have hm:0<a.length:=af9.2 G;obtain⟨olds,x⟩:=Pn.slice (P:=C.P) D j;have K:olds.take (els.length*(C.ti e).ks.length)=olds:=aa5 (by rw[x.size];exact j4 _);have b:=Fx (P:=C.P) (w:=w) (ty:=ty) (olds:=olds) U q v N L (by rw[c];exact y) (λw' hw=>by have:=x.first els.length (j4 _) w' hw;rw[K] at this;rw[c];exact this) (by omega) (by simp only[maxLen];omega) (EL Q F);obtain⟨f,m⟩:=Js (w:=w) (need:=els.length+a.length) (cap:=els.length) (e:=e) Q;generalize grownCap w (els.length+a.length) els.length e=V at b f m;obtain⟨W,Y⟩:=CW (z:=Z.cells) (by rw[<-p,c]) x.size y.size f;generalize T:olds.toArray++B.toArray++ab3 Z.cells (V-(els.length+a.length))=row at b W Y;have d:(w.drew.alloc (.cells row e)).heap=w.heap.push (.cells row e):=rfl;have hE:=(x.toEls.append y.toEls).mono (w':=w.drew.alloc (.cells row e)) (λg hg=>I8 d (l.stlt g hg)) (λ_ h=>h);have o:¬(z=true/\els++a=[]):=by rintro⟨_,h⟩;simp at h;exact G h.2
  have k:(olds++B).length<=row.size:=by grind
  refine Lb l b d rfl rfl rfl (BR.els (g:=w.heap.size) (cur:=row) (by simp[Ctx.upd]) (I7 d) hE o Y k) (by simp[Blk.nms]) ?_ (by simp[PV.nms]);refine .fl H.length w.heap.size z e (C.ti e).ks.length (els.length+a.length) V ?_ (λ_=>by omega) (by simp[Ctx.upd]) f m ?_
  ·rw[K3];simp[Blk.shp]
  ·simp only[aa8,I7 d,W]
theorem A40{t u ty e b A sz:Nat}{v:Bool}{a d:List (List SV)}{S X:Value}{sl:List PV}{B:Array Value}(D:HR Γ H w)(ht:C.P.underlying t=some (.slice e))(hu:SK (C.sh u)=true)(c0:(C.ti e).ok=true)(hb:H[b]? = some (.arr v A sz a))(b7:Nc C A=false)
  (Q:(v=true/\a=[])\/(A=e/\sz=(C.ti e).ks.length)) (hS:VP Γ (A5 H) w (.fl b) S) {Vs:List Value} (T:Pn C.P Γ w (C.ti e).ks.length X d Vs) (hr:a.length+d.length<=68719476736) :
  WV C Γ H w sl B (x7 #[t,u] ty #[S,X]) (.fl b) (Y2 b sl) ((H.map (Blk.kill b)).set b (.arr v e (C.ti e).ks.length (a++d))):=by
 obtain⟨ud,a4,a5⟩:=Ye hu;obtain⟨ie,dd,zv,V,hd,c4,b0,b3,c6,d0,c5,x⟩:=Eu c0;have f:=(j2.1 hb).1;have K:¬Kn C (A5 H b):=by
  simp only[A5,hb,x5,Blk.shp,Kn,b7];simp
 have c8:b<((H.map (Blk.kill b)).set b (.arr v e (C.ti e).ks.length (a++d))).length:=by simpa using f
 have grow:∀(base:Option Addr) (cap:Nat),S = .slice base a.length cap->cap<a.length+d.length->SlV Γ w S a->(∀i (h:i<a.length),(a[i]).length=(C.ti e).ks.length)->
   WV C Γ H w sl B (x7 #[t,u] ty #[S,X]) (.fl b) (Y2 b sl) ((H.map (Blk.kill b)).set b (.arr v e (C.ti e).ks.length (a++d))):=by
  intro base cap b2 I Y l;subst b2;obtain⟨olds,W⟩:=Pn.slice (P:=C.P) Y l;have c1:olds.take (a.length*(C.ti e).ks.length)=olds:=aa5 (by rw[W.size];exact j4 _);have m:=Fx (P:=C.P) (w:=w) (ty:=ty) (olds:=olds) ht a4 a5 V c4 (by rw[x];exact T) (λw' hw=>by have:=W.first a.length (j4 _) w' hw;rw[c1] at this;rw[x];exact this) I (by simp only[maxLen];omega) (EL hr b3);obtain⟨a0,a9⟩:=Js (w:=w) (need:=a.length+d.length) (cap:=cap) (e:=e) hr;generalize grownCap w (a.length+d.length) cap e=kc at m a0 a9;obtain⟨r1,r2⟩:=CW (z:=zv.cells) (by rw[<-b0,x]) W.size T.size a0;generalize c7:olds.toArray++Vs.toArray++ab3 zv.cells (kc-(a.length+d.length))=row at m r1 r2;have G:(w.drew.alloc (.cells row e)).heap=w.heap.push (.cells row e):=rfl;have N:∀g,Γ.St g->(w.drew.alloc (.cells row e)).heap[g]? = w.heap[g]?:=λg p=>I8 G (D.stlt g p)
  have hE:=(W.toEls.append T.toEls).mono (w':=w.drew.alloc (.cells row e)) N (λ_ h=>h);have b4:0<a.length+d.length:=by omega
  have J:¬(v=true/\a++d=[]):=by rintro⟨_,h⟩;have:=congrArg af2 h;simp at this;simp[this] at b4
  have M:(olds++Vs).length<=row.size:=by grind
  have L:(Γ.re b (some w.heap.size)).nm b=some w.heap.size:=by simp[Ctx.re]
  obtain⟨s1,s2,s3⟩:=Ac0 (C:=C) (y:=.arr v e (C.ti e).ks.length (a++d)) (ng:=some w.heap.size) (w':=w.drew.alloc (.cells row e)) D f K (λg p=>by
    simp only[a8] at p;subst p;refine⟨by rw[G];simp,λhs=>aj1 _ (D.stlt _ hs),λc _ Q=>aj1 _ (D.lt c _ Q).2.1⟩)
   (λg p=>by simp only[a8] at p;subst p;exact .inr (j4 _)) (λk O _=>I8 G O) (by rw[G];simp) rfl rfl rfl
   (BR.els (g:=w.heap.size) (cur:=row) L (I7 G) hE J r2 M) rfl
  refine⟨_,_,_,m,s1,s2,s3 sl B,?_,by simpa[PV.nms] using f⟩;refine .fl b w.heap.size v e (C.ti e).ks.length (a.length+d.length) kc ?_ (λ_=>by omega) L a0 a9 ?_
  ·rw[Zw f,if_pos rfl];simp[Blk.shp]
  ·simp only[aa8,I7 G,r1]
 cases hS with
 | flv _ e2 b1 h'=>
  obtain⟨rfl,_,_,h4⟩:=S8 hb h';obtain rfl:=o7.1 h4;by_cases hn:d=[]
  ·subst hn;have m:=Av (P:=C.P) (w:=w) (ty:=ty) (n:=0) (cap:=0) (base:=none) ht a4 a5 V (by rw[x];exact T) (j4 _) (w':=w) rfl;obtain⟨s1,s2,s3⟩:=Ac0 (C:=C) (y:=.arr true e (C.ti e).ks.length ([]++[])) (ng:=Γ.nm b) (w':=w) D f K (λg p=>⟨(D.lt b g p).2.1,(D.lt b g p).2.2,λc Q Z=>Q (D.inj c b g Z p)⟩)
    (λg p=>.inl p) (λ_ _ _=>rfl) (j4 _) rfl rfl rfl (.inl ⟨rfl,rfl⟩) rfl
   exact⟨_,_,_,m,s1,s2,s3 sl B,.flv b e (C.ti e).ks.length (by rw[Zw f,if_pos rfl];rfl),by simpa[PV.nms] using f⟩
  ·have hm:0<d.length:=af9.2 hn;refine grow none 0 rfl (by simpa using hm) ⟨none,0,rfl,j4 _,aa2 _,λ_=>rfl,λh=>absurd rfl h⟩ (λi h=>by simp at h)
 | fl _ g v' e2 b1 n' cap h' hv p I hm hs=>
  have Y:=Zy (C:=C) D (VP.fl b g v' e2 b1 n' cap h' hv p I hm hs) (show Oz H (.fl b)=some a by simp only[Oz,hb]);obtain⟨rfl,rfl,rfl,rfl⟩:=S8 hb h';have a2:¬(v=true/\a=[]):=by rintro⟨q1,q2⟩;exact hv q1 (by rw[q2];rfl)
  rcases Q with Q|⟨rfl,rfl⟩
  ·exact absurd Q a2
  ·obtain⟨g',cur,a7,hh,M,l,a6⟩:=D.arr' hb a2;rw[p] at a7;cases a7;by_cases F:a.length+d.length<=cap
   ·have b5:cur.size=cap*(C.ti A).ks.length:=by
     have:=hs;simp only[aa8,hh,a8,ad8,true_and] at this;exact this
    have a1:a.length*(C.ti A).ks.length+Vs.length<=cur.size:=by
     rw[T.size,b5,<-k9];exact j5 _ F
    obtain⟨w',r1,r2,r3,r4,r5,r6,r7,r8⟩:=L0 (P:=C.P) (o:=a.length*(C.ti A).ks.length) hh a1 T.one;have m:=Av (P:=C.P) (w:=w) (ty:=ty) (n:=a.length) (cap:=cap) (base:=some ⟨g,0,none⟩) ht a4 a5 V (by rw[x];exact T) F (w':=w') (by simp only;rw[M4,x,aa7];exact r1);have N:∀k,Γ.St k->w'.heap[k]? = w.heap[k]?:=λk O=>r3 k (λe=>(D.lt b g p).2.2 (e▸O))
    have W:Els Γ.St w (C.ti A).ks.length a (cur.toList.take (a.length*(C.ti A).ks.length)):=by
     refine⟨by simp;omega,λi V=>⟨l i V,λj hj=>?_⟩⟩;obtain⟨U,e1,k⟩:=a6 i V j hj;refine⟨U,?_,k⟩;have c9:j<(C.ti A).ks.length:=by rw[<-l i V];exact hj
     have:(i+1)*(C.ti A).ks.length<=a.length*(C.ti A).ks.length:=j5 _ V;rw[k9] at this;rw[x9,if_pos (by omega)];simpa using e1
    have hE:=(W.append T.toEls).mono (w':=w') N (λ_ h=>h);have J:¬(v=true/\a++d=[]):=by rintro⟨h1,h⟩;simp at h;exact a2 ⟨h1,h.1⟩
    have L:(Γ.re b (some g)).nm b=some g:=by simp[Ctx.re]
    have a3:(cur.toList.take (a.length*(C.ti A).ks.length)).length=a.length*(C.ti A).ks.length:=W.1;obtain⟨s1,s2,s3⟩:=Ac0 (C:=C) (y:=.arr v A (C.ti A).ks.length (a++d)) (ng:=some g) (w':=w') D f K (λk O=>by
      simp only[a8] at O;subst O;refine⟨by have:=(D.lt b g p).2.1;omega,(D.lt b g p).2.2,λc Q Z=>Q (D.inj c b g Z p)⟩)
     (λk O=>by simp only[a8] at O;subst O;exact .inl p) (λk O b6=>r3 k (λe=>b6 (e▸p))) (by omega) r5 r6 r7
     (BR.els L r2 hE J (λq hq=>by
      rw[j6,a3] at hq;simp only[ab2];rw[O5 _ _ _ (by simpa using a1)];by_cases c2:q<a.length*(C.ti A).ks.length
      ·rw[if_neg (by omega),o8 (by omega),x9,if_pos c2]
      ·rw[if_pos (by omega),p9 (by omega),a3]) (by rw[j6,a3];simpa[D8] using a1)) rfl
    refine⟨_,_,_,m,s1,s2,s3 sl B,?_,by simpa[PV.nms] using f⟩;refine .fl b g v A (C.ti A).ks.length (a.length+d.length) cap ?_ (λc3=>?_) L F hm ?_
    ·rw[Zw f,if_pos rfl];simp[Blk.shp]
    ·have:=hv c3;omega
    ·rw[r8];exact hs
   ·exact grow _ cap rfl (by omega) Y l
theorem PC{t u ty:Nat}{sl:List PV}{s x:PV}{S X:Value}{k:PV->List PV->List Blk->Option R}{tmps:Array Value}(j:HR Γ H w)(F:SK (C.sh u)=true)(h:Rv C t sl s x H k=some r)(n:VP Γ (A5 H) w s S)(J:VP Γ (A5 H) w x X) :
  ∃v m H',k v m H'=some r/\WV C Γ H w sl tmps (x7 #[t,u] ty #[S,X]) v m H':=by
 unfold Rv at h;split at h
 ·rename_i e B;have D:=K5 B;split at h
  ·rename_i a;simp only[b9] at a;obtain⟨a,l⟩:=a;split at h
   ·rename_i G f;obtain⟨L,p⟩:=TW (C:=C) j J l f;split at h
    ·obtain⟨c,g⟩:=C3 h;simp only[G2,decide_eq_true_eq] at c;obtain rfl:=n.inv_nsl;have:=KL (C:=C) (t:=t) (u:=u) (ty:=ty) (z:=true) (els:=[]) (A:=none) (sl:=sl) (tmps:=tmps) j D F a rfl ⟨none,0,rfl,j4 _,aa2 _,λ_=>rfl,λh=>absurd rfl h⟩ (λ_=>⟨rfl,rfl⟩) (λi h=>by simp at h) p (.inl rfl) (by simpa using c);exact⟨_,_,_,g,this⟩
    ·rename_i z N els;split at h
     ·rename_i y;subst y;obtain⟨c,g⟩:=C3 h;simp only[G2,b9,aa9,decide_eq_true_eq,ac2,List.isEmpty_eq_false_iff] at c;obtain⟨A,rfl,K,_,d⟩:=Eb0 n.inv_s;have o:=Zy (C:=C) j n (show Oz H (.s (.sl z true (C.ti e).ks.length els))=some els from rfl);exact⟨_,_,_,g,KL (C:=C) j D F a rfl o K d p c.1 c.2⟩
     ·cases h
    ·rename_i b;split at h
     ·rename_i v M O els I;split at h
      ·rename_i q;simp only[b9,ac2,aa9,decide_eq_true_eq,ac3] at q;obtain⟨c,g⟩:=C3 h;simp only[G2,decide_eq_true_eq] at c;exact⟨_,_,_,g,A40 (C:=C) j D F a I q.1 q.2.symm n p c⟩
      ·cases h
     ·cases h
    ·cases h
   ·cases h
  ·cases h
 ·cases h
end
section
variable {W R : Type} {r : R} {C : Cfg} {I : W -> (Nat -> Prop) -> (Nat -> Prop) -> World -> Prop} {Y : Ctx} {Q : Nat -> Prop} {L : St W} {a : Act} {w : World} {Z : F6} {J : Yh W} {o : Oper} {k : St W -> Option R}
theorem SI.opnd(S:SI C I Y Q L a.tmps w)(x:Operand):VP Y (A5 L.hp) w (opnd C L.sl x) (a.eval x)/\∀c∈(opnd C L.sl x).nms,c<L.hp.length:=
 Bd6 (ds:=a.defers) S.g S.sr x
def Dc5(C:Cfg)(I:W->(Nat->Prop)->(Nat->Prop)->World->Prop)(Y:Ctx)(Q:Nat->Prop)(L:St W)(a:Act)(w:World)(o:Oper)(k:St W->Option R)(r:R):Prop:=
 ∃V b,k b=some r/\(∀w':World,Ext w w'->(execOp a.eval o).run C.P w' = .ok (.value V) w')/\SI C I Y Q b (a.put o.dst V).tmps w/\Stp C Y L.hp w noΦ Y b.hp w noΦ
theorem SI.put(S:SI C I Y Q L a.tmps w){v:PV}{V:Value}(hv:VP Y (A5 L.hp) w v V)(hn:∀c∈v.nms,c<L.hp.length):SI C I Y Q { L with sl:=Cg o.dst v L.sl } (a.put o.dst V).tmps w:=
 ⟨S.hr,S.sr.put (ds:=a.defers) o hv hn,S.g,S.inv,S.dis⟩
theorem QV.out{m:Sem Value}{v:PV}(S:SI C I Y Q L a.tmps w)(h:QV C.P Y L.hp w m v)(hk:k { L with sl:=Cg o.dst v L.sl } = some r)(he:execOp a.eval o=(do pure (.value (<-m)))):Dc5 C I Y Q L a w o k r:=by obtain⟨hn,V,hv,hq⟩:=h;refine⟨V,_,hk,λw' hw=>?_,S.put hv hn,Stp.refl S.hr⟩;rw[he];simp[hq w' hw]
theorem QV0.out{m:Sem Value}{v:PV}(S:SI C I Y Q L a.tmps w)(h:QV0 C.P Y L.hp w m v)(hk:k { L with sl:=Cg o.dst v L.sl } = some r)(he:execOp a.eval o=(do pure (.value (<-m)))) :
  ∃V st',k st'=some r/\(∀w':World,(execOp a.eval o).run C.P w' = .ok (.value V) w')/\SI C I Y Q st' (a.put o.dst V).tmps w/\Stp C Y L.hp w noΦ Y st'.hp w noΦ:=by
 obtain⟨hn,V,hv,hq⟩:=h;refine⟨V,_,hk,λw'=>?_,S.put hv hn,Stp.refl S.hr⟩;rw[he];simp[hq w']
theorem QV.pure{P:Program}{H:List Blk}{v:PV}{V:Value}(hv:VP Y (A5 H) w v V)(hn:∀c∈v.nms,c<H.length):QV P Y H w (pure V) v:=⟨hn,V,hv,λ_ _=>rfl⟩
theorem SI.ov(S:SI C I Y Q L a.tmps w)(x:Option Operand):OV Y (A5 L.hp) w (Qx (Go.Proofs.YtkegcjamihlmmaaGreatDoor.E.opnd C L.sl) x) (x.map a.eval):=by
 cases x with
 | none=>trivial
 | some x=>exact(S.opnd x).1
theorem Ep{b c:Type}{f:b->c}{x:Option b}:(Qx f x).isSome=x.isSome:=by cases x<;>rfl
theorem SI.parts(S:SI C I Y Q L a.tmps w):∀(ps:List (Nat × Operand)),PR Y (A5 L.hp) w (ps.map λ(i,x)=>(i,Go.Proofs.YtkegcjamihlmmaaGreatDoor.E.opnd C L.sl x)) (ps.map λ(i,x)=>(i,a.eval x))/\∀p∈(ps.map λ(i,x)=>(i,Go.Proofs.YtkegcjamihlmmaaGreatDoor.E.opnd C L.sl x)),∀c∈p.2.nms,c<L.hp.length
 | []=>⟨trivial,by simp⟩
 | (i,x)::ps=>by
  obtain⟨h1,h2⟩:=S.parts ps;refine⟨⟨rfl,(S.opnd x).1,h1⟩,λp hp=>?_⟩;rcases ac0.1 hp with rfl|hp
  ·exact(S.opnd x).2
  grind
theorem SI.list(S:SI C I Y Q L a.tmps w)(xs:Array Operand):CR Y (A5 L.hp) w (xs.toList.map (Go.Proofs.YtkegcjamihlmmaaGreatDoor.E.opnd C L.sl)) (xs.map a.eval)/\∀c∈C8 (xs.toList.map (Go.Proofs.YtkegcjamihlmmaaGreatDoor.E.opnd C L.sl)),c<L.hp.length:=by
 refine⟨⟨by simp,λj hj=>?_⟩,λc hc=>?_⟩
 ·have hj':j<xs.size:=by simpa using hj
  exact⟨a.eval xs[j],by simp[hj'],by simpa using(S.opnd xs[j]).1⟩
 ·obtain⟨j,hj,hm⟩:=C0.1 hc;have hj':j<xs.size:=by simpa using hj
  exact(S.opnd xs[j]).2 c (by simpa using hm)
theorem Bc8{f:Nat}{x y:List PV}{A B:Array Value}{sh:Nat->Option Shp}(c:CR Y sh w x A)(d:CR Y sh w y B):VP Y sh w (Cx1 (.func f) x y) (.func (.func f) A B):=by
 unfold Cx1;split
 ·rename_i xs p m n;obtain⟨g,h⟩:=Ce (As:=A.toList) m (by simpa using c.1.symm) (λj b=>by obtain⟨U,e,k⟩:=c.2 j b;exact⟨U,by simpa using e,k⟩);obtain⟨i,l⟩:=Ce (As:=B.toList) n (by simpa using d.1.symm) (λj b=>by obtain⟨U,e,k⟩:=d.2 j b;exact⟨U,by simpa using e,k⟩);refine .s _ _ (.fn _ xs p A B (λj=>A.getD j undef) (λj=>B.getD j undef) (by simp) (by simpa using g.symm) (by simpa using i.symm) (λj b=>?_) (λj b=>?_) (λj b=>?_) (λj b=>?_))
  ·simp_all
  ·simp_all
  ·obtain⟨U,e,k⟩:=h j b;simp_all
  ·obtain⟨U,e,k⟩:=l j b;simp_all
 ·refine .fnr _ x y A B (λj=>A.getD j undef) (λj=>B.getD j undef) (by simp) c.1 d.1 (λj b=>?_) (λj b=>?_) (λj b=>?_) (λj b=>?_)
  ·obtain⟨U,e,_⟩:=c.2 j b;rw[p5,e];rfl
  ·obtain⟨U,e,_⟩:=d.2 j b;rw[p5,e];rfl
  ·obtain⟨U,e,k⟩:=c.2 j b;rw[p5,e];exact k
  ·obtain⟨U,e,k⟩:=d.2 j b;rw[p5,e];exact k
theorem Cx2{f:Fn}{x y:List PV}:∀c∈(Cx1 f x y).nms,c∈C8 x\/c∈C8 y:=by
 intro c b;unfold Cx1 at b;split at b
 ·simp[PV.nms] at b
 ·simpa[PV.nms] using b
theorem D89{c d:Type}{f:c->d}{xs:Array c}{x:d}(h:xs.toList.map f=[x]):∃b,xs = #[b]/\f b=x:=by obtain⟨l⟩:=xs;simp_all
theorem Cq4{e g:Type}{f:e->g}{xs:Array e}{x y:g}(h:xs.toList.map f=[x,y]):∃c d,xs = #[c,d]/\f c=x/\f d=y:=by
 obtain⟨l⟩:=xs
 match l,h with
 | [a,b],h=>exact⟨a,b,rfl,by simpa using h⟩
theorem Co{ρ:Operand->Value}{c:Call}{b:Builtin}(e:o.op = .call c)(d:c.callee = .builtin b) :
  ∃f,execOp ρ o=builtin b c.argTypes o.type f (c.args.map ρ):=by
 simp only[execOp,e,resolve,d,pure_bind,invoke];exact⟨_,rfl⟩
theorem SI.args_ints(S:SI C I Y Q L a.tmps w){xs:Array Operand}{kd:IntKind}{x y:Int}(h:xs.toList.map (Go.Proofs.YtkegcjamihlmmaaGreatDoor.E.opnd C L.sl)=[.s (.int kd x),.s (.int kd y)]):xs.map a.eval = #[.int kd x,.int kd y]:=by obtain⟨x0,y0,rfl,e1,e2⟩:=Cq4 h;have h1:=(S.opnd x0).1;have h2:=(S.opnd y0).1;rw[e1] at h1;rw[e2] at h2;simp[h1.inv_int,h2.inv_int]
theorem Sj(m:P7 C o.op=true)(h:opK C Z J o L k=some r)(S:SI C I Y Q L a.tmps w):Dc5 C I Y Q L a w o k r:=by
 unfold opK at h;dsimp only at h;split at h
 ·rename_i x d;exact(QV.pure (P:=C.P) (S.opnd x).1 (S.opnd x).2).out S h (by simp[execOp,d])
 ·rename_i x d;split at h
  ·rename_i q;have j:=(S.opnd x).1;rw[q] at j;refine⟨a.eval x,_,h,λw' hw=>by simp only[execOp,d,w9],⟨Bd0 S.hr rfl (.inl ⟨rfl,rfl⟩),?_,S.g,S.inv,S.dis⟩,ZU S.hr⟩;refine SR.put (ds:=a.defers) (SR.grow (Yq _ S.hr) S.sr) o ?_ (by simp[PV.nms]);rw[j.inv_nsl];exact .flv _ _ _ (by rw[K3];rfl)
  ·exact(QV.pure (P:=C.P) (S.opnd x).1 (S.opnd x).2).out S h (by simp[execOp,d])
 ·rename_i c x y d;split at h
  ·rename_i t u;have j:=(S.opnd c).1;rw[u] at j;have hb:=j.inv_bool;have z:execOp a.eval o=(do Pure.pure (Next.value (if <-asBool (a.eval c) then a.eval x else a.eval y))):=by simp[execOp,d]
   cases t with
   | true=>
    simp only[Ku,cond_true] at h;refine⟨_,_,h,λw' hw=>?_,S.put (S.opnd x).1 (S.opnd x).2,Stp.refl S.hr⟩;rw[z,hb];simp[asBool]
   | false=>
    simp only[Ku,cond_false] at h;refine⟨_,_,h,λw' hw=>?_,S.put (S.opnd y).1 (S.opnd y).2,Stp.refl S.hr⟩;rw[z,hb];simp[asBool]
  ·cases h
 ·rename_i d;rw[d] at m;simp[P7] at m
 ·rename_i d;rw[d] at m;simp[P7] at m
 ·rename_i t parts d;obtain⟨M,N⟩:=S.parts parts.toList;obtain⟨v,l,j⟩:=XR (ps:=parts.map λ(i,x)=>(i,a.eval x)) h (by rw[ah0];exact M) N;exact j.out S l (by simp[execOp,d])
 ·rename_i d;rw[d] at m;simp[P7] at m
 ·rename_i t x d;obtain⟨v,l,j⟩:=FE S.hr h (S.opnd x).1;exact j.out S l (by simp[execOp,d])
 ·rename_i d;rw[d] at m;simp[P7] at m
 ·rename_i x d;split at h
  ·rename_i hn;have j:=(S.opnd x).1;refine⟨a.eval x,_,h,λw' hw=>?_,S.put j (S.opnd x).2,Stp.refl S.hr⟩;simp only[execOp,d];unfold Cx8 at hn;split at hn
   ·rename_i q;rw[q] at j;obtain⟨ad,e⟩:=j.inv_ptr;simp_all
   ·rename_i q;rw[q] at j;obtain⟨ad,e⟩:=j.inv_sp;simp_all
   ·rename_i q;rw[q] at j;obtain⟨A,B,e⟩:=j.inv_fn;simp_all
   ·rename_i q;rw[q] at j;obtain⟨A,B,e⟩:=j.inv_fnr;simp_all
   grind
  ·cases h
 ·rename_i op t x y _ d;obtain⟨v,l,j⟩:=KQ (ox:=x) (oy:=y) h (S.opnd x).1 (S.opnd y).1;exact j.qv.out S l (by simp only[execOp,d])
 ·rename_i op t x d;obtain⟨v,l,j⟩:=Cj9 (P:=C.P) h (S.opnd x).1;exact j.out S l (by simp only[execOp,d])
 ·rename_i a7 a5 x d;split at h
  ·rename_i e G;rw[d] at m;simp[P7,G] at m
  ·obtain⟨v,l,j⟩:=Ak0 S.hr h (S.opnd x).1;exact j.out S l (by simp only[execOp,d])
 ·rename_i g x y d;obtain⟨M,N⟩:=S.list x;obtain⟨h3,h4⟩:=S.list y;exact(QV.pure (P:=C.P) (Bc8 M h3) (λc u=>(Cx2 c u).elim (N c) (h4 c))).out S h (by simp[execOp,d,Instr.makeFunc])
 ·rename_i d;rw[d] at m;simp[P7] at m
 ·rename_i t x lo hi mx d;have T:=S.ov lo;have O:=S.ov hi;have X:=S.ov mx;split at h
  ·rename_i n e b G q;split at h
   ·rename_i v e' sz a6 hb;split at h
    ·rename_i u;obtain⟨M,N⟩:=C3 h;simp only[decide_eq_true_eq] at M;have j:=(S.opnd x).1;rw[q] at j;obtain⟨v,l,j⟩:=Ph S.hr N G u.1 u.2.1 hb M (by omega) (by simp only[maxLen];omega) j T O X;exact j.qv.out S l (by simp only[execOp,d])
    grind
   ·cases h
  ·split at h
   ·rename_i hm;obtain⟨v,l,j⟩:=Zz S.hr h (S.opnd x).1 (S.opnd x).2 T O X (by rw[Ep,Ep];intro h;simpa[h] using hm);exact j.qv.out S l (by simp only[execOp,d])
   ·cases h
 ·rename_i t x f d;obtain⟨v,l,j⟩:=Lk h (S.opnd x).1 (S.opnd x).2;exact j.qv.out S l (by simp only[execOp,d])
 ·rename_i t x f d;obtain⟨v,l,j⟩:=ZA h (S.opnd x).1 (S.opnd x).2;exact j.out S l (by simp only[execOp,d])
 ·rename_i t x i d;obtain⟨v,l,j⟩:=Ln S.hr h (S.opnd x).1 (S.opnd i).1 (S.opnd x).2;exact j.qv.out S l (by simp only[execOp,d])
 ·rename_i t x i d;obtain⟨v,l,j⟩:=ZK h (S.opnd x).1 (S.opnd i).1 (S.opnd x).2;exact j.out S l (by simp only[execOp,d])
 ·rename_i d;rw[d] at m;simp[P7] at m
 ·rename_i d;rw[d] at m;simp[P7] at m
 ·rename_i t i d;split at h
  ·rename_i vs q;split at h
   ·rename_i v a3;have j:=(S.opnd t).1;have hn:=(S.opnd t).2;rw[q] at j hn;obtain⟨A,e,hA,u⟩:=j.inv_tup;obtain⟨V,a1⟩:=j2.1 a3;obtain⟨U,e1,k1⟩:=u i V;rw[a1] at k1;refine⟨U,_,h,λw' hw=>?_,S.put k1 (λc u=>hn c (by simp only[PV.nms];exact C0.2 ⟨i,V,by rw[a1];exact u⟩)),Stp.refl S.hr⟩;simp only[execOp,d,e,Instr.extract,e1];rfl
   ·cases h
  ·cases h
 ·rename_i c d;split at h
  ·rename_i b p;unfold Lf at h;dsimp only at h;split at h
   ·rename_i t D x a2 F;obtain⟨x0,a4,rfl⟩:=D89 F;obtain⟨v,l,j⟩:=Bb5 (ts:=D) (ty:=o.type) S.hr h (S.opnd x0).1;refine j.out S l ?_;obtain⟨cs,z⟩:=Co (ρ:=a.eval) d p;have a0:c.argTypes=(t::D).toArray:=by rw[<-a2]
    rw[z,a4,a0];simp[builtin]
   ·rw[d] at m;simp[P7,p] at m
   ·rw[d] at m;simp[P7,p] at m
   ·obtain⟨v,x,y,kd,l,K,j⟩:=Tk (P:=C.P) (Γ:=Y) (H:=L.hp) (w:=w) c.argTypes o.type h;refine j.out S l ?_;obtain⟨cs,z⟩:=Co (ρ:=a.eval) d p;rw[z,S.args_ints K];simp[builtin]
   ·obtain⟨v,x,y,kd,l,K,j⟩:=Tk (P:=C.P) (Γ:=Y) (H:=L.hp) (w:=w) c.argTypes o.type h;refine j.out S l ?_;obtain⟨cs,z⟩:=Co (ρ:=a.eval) d p;rw[z,S.args_ints K];simp[builtin]
   ·cases h
  ·rename_i p;rw[d] at m;simp[P7,p] at m
  ·cases h
 ·cases h
theorem B56{t q:Nat}{op:BinOp}{x y:Operand}(c:o.op = .binOp op t x y q)(h:opK C Z J o L k=some r)(S:SI C I Y Q L a.tmps w) :
  ∃V b,k b=some r/\(∀w':World,(execOp a.eval o).run C.P w' = .ok (.value V) w')/\SI C I Y Q b (a.put o.dst V).tmps w/\Stp C Y L.hp w noΦ Y b.hp w noΦ:=by
 simp only[opK,c] at h;obtain⟨v,d,e⟩:=KQ (ox:=x) (oy:=y) h (S.opnd x).1 (S.opnd y).1;exact e.out S d (by simp only[execOp,c])
theorem Al7{t f:Nat}{x:Operand}(c:o.op = .fieldAddr t x f)(h:opK C Z J o L k=some r)(S:SI C I Y Q L a.tmps w) :
  ∃V b,k b=some r/\(∀w':World,(execOp a.eval o).run C.P w' = .ok (.value V) w')/\SI C I Y Q b (a.put o.dst V).tmps w/\Stp C Y L.hp w noΦ Y b.hp w noΦ:=by
 simp only[opK,c] at h;obtain⟨v,d,e⟩:=Lk h (S.opnd x).1 (S.opnd x).2;exact e.out S d (by simp only[execOp,c])
theorem An7{t:Nat}{x i:Operand}(c:o.op = .indexAddr t x i)(h:opK C Z J o L k=some r)(S:SI C I Y Q L a.tmps w) :
  ∃V b,k b=some r/\(∀w':World,(execOp a.eval o).run C.P w' = .ok (.value V) w')/\SI C I Y Q b (a.put o.dst V).tmps w/\Stp C Y L.hp w noΦ Y b.hp w noΦ:=by
 simp only[opK,c] at h;obtain⟨v,d,e⟩:=Ln S.hr h (S.opnd x).1 (S.opnd i).1 (S.opnd x).2;exact e.out S d (by simp only[execOp,c])
theorem Ax7{t:Nat}{x:Operand}{y u z:Option Operand}(c:o.op = .slice t x y u z)(h:opK C Z J o L k=some r)(S:SI C I Y Q L a.tmps w) :
  ∃V d,k d=some r/\(∀w':World,(execOp a.eval o).run C.P w' = .ok (.value V) w')/\SI C I Y Q d (a.put o.dst V).tmps w/\Stp C Y L.hp w noΦ Y d.hp w noΦ:=by
 simp only[opK,c] at h;have i:=S.ov y;have g:=S.ov u;have j:=S.ov z;split at h
 ·rename_i n e b m G;split at h
  ·rename_i v H K A D;split at h
   ·rename_i q;obtain⟨p,B⟩:=C3 h;simp only[decide_eq_true_eq] at p;have f:=(S.opnd x).1;rw[G] at f;obtain⟨v,l,f⟩:=Ph S.hr B m q.1 q.2.1 D p (by omega) (by simp only[maxLen];omega) f i g j;exact f.out S l (by simp only[execOp,c])
   ·cases h
  ·cases h
 ·split at h
  ·rename_i F;obtain⟨v,l,f⟩:=Zz S.hr h (S.opnd x).1 (S.opnd x).2 i g j (by rw[Ep,Ep];intro h;simpa[h] using F);exact f.out S l (by simp only[execOp,c])
  ·cases h
end
def CI:Op->Bool
 | .call c=>match c.callee with
  | .builtin _=>false
  | _=>true
 | _=>false
section
variable {W R : Type} {r : R} {C : Cfg} {I : W -> (Nat -> Prop) -> (Nat -> Prop) -> World -> Prop} {Q : Ctx} {Y : Nat -> Prop} {L : St W} {a : Act} {w : World} {U : F6} {J : Yh W} {o : Oper} {k : St W -> Option R}
def Dc3(C:Cfg)(I:W->(Nat->Prop)->(Nat->Prop)->World->Prop)(Q:Ctx)(Y:Nat->Prop)(L:St W)(a:Act)(w:World)(o:Oper)(k:St W->Option R)(r:R):Prop:=
 ∃V w' Γ' b,k b=some r/\((execOp a.eval o).run C.P w = .ok (.value V) w'\/(V=undef/\(execOp a.eval o).run C.P w = .ok .skip w'))/\SI C I Γ' Y b (a.put o.dst V).tmps w'/\Stp C Q L.hp w Y Γ' b.hp w' Y
theorem Stp.lift{Γ':Ctx}{H H':List Blk}{w':World}(h:Stp C Q H w noΦ Γ' H' w' noΦ)(Y:Nat->Prop):Stp C Q H w Y Γ' H' w' Y:=
 ⟨h.os,h.tape,h.output,h.size,h.sub,h.stnew,h.own,λ_ h=>.inl h,λg hg hn _=>h.frame g hg hn (λx=>x),h.yv,h.len,h.keep⟩
theorem Dc5.loud(h:Dc5 C I Q Y L a w o k r):Dc3 C I Q Y L a w o k r:=by obtain⟨V,st',h1,h2,h3,h4⟩:=h;exact⟨V,w,Q,st',h1,.inl (h2 w (Ext.refl w)),h3,h4.lift Y⟩
theorem SI.after(hI:HI I)(S:SI C I Q Y L a.tmps w){w':World}{Γ':Ctx}{H':List Blk}{sl':List PV}{v:PV}{V:Value}(h:Stp C Q L.hp w noΦ Γ' H' w' noΦ)(hr:HR Γ' H' w')(hs:SR Q L.hp w L.sl a.tmps->SR Γ' H' w' sl' a.tmps)(hv:VP Γ' (A5 H') w' v V)(hn:∀c∈v.nms,c<H'.length) :
  SI C I Γ' Y { sl:=Cg o.dst v sl',hp:=H',s:=L.s } (a.put o.dst V).tmps w':=
 S.step hI (h.lift Y) (λg hg=>h.frame g (hI.foot _ _ _ _ S.inv g hg).1 (λb hb=>S.dis b g hb hg) (λx=>x)) hr ((hs S.sr).put (ds:=a.defers) o hv hn)
theorem WV.out{m:Sem Value}{v:PV}{sl':List PV}{H':List Blk}(hI:HI I)(S:SI C I Q Y L a.tmps w)(h:WV C Q L.hp w L.sl a.tmps m v sl' H')(hk:k { sl:=Cg o.dst v sl',hp:=H',s:=L.s } = some r)(he:execOp a.eval o=(do pure (.value (<-m)))):Dc3 C I Q Y L a w o k r:=by obtain⟨V,w',Γ',h1,h2,h3,h4,h5,h6⟩:=h;refine⟨V,w',Γ',_,hk,.inl ?_,S.after hI h2 h3 h4 h5 h6,h2.lift Y⟩;simp_all
theorem WV.outU{m:Sem Unit}{v:PV}{sl':List PV}{H':List Blk}(hI:HI I)(S:SI C I Q Y L a.tmps w)(h:WV C Q L.hp w L.sl a.tmps (do m;pure undef) v sl' H')(hk:k { sl:=Cg o.dst v sl',hp:=H',s:=L.s } = some r)(he:execOp a.eval o=(do m;pure .skip)):Dc3 C I Q Y L a w o k r:=by
 obtain⟨V,w',Γ',h1,h2,h3,h4,h5,h6⟩:=h;have key:V=undef/\m.run C.P w = .ok () w':=by
  simp only[v8] at h1;cases hm:m.run C.P w with
  | ok u w1=>rw[hm] at h1;simp at h1;exact⟨h1.1.symm,by rw[h1.2]⟩
  | halt x w1=>rw[hm] at h1;simp[af4] at h1
 refine⟨V,w',Γ',_,hk,.inr ⟨key.1,?_⟩,S.after hI h2 h3 h4 h5 h6,h2.lift Y⟩;simp_all
theorem Ap8(F:HI I)(hq:CI o.op=false)(h:opK C U J o L k=some r)(S:SI C I Q Y L a.tmps w):Dc3 C I Q Y L a w o k r:=by
 by_cases g:P7 C o.op=true
 ·exact(Sj g h S).loud
 have h0:=h;unfold opK at h;dsimp only at h;split at h
 ·rename_i f;exact absurd (by rw[f];rfl) g
 ·rename_i f;exact absurd (by rw[f];rfl) g
 ·rename_i f;exact absurd (by rw[f];rfl) g
 ·rename_i e f;by_cases B:(C.ti e).ok=true
  ·obtain⟨i,z,hi,hz,X,O⟩:=Ov (Γ:=Q) (sh:=A5 L.hp) (w:=w) B;obtain⟨v,H',A,j⟩:=KR (V:=z) (sl:=L.sl) (tmps:=a.tmps) (m:=aj8 e true (.tuple #[])) S.hr h O (by rw[AM];simp) (by simp[aj8,zeroValue,typeInfo,hi,hz,newVar,newRow]);exact j.out F S A (by simp only[execOp,f])
  ·simp[GJ,B] at h
 ·rename_i e x f;split at h
  ·rename_i G;by_cases B:(C.ti e).ok=true
   ·obtain⟨i,hi,X,a0⟩:=N1 B;have M:(opnd C L.sl x).cells≠[]:=by intro e;rw[e] at G;simp at G;omega
    obtain⟨v,H',A,j⟩:=KR (V:=a.eval x) (sl:=L.sl) (tmps:=a.tmps) (m:=Instr.box e (a.eval x)) S.hr h ((S.opnd x).1.cells' M) (λc hc=>(S.opnd x).2 c (PV.cells_nms c hc)) (by simp[Instr.box,newVar,newRow]);exact j.out F S A (by simp only[execOp,f])
   ·simp[GJ,B] at h
  ·cases h
 ·rename_i f;exact absurd (by rw[f];rfl) g
 ·rename_i t len parts f;obtain⟨h1,h2⟩:=S.parts parts.toList;obtain⟨v,H',A,j,_⟩:=Jn (ps:=parts.map λ(i,x)=>(i,a.eval x)) (sl:=L.sl) (tmps:=a.tmps) S.hr h (by rw[ah0];exact h1);exact j.out F S A (by simp only[execOp,f])
 ·rename_i f;exact absurd (by rw[f];rfl) g
 ·rename_i t x y f;obtain⟨H',A,j⟩:=Ae2 (sl:=L.sl) (tmps:=a.tmps) S.hr h (S.opnd x).1 (S.opnd y).1 (S.opnd y).2;exact j.outU F S A (by simp only[execOp,f])
 ·rename_i f;exact absurd (by rw[f];rfl) g
 ·rename_i f;exact absurd (by rw[f];rfl) g
 ·rename_i f;exact absurd (by rw[f];rfl) g
 ·rename_i a3 a1 x f;split at h
  ·obtain⟨v,A,j⟩:=XS (sl:=L.sl) (tmps:=a.tmps) S.hr h (S.opnd x).1;exact j.out F S A (by simp only[execOp,f])
  ·rename_i M;refine absurd ?_ g;rw[f];simp only[P7]
   done
 ·rename_i f;exact absurd (by rw[f];rfl) g
 ·rename_i t l c f;obtain⟨v,H',A,j⟩:=DL (sl:=L.sl) (tmps:=a.tmps) S.hr h (S.opnd l).1 (S.opnd c).1;exact j.out F S A (by simp only[execOp,f])
 ·rename_i f;exact absurd (by rw[f];rfl) g
 ·rename_i f;exact absurd (by rw[f];rfl) g
 ·rename_i f;exact absurd (by rw[f];rfl) g
 ·rename_i f;exact absurd (by rw[f];rfl) g
 ·rename_i f;exact absurd (by rw[f];rfl) g
 ·rename_i t x f;split at h
  ·rename_i l Z;split at h
   ·rename_i T;have j:=(S.opnd x).1;rw[Z] at j;obtain⟨s,e,rfl⟩:=j.inv_str;have:=Cz8 (C:=C) (s:=s) (sl:=L.sl) (tmps:=a.tmps) S.hr (Kt T);exact this.out F S h (by simp only[execOp,f,e])
   ·cases h
  ·cases h
 ·rename_i it f;split at h
  ·rename_i b Z;have j:=(S.opnd it).1;rw[Z] at j;split at h
   ·rename_i l p hb;by_cases N:p<l.length
    ·simp only[N,decide_true,Ku,cond_true] at h;have:=Dk0 (C:=C) (ty:=o.type) (sl:=L.sl) (tmps:=a.tmps) S.hr j hb N;exact this.out F S h (by simp only[execOp,f])
    ·simp only[N,decide_false,Ku,cond_false] at h;have:=Ap3 (C:=C) (ty:=o.type) S.hr j hb N;exact(this.out S h (by simp only[execOp,f])).loud
   ·cases h
  ·cases h
 ·rename_i f;exact absurd (by rw[f];rfl) g
 ·rename_i c f;split at h
  ·rename_i b q;unfold Lf at h;dsimp only at h;split at h
   ·exact absurd (by rw[f];simp[P7,q]) g
   ·rename_i t u s x H n;obtain⟨s0,x0,K,rfl,rfl⟩:=Cq4 n;have D:c.argTypes=[t,u].toArray:=by rw[<-H]
    split at h
    ·rename_i hu;obtain⟨v,a2,H',A,j⟩:=PC (ty:=o.type) (tmps:=a.tmps) S.hr hu h (S.opnd s0).1 (S.opnd x0).1;refine j.out F S A ?_;obtain⟨cs,P⟩:=Co (ρ:=a.eval) f q;rw[P,K,D];simp[builtin]
    grind
   ·rename_i t u d x H n;obtain⟨s0,x0,K,rfl,rfl⟩:=Cq4 n;have D:c.argTypes=[t,u].toArray:=by rw[<-H]
    obtain⟨v,H',A,j⟩:=Ak1 (u:=u) (ty:=o.type) (sl:=L.sl) (tmps:=a.tmps) S.hr h (S.opnd s0).1 (S.opnd x0).1;refine j.out F S A ?_;obtain⟨cs,P⟩:=Co (ρ:=a.eval) f q;rw[P,K,D];simp[builtin]
   ·exact absurd (by rw[f];simp[P7,q]) g
   ·exact absurd (by rw[f];simp[P7,q]) g
   ·cases h
  ·rename_i q;rw[f] at hq;simp[CI,q] at hq
  ·cases h
 ·cases h
end
theorem DU(f:Nat->Nat)(l:List PV):rnL f l=l.map (PV.rn f):=by
 induction l with
 | nil=>rfl
 | cons v r a=>simp[rnL,a]
theorem Jc(H:List Blk)(l:List PV):N5 H l=l.map (PV.snap H):=by
 induction l with
 | nil=>rfl
 | cons v r a=>simp[N5,a]
theorem Hu{l:List PV}(h:Qg l=true):∀v∈l,v.clean=true:=by
 induction l with
 | nil=>simp
 | cons a l b=>
  simp only[Qg,b9] at h;grind
mutual
theorem PV.rn_nms(f:Nat->Nat):∀v:PV,(v.rn f).nms=v.nms.map f
 | .s _=>rfl
 | .nsl=>rfl
 | .fl b=>rfl
 | .vw b _ _=>rfl
 | .ptr b _ _=>rfl
 | .fnr _ x y=>by simp only[PV.rn,PV.nms,ae9,Jt f x,Jt f y]
 | .it b=>rfl
 | .yd=>rfl
 | .agg l=>by simp only[PV.rn,PV.nms,Jt f l]
 | .tup l=>by simp only[PV.rn,PV.nms,Jt f l]
 | .bad=>rfl
theorem Jt(f:Nat->Nat):∀l:List PV,C8 (rnL f l)=(C8 l).map f
 | []=>rfl
 | v::r=>by simp only[rnL,C8,ae9,PV.rn_nms f v,Jt f r]
end
theorem Blk.rn_nms(f:Nat->Nat)(x:Blk):(x.rn f).nms=x.nms.map f:=by cases x<;>simp[Blk.rn,Blk.nms,Jt]
theorem Blk.rn_shp(f:Nat->Nat)(x:Blk):(x.rn f).shp=x.shp:=by cases x<;>rfl
theorem VS.clean{St St':Nat->Prop}{w w':World}{v:SV}{V:Value}(h:VS St w v V)(hc:v.plain=true):VS St' w' v V:=by
 cases h with
 | bool=>exact .bool _
 | int=>exact .int _ _
 | str=>exact .str _
 | nilp=>exact .nilp
 | nilm=>exact .nilm
 | nilf=>exact .nilf
 | nil=>simp[SV.plain] at hc
 | emp=>simp[SV.plain] at hc
 | sl=>simp[SV.plain] at hc
 | sp=>simp[SV.plain] at hc
 | fn=>simp[SV.plain] at hc
theorem VP.rn{f:Nat->Nat}{Γ Γ':Ctx}{sh sh':Nat->Option Shp}{w:World}(hyv:Γ'.yv=Γ.yv){v:PV}{V:Value}(h:VP Γ sh w v V) :
  (v.clean=true\/∀g,Γ.St g->Γ'.St g)->(∀b∈v.nms,Γ'.nm (f b)=Γ.nm b/\sh' (f b)=sh b)->VP Γ' sh' w (v.rn f) V:=by
 induction h with
 | s v V h=>
  intro hc _;rcases hc with hc|hc
  ·refine .s _ _ (h.clean ?_);cases v<;>simp_all [PV.clean,SV.plain]
  ·exact .s _ _ (h.mono (λ_ _=>rfl) hc)
 | nsl=>intro _ _;exact .nsl
 | flv b e sz h=>intro _ hn;exact .flv _ e sz (by rw[(hn b (by simp[PV.nms])).2];exact h)
 | fl b g v e sz n cap h hv hg hcap hm hs=>
  intro _ hn;have o:=hn b (by simp[PV.nms]);exact .fl _ g v e sz n cap (by rw[o.2];exact h) hv (by rw[o.1];exact hg) hcap hm hs
 | vwv b e sz i h=>intro _ hn;exact .vwv _ e sz i (by rw[(hn b (by simp[PV.nms])).2];exact h)
 | vw b i n g a cap v e sz m h hv hg ha hi hcap hm=>
  intro _ hn;have o:=hn b (by simp[PV.nms]);exact .vw _ i n g a cap v e sz m (by rw[o.2];exact h) hv (by rw[o.1];exact hg) ha hi hcap hm
 | ptrA b i off g v e sz n h hg=>
  intro _ hn;have o:=hn b (by simp[PV.nms]);exact .ptrA _ i off g v e sz n (by rw[o.2];exact h) (by rw[o.1];exact hg)
 | ptrB b off g h hg=>
  intro _ hn;have o:=hn b (by simp[PV.nms]);exact .ptrB _ off g (by rw[o.2];exact h) (by rw[o.1];exact hg)
 | fnr g x y A B As Bs hf hA hB ha hb hx hy ihx ihy=>
  intro hc hn;simp only[PV.rn,DU];refine .fnr g _ _ A B As Bs hf (by simpa using hA) (by simpa using hB) (λj h=>ha j (by simpa using h)) (λj h=>hb j (by simpa using h)) (λj h=>?_) (λj h=>?_)
  ·have hj:j<x.length:=by simpa using h
   rw[j7];refine ihx j hj (hc.imp (λe=>?_) id) (λb hb=>hn b (by simp only[PV.nms,o5];exact .inl (C0.2 ⟨j,hj,hb⟩)));simp only[PV.clean,b9] at e;exact Hu e.1 _ (j8 hj)
  ·have hj:j<y.length:=by simpa using h
   rw[j7];refine ihy j hj (hc.imp (λe=>?_) id) (λb hb=>hn b (by simp only[PV.nms,o5];exact .inr (C0.2 ⟨j,hj,hb⟩)));simp only[PV.clean,b9] at e;exact Hu e.2 _ (j8 hj)
 | it b g h hg=>
  intro _ hn;have o:=hn b (by simp[PV.nms]);exact .it _ g (by rw[o.2];exact h) (by rw[o.1];exact hg)
 | yd=>intro _ _;rw[<-hyv];exact .yd
 | agg l A As hA ha hl ih=>
  intro hc hn;simp only[PV.rn,DU];refine .agg _ A As (by simpa using hA) (λj h=>ha j (by simpa using h)) (λj h=>?_);have hj:j<l.length:=by simpa using h
  rw[j7];refine ih j hj (hc.imp (λe=>?_) id) (λb hb=>hn b (by simp only[PV.nms];exact C0.2 ⟨j,hj,hb⟩));simp only[PV.clean] at e;exact Hu e _ (j8 hj)
 | tup l A As hA ha hl ih=>
  intro hc hn;simp only[PV.rn,DU];refine .tup _ A As (by simpa using hA) (λj h=>ha j (by simpa using h)) (λj h=>?_);have hj:j<l.length:=by simpa using h
  rw[j7];refine ih j hj (hc.imp (λe=>?_) id) (λb hb=>hn b (by simp only[PV.nms];exact C0.2 ⟨j,hj,hb⟩));simp only[PV.clean] at e;exact Hu e _ (j8 hj)
 | bad V=>intro _ _;exact .bad V
theorem BR.rn{f:Nat->Nat}{Γ Γ':Ctx}{sh sh':Nat->Option Shp}{w:World}(hyv:Γ'.yv=Γ.yv){b b':Nat}{x:Blk}(h:BR Γ sh w b x)(hc:x.clean=true\/∀g,Γ.St g->Γ'.St g)(hb:Γ'.nm b'=Γ.nm b)
  (hn:∀c∈x.nms,Γ'.nm (f c)=Γ.nm c/\sh' (f c)=sh c):BR Γ' sh' w b' (x.rn f):=by
 cases x with
 | arr v e sz els=>
  rcases h with h|⟨hn,g,cur,h1,h2,h3,h4,h5⟩
  ·exact .inl h
  ·refine .inr ⟨hn,g,cur,by rw[hb];exact h1,h2,h3,h4,λi hi j hj=>?_⟩;obtain⟨V,e1,e2⟩:=h5 i hi j hj;refine⟨V,e1,?_⟩;rcases hc with hc|hc
   ·simp only[Blk.clean,p6] at hc;exact e2.clean (hc _ (j8 hi) _ (j8 hj))
   ·exact e2.mono (λ_ _=>rfl) hc
 | box cells=>
  obtain⟨g,cur,e,h1,h2,h3,h4⟩:=h;simp only[Blk.rn,DU];refine⟨g,cur,e,by rw[hb];exact h1,h2,by simpa using h3,λj hj=>?_⟩;have hj':j<cells.length:=by simpa using hj
  obtain⟨V,e1,e2⟩:=h4 j hj';rw[j7];refine⟨V,e1,e2.rn hyv (hc.imp (λe=>?_) id) (λc hc=>hn c (by simp only[Blk.nms];exact C0.2 ⟨j,hj',hc⟩))⟩;simp only[Blk.clean] at e;exact Hu e _ (j8 hj')
 | iter s p=>
  obtain⟨g,s',h1,h2,h3⟩:=h;exact⟨g,s',by rw[hb];exact h1,h2,h3⟩
 | dead=>trivial
theorem Bc7{l:List Nat}{b c:Nat}:c∈Fp l b↔c∈l\/c=b:=by
 unfold Fp;split
 ·rename_i h;have a:b∈l:=by simpa using h
  exact⟨.inl,λh=>h.elim id (λe=>e▸a)⟩
 ·simp
theorem Ih:∀(xs a:List Nat) (c:Nat),c∈xs.foldl Fp a↔c∈a\/c∈xs
 | [],a,c=>by simp
 | x::xs,a,c=>by rw[aa0,Ih xs,Bc7,ac0,or_assoc]
theorem XL{l:List Nat}{b:Nat}(h:l.Nodup):(Fp l b).Nodup:=by
 unfold Fp;split
 ·exact h
 ·rename_i a;rw[List.nodup_append];refine⟨h,by simp,λx d y c e=>?_⟩;simp at c;subst c;subst e;simp at a;exact a d
theorem Mn:∀(xs a:List Nat),a.Nodup->(xs.foldl Fp a).Nodup
 | [],a,h=>h
 | x::xs,a,h=>by rw[aa0];exact Mn xs _ (XL h)
theorem Ok(H:List Blk):∀(l a:List Nat),a.Nodup->(l.foldl (λa b=>((H.getD b .dead).nms).foldl Fp a) a).Nodup
 | [],a,h=>h
 | x::l,a,h=>by rw[aa0];exact Ok H l _ (Mn _ _ h)
theorem AC(H:List Blk):∀(l a:List Nat) c,c∈a->c∈l.foldl (λa b=>((H.getD b .dead).nms).foldl Fp a) a
 | [],a,c,h=>h
 | x::l,a,c,h=>by rw[aa0];exact AC H l _ c ((Ih _ _ _).2 (.inl h))
theorem Ay5(H:List Blk)(p:Nat->Prop)(f:∀b,p b->∀c∈(H.getD b .dead).nms,p c):∀(l a:List Nat),(∀c∈a,p c)->(∀c∈l,p c)->∀c∈l.foldl (λa b=>((H.getD b .dead).nms).foldl Fp a) a,p c
 | [],a,h,_=>h
 | x::l,a,h,e=>by
  rw[aa0];refine Ay5 H p f l _ (λc d=>?_) (λc d=>e c (by simp[d]));rcases(Ih _ _ _).1 d with d|d
  ·exact h c d
  ·exact f x (e x (by simp)) c d
theorem FN(H:List Blk)(l:List Nat):(Dg H l).Nodup:=
 Ok H _ _ (Ok H _ _ (Ok H _ _ (Mn _ _ List.nodup_nil)))
theorem TG(H:List Blk)(l:List Nat):∀c∈l,c∈Dg H l:=λc a=>
 AC H _ _ c (AC H _ _ c (AC H _ _ c ((Ih _ _ _).2 (.inr a))))
theorem TF(H:List Blk)(l:List Nat)(p:Nat->Prop)(g:∀b,p b->∀c∈(H.getD b .dead).nms,p c)(f:∀c∈l,p c):∀c∈Dg H l,p c:=by
 have d:∀c∈l.foldl Fp [],p c:=λc e=>by
  rcases(Ih _ _ _).1 e with h|h
  ·simp at h
  ·exact f c h
 have step:∀m,(∀c∈m,p c)->∀c∈Ab9 H m,p c:=λm a=>Ay5 H p g m m a a
 exact step _ (step _ (step _ d))
theorem PE{H:List Blk}{a:List Nat}(h:Hv H a=true):∀b∈a,∀c∈(H.getD b .dead).nms,c∈a:=by intro b d c e;simp only[Hv,p6] at h;simpa using h b d c e
theorem Ie{c:List Nat}{b:Nat}(h:b∈c):∃a:I1 c b<c.length,c[I1 c b]=b:=by have a:c.idxOf b<c.length:=List.idxOf_lt_length_of_mem h;exact⟨a,List.getElem_idxOf a⟩
theorem Nj{Γ:Ctx}{sh:Nat->Option Shp}{w:World}:∀(a:List Nat) (sl:List PV),(L6 a sl).length=sl.length/\(∀c∈C8 (L6 a sl),c∉a/\c∈C8 sl)/\
  ∀i (h:i<(L6 a sl).length) (f:i<sl.length) V,VP Γ sh w (sl[i]) V->VP Γ sh w ((L6 a sl)[i]) V
 | [],sl=>⟨rfl,λc g=>⟨by simp,g⟩,λi h f V k=>k⟩
 | b::a,sl=>by
  obtain⟨n,o,p⟩:=Nj (Γ:=Γ) (sh:=sh) (w:=w) a (Y2 b sl);have j:(Y2 b sl).length=sl.length:=by rw[Cp];simp
  have e:L6 (b::a) sl=L6 a (Y2 b sl):=rfl;refine⟨by rw[e,n,j],λc g=>?_,λi h f V k=>?_⟩
  ·rw[e] at g;obtain⟨q,l⟩:=o c g;refine⟨?_,Bw b sl c l⟩;rintro d;rcases ac0.1 d with rfl|d
   ·exact T8 c sl l
   ·exact q d
  ·simp only[e];refine p i (by rw[e] at h;exact h) (by rw[j];exact f) V ?_;have m:(Y2 b sl)[i]'(by rw[j];exact f)=(sl[i]).kill b:=by simp[Cp]
   rw[m];exact k.kill b
theorem Qp{Γ:Ctx}{sh:Nat->Option Shp}{w:World}:∀(a:List Nat) (H:List Blk),(T1 a H).length=H.length/\(∀b,A5 (T1 a H) b=A5 H b)/\
  ∀i (h:i<(T1 a H).length) (g:i<H.length),(∀c∈((T1 a H)[i]).nms,c∉a/\c∈(H[i]).nms)/\∀b,BR Γ sh w b (H[i])->BR Γ sh w b ((T1 a H)[i])
 | [],H=>⟨rfl,λ_=>rfl,λi h g=>⟨λc f=>⟨by simp,f⟩,λb l=>l⟩⟩
 | k::a,H=>by
  obtain⟨p,q,r⟩:=Qp (Γ:=Γ) (sh:=sh) (w:=w) a (H.map (Blk.kill k));have n:(H.map (Blk.kill k)).length=H.length:=by simp
  have e:T1 (k::a) H=T1 a (H.map (Blk.kill k)):=rfl;refine⟨by rw[e,p,n],λb=>by rw[e,q,OK],λi h g=>?_⟩;have j:i<(H.map (Blk.kill k)).length:=by rw[n];exact g
  obtain⟨t,u⟩:=r i (by rw[e] at h;exact h) j;have m:(H.map (Blk.kill k))[i]=(H[i]).kill k:=by simp
  refine⟨λc f=>?_,λb l=>?_⟩
  ·simp only[e] at f;obtain⟨v,o⟩:=t c f;rw[m] at o;obtain⟨x,y⟩:=Blk.kill_nms' c o;refine⟨?_,y⟩;rintro d;rcases ac0.1 d with rfl|d
   ·exact x rfl
   ·exact v d
  ·simp only[e];exact u b (by rw[m];exact l.kill)
theorem Kd:∀(a:List Nat) (xs H:List Blk),a.Nodup->xs.length=a.length->(∀b∈a,b<H.length)->(Bo H a xs).length=H.length/\
  ∀b,(Bo H a xs)[b]? = if b∈a then xs[a.idxOf b]? else H[b]?
 | [],xs,H,_,f,_=>by cases xs<;>simp[Bo]
 | n::a,[],H,_,f,_=>by simp at f
 | n::a,x::xs,H,i,f,d=>by
  obtain⟨j,k⟩:=Kd a xs (H.set n x) (ai4.1 i).2 (by simpa using f) (λb c=>by simpa using d b (by simp[c]));have e:Bo H (n::a) (x::xs)=Bo (H.set n x) a xs:=rfl;refine⟨by rw[e,j];simp,λb=>?_⟩;rw[e,k];have l:n∉a:=(ai4.1 i).1;by_cases c:b∈a
  ·have g:n≠b:=by rintro rfl;exact l c
   rw[if_pos c,if_pos (by simp[c]),List.idxOf_cons];have:(n==b)=false:=by simpa using g
   simp[this]
  ·rw[if_neg c,ag7];by_cases e:n=b
   ·subst e;rw[if_pos rfl,if_pos (d n (by simp)),if_pos (by simp)];simp
   ·rw[if_neg e,if_neg (by simp only[ac0,not_or];exact⟨λh=>e h.symm,c⟩)]
def G9(a:Option Nat):Fence:={ Fence.wide with round:=a }
def R4(P:Program)(b:Result Next)(R:Value->World->Prop):Prop:=
 ∀(c:Option Nat) (n:Nat) (o:Oper) (a:Act) (next:Act->World->Prop) (Q:Exit->Act->World->Prop),(∀V w',R V w'->next (a.put o.dst V) w')->o.uponIn (G9 c) n P a next Q b
theorem R4.mono{P:Program}{res:Result Next}{R R':Value->World->Prop}(h:R4 P res R)(hr:∀V w',R V w'->R' V w'):R4 P res R':=
 λro n o a next Q hn=>h ro n o a next Q λV w' hR=>hn V w' (hr V w' hR)
def Ev{e:Type}(C:Cfg)(I:e->(Nat->Prop)->(Nat->Prop)->World->Prop)(h:Ctx)(H:List Blk)(w:World)(i:Nat->Prop)(ret:PV)(d:List Blk)(f:e)(V:Value)(w':World):Prop:=
 ∃ Γ' a,Stp C h H w i Γ' d w' a/\HR Γ' d w'/\VP Γ' (A5 d) w' ret V/\(∀c∈ret.nms,c<d.length)/\I f Γ'.St a w'/\∀b g,Γ'.nm b=some g->¬a g
def A37{i:Type}(P:Program)(I:i->(Nat->Prop)->(Nat->Prop)->World->Prop)(j:Yh i)(k:Value):Prop:=
 ∀args s b h,j args s=some (b,h)->Kw args=true->∀a e w f,I s a.St e w->(∀g,a.St g->g<w.heap.size)->CR a (λ_=>none) w args f->
  R4 P ((do let d <-Deferred.ofValue k f;invoke d.target d.args).run P w) λV w'=>V = .bool b/\∃St' c,I h St' c w'/\(∀g,a.St g->St' g)/\(∀g,St' g->a.St g\/w.heap.size<=g)/\(∀g,c g->e g\/w.heap.size<=g)/\
   (∀g,g<w.heap.size->¬e g->w'.heap[g]? = w.heap[g]?)/\w.heap.size<=w'.heap.size/\w'.os=w.os/\w'.tape=w.tape/\w'.output=w.output/\∀g,St' g->g<w'.heap.size
def Ch(C:Cfg)(l:F6):Prop:=
 ∀(e:Type) (I:e->(Nat->Prop)->(Nat->Prop)->World->Prop) (j:Yh e) (k:Value),HI I->A37 C.P I j k->
  ∀g args H s ret f i,l e j g args H s=some (ret,f,i)->∀a d w h,a.yv=k->HR a H w->GOK C a.St w->I s a.St d w->(∀b g,a.nm b=some g->¬d g)->CR a (A5 H) w args h->(∀c∈C8 args,c<H.length)->
   R4 C.P ((callFunc g h).run C.P w) (Ev C I a H w d ret f i)
def I0:Unit->(Nat->Prop)->(Nat->Prop)->World->Prop:=λ_ _ a _=>∀g,¬a g
def D87(C:Cfg):Prop:=
 ∀g e args ret c,C.X g=some e->M3 (e args)=some (ret,c)->∀a w d,(∀b,a.nm b=none)->HR a [] w->GOK C a.St w->CR a (A5 []) w args d->
  R4 C.P ((callFunc g d).run C.P w) (Ev C I0 a [] w noΦ ret c ())
def clY(C:Cfg):F6:=λ_ _ g args H s=>match C.Y g with
 | some a=>match M3 (a args H) with
  | some (r,h)=>some (r,h,s)
  | none=>none
 | none=>none
def Ej{b:Type}(c:Yh b):List (List PV)->b->Option b
 | [],s=>some s
 | x::xs,s=>match c x s with
  | some (true,a)=>Ej c xs a
  | some (false,a)=>some a
  | none=>none
def clS(C:Cfg):F6:=λ_ c g args H s=>match C.S g with
 | some a=>if H.all MJ=true then match a args H with
  | some (true,L)=>match Ej c L s with
   | some b=>some (.tup [],H.map Ld,b)
   | none=>none
  | _=>none
  else none
 | none=>none
def O0(w w':World):Prop:=(Ext w w'/\w.heap.size<=w'.heap.size)/\w'.os=w.os/\w'.tape=w.tape/\w'.output=w.output
def Dw6(P:Program)(g:Nat)(d:SV->List (List SV)->Bool × List (List SV)):Prop:=
 ∀(St:Nat->Prop) (w:World) (x:SV) (X:Value) (a:List (List SV)),VS St w x X->(d x a).1=true->
  (a=[]->R4 P ((callFunc g #[.slice none 0 0,X]).run P w) λV w'=>V=undef/\(d x a).2=[]/\O0 w w')/\
  ∀f c e l cap,w.heap[f]? = some (.cells c e (0,0))->c.size=cap*l->a.length<=cap->cap<=maxLen->¬St f->(∀g,St g->g<w.heap.size)->
   (∀i (h:i<a.length),(a[i]).length=l)->(∀i (h:i<a.length) j (m:j<(a[i]).length),∃V,c[i*l+j]? = some V/\VS St w (a[i][j]) V)->
   R4 P ((callFunc g #[.slice (some ⟨f,0,none⟩) a.length cap,X]).run P w) λV w'=>V=undef/\(d x a).2.length=a.length/\
    ∃w1 b,w1.heap[f]? = some (.cells b e (0,0))/\b.size=c.size/\(∀k,k≠f->w1.heap[k]? = w.heap[k]?)/\w1.heap.size=w.heap.size/\w1.os=w.os/\w1.tape=w.tape/\w1.output=w.output/\
     (∀i (h:i<(d x a).2.length),((d x a).2[i]).length=l)/\(∀i (h:i<(d x a).2.length) j (m:j<((d x a).2[i]).length),∃V,b[i*l+j]? = some V/\VS St w1 ((d x a).2[i][j]) V)/\O0 w1 w'
structure XOK (C:Cfg):Prop where
 x:D87 C
 y:Ch C (clY C)
 s:Ch C (clS C)
 z:∀g pf,C.Z g=some pf->Dw6 C.P g pf
section
variable {Γ : Ctx} {H : List Blk} {w : World} {C : Cfg}
def Ctx.all(Γ:Ctx):Ctx:={ Γ with St:=λg=>Γ.St g\/∃b,Γ.nm b=some g }
theorem Ac4{St':Nat->Prop}{b e f i n:Nat}{v:Bool}{c:List (List SV)}{a:Addr}{cap g:Nat}(K:HR Γ H w)(M:H[b]? = some (.arr v e f c))(y:¬(v=true/\c=[]))(N:Γ.nm b=some g)(Q:i+n<=c.length)(L:n≠0->a=⟨g,i*f,none⟩)(o:n<=cap)(G:cap<=maxLen)(z:∀g,Γ.St g->St' g)(u:St' g) :
  VS St' w (.sl false false f ((c.drop i).take n)) (.slice (some a) n cap):=by
 by_cases I:n=0
 ·subst I;rw[ad2];exact .emp false f a cap (by simp) G
 ·rw[L I];obtain⟨O,d,B,D,P,J,F⟩:=K.arr' M y;rw[N] at B;cases B;have p:((c.drop i).take n).length=n:=by simp;omega
  have h:∀k (l:k<((c.drop i).take n).length),∃m:i+k<c.length,((c.drop i).take n)[k]=c[i+k]:=λk l=>by grind
  have t:∀k,k<d.size->w.cell? ⟨g,k,none⟩=d[k]?:=λk _=>cell_of_row w g k d e (0,0) D
  refine .sl false _ g (i*f) n cap f (λk j=>d.getD (i*f+k*f+j) undef) p.symm o G (by simp) u (λk l=>?_) (λk l j x=>?_) (λk l j x=>?_)
  ·obtain⟨m,e⟩:=h k l;rw[e];exact J _ m
  ·obtain⟨m,e⟩:=h k l;obtain⟨V,r,A⟩:=F _ m j (by rw[<-e];exact x);have q:d[i*f+k*f+j]? = some V:=by rw[<-r,k9]
   rw[cell_of_row w g _ d _ (0,0) D,q];simp[p5,q]
  ·obtain⟨m,e⟩:=h k l;obtain⟨V,r,A⟩:=F _ m j (by rw[<-e];exact x);have q:d[i*f+k*f+j]? = some V:=by rw[<-r,k9]
   simp only[e,p5,q];exact A.mono (λ_ _=>rfl) z
theorem VP.toAll{sh:Nat->Option Shp}{v:PV}{V:Value}(h:VP Γ sh w v V):VP Γ.all sh w v V:=
 h.mono (Γ':=Γ.all) (ok:=λ_=>True) ⟨λ_ _=>rfl,λ_ h=>ah8 h,λ_ _=>rfl,λ_ _=>rfl,λ_ _ _ _=>rfl,rfl⟩ (λ_ _=>trivial)
theorem VP.snap(hH:HR Γ H w){v:PV}{V:Value}(h:VP Γ (A5 H) w v V):VP Γ.all (A5 H) w (v.snap H) V:=by
 generalize hsh:A5 H=sh at h
 induction h with
 | s v V h=>exact(VP.s v V h).toAll
 | nsl=>exact .s _ _ (.nil _ _)
 | flv b e sz h=>
  subst hsh;obtain⟨x,hx,hs⟩:∃x,H[b]? = some x/\x.shp = .arr true e sz 0:=by simpa[A5] using h
  cases x<;>simp[Blk.shp] at hs
  rename_i v' e' sz' els;obtain⟨rfl,rfl,rfl,h4⟩:=hs;subst h4;simp only[PV.snap,hx];exact .s _ _ (.nil _ _)
 | fl b g v e sz n cap h hv hg hcap hm hs=>
  subst hsh;obtain⟨x,hx,hs'⟩:∃x,H[b]? = some x/\x.shp = .arr v e sz n:=by simpa[A5] using h
  cases x<;>simp[Blk.shp] at hs'
  rename_i v' e' sz' els;obtain⟨rfl,rfl,rfl,rfl⟩:=hs';have hne:¬(v'=true/\els=[]):=by rintro⟨q1,q2⟩;exact hv q1 (by rw[q2];rfl)
  have hz:(v'&&els.isEmpty)=false:=by grind
  simp only[PV.snap,hx,hz];have:=Ac4 (i:=0) (n:=els.length) (a:=⟨g,0,none⟩) (cap:=cap) hH hx hne hg (by omega) (λ_=>by simp) hcap hm (St':=Γ.all.St) (λ_ h=>ah8 h) (.inr ⟨b,hg⟩);simp only[List.drop_zero,List.take_length] at this;exact .s _ _ this
 | vwv b e sz i h=>
  subst hsh;obtain⟨x,hx,hs⟩:∃x,H[b]? = some x/\x.shp = .arr true e sz 0:=by simpa[A5] using h
  cases x<;>simp[Blk.shp] at hs
  rename_i v' e' sz' els;obtain⟨rfl,rfl,rfl,h4⟩:=hs;subst h4;simp only[PV.snap,hx,ag1,aj0];exact .s _ _ (.nil _ _)
 | vw b i n g a cap v e sz m h hv hg ha hi hcap hm=>
  subst hsh;obtain⟨x,hx,hs'⟩:∃x,H[b]? = some x/\x.shp = .arr v e sz m:=by simpa[A5] using h
  cases x<;>simp[Blk.shp] at hs'
  rename_i v' e' sz' els;obtain⟨rfl,rfl,rfl,rfl⟩:=hs';have hne:¬(v'=true/\els=[]):=by rintro⟨q1,q2⟩;exact hv q1 (by rw[q2];rfl)
  have hz:(v'&&els.isEmpty)=false:=by grind
  simp only[PV.snap,hx,hz];exact .s _ _ (Ac4 hH hx hne hg hi ha hcap hm (λ_ h=>ah8 h) (.inr ⟨b,hg⟩))
 | ptrA b i off g v e sz n h hg=>exact(VP.ptrA b i off g v e sz n h hg).toAll
 | ptrB b off g h hg=>exact(VP.ptrB b off g h hg).toAll
 | fnr f x y A B As Bs hf hA hB ha hb hx hy ihx ihy=>exact(VP.fnr f x y A B As Bs hf hA hB ha hb hx hy).toAll
 | it b g h hg=>exact(VP.it b g h hg).toAll
 | yd=>exact .yd
 | agg l A As hA ha hl ih=>
  simp only[PV.snap,Jc];refine .agg _ A As (by simpa using hA) (λj h=>ha j (by simpa using h)) (λj h=>?_);grind
 | tup l A As hA ha hl ih=>exact(VP.tup l A As hA ha hl).toAll
 | bad V=>exact .bad V
theorem TP{l:List PV}(h:Qz l=false):∀v∈l,v.rows=false:=by
 induction l with
 | nil=>simp
 | cons a l b=>
  simp only[Qz,Bool.or_eq_false_iff] at h;grind
theorem VP.snap_plain{sh:Nat->Option Shp}{v:PV}{V:Value}(h:VP Γ sh w v V):v.rows=false->VP Γ sh w (v.snap H) V/\∀c∈(v.snap H).nms,c∈v.nms:=by
 induction h with
 | nsl=>intro _;exact⟨.s _ _ (.nil _ _),by simp[PV.snap,PV.nms]⟩
 | flv b e sz h=>intro hr;simp[PV.rows] at hr
 | fl b g v e sz n cap h hv hg hcap hm hs=>intro hr;simp[PV.rows] at hr
 | vwv b e sz i h=>intro hr;simp[PV.rows] at hr
 | vw b i n g a cap v e sz m h hv hg ha hi hcap hm=>intro hr;simp[PV.rows] at hr
 | agg l A As hA ha hl ih=>
  intro hr;simp only[PV.rows] at hr;have hr':=TP hr;simp only[PV.snap,Jc];refine⟨.agg _ A As (by simpa using hA) (λj h=>ha j (by simpa using h)) (λj h=>?_),λc hc=>?_⟩
  ·grind
  ·simp only[PV.nms] at hc ⊢;obtain⟨j,hj,hc⟩:=C0.1 hc;rw[j7] at hc;exact C0.2 ⟨j,by simpa using hj,(ih j (by simpa using hj) (hr' _ (j8 _))).2 c hc⟩
 | s v V h=>intro _;exact⟨.s v V h,λc hc=>hc⟩
 | ptrA b i off g v e sz n h hg=>intro _;exact⟨.ptrA b i off g v e sz n h hg,λc hc=>hc⟩
 | ptrB b off g h hg=>intro _;exact⟨.ptrB b off g h hg,λc hc=>hc⟩
 | fnr f x y A B As Bs hf hA hB ha hb hx hy ihx ihy=>intro _;exact⟨.fnr f x y A B As Bs hf hA hB ha hb hx hy,λc hc=>hc⟩
 | it b g h hg=>intro _;exact⟨.it b g h hg,λc hc=>hc⟩
 | yd=>intro _;exact⟨.yd,λc hc=>hc⟩
 | tup l A As hA ha hl ih=>intro _;exact⟨.tup l A As hA ha hl,λc hc=>hc⟩
 | bad V=>intro _;exact⟨.bad V,λc hc=>hc⟩
theorem CR.snap(hH:HR Γ H w){l:List PV}{A:Array Value}(h:CR Γ (A5 H) w l A):CR Γ.all (A5 H) w (N5 H l) A:=by rw[Jc];refine⟨by rw[j9];exact h.1,λj hj=>?_⟩;obtain⟨U,e,k⟩:=h.2 j (by simpa using hj);exact⟨U,e,by rw[j7];exact k.snap hH⟩
theorem CR.snap_plain{l:List PV}{A:Array Value}(h:CR Γ (A5 H) w l A)(hr:Qz l=false):CR Γ (A5 H) w (N5 H l) A/\∀c∈C8 (N5 H l),c∈C8 l:=by
 have hr':=TP hr;rw[Jc];refine⟨⟨by rw[j9];exact h.1,λj hj=>?_⟩,λc hc=>?_⟩
 ·obtain⟨U,e,k⟩:=h.2 j (by simpa using hj);exact⟨U,e,by rw[j7];exact(k.snap_plain (hr' _ (j8 _))).1⟩
 ·obtain⟨j,hj,hc⟩:=C0.1 hc;rw[j7] at hc;have hj':j<l.length:=by simpa using hj
  obtain⟨U,e,k⟩:=h.2 j hj';exact C0.2 ⟨j,hj',(k.snap_plain (hr' _ (j8 _))).2 c hc⟩
theorem CR.bare{Γ':Ctx}{sh sh':Nat->Option Shp}{l:List PV}{A:Array Value}(h:CR Γ sh w l A)(hn:C8 l=[])(hst:∀g,Γ.St g->Γ'.St g)(hyv:Γ'.yv=Γ.yv):CR Γ' sh' w l A:=
 ⟨h.1,λj hj=>by
  obtain⟨U,e,k⟩:=h.2 j hj;refine⟨U,e,k.mono (ok:=λ_=>False) ⟨λ_ _=>rfl,hst,λ_ h=>h.elim,λ_ h=>h.elim,λ_ _ h=>h.elim,hyv⟩ (λb hb=>?_)⟩;have:b∈C8 l:=C0.2 ⟨j,hj,hb⟩;rw[hn] at this;simp at this⟩
theorem EG{St':Nat->Prop}{w':World}(d:HR Γ H w)(a:∀g,g<w.heap.size->w'.heap[g]? = w.heap[g]?)(e:∀g,Γ.St g->St' g):Ax Γ (A5 H) w { Γ with St:=St' } (A5 H) w' (λ_=>True):=
 ⟨λg c=>a g (d.stlt g c),e,λ_ _=>rfl,λ_ _=>rfl,λb g _ c=>F5 (a g (d.lt b g c).2.1),rfl⟩
theorem Dr8{St':Nat->Prop}{w':World}(c:HR Γ H w)(a:∀g,g<w.heap.size->w'.heap[g]? = w.heap[g]?)(i:w.heap.size<=w'.heap.size)(h:∀g,Γ.St g->St' g)(j:∀g,St' g->Γ.St g\/w.heap.size<=g)(e:∀g,St' g->g<w'.heap.size):HR { Γ with St:=St' } H w':=by refine⟨c.inj,λb g d=>?_,e,c.nms,λb f=>(c.blk b f).mono (EG c a h) rfl (λg d=>a g (c.lt b g d).2.1) (λ_ _=>trivial)⟩;have:=c.lt b g d;grind
theorem C85{St':Nat->Prop}{w':World}{Φ:Nat->Prop}(e:HR Γ H w)(a:∀g,g<w.heap.size->w'.heap[g]? = w.heap[g]?)(d:w.heap.size<=w'.heap.size)(l:∀g,Γ.St g->St' g)(k:∀g,St' g->Γ.St g\/w.heap.size<=g)(f:w'.os=w.os)(i:w'.tape=w.tape)(j:w'.output=w.output) :
  Stp C Γ H w Φ { Γ with St:=St' } H w' Φ:=
 ⟨f,i,j,d,l,k,λb g c=>.inl ⟨(e.lt b g c).1,c⟩,λ_ h=>.inl h,λg c _ _=>a g c,rfl,j4 _,λb m n=>⟨rfl,rfl,λg c=>F5 (a g (e.lt b g c).2.1)⟩⟩
end
section
variable {U R : Type} {r : R} {C : Cfg} {I : U -> (Nat -> Prop) -> (Nat -> Prop) -> World -> Prop} {Q : Ctx} {W : Nat -> Prop} {Y : St U} {J : Array Value} {w : World} {K : F6} {O : Yh U} {Z : Value}
def Ag5(C:Cfg)(I:U->(Nat->Prop)->(Nat->Prop)->World->Prop)(Q:Ctx)(W:Nat->Prop)(Y:St U)(J:Array Value)(w:World)(k:PV->St U->Option R)(r:R)(V:Value)(w':World):Prop:=
 ∃v a Γ' b,k v a=some r/\Stp C Q Y.hp w W Γ' a.hp w' b/\SI C I Γ' b a J w'/\VP Γ' (A5 a.hp) w' v V/\∀c∈v.nms,c<a.hp.length
theorem Mr{a:Ctx}(d:∀b,a.nm b=none)(c:∀g,a.St g->g<w.heap.size):HR a [] w:=
 ⟨λb e g h=>(by rw[d] at h;cases h),λb g h=>(by rw[d] at h;cases h),c,λb h=>by simp at h,λb h=>by simp at h⟩
theorem SI.wide(hI:HI I)(S:SI C I Q W Y J w){St':Nat->Prop}{w':World}(hold:∀g,g<w.heap.size->w'.heap[g]? = w.heap[g]?)(hsz:w.heap.size<=w'.heap.size)(hs:∀g,Q.St g->St' g)(hn:∀g,St' g->Q.St g\/w.heap.size<=g)(hlt:∀g,St' g->g<w'.heap.size)
  (h1:w'.os=w.os) (h2:w'.tape=w.tape) (h3:w'.output=w.output):SI C I { Q with St:=St' } W Y J w'/\Stp C Q Y.hp w W { Q with St:=St' } Y.hp w' W:=by
 have hstp:=C85 (C:=C) (Φ:=W) S.hr hold hsz hs hn h1 h2 h3;refine⟨?_,hstp⟩;have:=S.step hI hstp (λg hg=>hold g (hI.foot _ _ _ _ S.inv g hg).1) (Dr8 S.hr hold hsz hs hn hlt) (S.sr.mono (EG S.hr hold hs) (λc hc=>⟨trivial,S.sr.nms c hc⟩));exact this
theorem SI.wideSt(hI:HI I)(S:SI C I Q W Y J w){St':Nat->Prop}(hs:∀g,Q.St g->St' g)(hd:∀g,St' g->¬W g)(hn:∀b g,Q.nm b=some g->¬St' g)(hlt:∀g,St' g->g<w.heap.size):SI C I { Q with St:=St' } W Y J w:=by
 have M:Ax Q (A5 Y.hp) w { Q with St:=St' } (A5 Y.hp) w (λ_=>True):=⟨λ_ _=>rfl,hs,λ_ _=>rfl,λ_ _=>rfl,λ_ _ _ _=>rfl,rfl⟩
 refine⟨⟨S.hr.inj,λb g hb=>?_,hlt,S.hr.nms,λb hb=>(S.hr.blk b hb).mono M rfl (λ_ _=>rfl) (λ_ _=>trivial)⟩,
  S.sr.mono M (λc hc=>⟨trivial,S.sr.nms c hc⟩),S.g.mono (λ_ _=>rfl) hs,hI.mono _ _ _ _ _ _ S.inv hs hd hlt (λ_ _=>rfl) (j4 _) rfl rfl rfl,S.dis⟩
 obtain⟨q1,q2,_⟩:=S.hr.lt b g hb;exact⟨q1,q2,hn b g hb⟩
theorem A39(S:SI C I Q W Y J w):∀g,Q.all.St g->g<w.heap.size:=by
 rintro g (h|⟨b,h⟩)
 ·exact S.hr.stlt g h
 ·exact(S.hr.lt b g h).2.1
theorem Cm8:HI I0:=⟨λ_ _ W _ h g a=>absurd a (h g),λ_ _ W _ _ _ h _ _ _ _ _ _ _ _=>h⟩
theorem Cm9{P:Program}{Z:Value}:A37 P I0 (λ_ _=>none) Z:=λ_ _ _ _ h=>by cases h
theorem ED{ret:PV}{u:List Blk}{k:PV->St U->Option R}{St0:Nat->Prop}{T:Result Next}(hI:HI I)(S:SI C I Q W Y J w)(a5:∀g,Q.St g->St0 g)(a0:(∀g,St0 g->Q.St g)\/(ret.clean=true/\u.all Blk.clean=true))
  (a2:R4 C.P T (Ev C I0 { Q with St:=St0,nm:=λ_=>none } [] w noΦ ret u ()))
  (hk:k (ret.rn (Y.hp.length + ·)) { sl:=Y.sl,hp:=Y.hp++u.map (Blk.rn (Y.hp.length + ·)),s:=Y.s } = some r):R4 C.P T (λV w'=>Ag5 C I Q W Y J w k r V w'/\O0 w w'):=by
 let Γc:Ctx:={ Q with St:=St0,nm:=λ_=>none }
 refine a2.mono ?_;rintro V w' ⟨n,Φ1,l,f,hv,hvn,a9,a7⟩;have e:∀k,k<w.heap.size->w'.heap[k]? = w.heap[k]?:=λk hk=>l.frame k hk (λb=>by simp) (λx=>x)
 generalize hL:Y.hp.length=L at *;have p:∀i g,n.nm i=some g->i<u.length/\w.heap.size<=g/\g<w'.heap.size:=λi g h=>by
  refine⟨(f.lt i g h).1,?_,(f.lt i g h).2.1⟩;rcases l.own i g h with⟨h',_⟩|h'
  ·simp at h'
  ·exact h'
 obtain⟨t,D,m,H,B⟩:∃t:Nat->Prop,(∀g,Q.St g->t g)/\(∀g,t g->Q.St g\/(w.heap.size<=g/\n.St g))/\(∀g,t g->g<w'.heap.size)/\((∀g,n.St g->t g)\/(ret.clean=true/\u.all Blk.clean=true)):=by
  rcases a0 with h|h
  ·refine⟨n.St,λg a=>l.sub g (a5 g a),λg a=>?_,λg a=>f.stlt g a,.inl λ_ h=>h⟩;rcases l.stnew g a with q|q
   ·exact .inl (h g q)
   ·exact .inr ⟨q,a⟩
  ·exact⟨Q.St,λ_ h=>h,λ_ h=>.inl h,λg a=>aa6 (S.hr.stlt g a) l.size,.inr h⟩
 let Γ2:Ctx:={ Q with St:=t,nm:=λb=>if b<L then Q.nm b else n.nm (b-L) }
 let o:List Blk:=Y.hp++u.map (Blk.rn (L + ·));have a3:∀i,i<u.length->A5 o (L+i)=A5 u i:=λi hi=>by
  simp only[o,A5];rw[p9 (by omega),hL,ad9,o0,af3]
  congr 1
  funext x
  exact Blk.rn_shp _ x
 have M:Ax Q (A5 Y.hp) w Γ2 (A5 o) w' (· < L):=⟨λg a=>e g (S.hr.stlt g a),D,λb A=>by simp only[Γ2];rw[if_pos A],λb A=>Q0 (by omega),λb g A a=>F5 (e g (S.hr.lt b g a).2.1),rfl⟩
 have y:∀i,i<u.length->Γ2.nm (L+i)=n.nm i:=λi hi=>by simp only[Γ2];rw[if_neg (by omega),ad9]
 have a4:Γ2.yv=n.yv:=by have:=l.yv;exact this.symm
 have j:o.length=L+u.length:=by simp[o,hL]
 have a6:HR Γ2 o w':=by
  refine⟨λb b' g N P=>?_,λb g h=>?_,H,λb A c z=>?_,λb A=>?_⟩
  ·simp only[Γ2] at N P;split at N<;>split at P
   ·exact S.hr.inj b b' g N P
   ·have:=(S.hr.lt b g N).2.1;have:=(p _ g P).2.1;omega
   ·have:=(S.hr.lt b' g P).2.1;have:=(p _ g N).2.1;omega
   ·have:=f.inj _ _ g N P;omega
  ·rw[j];simp only[Γ2] at h;split at h
   ·have:=S.hr.lt b g h;refine⟨by omega,by have:=l.size;omega,λG=>?_⟩;rcases m g G with q|q
    ·exact this.2.2 q
    ·omega
   ·have:=p _ g h;refine⟨by omega,this.2.2,λG=>?_⟩;rcases m g G with q|q
    ·have:=S.hr.stlt g q;omega
    ·exact(f.lt _ g h).2.2 q.2
  ·rw[j] at A ⊢;by_cases X:b<L
   ·have:o[b]'(by omega)=Y.hp[b]'(by omega):=p4 (by omega);rw[this] at z;have:=S.hr.nms b (by omega) c z;omega
   ·have:o[b]'(by omega)=(u[b-L]'(by omega)).rn (L + ·):=by
     simp only[o];rw[z7 (by omega),j7];simp[hL]
    rw[this,Blk.rn_nms] at z;obtain⟨d,hd,rfl⟩:=aa1.1 z;have:=f.nms _ (by omega) d hd;omega
  ·rw[j] at A;by_cases X:b<L
   ·have:o[b]'(by omega)=Y.hp[b]'(by omega):=p4 (by omega);rw[this];exact(S.hr.blk b (by omega)).mono M (M.nm b X) (λg a=>e g (S.hr.lt b g a).2.1) (λc v=>by have:=S.hr.nms b (by omega) c v;omega)
   ·have:o[b]'(by omega)=(u[b-L]'(by omega)).rn (L + ·):=by
     simp only[o];rw[z7 (by omega),j7];simp[hL]
    rw[this];refine(f.blk _ (by omega)).rn a4 (by
     rcases B with h|h
     ·exact .inr h
     ·exact .inl (p6.1 h.2 _ (j8 _))) ?_ (λc v=>?_)
    ·have:=y (b-L) (by omega);rw[show L+(b-L)=b by omega] at this;exact this
    ·have a1:=f.nms _ (by omega) c v;exact⟨y c a1,a3 c a1⟩
 have F:Stp C Q Y.hp w W Γ2 o w' W:=by
  refine⟨l.os,l.tape,l.output,l.size,D,λg a=>(m g a).imp (λh=>h) (λh=>h.1),λb g h=>?_,λ_ h=>.inl h,λg a _ _=>e g a,rfl,by omega,λb A hf=>⟨M.nm b (by omega),M.shp b (by omega),λg a=>M.hs b g (by omega) a⟩⟩;simp only[Γ2] at h;split at h
  ·exact .inl ⟨by omega,h⟩
  ·exact .inr (p _ g h).2.1
 have S':=S.step hI F (λg a=>e g (hI.foot _ _ _ _ S.inv g a).1) a6 (S.sr.mono M (λc v=>by have:=S.sr.nms c v;omega));refine⟨⟨_,_,Γ2,W,hk,F,S',?_,λc v=>?_⟩,⟨e,l.size⟩,l.os,l.tape,l.output⟩
 ·exact hv.rn a4 (by rcases B with h|h;exact .inr h;exact .inl h.1) (λc v=>⟨y c (hvn c v),a3 c (hvn c v)⟩)
 ·rw[PV.rn_nms] at v;obtain⟨d,hd,rfl⟩:=aa1.1 v;have:=hvn d hd;show L+d<o.length;omega
theorem Aj6{g:Nat}{args:List PV}{e:Array Value}{ret:PV}{d:List Blk}{k:PV->St U->Option R}(n:HI I)(l:Ch C K)(S:SI C I Q W Y J w)(o:CR Q (A5 Y.hp) w args e)(a:C8 (N5 Y.hp args)=[])(j:K Unit (λ_ _=>none) g (N5 Y.hp args) [] ()=some (ret,d,()))
  (c:ret.clean=true) (m:d.all Blk.clean=true) (p:k (ret.rn (Y.hp.length + ·)) { sl:=Y.sl,hp:=Y.hp++d.map (Blk.rn (Y.hp.length + ·)),s:=Y.s } = some r):R4 C.P ((callFunc g e).run C.P w) (Ag5 C I Q W Y J w k r):=by
 have f:=o.snap S.hr;let Γc:Ctx:={ Q.all with nm:=λ_=>none }
 have i:CR Γc (A5 []) w (N5 Y.hp args) e:=f.bare a (λ_ h=>h) rfl;exact(ED n S (St0:=Q.all.St) (λ_ h=>ah8 h) (.inr ⟨c,m⟩)
  (l Unit I0 _ Q.yv Cm8 Cm9 g _ [] () ret d () j Γc noΦ w e rfl (Mr (λ_=>rfl) (A39 S)) (S.g.mono (λ_ _=>rfl) (λ_ h=>ah8 h)) (λ_ h=>h) (λb g h=>by cases h) i (by rw[a];simp)) p).mono λ_ _ h=>h.1
theorem LI{g:Nat}{args:List PV}{d:Array Value}{j:List PV->Tr}{ret:PV}{c:List Blk}{k:PV->St U->Option R}(m:HI I)(n:XOK C)(S:SI C I Q W Y J w)(o:CR Q (A5 Y.hp) w args d)(p:C.X g=some j)(i:M3 (j (N5 Y.hp args))=some (ret,c))
  (f:C8 (N5 Y.hp args)=[]) (l:Qz args=false\/(ret.clean=true/\c.all Blk.clean=true)) (q:k (ret.rn (Y.hp.length + ·)) { sl:=Y.sl,hp:=Y.hp++c.map (Blk.rn (Y.hp.length + ·)),s:=Y.s } = some r):R4 C.P ((callFunc g d).run C.P w) (λV w'=>Ag5 C I Q W Y J w k r V w'/\O0 w w'):=by
 by_cases t:Qz args=false
 ·have a:=(o.snap_plain t).1;let Γc:Ctx:={ Q with nm:=λ_=>none }
  have b:CR Γc (A5 []) w (N5 Y.hp args) d:=a.bare f (λ_ h=>h) rfl;exact ED m S (St0:=Q.St) (λ_ h=>h) (.inl λ_ h=>h) (n.x g j _ ret c p i Γc w d (λ_=>rfl) (Mr (λ_=>rfl) S.hr.stlt) S.g b) q
 ·have e:ret.clean=true/\c.all Blk.clean=true:=by rcases l with h|h;exact absurd h t;exact h
  have a:=o.snap S.hr;let Γc:Ctx:={ Q.all with nm:=λ_=>none }
  have b:CR Γc (A5 []) w (N5 Y.hp args) d:=a.bare f (λ_ h=>h) rfl;exact ED m S (St0:=Q.all.St) (λ_ h=>ah8 h) (.inr e) (n.x g j _ ret c p i Γc w d (λ_=>rfl) (Mr (λ_=>rfl) (A39 S)) (S.g.mono (λ_ _=>rfl) (λ_ h=>ah8 h)) b) q
theorem Aj8{g:Nat}{args:List PV}{e:Array Value}{f:List PV->Tr}{ret:PV}{a:List Blk}{k:PV->St U->Option R}(i:HI I)(j:XOK C)(S:SI C I Q W Y J w)(l:CR Q (A5 Y.hp) w args e)(m:C.X g=some f)(d:M3 (f (N5 Y.hp args))=some (ret,a))
  (c:C8 (N5 Y.hp args)=[]) (b:Qz args=false\/(ret.clean=true/\a.all Blk.clean=true)) (n:k (ret.rn (Y.hp.length + ·)) { sl:=Y.sl,hp:=Y.hp++a.map (Blk.rn (Y.hp.length + ·)),s:=Y.s } = some r):R4 C.P ((callFunc g e).run C.P w) (Ag5 C I Q W Y J w k r):=
 (LI i j S l m d c b n).mono λ_ _ h=>h.1
end
def Ctx.lent(Γ:Ctx)(ns:List Nat):Ctx:={ Γ with nm:=λi=>(ns[i]?).bind Γ.nm }
def Ctx.back(Γ Γ1:Ctx)(ns:List Nat)(L:Nat)(d:Bool):Ctx:=
 { St:=Γ1.St,nm:=λb=>if b∈ns then Γ1.nm (I1 ns b) else if b<L then Γ.nm b else if d=true then none else Γ1.nm (ns.length+(b-L)),yv:=Γ.yv,yv1:=Γ.yv1 }
section
variable {W R : Type} {r : R} {C : Cfg} {I : W -> (Nat -> Prop) -> (Nat -> Prop) -> World -> Prop} {Q : Ctx} {H : List Blk} {J : Nat -> Prop} {Y : St W} {O : Array Value} {w : World} {X : F6} {K : Yh W} {Z : Value}
def T4(H:List Blk)(a:List Nat):List Blk:=a.map λb=>(H.getD b .dead).rn (I1 a)
theorem Yg{a:List Nat}{b:Nat}(h:b∈a):(Q.lent a).nm (I1 a b)=Q.nm b:=by obtain⟨c,d⟩:=Ie h;simp only[Ctx.lent,b8 c,d,ah6]
theorem Qs{a:List Nat}(c:∀b∈a,b<H.length){i:Nat}(d:i<a.length):A5 (T4 H a) i=A5 H a[i]:=by have:=c _ (j8 d);simp only[A5,T4,o0,b8 d,x5,Blk.rn_shp,b8 this];rw[p7,b8 this];rfl
theorem Bz9{a:List Nat}(p:HR Q H w)(y:a.Nodup)(k:∀b∈a,b<H.length)(x:Hv H a=true):HR (Q.lent a) (T4 H a) w:=by
 have n:=PE x;have key:∀i g,(Q.lent a).nm i=some g->∃h:i<a.length,Q.nm a[i]=some g:=λi g h=>by
  simp only[Ctx.lent] at h;cases f:a[i]? with
  | none=>rw[f] at h;simp at h
  | some b=>
   obtain⟨u,v⟩:=j2.1 f;rw[f] at h;exact⟨u,by rw[v];exact h⟩
 have l:∀b (h:b∈a),H.getD b .dead=H[b]'(k b h):=λb h=>by rw[p7,b8 (k b h)];rfl
 refine⟨λi j g u v=>?_,λi g h=>?_,p.stlt,λi f c q=>?_,λi f=>?_⟩
 ·obtain⟨f,t⟩:=key i g u;obtain⟨F,z⟩:=key j g v;have:=p.inj _ _ g t z;exact(ah3 y).1 this
 ·obtain⟨f,t⟩:=key i g h;have:=p.lt _ g t;exact⟨by simpa[T4] using f,this.2⟩
 ·simp only[T4,j9] at f ⊢;simp only[T4,j7,Blk.rn_nms] at q;obtain⟨d,A,rfl⟩:=aa1.1 q;exact(Ie (n _ (j8 f) d A)).1
 ·simp only[T4,j9] at f;have o:=j8 f;have e:(T4 H a)[i]'(by simpa[T4] using f)=(H[a[i]]'(k _ o)).rn (I1 a):=by
   simp only[T4,j7,l _ o]
  rw[e];refine BR.rn (Γ:=Q) (Γ':=Q.lent a) (b':=i) rfl (p.blk _ (k _ o)) (.inr λ_ h=>h) ?_ (λc q=>?_)
  ·simp only[Ctx.lent,b8 f,ah6]
  ·have m:c∈a:=n _ o c (by rw[l _ o];exact q);obtain⟨B,D⟩:=Ie m;exact⟨Yg m,by rw[Qs k B,D]⟩
theorem SP{L:Nat}{H:List Blk}(h:Ca5 L H=true):∀x∈H,∀c∈x.nms,c<L:=by intro x b c a;simp only[Ca5,p6,decide_eq_true_eq] at h;exact h x b c a
theorem LW{b:Nat}(a:b<H.length):Ez C (H.getD b .dead)=true↔Kn C (A5 H b):=by
 have e:H.getD b .dead=H[b]:=by rw[p7,b8 a];rfl
 rw[e];simp only[A5,b8 a,x5];cases H[b]<;>simp[Ez,Kn,Blk.shp]
theorem EP{g:Nat}{T:List PV}{Vs:Array Value}{ret:PV}{z:List Blk}{s':W}{k:PV->St W->Option R}(hI:HI I)(hC:Ch C X)(hy:A37 C.P I K Z)(g0:Q.yv=Z)(S:SI C I Q J Y O w)(m:CR Q (A5 Y.hp) w T Vs)(hn:∀c∈C8 T,c<Y.hp.length)
  (f0:Hv Y.hp (Dg Y.hp (C8 T))=true) (c6:X W K g (rnL (I1 (Dg Y.hp (C8 T))) T) (T4 Y.hp (Dg Y.hp (C8 T))) Y.s=some (ret,z,s'))
  (hk:k (Jf (T1 ((Dg Y.hp (C8 T)).filter λb=>!Ez C (Y.hp.getD b .dead)) Y.hp) (Dg Y.hp (C8 T)) ret z).1
   { sl:=L6 ((Dg Y.hp (C8 T)).filter λb=>!Ez C (Y.hp.getD b .dead)) Y.sl,hp:=(Jf (T1 ((Dg Y.hp (C8 T)).filter λb=>!Ez C (Y.hp.getD b .dead)) Y.hp) (Dg Y.hp (C8 T)) ret z).2,s:=s' } = some r) :
  R4 C.P ((callFunc g Vs).run C.P w) (Ag5 C I Q J Y O w k r):=by
 have d1:=FN Y.hp (C8 T);have c3:=TG Y.hp (C8 T);have P:∀b∈Dg Y.hp (C8 T),b<Y.hp.length:=TF Y.hp (C8 T) (· < Y.hp.length) (λb l c m=>by
  have e:Y.hp.getD b .dead=Y.hp[b]:=by rw[p7,b8 l];rfl
  rw[e] at m;exact S.hr.nms b l c m) hn
 generalize Dg Y.hp (C8 T)=a at *;have e8:=Bz9 S.hr d1 P f0;have u:=λb (h:b∈a)=>Ie h
 have c5:CR (Q.lent a) (A5 (T4 Y.hp a)) w (rnL (I1 a) T) Vs:=by
  rw[DU];refine⟨by rw[j9];exact m.1,λj hj=>?_⟩;have d6:j<T.length:=by simpa using hj
  obtain⟨U,e,q⟩:=m.2 j d6;refine⟨U,e,?_⟩;rw[j7];refine VP.rn (Γ:=Q) (Γ':=Q.lent a) rfl q (.inr λ_ h=>h) (λc m=>?_);have a0:=c3 c (C0.2 ⟨j,d6,m⟩);obtain⟨q1,q2⟩:=u c a0;exact⟨Yg a0,by rw[Qs P q1,q2]⟩
 have c4:∀c∈C8 (rnL (I1 a) T),c<(T4 Y.hp a).length:=λc m=>by
  rw[Jt] at m;obtain⟨d,hd,rfl⟩:=aa1.1 m;simpa[T4] using(u d (c3 d hd)).1
 refine(hC W I K Z hI hy g _ _ _ ret z s' c6 (Q.lent a) J w Vs g0 e8 S.g S.inv (λi g h=>?_) c5 c4).mono ?_
 ·simp only[Ctx.lent] at h;cases t:a[i]? with
  | none=>rw[t] at h;simp at h
  | some b=>rw[t] at h;exact S.dis b g h
 rintro V w' ⟨Γ1,Φ1,hs,p,hv,hvn,f3,d4⟩;generalize hL:Y.hp.length=L at *;generalize d7:(a.filter λb=>!Ez C (Y.hp.getD b .dead))=ks at *;obtain⟨F,g4,e6⟩:=Qp (Γ:=Q) (sh:=A5 Y.hp) (w:=w) ks Y.hp;have g5:(T4 Y.hp a).length=a.length:=by simp[T4]
 have g6:a.length<=z.length:=by have:=hs.len;omega
 simp only[Jf,F,hL] at hk;generalize hf:Mq a L=f at *;have f1:∀i (h:i<a.length),f i=a[i]:=λi h=>by rw[<-hf];simp only[Mq,if_pos h];exact Fa h
 have f2:∀i,¬i<a.length->f i=L+(i-a.length):=λi h=>by rw[<-hf];simp only[Mq,if_neg h]
 generalize hd:((ret.rn f).nms.all (· < L)&&Ca5 L ((z.take a.length).map (Blk.rn f)))=d at hk;let E:List Blk:=cond d [] ((z.drop a.length).map (Blk.rn f));have d0:((z.take a.length).map (Blk.rn f)).length=a.length:=by simp;omega
 obtain⟨b4,e7⟩:=Kd a ((z.take a.length).map (Blk.rn f)) (T1 ks Y.hp) d1 d0 (λb l=>by rw[F];have:=P b l;omega);have hE:(cond d (Bo (T1 ks Y.hp) a ((z.take a.length).map (Blk.rn f))) (Bo (T1 ks Y.hp) a ((z.take a.length).map (Blk.rn f))++(z.drop a.length).map (Blk.rn f)))=Bo (T1 ks Y.hp) a ((z.take a.length).map (Blk.rn f))++E:=by
  cases d<;>simp[E]
 rw[hE] at hk;generalize b6:Bo (T1 ks Y.hp) a ((z.take a.length).map (Blk.rn f))++E=H2 at hk;have b7:H2.length=L+E.length:=by rw[<-b6,j6,b4,F,hL]
 have b5:E.length=if d=true then 0 else z.length-a.length:=by cases d<;>simp[E]
 have g1:∀b (l:b∈a),H2[b]? = some ((z[I1 a b]'(by have:=(u b l).1;omega)).rn f):=λb l=>by
  have d3:=P b l;rw[<-b6,o8 (by rw[b4,F,hL];exact d3),e7,if_pos l];have t:=(u b l).1;have e:a.idxOf b=I1 a b:=rfl;rw[e,o0,x9,if_pos t,b8 (by omega)];rfl
 have g2:∀b,b<L->b∉a->H2[b]? = (T1 ks Y.hp)[b]?:=λb l o=>by
  rw[<-b6,o8 (by rw[b4,F,hL];exact l),e7,if_neg o]
 have g3:∀b,L<=b->(l:b<H2.length)->d=false/\∃h:a.length+(b-L)<z.length,H2[b]? = some ((z[a.length+(b-L)]).rn f):=λb n l=>by
  have v:d=false:=by
   rcases Bool.eq_false_or_eq_true d with h|h
   ·rw[b7,b5,h] at l;simp at l;omega
   ·exact h
  have h':a.length+(b-L)<z.length:=by rw[b7,b5,v] at l;simp at l;omega
  refine⟨v,h',?_⟩;rw[<-b6,p9 (by rw[b4,F,hL];exact n),b4,F,hL];simp only[E,v,cond_false,o0,ag3,b8 h',x5]
 let Γ2:=Q.back Γ1 a L d;have G:∀i,i<z.length->(i<a.length\/d=false)->Γ2.nm (f i)=Γ1.nm i/\A5 H2 (f i)=A5 z i/\f i<H2.length:=λi t D=>by
  by_cases h:i<a.length
  ·rw[f1 i h];have hm:=j8 h;have c1:I1 a a[i]=i:=by
    obtain⟨q1,q2⟩:=u _ hm;exact(ah3 d1).1 q2
   refine⟨by simp only[Γ2,Ctx.back,if_pos hm,c1],?_,by have:=P _ hm;omega⟩;simp only[A5,g1 _ hm,x5,Blk.rn_shp,c1,b8 t]
  ·have v:d=false:=by rcases D with D|D;exact absurd D h;exact D
   have n:L+(i-a.length)<H2.length:=by rw[b7,b5,v];simp;omega
   have f5:L+(i-a.length)∉a:=λhm=>by have:=P _ hm;omega
   rw[f2 i h];refine⟨?_,?_,n⟩
   ·simp only[Γ2,Ctx.back,if_neg f5,v];rw[if_neg (by omega),if_neg (by simp)]
    congr 1;omega
   ·obtain⟨_,h',e⟩:=g3 _ (by omega) n;have e2:a.length+(L+(i-a.length)-L)=i:=by omega
    simp only[A5,e,x5,Blk.rn_shp,b8 t]
    congr 2
    simp only[e2]
 have c0:∀c∈ret.nms,c<a.length\/d=false:=λc m=>by
  cases c7:d with
  | false=>exact .inr rfl
  | true=>
   rw[c7] at hd;simp only[b9,p6,decide_eq_true_eq] at hd;refine .inl (x3 λh=>?_);have:=hd.1 (f c) (by rw[PV.rn_nms];exact ac8 m);rw[f2 c h] at this;omega
 have b1:∀i (t:i<a.length),∀c∈(z[i]'(by omega)).nms,c<a.length\/d=false:=λi t c m=>by
  cases c7:d with
  | false=>exact .inr rfl
  | true=>
   rw[c7] at hd;simp only[b9] at hd;refine .inl (x3 λh=>?_);have d9:(z[i]'(by omega)).rn f∈(z.take a.length).map (Blk.rn f):=ac8 (by rw[List.mem_take_iff_getElem];exact⟨i,by omega,rfl⟩);have:=SP hd.2 _ d9 (f c) (by rw[Blk.rn_nms];exact ac8 m);rw[f2 c h] at this;omega
 have hΓc:∀i g,(Q.lent a).nm i=some g->∃h:i<a.length,Q.nm a[i]=some g:=λi g h=>by
  simp only[Ctx.lent] at h;cases t:a[i]? with
  | none=>rw[t] at h;simp at h
  | some b=>
   obtain⟨q1,q2⟩:=j2.1 t;rw[t] at h;exact⟨q1,by rw[q2];exact h⟩
 have c8:=hI.foot _ _ _ _ S.inv;have c2:∀b g,b∉a->Q.nm b=some g->w'.heap[g]? = w.heap[g]?:=λb g l D=>hs.frame g (S.hr.lt b g D).2.1 (λi t=>by
  obtain⟨N,B⟩:=hΓc i g t;have:=S.hr.inj _ _ g B D;exact l (this▸j8 N)) (S.dis b g D)
 have e3:∀g,Q.St g->w'.heap[g]? = w.heap[g]?:=λg D=>hs.frame g (S.hr.stlt g D) (λi t=>by
  obtain⟨N,B⟩:=hΓc i g t;exact(S.hr.lt _ g B).2.2 D) (λhp=>(c8 g hp).2 D)
 have a6:∀i g,Γ1.nm i=some g->(∃h:i<a.length,Q.nm a[i]=some g)\/w.heap.size<=g:=λi g h=>by
  rcases hs.own i g h with⟨_,h⟩|h
  ·exact .inl (hΓc i g h)
  ·exact .inr h
 have d8:∀b,b∈a->b∉ks->Kn C (A5 Y.hp b):=λb l a5=>by
  rw[<-d7] at a5;have d3:=P b l;rw[<-LW (by omega)];simp only[ai3,not_and,ac2] at a5;simpa using a5 l
 have b2:∀b,b∈a->Kn C (A5 Y.hp b)->Γ2.nm b=Q.nm b/\A5 H2 b=A5 Y.hp b/\∀g,Q.nm b=some g->w'.shape? g=w.shape? g:=λb l c9=>by
  obtain⟨q1,q2⟩:=u b l;have e:=Qs (H:=Y.hp) (λb l=>by have:=P b l;omega) q1;rw[q2] at e;obtain⟨k1,k2,k3⟩:=hs.keep (I1 a b) (by omega) (by rw[e];exact c9);rw[Yg l] at k1 k3;refine⟨by simp only[Γ2,Ctx.back,if_pos l];exact k1,?_,k3⟩;have e5:A5 z (I1 a b)=some (z[I1 a b]'(by omega)).shp:=by
   simp only[A5];rw[b8 (by omega)];rfl
  rw[<-e,<-k2,e5];simp only[A5,g1 b l,x5,Blk.rn_shp]
 have M:Ax Q (A5 Y.hp) w Γ2 (A5 H2) w' (λc=>c<L/\c∉ks):=by
  have key:∀c,c<L->c∉ks->Γ2.nm c=Q.nm c/\A5 H2 c=A5 Y.hp c/\∀g,Q.nm c=some g->w'.shape? g=w.shape? g:=λc m e9=>by
   by_cases a0:c∈a
   ·exact b2 c a0 (d8 c a0 e9)
   ·refine⟨by simp only[Γ2,Ctx.back,if_neg a0,if_pos m],?_,λg D=>F5 (c2 c g a0 D)⟩;rw[<-g4 c];simp only[A5,g2 c m a0]
  exact⟨e3,hs.sub,λc m=>(key c m.1 m.2).1,λc m=>(key c m.1 m.2).2.1,λc g m D=>(key c m.1 m.2).2.2 g D,rfl⟩
 have b3:Γ2.yv=Γ1.yv:=by have:=hs.yv;exact this.symm
 have f6:HR Γ2 H2 w':=by
  refine⟨λb b' g N B=>?_,λb g h=>?_,p.stlt,λb l c a7=>?_,λb l=>?_⟩
  ·simp only[Γ2,Ctx.back] at N B;have a9:∀x y,x∈a->Γ1.nm (I1 a x)=some g->y∉a->Q.nm y=some g->False:=λx y hx e1 f9 e2=>by
    rcases a6 _ g e1 with⟨q1,q2⟩|q
    ·have:=S.hr.inj _ _ g q2 e2;exact f9 (this▸j8 q1)
    ·have:=(S.hr.lt y g e2).2.1;omega
   have b0:∀x i,Q.nm x=some g->¬i<a.length->Γ1.nm i=some g->False:=λx i e1 t e2=>by
    rcases a6 _ g e2 with⟨q1,_⟩|q
    ·exact t q1
    ·have:=(S.hr.lt x g e1).2.1;omega
   split at N
   ·rename_i l;split at B
    ·rename_i a4;have:=p.inj _ _ g N B;rw[<-(u b l).2,<-(u b' a4).2];simp only[this]
    ·rename_i a4;split at B
     ·exact(a9 b b' l N a4 B).elim
     ·split at B
      ·cases B
      ·have:=p.inj _ _ g N B;have:=(u b l).1;omega
   ·rename_i l;split at N
    ·rename_i n;split at B
     ·rename_i a4;exact(a9 b' b a4 B l N).elim
     ·split at B
      ·exact S.hr.inj b b' g N B
      ·split at B
       ·cases B
       ·exact(b0 b _ N (by omega) B).elim
    ·rename_i n;split at N
     ·cases N
     ·split at B
      ·rename_i a4;have:=p.inj _ _ g N B;have:=(u b' a4).1;omega
      ·split at B
       ·exact(b0 b' _ B (by omega) N).elim
       ·have:=p.inj _ _ g N B;omega
  ·simp only[Γ2,Ctx.back] at h ⊢;split at h
   ·rename_i l;have:=p.lt _ g h;have:=P b l;exact⟨by omega,(p.lt _ g h).2.1,(p.lt _ g h).2.2⟩
   ·split at h
    ·rename_i n;have N:=S.hr.lt b g h;refine⟨by omega,by have:=hs.size;omega,λf7=>?_⟩;rcases hs.stnew g f7 with q|q
     ·exact N.2.2 q
     ·omega
    ·rename_i n;split at h
     ·cases h
     ·rename_i v;have N:=p.lt _ g h;refine⟨?_,N.2.1,N.2.2⟩;rw[b7,b5,if_neg v];omega
  ·by_cases o:b∈a
   ·have e:=g1 b o;rw[b8 l] at e;simp only[a8] at e;rw[e,Blk.rn_nms] at a7;obtain⟨c',A,rfl⟩:=aa1.1 a7;have t:=(u b o).1;exact(G c' (p.nms _ (by omega) c' A) (b1 _ t c' A)).2.2
   ·by_cases n:b<L
    ·have e:=g2 b n o;rw[b8 l,b8 (by rw[F,hL];exact n)] at e;simp only[a8] at e;rw[e] at a7;have:=((e6 b (by rw[F,hL];exact n) (by omega)).1 c a7).2;have:=S.hr.nms b (by omega) c this;omega
    ·obtain⟨v,h',e⟩:=g3 b (by omega) l;rw[b8 l] at e;simp only[a8] at e;rw[e,Blk.rn_nms] at a7;obtain⟨c',A,rfl⟩:=aa1.1 a7;exact(G c' (p.nms _ h' c' A) (.inr v)).2.2
  ·by_cases o:b∈a
   ·have e:=g1 b o;rw[b8 l] at e;simp only[a8] at e;rw[e];have t:=(u b o).1;refine(p.blk _ (by omega)).rn b3 (.inr λ_ h=>h) (by simp only[Γ2,Ctx.back,if_pos o]) (λc' A=>?_);have:=G c' (p.nms _ (by omega) c' A) (b1 _ t c' A);exact⟨this.1,this.2.1⟩
   ·by_cases n:b<L
    ·have e:=g2 b n o;rw[b8 l,b8 (by rw[F,hL];exact n)] at e;simp only[a8] at e;rw[e];have q:=e6 b (by rw[F,hL];exact n) (by omega);refine(q.2 b (S.hr.blk b (by omega))).mono M (by simp only[Γ2,Ctx.back,if_neg o,if_pos n]) (λg D=>c2 b g o D) (λc m=>?_);have:=q.1 c m;exact⟨by have:=S.hr.nms b (by omega) c this.2;omega,this.1⟩
    ·obtain⟨v,h',e⟩:=g3 b (by omega) l;rw[b8 l] at e;simp only[a8] at e;rw[e];refine(p.blk _ h').rn b3 (.inr λ_ h=>h) ?_ (λc' A=>?_)
     ·simp only[Γ2,Ctx.back,if_neg o,if_neg n,v];simp
     ·have:=G c' (p.nms _ h' c' A) (.inr v);exact⟨this.1,this.2.1⟩
 have e4:Stp C Q Y.hp w J Γ2 H2 w' Φ1:=by
  refine⟨hs.os,hs.tape,hs.output,hs.size,hs.sub,hs.stnew,λb g h=>?_,hs.foot,λg D f4 hp=>hs.frame g D (λi t=>?_) hp,rfl,by omega,λb l c9=>?_⟩
  ·simp only[Γ2,Ctx.back] at h;split at h
   ·rename_i l;rcases a6 _ g h with⟨q1,q2⟩|q
    ·have hh:a[I1 a b]=b:=(u b l).2;rw[hh] at q2;exact .inl ⟨by have:=P b l;omega,q2⟩
    ·exact .inr q
   ·split at h
    ·exact .inl ⟨by omega,h⟩
    ·split at h
     ·cases h
     ·rcases a6 _ g h with⟨q1,_⟩|q
      ·omega
      ·exact .inr q
  ·obtain⟨_,q2⟩:=hΓc i g t;exact f4 _ q2
  ·by_cases o:b∈a
   ·exact b2 b o c9
   ·have a5:b∉ks:=λh=>o (by rw[<-d7] at h;exact(ai3.1 h).1)
    exact⟨M.nm b ⟨by omega,a5⟩,M.shp b ⟨by omega,a5⟩,λg D=>M.hs b g ⟨by omega,a5⟩ D⟩
 have f8:SR Γ2 H2 w' (L6 ks Y.sl) O:=by
  obtain⟨d2,a2,a3⟩:=Nj (Γ:=Q) (sh:=A5 Y.hp) (w:=w) ks Y.sl;refine⟨by rw[d2];exact S.sr.size,λc m=>by have:=S.sr.nms c (a2 c m).2;omega,λi t=>?_⟩;have d5:i<Y.sl.length:=by rw[d2] at t;exact t
  obtain⟨U,e,q⟩:=S.sr.slot i d5;refine⟨U,e,(a3 i t d5 U q).mono M λc m=>?_⟩;have hm:=a2 c (C0.2 ⟨i,t,m⟩);exact⟨by have:=S.sr.nms c hm.2;omega,hm.1⟩
 refine⟨_,_,Γ2,Φ1,hk,e4,⟨f6,f8,S.g.mono e3 hs.sub,f3,λb g h=>?_⟩,?_,λc m=>?_⟩
 ·intro hp;simp only[Γ2,Ctx.back] at h;split at h
  ·exact d4 _ g h hp
  ·split at h
   ·rcases hs.foot g hp with q|q
    ·exact S.dis b g h q
    ·have:=(S.hr.lt b g h).2.1;omega
   ·split at h
    ·cases h
    ·exact d4 _ g h hp
 ·exact hv.rn b3 (.inr λ_ h=>h) (λc m=>by
   have:=G c (hvn c m) (c0 c m);exact⟨this.1,this.2.1⟩)
 ·rw[PV.rn_nms] at m;obtain⟨c',A,rfl⟩:=aa1.1 m;exact(G c' (hvn c' A) (c0 c' A)).2.2
end
end
end Go.Proofs.YtkegcjamihlmmaaGreatDoor.E
