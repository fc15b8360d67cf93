/-
  Parts of the proof, merged by a program of the prover's own; no condition.
-/
import Derived.Below
import Derived.Control
import Derived.Laws.AppendOwn
import Derived.Laws.BytesString
import Derived.Laws.CopyRow
import Derived.Laws.IdiomStrings
import Derived.Laws.MakeOwn
import Derived.Laws.RangeString
import Derived.Laws.Runes
import Derived.Laws.Tables
import Derived.Lib.Strings
import Derived.MapKept
import Derived.WalkKit
import Derived.WalkLawsBesides
import Derived.WalkSpells
open Option.some renaming injEq->c9
open Bool renaming and_eq_true->j0,false_eq_true->y5,or_eq_true->ab7,not_eq_true'->ae3,not_eq_true->ai8,eq_iff_iff->aj5,not_true->ak0,true_and->ak1
open List renaming getElem?_eq_getElem->j4,getElem?_eq_some_iff->j5,length_append->j9,mem_append->k9,all_eq_true->o0,length_eq_zero_iff->o5,length_map->o6,getElem_map->o7,replicate->o9,getElem_mem->p7,getElem_cons_zero->s8,getElem?_append_left->v8,getElem?_map->w6,getElem_append_left->w8,getElem_set->x3,getElem?_append_right->x6,length_set->x9,eq_nil_of_length_eq_zero->y8,mem_zipIdx_iff_getElem?->aa0,map_cons->aa1,getD_eq_getElem?_getD->aa3,getElem?_take->aa4,length_singleton->aa5,foldl_cons->aa7,mem_cons->ab0,take_of_length_le->ab6,getElem?_toArray->ac0,append_assoc->ac2,length_take->ac6,map_map->ac7,isEmpty_iff->ad2,getElem_append_right->ae2,ext_getElem?->ae4,flatten_cons->ae5,length_cons->af1,getElem_replicate->af6,mem_map->af7,range->af8,append_nil->ag1,length_nil->ag2,map_append->ag3,getElem?_eq_none->ag4,length_replicate->ag5,length->ag7,take_zero->ag8,getElem_of_mem->ah5,length_pos_iff->ah6,map_congr_left->ah7,all_cons->ah9,getElem?_set->ai4,getD->ai9,length_drop->aj0,range'->aj3,nodup_cons->aj7,drop_nil->ak5,map_nil->ak9
open Nat renaming le_refl->j7,mul_le_mul_right->j8,add_mul->p6,zero_add->w9,zero_le->ab2,add_zero->ac8,lt_of_lt_of_le->ad0,beq->ad5,le_trans->ae1,le_of_not_lt->af2,eq_of_beq_eq_true->ag6,ble->ah1,add_assoc->ai0,min_zero->ai6,mod_eq_of_lt->aj1,mod_lt->aj8,lt_irrefl->ak6,blt->al0,mul_comm->al1,zero_mul->al2
open Go.Result renaming andThen_ok->o8,andThen->ag9
open Array renaming length_toList->p4,getD_eq_getD_getElem?->x4,getElem?_eq_some_iff->x5,getElem?_setIfInBounds->y9,getElem?_append_left->ac3,toList_map->ad1,getElem?_eq_none->af3,size_append->ai2,ext'->am4
open Go.Op renaming equalIn->p5,bytesLess->ag0,equal->ai7,eqFields->aj4,unary->am1
open Go.Sem renaming run_bind->p9,run_pure->v7
open Option renaming map_eq_some_iff->s9,map_some->ac9,getD_some->aj2,map_map->aj9
open Go.MapKept renaming run_getObj_map->x7,run_checkKey->aa8,run_findKey->ab1,IsKey->ae9,run_setObj_map->af9,bytes_beq->ai5
open Go.Builtin renaming append_->x8,firstCells->ab4,copy_->ab8,zeroCells->ac1,len_->ac5,lenOf->ak2
open Go.Instr renaming buildSlice->y7,sureAddr->aa2,lookup->ab5,sliceAt->ab9,findNow->ad3,indexAt->ad4,mapUpdate->ad8,loadAt->ae0,storeAt->ae8,fill->af4,next->af5,fieldAt->ah8,sliceBounds->ai3,makeMap->ak4,alloc->al4,field->al5,index->al6,slice->al7
open Decidable renaming byContradiction->aa6
open Go.World renaming shape?->aa9,cell?->ad7
open BitVec renaming ofInt->ab3
open Prod renaming snd->ac4
open Int renaming ofNat_eq_natCast->ad6,negSucc_lt_zero->ah3,toNat_of_nonneg->ah4
open Go.ByteArray renaming toList_eq->ad9
open UInt8 renaming ofNat->ae6
open Go.Utf8 renaming decode->ae7,encode->am3
open Prod.mk renaming injEq->af0
open Std.Legacy.Range renaming forIn_eq_forIn_range'->ah0,size->al3
open Function renaming comp_apply->ah2,comp->ak3
open Go.Array renaming range_zero'->ai1
open ByteArray renaming empty->aj6
open Go.Program renaming built->ak7
open Go.Value renaming int->ak8
set_option maxRecDepth 100000
variable{R:Type}
namespace Go.Proofs.YteickfjoihhgkaaGreatDoor.E
theorem aa{α:Type _}(a b:α):cond true a b=a:=rfl
theorem ab{α:Type _}(a b:α):cond false a b=b:=rfl
theorem ac{c:Prop}{h:Decidable c}(p:c){α:Sort _}{t e:α}:ite c t e=t:=if_pos p
theorem ae{c:Prop}{h:Decidable c}(p:¬c){α:Sort _}{t e:α}:ite c t e=e:=if_neg p
theorem af(p:Prop)[Decidable p]:(decide p=true)=p:=decide_eq_true_eq
set_option linter.all false
section
open Go
inductive SV where
 | bool (b:Bool)
 | int (k:IntKind) (n:Int)
 | str (l:List UInt8)
 | nilp
 | nilm
 | nilf
 | sl (z t:Bool) (k:Nat) (els:List (List SV))
 | sp (els:List (List SV)) (i off:Nat)
 | fn (f:Fn) (first caps:List SV)
 deriving Inhabited
inductive PV where
 | s (v:SV)
 | nsl
 | fl (b:Nat)
 | vw (b i n:Nat)
 | ptr (b i off:Nat)
 | fnr (f:Fn) (first caps:List PV)
 | it (b:Nat)
 | yd
 | agg (l:List PV)
 | tup (l:List PV)
 | bad
 deriving Inhabited
inductive Blk where
 | arr (v:Bool) (e sz:Nat) (els:List (List SV))
 | box (cells:List PV)
 | iter (s:List UInt8) (pos:Nat)
 | mp (ents:List (List UInt8 × PV))
 | ms (a:Bool) (ents:List (List UInt8 × List SV))
 | dead
 deriving Inhabited
inductive CK where
 | bool
 | int (k:IntKind)
 | str
 | sl (k:Nat)
 | ptr
 | map
 | fn
 deriving DecidableEq,Inhabited
structure TI where
 ok:Bool
 agg:Bool
 ks:List CK
 deriving Inhabited
inductive Sh where
 | int (k:IntKind)
 | str
 | bool
 | slice (e:Nat)
 | array (n e:Nat)
 | struct (fs:List (Nat × Nat))
 | ptr (e:Nat)
 | map (k e:Nat)
 | fn
 | other
 deriving Inhabited
def Bu2:CK->Value->Bool
 | .bool,.bool b=>!b
 | .int k,.int a n=>decide (k=a)&&decide (n=0)
 | .str,.string s=>s.data.toList.isEmpty
 | .sl _,.slice none 0 0=>true
 | .ptr,.pointer none=>true
 | .map,.map none=>true
 | .fn,.nilFunc=>true
 | _,_=>false
def Ea:List CK->List Value->Bool
 | [],[]=>true
 | c::r,v::q=>Bu2 c v&&Ea r q
 | _,_=>false
def ksF(f:Nat->Option (List CK)):List Field->Nat->Option (List CK)
 | [],_=>some []
 | x::r,off=>if x.offset==off then match f x.type with
   | some a=>match ksF f r (off+a.length) with
    | some b=>some (a++b)
    | none=>none
   | none=>none else none
def OY(P:Program):Nat->Nat->Option (List CK)
 | 0,_=>none
 | d+1,t=>match P.underlying t with
  | some .bool=>some [.bool]
  | some (.int k)=>some [.int k]
  | some .string=>some [.str]
  | some (.slice e)=>match P.info? e with
   | some i=>some [.sl i.size]
   | none=>none
  | some (.pointer _)=>some [.ptr]
  | some (.map _ _)=>some [.map]
  | some (.func _ _ _)=>some [.fn]
  | some (.struct b)=>ksF (OY P d) b.toList 0
  | some (.array n e)=>match OY P d e with
   | some a=>some (o9 n a).flatten
   | none=>none
  | _=>none
def Dv6(P : Program)(t : Nat) : TI :=
  match P.info? t, P.underlying t, OY P 20 t with
  | some i, some d, some a => match i.zero with
    | some z => { ok := i.size==z.cells.size&&decide (i.bytes <= 512)&&decide (0 < i.size)&&Ea a z.cells.toList, ks := a
                  agg := match d with | .struct _ => true | .array _ _ => true|_ => false }
    | none => { ok := false, agg := false, ks := [] }
  | _, _, _ => { ok := false, agg := false, ks := [] }
def PW(P:Program)(t:Nat):Sh:=
 match P.underlying t with
 | some (.slice e)=>.slice e
 | some (.array n e)=>.array n e
 | some (.struct a)=>.struct (a.toList.map λf=>(f.offset,f.type))
 | some (.pointer e)=>.ptr e
 | some (.map k e)=>.map k e
 | some (.func _ _ _)=>.fn
 | some (.bool)=>.bool
 | some (.int k)=>.int k
 | some (.string)=>.str
 | _=>.other
def ML(f:Nat->Option (List CK)):List Field->Nat->Option (List CK)
 | [],_=>some []
 | x::r,off=>if x.offset==off&&x.name != "_" then match f x.type with
   | some a=>match ML f r (off+a.length) with
    | some b=>some (a++b)
    | none=>none
   | none=>none else none
def SP(P:Program):Nat->Nat->Option (List CK)
 | 0,_=>none
 | d+1,t=>match P.underlying t with
  | some .bool=>some [.bool]
  | some (.int k)=>some [.int k]
  | some .string=>some [.str]
  | some (.struct c)=>if P.stoodInHeld t then none else match ML (SP P d) c.toList 0 with
   | some b=>if (P.info? t).map (·.size)==some b.length then some b else none
   | none=>none
  | some (.array n e)=>match SP P d e with
   | some a=>if (P.info? e).map (·.size)==some a.length&&(P.info? t).map (·.size)==some (o9 n a).flatten.length then some (o9 n a).flatten else none
   | none=>none
  | _=>none
def Dj6(P:Program)(t:Nat):Bool:=SP P 20 t==some (Dv6 P t).ks&&!(P.eqGuardType P.depth t)
inductive Tr where
 | ret (v:PV) (H:List Blk)
 | need (c:Bool) (t:Tr)
 | split (c:Bool) (a b:Tr)
 | fail
def Gm:Tr->(PV->List Blk->Option R)->Option R
 | .ret v H,k=>k v H
 | .need c t,k=>cond c (Gm t k) none
 | .split c a b,k=>cond c (Gm a k) (Gm b k)
 | .fail,_=>none
def M6(t:Tr):Option (PV × List Blk):=Gm t λv H=>some (v,H)
def Cj{r:R}:∀{t:Tr} {k:PV->List Blk->Option R},Gm t k=some r->∃v H,M6 t=some (v,H)/\k v H=some r
 | .ret v H,k,h=>⟨v,H,rfl,h⟩
 | .need c t,k,h=>by
  cases c with
  | true=>exact Cj (t:=t) h
  | false=>cases h
 | .split c a b,k,h=>by
  cases c with
  | true=>exact Cj (t:=a) h
  | false=>exact Cj (t:=b) h
 | .fail,_,h=>by cases h
def SV.det:SV->Bool
 | .bool _=>true
 | .int _ _=>true
 | .str _=>true
 | _=>false
def PV.det1:PV->Bool
 | .s x=>x.det
 | _=>false
def PV.det:PV->Bool
 | .s x=>x.det
 | .tup l=>l.all PV.det1
 | _=>false
def Tu:Tr->Tr
 | .ret v H=>cond (v.det&&H.isEmpty) (.ret v H) .fail
 | .need c t=>.need c (Tu t)
 | .split c a b=>.split c (Tu a) (Tu b)
 | .fail=>.fail
def Cv:∀{t:Tr} {v:PV} {H:List Blk},M6 (Tu t)=some (v,H)->M6 t=some (v,H)/\v.det=true/\H=[]
 | .ret e H',v,H,h=>by
  simp only[Tu] at h;cases d:(e.det&&H'.isEmpty) with
  | false=>rw[d] at h;cases h
  | true=>
   rw[d] at h;simp only[j0,ad2] at d;simp only[aa,M6,Gm,c9,af0] at h;obtain⟨rfl,rfl⟩:=h;exact⟨rfl,d.1,d.2⟩
 | .need c t,v,H,h=>by
  cases c with
  | true=>exact Cv (t:=t) h
  | false=>cases h
 | .split c a b,v,H,h=>by
  cases c with
  | true=>exact Cv (t:=a) h
  | false=>exact Cv (t:=b) h
 | .fail,_,_,h=>by cases h
structure GT where
 tab:Nat->Option (IntKind × List Int)
 gi:Nat->Bool
structure Cfg where
 P:Program
 G:GT
 X:Nat->Option (List PV->Tr)
 lend:Nat->Bool
 okf:Nat->Bool
 lf:Nat
 keep:Nat->Option (List Nat):=λ_=>none
 keepR:Nat->Option (List Nat):=λ_=>none
 xp:Nat->Bool:=λ_=>false
 keepE:Nat->Option (List Nat):=λ_=>none
 keepT:Option (List Nat):=none
 Y:Nat->Option (List PV->List Blk->Tr):=λ_=>none
 S:Nat->Option (List PV->List Blk->Option (Bool × List (List PV))):=λ_=>none
 nilT:Nat->Nat->Nat × Nat:=λ_ _=>(0,0)
 rowR:Nat->Option Nat:=λ_=>none
 farR:Nat->Option (List Nat × List Nat):=λ_=>none
 Z:Nat->Option (SV->List (List SV)->Bool × List (List SV)):=λ_=>none
 stab:Nat->Bool:=λ_=>false
 rowsR:Nat->Option (List Nat):=λ_=>none
def Cfg.ti(C:Cfg)(t:Nat):TI:=Dv6 C.P t
def Cfg.sh(C:Cfg)(t:Nat):Sh:=PW C.P t
def SV.gB:SV->Bool | .bool b=>b|_=>false
def SV.gI:SV->Int | .int _ n=>n|_=>0
def SV.gS:SV->List UInt8 | .str l=>l|_=>[]
def SV.gZ:SV->Bool | .sl z _ _ _=>z|_=>false
def SV.gT:SV->Bool | .sl _ t _ _=>t|_=>false
def SV.gE:SV->List (List SV) | .sl _ _ _ e=>e|_=>[]
def SV.has:CK->SV->Bool
 | .bool,.bool _=>true
 | .int k,.int k' _=>k=k'
 | .str,.str _=>true
 | .sl k,.sl z _ k' _=>decide (k=k')||z
 | .ptr,.nilp=>true
 | .ptr,.sp _ _ _=>true
 | .map,.nilm=>true
 | .fn,.nilf=>true
 | .fn,.fn _ _ _=>true
 | _,_=>false
def SV.as:CK->SV->PV
 | .bool,x=>.s (.bool x.gB)
 | .int k,x=>.s (.int k x.gI)
 | .str,x=>.s (.str x.gS)
 | .sl k,x=>.s (.sl x.gZ x.gT k x.gE)
 | _,x=>.s x
def PV.has:CK->PV->Bool
 | .bool,.s x=>x.has .bool
 | .int k,.s x=>x.has (.int k)
 | .str,.s x=>x.has .str
 | .sl k,.s x=>x.has (.sl k)
 | .sl _,.nsl=>true
 | .sl _,.fl _=>true
 | .sl _,.vw _ _ _=>true
 | .ptr,.s x=>x.has .ptr
 | .ptr,.ptr _ _ _=>true
 | .map,.s x=>x.has .map
 | .map,.it _=>true
 | .fn,.s x=>x.has .fn
 | .fn,.fnr _ _ _=>true
 | .fn,.yd=>true
 | _,_=>false
def PV.toS:PV->SV
 | .s x=>x
 | _=>.nilp
def PV.as:CK->PV->PV
 | .bool,v=>.s (.bool v.toS.gB)
 | .int k,v=>.s (.int k v.toS.gI)
 | .str,v=>.s (.str v.toS.gS)
 | .sl k,.s x=>x.as (.sl k)
 | _,v=>v
def PV.sv?:PV->Option SV
 | .s v=>some v
 | .nsl=>some (.sl true true 0 [])
 | _=>none
def PV.cells:PV->List PV
 | .agg l=>l
 | .bad=>[]
 | v=>[v]
def PV.one:PV->Bool
 | .bad=>false
 | .agg _=>false
 | .tup _=>false
 | _=>true
def Lc:List PV->Option (List SV)
 | []=>some []
 | v::r=>match v.sv?,Lc r with
  | some x,some y=>some (x::y)
  | _,_=>none
def need(c:Bool)(k:Option R):Option R:=cond c k none
def Gj(b:Bool)(k:Bool->Option R):Option R:=cond b (k true) (k false)
def Rm:Value->PV
 | .bool b=>.s (.bool b)
 | .int k n=>.s (.int k n)
 | .string s=>.s (.str s.data.toList)
 | .pointer none=>.s .nilp
 | .slice none 0 0=>.nsl
 | .map none=>.s .nilm
 | .nilFunc=>.s .nilf
 | _=>.bad
def HB:Value->PV
 | .agg cs=>.agg (cs.toList.map Rm)
 | .tuple a=>if a.size=0 then .tup [] else .bad
 | v=>Rm v
def opnd(C:Cfg)(sl:List PV):Operand->PV
 | .tmp t=>sl.getD t (.tup [])
 | .const v=>HB v
 | .global g=>match C.G.tab g with
  | some (k,a)=>.s (.sp [a.map (SV.int k)] 0 0)
  | none=>.bad
 | .func f=>.s (.fn (.func f) [] [])
def Y5:CK->PV
 | .bool=>.s (.bool false)
 | .int k=>.s (.int k 0)
 | .str=>.s (.str [])
 | .sl _=>.nsl
 | .ptr=>.s .nilp
 | .map=>.s .nilm
 | .fn=>.s .nilf
def Pz(t:TI)(cells:List PV)(off:Nat):PV:=
 if t.agg then .agg (t.ks.zipIdx.map λ(c,j)=>(cells.getD (off+j) .bad).as c)
 else match t.ks with
  | [c]=>(cells.getD off .bad).as c
  | _=>.bad
def okP(t:TI)(cells:List PV)(off:Nat):Bool:=
 t.ok&&t.ks.zipIdx.all λ(c,j)=>(cells.getD (off+j) .bad).has c
def As1(t:TI)(cells:List SV)(off:Nat):PV:=
 if t.agg then .agg (t.ks.zipIdx.map λ(c,j)=>(cells.getD (off+j) .nilp).as c)
 else match t.ks with
  | [c]=>(cells.getD off .nilp).as c
  | _=>.bad
def okS(t:TI)(cells:List SV)(off:Nat):Bool:=
 t.ok&&decide (off+t.ks.length<=cells.length)&&t.ks.zipIdx.all λ(c,j)=>(cells.getD (off+j) .nilp).has c
def I4{a:Type}:List a->Nat->List a->List a
 | l,_,[]=>l
 | l,off,v::b=>I4 (l.set off v) (off+1) b
def G7(f:Nat->Nat × Nat):List PV->Nat->List Blk->List PV × List Blk
 | [],_,H=>([],H)
 | .nsl::r,j,H=>cond (ad5 (f j).1 0&&al0 0 (f j).2) (let(r',H'):=G7 f r (j+1) H;(.s (.sl true true (f j).2 [])::r',H')) (let(r',H'):=G7 f r (j+1) (H++[.arr true (f j).1 (f j).2 []]);(.fl H.length::r',H'))
 | v::r,j,H=>let(r',H'):=G7 f r (j+1) H;(v::r',H')
def Pu(H:List Blk):PV->Option (List (List SV))
 | .nsl=>some []
 | .s (.sl _ _ _ a)=>some a
 | .fl b=>match H[b]? with|some (.arr _ _ _ a)=>some a|_=>none
 | .vw b i n=>match H[b]? with|some (.arr _ _ _ a)=>some ((a.drop i).take n)|_=>none
 | _=>none
def Et(H:List Blk):PV->Option Nat
 | .nsl=>some 0
 | .s (.sl _ _ _ a)=>some a.length
 | .s (.str l)=>some l.length
 | .fl b=>match H[b]? with|some (.arr _ _ _ a)=>some a.length|_=>none
 | .vw _ _ n=>some n
 | _=>none
def B42(H:List Blk):PV->Option Bool
 | .nsl=>some true
 | .s (.sl z _ _ _)=>some z
 | .fl b=>match H[b]? with|some (.arr v _ _ a)=>some (v&&a.isEmpty)|_=>none
 | .vw b _ _=>match H[b]? with|some (.arr v _ _ a)=>some (v&&a.isEmpty)|_=>none
 | _=>none
def F4(b:UInt8):List SV:=[.int .u8 b.toNat]
def Nu(a:List SV):UInt8:=ae6 (a.getD 0 .nilp).gI.toNat
def Qh:List SV->Bool|[.int .u8 n]=>decide (0<=n)&&decide (n<256)|_=>false
def GC(n:Nat)(H:List Blk):PV->Bool
 | .nsl=>true
 | .s (.str _)=>decide (n=1)
 | .s (.sl z _ d _)=>decide (d=n)||z
 | .fl b=>match H[b]? with|some (.arr v _ c a)=>decide (c=n)||(v&&a.isEmpty)|_=>false
 | .vw b _ _=>match H[b]? with|some (.arr v _ c a)=>decide (c=n)||(v&&a.isEmpty)|_=>false
 | _=>false
def MV(H:List Blk):PV->Option (List (List SV))
 | .s (.str l)=>some (l.map F4)
 | v=>Pu H v
mutual
def PV.kill(b:Nat):PV->PV
 | .fl c=>if c=b then .bad else .fl c
 | .vw c i n=>if c=b then .bad else .vw c i n
 | .ptr c i o=>if c=b then .bad else .ptr c i o
 | .it c=>if c=b then .bad else .it c
 | .fnr f x y=>.fnr f (Ab b x) (Ab b y)
 | .agg l=>.agg (Ab b l)
 | .tup l=>.tup (Ab b l)
 | v=>v
def Ab(b:Nat):List PV->List PV
 | []=>[]
 | v::r=>v.kill b::Ab b r
end
def PE(f:PV->PV)(l:List (List UInt8 × PV)):List (List UInt8 × PV):=l.map λe=>(e.1,f e.2)
def Blk.kill(b:Nat):Blk->Blk
 | .box cells=>.box (Ab b cells)
 | .mp ents=>.mp (PE (PV.kill b) ents)
 | x=>x
def ltI(a b:Int):Bool:=match a,b with
 | .ofNat m,.ofNat n=>ah1 (m+1) n
 | .ofNat _,.negSucc _=>false
 | .negSucc _,.ofNat _=>true
 | .negSucc m,.negSucc n=>ah1 (n+1) m
def Y0(a b:Int):ltI a b=decide (a<b):=by
 rw[aj5];cases a with
 | ofNat m=>
  cases b with
  | ofNat n=>simp only[ltI,Nat.ble_eq,af,ad6];omega
  | negSucc n=>
   have:=ah3 n;simp only[ltI,y5,af,ad6,false_iff];omega
 | negSucc m=>
  cases b with
  | ofNat n=>
   have:=ah3 m;simp only[ltI,af,ad6,true_iff];omega
  | negSucc n=>simp only[ltI,Nat.ble_eq,af,Int.negSucc_eq];omega
def D45(op:BinOp)(k:IntKind)(a b:Int):Option PV:=
 match op with
 | .add=>some (.s (.int k (k.wrap (a+b))))
 | .sub=>some (.s (.int k (k.wrap (a-b))))
 | .mul=>some (.s (.int k (k.wrap (a*b))))
 | .and=>some (.s (.int k (k.wrap (ab3 k.bits a &&& ab3 k.bits b).toNat)))
 | .or=>some (.s (.int k (k.wrap (ab3 k.bits a ||| ab3 k.bits b).toNat)))
 | .xor=>some (.s (.int k (k.wrap (ab3 k.bits a ^^^ ab3 k.bits b).toNat)))
 | .andNot=>some (.s (.int k (k.wrap (ab3 k.bits a &&& ~~~(ab3 k.bits b)).toNat)))
 | .eql=>some (.s (.bool (a==b)))
 | .neq=>some (.s (.bool (a !=b)))
 | .lss=>some (.s (.bool (ltI a b)))
 | .leq=>some (.s (.bool (!ltI b a)))
 | .gtr=>some (.s (.bool (ltI b a)))
 | .geq=>some (.s (.bool (!ltI a b)))
 | _=>none
def bytesLess:List UInt8->List UInt8->Bool
 | _,[]=>false
 | [],_::_=>true
 | a::x,b::y=>decide (a<b)||(a==b&&bytesLess x y)
def D46(op:BinOp)(a b:List UInt8):Option PV:=
 match op with
 | .add=>some (.s (.str (a++b)))
 | .eql=>some (.s (.bool (a==b)))
 | .neq=>some (.s (.bool (!(a==b))))
 | .lss=>some (.s (.bool (bytesLess a b)))
 | .leq=>some (.s (.bool (bytesLess a b||a==b)))
 | .gtr=>some (.s (.bool (!(bytesLess a b||a==b))))
 | .geq=>some (.s (.bool (!bytesLess a b)))
 | _=>none
def LM:PV->PV->Option Bool
 | .s (.bool a),.s (.bool b)=>some (a==b)
 | .s (.int k a),.s (.int c b)=>if k=c then some (a==b) else none
 | .s (.str a),.s (.str b)=>some (a==b)
 | _,_=>none
def Q5:List PV->List PV->Option Bool
 | [],[]=>some true
 | a::x,b::y=>match LM a b,Q5 x y with
  | some p,some q=>some (p&&q)
  | _,_=>none
 | _,_=>none
def Dm4(H:List Blk)(b:Nat):Option Bool:=match H[b]? with
 | some (.mp _)=>some false
 | some (.ms _ _)=>some false
 | _=>none
def Dj7(H:List Blk)(sh:Sh)(x y:PV):Option Bool:=
 match sh,x,y with
 | .ptr _,.s .nilp,.s .nilp=>some true
 | .ptr _,.s .nilp,.s (.sp _ _ _)=>some false
 | .ptr _,.s (.sp _ _ _),.s .nilp=>some false
 | .ptr _,.s .nilp,.ptr _ _ _=>some false
 | .ptr _,.ptr _ _ _,.s .nilp=>some false
 | .fn,.s .nilf,.s .nilf=>some true
 | .fn,.s .nilf,.s (.fn _ _ _)=>some false
 | .fn,.s (.fn _ _ _),.s .nilf=>some false
 | .fn,.s .nilf,.fnr _ _ _=>some false
 | .fn,.fnr _ _ _,.s .nilf=>some false
 | .bool,.s (.bool a),.s (.bool b)=>some (a==b)
 | .map _ _,.s .nilm,.s .nilm=>some true
 | .map _ _,.s .nilm,.it b=>Dm4 H b
 | .map _ _,.it b,.s .nilm=>Dm4 H b
 | .slice _,x,.nsl=>B42 H x
 | .slice _,.nsl,y=>B42 H y
 | _,_,_=>none
def U4(a:Nat):Nat->List SV->List (List SV)
 | 0,_=>[]
 | n+1,l=>l.take a::U4 a n (l.drop a)
section ops
variable {R : Type} (C : Cfg)
def B94(op:BinOp)(t:Nat)(x y:PV)(H:List Blk)(k:PV->Option R):Option R:=
 match op,x,y with
 | .shl,.s (.int c a),.s (.int _ b)=>need (decide (0<=b)) (k (.s (.int c (c.wrap (a*2 ^ min b.toNat c.bits)))))
 | .shr,.s (.int c a),.s (.int _ b)=>need (decide (0<=b)) (k (.s (.int c (a.fdiv (2 ^ min b.toNat c.bits)))))
 | .quo,.s (.int c a),.s (.int d b)=>need (decide (c=d)&&b !=0) (k (.s (.int c (c.wrap (a.tdiv b)))))
 | .rem,.s (.int c a),.s (.int d b)=>need (decide (c=d)&&b !=0) (k (.s (.int c (a.tmod b))))
 | op,.s (.int c a),.s (.int d b)=>if c=d then match D45 op c a b with|some v=>k v|none=>none else none
 | .add,.s (.str a),.s (.str b)=>need (decide (a.length+b.length<4611686018427387904)) (k (.s (.str (a++b))))
 | op,.s (.str a),.s (.str b)=>match D46 op a b with|some v=>k v|none=>none
 | .eql,.agg x,.agg y=>if Dj6 C.P t&&(C.ti t).agg&&okP (C.ti t) x 0&&okP (C.ti t) y 0&&decide (x.length=(C.ti t).ks.length) then match Q5 x y with|some b=>k (.s (.bool b))|none=>none else none
 | .neq,.agg x,.agg y=>if Dj6 C.P t&&(C.ti t).agg&&okP (C.ti t) x 0&&okP (C.ti t) y 0&&decide (x.length=(C.ti t).ks.length) then match Q5 x y with|some b=>k (.s (.bool (!b)))|none=>none else none
 | .eql,x,y=>match Dj7 H (C.sh t) x y with|some b=>k (.s (.bool b))|none=>none
 | .neq,x,y=>match Dj7 H (C.sh t) x y with|some b=>k (.s (.bool (!b)))|none=>none
 | _,_,_=>none
def unK(op:UnOp)(x:PV)(k:PV->Option R):Option R:=
 match op,x with
 | .not,.s (.bool b)=>k (.s (.bool (!b)))
 | .neg,.s (.int a n)=>k (.s (.int a (a.wrap (0-n))))
 | _,_=>none
def MM(t:TI)(a:PV)(H:List Blk)(k:PV->Option R):Option R:=
 match a with
 | .ptr b i off=>match H[b]? with
  | some (.box cells)=>if i=0 then need (okP t cells off) (k (Pz t cells off)) else none
  | some (.arr _ _ d c)=>
   if off+t.ks.length<=d then need (decide (i<c.length)&&okS t (c.getD i []) off) (k (As1 t (c.getD i []) off))
   else if i=0/\off=0 then need (decide (t.ks.length=c.length*d)&&okS t c.flatten 0) (k (As1 t c.flatten 0)) else none
  | _=>none
 | .s (.sp c i off)=>need (decide (i<c.length)&&okS t (c.getD i []) off) (k (As1 t (c.getD i []) off))
 | _=>none
def EA(f:Nat->Nat × Nat)(t:TI)(a v:PV)(H:List Blk)(k:List Blk->Option R):Option R:=
 if t.ok=true/\v.cells.length=t.ks.length/\v.cells.all PV.one=true then
  match a with
  | .ptr b i off=>match H[b]? with
   | some (.box cells)=>if i=0 then let(g,H'):=G7 f v.cells 0 H;need (decide (off+t.ks.length<=cells.length)) (k (H'.set b (.box (I4 cells off g)))) else none
   | some (.arr z e d c)=>match Lc v.cells with
    | some g=>
     if off+t.ks.length<=d then need (decide (i<c.length)) (k (H.set b (.arr z e d (c.set i (I4 (c.getD i []) off g)))))
     else if i=0/\off=0 then need (decide (t.ks.length=c.length*d)) (k (H.set b (.arr z e d (U4 d c.length g)))) else none
    | none=>none
   | _=>none
  | _=>none
 else none
def Ep(t:Nat)(x i:PV)(H:List Blk)(k:PV->Option R):Option R:=
 match i with
 | .s (.int _ n)=>match x with
  | .fl b=>match H[b]?,C.sh t with
   | some (.arr _ _ c a),.slice e=>if (C.ti e).ok/\(C.ti e).ks.length=c then need (decide (0<=n)&&decide (n<a.length)) (k (.ptr b n.toNat 0)) else none
   | _,_=>none
  | .vw b o m=>match H[b]?,C.sh t with
   | some (.arr _ _ c _),.slice e=>if (C.ti e).ok/\(C.ti e).ks.length=c then need (decide (0<=n)&&decide (n<m)) (k (.ptr b (o+n.toNat) 0)) else none
   | _,_=>none
  | .s (.sl _ _ d a)=>match C.sh t with
   | .slice e=>if (C.ti e).ok/\(C.ti e).ks.length=d then need (decide (0<=n)&&decide (n<a.length)) (k (.s (.sp a n.toNat 0))) else none
   | _=>none
  | .ptr b j off=>match C.sh t with
   | .array m e=>match H[b]? with
    | some (.arr _ _ c _)=>if j=0/\off=0/\(C.ti e).ok/\c=(C.ti e).ks.length then need (decide (0<=n)&&decide (n<m)) (k (.ptr b n.toNat 0)) else none
    | some (.box _)=>if (C.ti e).ok then need (decide (0<=n)&&decide (n<m)) (k (.ptr b j (off+n.toNat*(C.ti e).ks.length))) else none
    | _=>none
   | _=>none
  | .s (.sp a j off)=>match C.sh t with
   | .array m e=>if (C.ti e).ok then need (decide (0<=n)&&decide (n<m)) (k (.s (.sp a j (off+n.toNat*(C.ti e).ks.length)))) else none
   | _=>none
  | _=>none
 | _=>none
def DA(t:Nat)(x i:PV)(k:PV->Option R):Option R:=
 match i with
 | .s (.int _ n)=>match x with
  | .s (.str l)=>match C.sh t with
   | .str=>need (decide (0<=n)&&decide (n<l.length)) (k (.s (.int .u8 (l.getD n.toNat 0).toNat)))
   | _=>none
  | .agg cells=>match C.sh t with
   | .array m e=>need (decide (0<=n)&&decide (n<m)&&okP (C.ti e) cells (n.toNat*(C.ti e).ks.length)) (k (Pz (C.ti e) cells (n.toNat*(C.ti e).ks.length)))
   | _=>none
  | _=>none
 | _=>none
def BX(len:Nat):Option PV->Option Int
 | none=>some len
 | some (.s (.int _ n))=>some n
 | _=>none
def Gd(t:Nat)(H:List Blk)(x:PV):Bool:=
 match x with
 | .s (.str _)=>match C.sh t with | .str=>true|_=>false
 | .nsl=>match C.sh t with | .slice e=>(C.ti e).ok|_=>false
 | .s (.sl _ _ c _)=>match C.sh t with | .slice e=>(C.ti e).ok&&decide ((C.ti e).ks.length=c)|_=>false
 | .fl b=>match H[b]?,C.sh t with|some (.arr _ _ a _),.slice e=>(C.ti e).ok&&decide ((C.ti e).ks.length=a)|_,_=>false
 | .vw b _ _=>match H[b]?,C.sh t with|some (.arr _ _ a _),.slice e=>(C.ti e).ok&&decide ((C.ti e).ks.length=a)|_,_=>false
 | _=>false
def DZ(t:Nat)(x:PV)(e d f:Option PV)(H:List Blk)(k:PV->Option R):Option R:=
 if Gd C t H x then match Et H x with
 | none=>none
 | some len=>match BX 0 e,BX len d with
  | some l,some h=>match f with
   | none=>need (decide (0<=l)&&decide (l<=h)&&decide (h<=len)) (match x with
    | .s (.str s)=>k (.s (.str ((s.take h.toNat).drop l.toNat)))
    | .s (.sl z _ c a)=>k (.s (.sl z z c ((a.take h.toNat).drop l.toNat)))
    | .nsl=>k .nsl
    | .fl b=>k (.vw b l.toNat (h.toNat-l.toNat))
    | .vw b i _=>k (.vw b (i+l.toNat) (h.toNat-l.toNat))
    | _=>none)
   | some (.s (.int _ m))=>need (decide (0<=l)&&decide (l<=h)&&decide (h=m)&&decide (m<=len)) (match x with
    | .s (.sl z _ c a)=>k (.s (.sl z true c ((a.take h.toNat).drop l.toNat)))
    | .nsl=>k .nsl
    | _=>none)
   | _=>none
  | _,_=>none else none
def Hz(b n:Nat)(c a d:Option PV)(k:PV->Option R):Option R:=
 match BX 0 c,BX n a,d with
 | some l,some h,none=>need (decide (0<=l)&&decide (l<=h)&&decide (h<=n)) (k (.vw b l.toNat (h.toNat-l.toNat)))
 | _,_,_=>none
def Cn2(t:Nat):Nat:=if (C.ti t).ok then (C.ti t).ks.length else 0
def Ij(e:Nat):Bool:=match C.sh e with | .array _ _=>true|_=>false
def G0(n:Nat):Bool:=decide (n<=68719476736)
def Si(t:Nat)(sl:List PV)(s x:PV)(H:List Blk)(k:PV->List PV->List Blk->Option R):Option R:=
 match C.sh t with
 | .slice e=>if (C.ti e).ok&&GC (C.ti e).ks.length H x then match MV H x with
  | some a=>match s with
   | .nsl=>need (G0 a.length) (k (.fl H.length) sl (H++[.arr true e (C.ti e).ks.length a]))
   | .s (.sl z true f c)=>if f=(C.ti e).ks.length then need ((z||!a.isEmpty)&&G0 (c.length+a.length)) (k (.fl H.length) sl (H++[.arr z e (C.ti e).ks.length (c++a)])) else none
   | .fl b=>match H[b]? with
    | some (.arr v d g c)=>if !Ij C d&&(decide (d=e/\g=(C.ti e).ks.length)||(v&&c.isEmpty)) then need (G0 (c.length+a.length)) (k (.fl b) (Ab b sl) ((H.map (Blk.kill b)).set b (.arr v e (C.ti e).ks.length (c++a)))) else none
    | _=>none
   | _=>none
  | none=>none else none
 | _=>none
def RS(t:Nat)(d x:PV)(H:List Blk)(k:PV->List Blk->Option R):Option R:=
 match C.sh t with
 | .slice e=>if (C.ti e).ok&&GC (C.ti e).ks.length H x&&GC (C.ti e).ks.length H d then match MV H x with
  | some a=>match d with
   | .fl b=>match H[b]? with
    | some (.arr v f g c)=>k (.s (.int .i64 ((min a.length c.length:Nat):Int))) (H.set b (.arr v f g (a.take c.length++c.drop (min a.length c.length))))
    | _=>none
   | .vw b i n=>match H[b]? with
    | some (.arr v f g c)=>need (decide (i+n<=c.length)) (k (.s (.int .i64 ((min a.length n:Nat):Int))) (H.set b (.arr v f g (c.take i++(a.take n++c.drop (i+min a.length n))))))
    | _=>none
   | .nsl=>k (.s (.int .i64 0)) H
   | _=>none
  | none=>none else none
 | _=>none
def RP(c b:Nat)(x:PV)(H:List Blk)(k:PV->Option R):Option R:=
 match C.sh c,C.sh b,x with
 | .int _,.int d,.s (.int _ n)=>k (.s (.int d (d.wrap n)))
 | .str,.str,.s (.str l)=>k (.s (.str l))
 | .int _,.str,.s (.int _ n)=>k (.s (.str (am3 n).data.toList))
 | .slice e,.str,v=>match C.sh e,Pu H v with
  | .int .u8,some a=>need (a.all Qh) (k (.s (.str (a.map Nu))))
  | _,_=>none
 | _,_,_=>none
def CA(b a:Nat)(x:PV)(k:PV->Option R):Option R:=
 match C.sh b,C.sh a,x with
 | .str,.slice e,.s (.str l)=>match C.sh e with
  | .int .u8=>need (G0 l.length) (k (.s (.sl false false 1 (l.map F4))))
  | _=>none
 | _,_,_=>none
def Ce2(x:PV)(t:Nat)(H:List Blk)(k:PV->Option R):Option R:=
 match C.sh t,x with
 | .array n _,_=>k (.s (.int .i64 n))
 | .str,.s (.str l)=>k (.s (.int .i64 l.length))
 | .slice _,.s (.str _)=>none
 | .slice _,x=>match Et H x with
  | some n=>k (.s (.int .i64 n))
  | none=>none
 | .map _ _,.s .nilm=>k (.s (.int .i64 0))
 | .map _ _,.it b=>match H[b]? with
  | some (.mp a)=>k (.s (.int .i64 a.length))
  | some (.ms _ a)=>k (.s (.int .i64 a.length))
  | _=>none
 | _,_=>none
section maps
variable {L : Type}
def Ao:List (List UInt8 × L)->List UInt8->Bool
 | [],_=>false
 | e::r,q=>cond (q==e.1) true (Ao r q)
def Ac(d:L):List (List UInt8 × L)->List UInt8->L
 | [],_=>d
 | e::r,q=>cond (q==e.1) e.2 (Ac d r q)
def Dm:List (List UInt8 × L)->List UInt8->L->List (List UInt8 × L)
 | [],q,v=>[(q,v)]
 | e::r,q,v=>cond (q==e.1) ((e.1,v)::r) (e::Dm r q v)
def SW:List (List UInt8 × L)->List UInt8->List (List UInt8 × L)
 | [],_=>[]
 | e::r,q=>cond (q==e.1) r (e::SW r q)
end maps
def PV.isAgg:PV->Bool
 | .agg _=>true
 | _=>false
def okV(t:TI)(v:PV):Bool:=(v.isAgg==t.agg)&&(ad5 v.cells.length t.ks.length&&okP t v.cells 0)
def asV(t:TI)(v:PV):PV:=Pz t v.cells 0
def GH(t:TI):PV:=if t.agg then .agg (t.ks.map Y5) else match t.ks with
 | [c]=>Y5 c
 | _=>.bad
def CK.scal:CK->Bool
 | .bool=>true
 | .int _=>true
 | .str=>true
 | _=>false
def svV(a:Bool)(l:List SV):PV:=cond a (.agg (l.map .s)) (match l with
 | [x]=>.s x
 | _=>.bad)
def msP(a:Bool)(l:List (List UInt8 × List SV)):List (List UInt8 × PV):=l.map λe=>(e.1,svV a e.2)
def Du8(h:Bool)(x:SV):CK->PV
 | .bool=>.s (.bool (h&&x.gB))
 | .int k=>.s (.int k (cond h x.gI 0))
 | .str=>.s (.str (cond h x.gS []))
 | _=>.bad
def Ae4(t:TI)(h:Bool)(l:List SV):PV:=
 if t.agg then .agg (t.ks.zipIdx.map λ(c,j)=>Du8 h (l.getD j .nilp) c)
 else match t.ks with
  | [c]=>Du8 h (l.getD 0 .nilp) c
  | _=>.bad
def Dp4(t:TI)(l:List SV):Bool:=ad5 l.length t.ks.length&&t.ks.zipIdx.all λ(c,j)=>(l.getD j .nilp).has c
def plC(a:Bool)(v:PV):Option (List SV):=match a,v with
 | true,.agg l=>Lc l
 | false,.s x=>some [x]
 | _,_=>none
def FD:Bool->PV->Bool->PV
 | true,v,b=>.tup [v,.s (.bool b)]
 | false,v,_=>v
def Ah4(t:Nat):Bool:=match (C.P.info? t).map TypeInfo.zero with
 | some (some (.agg _))=>(C.ti t).agg
 | some (some _)=>!(C.ti t).agg
 | _=>false
def Mm(t:Nat)(H:List Blk)(k:PV->List Blk->Option R):Option R:=
 match C.sh t with
 | .map a e=>match C.sh a with
  | .str=>k (.it H.length) (H++[cond ((C.ti e).ks.all CK.scal) (.ms (C.ti e).agg []) (.mp [])])
  | _=>none
 | _=>none
def Tm(t:Nat)(x i:PV)(ok:Bool)(H:List Blk)(k:PV->Option R):Option R:=
 match C.sh t,i with
 | .map d e,.s (.str q)=>match C.sh d with
  | .str=>if (C.ti e).ok&&Ah4 C e then match x with
   | .s .nilm=>k (FD ok (GH (C.ti e)) false)
   | .it b=>match H[b]? with
    | some (.ms a c)=>if (C.ti e).ks.all CK.scal&&(a==(C.ti e).agg) then need (!(Ao c q)||Dp4 (C.ti e) (Ac [] c q)) (k (FD ok (Ae4 (C.ti e) (Ao c q) (Ac [] c q)) (Ao c q))) else none
    | some (.mp c)=>Gj (Ao c q) λh=>cond h (need (okV (C.ti e) (Ac .bad c q)) (k (FD ok (asV (C.ti e) (Ac .bad c q)) true))) (k (FD ok (GH (C.ti e)) false))
    | _=>none
   | _=>none else none
  | _=>none
 | _,_=>none
def Tn(t:Nat)(m x v:PV)(H:List Blk)(k:List Blk->Option R):Option R:=
 match C.sh t,m,x with
 | .map d _,.it b,.s (.str q)=>match C.sh d,H[b]? with
  | .str,some (.ms a c)=>match plC a v with
   | some l=>k (H.set b (.ms a (Dm c q l)))
   | none=>none
  | .str,some (.mp c)=>k (H.set b (.mp (Dm c q v)))
  | _,_=>none
 | _,_,_=>none
def Ed(place:Nat->Option (Nat × Nat)):List PV->List (Nat × PV)->Option (List PV)
 | cells,[]=>some cells
 | cells,(i,v)::r=>match place i with
  | some (off,size)=>if v.cells.length=size&&decide (0<size)&&decide (off+v.cells.length<=cells.length) then Ed place (I4 cells off v.cells) r else none
  | none=>none
def BZ(t:Nat)(parts:List (Nat × PV))(k:PV->Option R):Option R:=
 let zero:=(C.ti t).ks.map Y5
 if (C.ti t).ok then match C.sh t with
 | .struct a=>match Ed (λi=>(a[i]?).map λp=>(p.1,Cn2 C p.2)) zero parts with
  | some cells=>k (.agg cells)
  | none=>none
 | .array _ e=>match Ed (λi=>some (i*Cn2 C e,Cn2 C e)) zero parts with
  | some cells=>k (.agg cells)
  | none=>none
 | _=>none else none
def Cm(t len:Nat)(parts:List (Nat × PV))(H:List Blk)(k:PV->List Blk->Option R):Option R:=
 match C.sh t with
 | .slice e=>
  let a:=(C.ti e).ks.length
  if (C.ti e).ok&&decide (len*a<=16777216)&&decide (len<=16777216) then match Ed (λi=>some (i*a,a)) ((o9 len ((C.ti e).ks.map Y5)).flatten) parts with
  | some cells=>match Lc cells with
   | some b=>k (.fl H.length) (H++[.arr false e a (U4 a len b)])
   | none=>none
  | none=>none else none
 | _=>none
def Cc(t len:Nat)(parts:List (Nat × PV))(k:PV->Option R):Option R:=
 match C.sh t with
 | .slice e=>
  let a:=(C.ti e).ks.length
  if (C.ti e).ok&&decide (len*a<=16777216)&&decide (len<=16777216) then match Ed (λi=>some (i*a,a)) ((o9 len ((C.ti e).ks.map Y5)).flatten) parts with
  | some cells=>match Lc cells with
   | some b=>need (ah1 1 len) (k (.s (.sl false true a (U4 a len b))))
   | none=>none
  | none=>none else none
 | _=>none
def Eu(t:Nat)(l c:PV)(H:List Blk)(k:PV->List Blk->Option R):Option R:=
 match C.sh t,l,c with
 | .slice e,.s (.int _ n),.s (.int _ m)=>
  if (C.ti e).ok then match Lc ((C.ti e).ks.map Y5) with
  | some z=>need (decide (0<=n)&&decide (n<=m)&&G0 m.toNat) (k (.fl H.length) (H++[.arr false e (C.ti e).ks.length (o9 n.toNat z)]))
  | none=>none else none
 | _,_,_=>none
def Oh(e:Bool):List PV->(PV->Option R)->Option R
 | [.s (.int d a),.s (.int c b)],k=>if d=c then k (.s (.int d (cond e (if b > a then b else a) (if b<a then b else a)))) else none
 | _,_=>none
def Em(t:Nat)(x:PV)(f:Nat)(k:PV->Option R):Option R:=
 match C.sh t with
 | .struct c=>match c[f]?,x with
  | some (o,u),.ptr b i off=>if (C.ti u).ok then k (.ptr b i (off+o)) else none
  | some (o,u),.s (.sp a i off)=>if (C.ti u).ok then k (.s (.sp a i (off+o))) else none
  | _,_=>none
 | _=>none
def Cz1(t:Nat)(x:PV)(f:Nat)(k:PV->Option R):Option R:=
 match C.sh t,x with
 | .struct a,.agg cells=>match a[f]? with
  | some (o,u)=>need (okP (C.ti u) cells o) (k (Pz (C.ti u) cells o))
  | none=>none
 | _,_=>none
end ops
structure St (σ:Type) where
 sl:List PV
 hp:List Blk
 s:σ
inductive Out where
 | normal
 | exit (id:Nat)
 | ret
 deriving DecidableEq,Inhabited
def Db(a:Option Nat)(v:PV)(sl:List PV):List PV:=
 match a with
 | some d=>sl.set d v
 | none=>sl
mutual
def PV.nms:PV->List Nat
 | .fl b=>[b]
 | .vw b _ _=>[b]
 | .ptr b _ _=>[b]
 | .it b=>[b]
 | .fnr _ x y=>D0 x++D0 y
 | .agg l=>D0 l
 | .tup l=>D0 l
 | _=>[]
def D0:List PV->List Nat
 | []=>[]
 | v::r=>v.nms++D0 r
end
mutual
def PV.rn(f:Nat->Nat):PV->PV
 | .fl b=>.fl (f b)
 | .vw b i n=>.vw (f b) i n
 | .ptr b i o=>.ptr (f b) i o
 | .it b=>.it (f b)
 | .fnr g x y=>.fnr g (rnL f x) (rnL f y)
 | .agg l=>.agg (rnL f l)
 | .tup l=>.tup (rnL f l)
 | v=>v
def rnL(f:Nat->Nat):List PV->List PV
 | []=>[]
 | v::r=>v.rn f::rnL f r
end
def Blk.nms:Blk->List Nat
 | .box cells=>D0 cells
 | .mp ents=>D0 (ents.map ac4)
 | _=>[]
def Blk.rn(f:Nat->Nat):Blk->Blk
 | .box cells=>.box (rnL f cells)
 | .mp ents=>.mp (PE (PV.rn f) ents)
 | b=>b
def Gf(l:List Nat)(b:Nat):List Nat:=if l.contains b then l else l++[b]
def NM(H:List Blk)(l:List Nat):List Nat:=l.foldl (λa b=>((H.getD b .dead).nms).foldl Gf a) l
def Ac2(H:List Blk):Nat->List Nat->List Nat
 | 0,l=>l
 | n+1,l=>cond (ad5 (NM H l).length l.length) l (Ac2 H n (NM H l))
def Ee(H:List Blk)(l:List Nat):List Nat:=Ac2 H 30 (l.foldl Gf [])
def Fr(H:List Blk)(a:List Nat):Bool:=a.all λb=>((H.getD b .dead).nms).all λc=>a.contains c
mutual
def PV.snap(H:List Blk):PV->PV
 | .nsl=>.s (.sl true true 0 [])
 | .fl b=>match H[b]? with|some (.arr v _ sz els)=>.s (.sl (v&&els.isEmpty) (v&&els.isEmpty) sz els)|_=>.bad
 | .vw b i n=>match H[b]? with|some (.arr v _ sz els)=>.s (.sl (v&&els.isEmpty) (v&&els.isEmpty) sz ((els.drop i).take n))|_=>.bad
 | .agg l=>.agg (Q3 H l)
 | v=>v
def Q3(H:List Blk):List PV->List PV
 | []=>[]
 | v::r=>v.snap H::Q3 H r
end
def PV.snapP(H:List Blk):PV->PV
 | .ptr b 0 off=>match H[b]? with
  | some (.box cells)=>match Lc (Q3 H cells) with
   | some vs=>.s (.sp [vs] 0 off)
   | none=>.ptr b 0 off
  | _=>.ptr b 0 off
 | v=>v.snap H
def PV.snapA(H:List Blk):PV->PV
 | .fnr f x y=>match Lc (x.map (PV.snapP H)),Lc (y.map (PV.snapP H)) with
  | some a,some b=>.s (.fn f a b)
  | _,_=>.fnr f x y
 | v=>v.snapP H
def argX(H:List Blk)(args:List PV):List PV:=cond (D0 (Q3 H args)).isEmpty (Q3 H args) (args.map (PV.snapA H))
mutual
def PV.rows:PV->Bool
 | .fl _=>true
 | .vw _ _ _=>true
 | .agg l=>FM l
 | _=>false
def FM:List PV->Bool
 | []=>false
 | v::r=>v.rows||FM r
end
def DP(H:List Blk)(args:List PV):Bool:=(D0 (Q3 H args)).isEmpty&&!FM args
mutual
def PV.clean:PV->Bool
 | .s (.sl _ _ _ _)=>false
 | .s (.sp _ _ _)=>false
 | .s (.fn _ _ _)=>false
 | .s _=>true
 | .fnr _ x y=>Km x&&Km y
 | .agg l=>Km l
 | .tup l=>Km l
 | .yd=>false
 | _=>true
def Km:List PV->Bool
 | []=>true
 | v::r=>v.clean&&Km r
end
def SV.plain:SV->Bool
 | .sl _ _ _ _=>false
 | .sp _ _ _=>false
 | .fn _ _ _=>false
 | _=>true
def Blk.clean:Blk->Bool
 | .arr _ _ _ els=>els.all λel=>el.all SV.plain
 | .box cells=>Km cells
 | .mp ents=>Km (ents.map ac4)
 | .ms _ ents=>ents.all λe=>e.2.all SV.plain
 | _=>true
def PV.low(H:List Blk)(L:Nat):PV->PV
 | .fl b=>if b<L then .fl b else (PV.fl b).snap H
 | .vw b i n=>if b<L then .vw b i n else (PV.vw b i n).snap H
 | .s v=>.s v
 | .nsl=>.nsl
 | .yd=>.yd
 | .ptr b i o=>if b<L then .ptr b i o else .bad
 | .it b=>if b<L then .it b else .bad
 | v=>if v.nms.all (· < L) then v else .bad
def Ce4(L:Nat)(H:List Blk):Bool:=H.all λb=>b.nms.all (· < L)
def Z4{b:Type}(L:Nat)(a:St b):St b:=
 if Ce4 L (a.hp.take L) then { sl:=a.sl.map (PV.low a.hp L),hp:=a.hp.take L,s:=a.s } else a
abbrev Yh(a:Type):=List PV->a->Option (Bool × a)
abbrev G1:=∀(a:Type),Yh a->Nat->List PV->List Blk->a->Option (PV × List Blk × a)
def Gv:List Nat->List PV->List PV
 | _,[]=>[]
 | [],_::l=>.bad::Gv [] l
 | 0::g,v::l=>v::Gv g l
 | (n+1)::g,_::l=>.bad::Gv (n::g) l
def Nx{b:Type}(ds:Option (List Nat))(a:St b):St b:=match ds with
 | some g=>{ sl:=Gv g a.sl,hp:=a.hp,s:=a.s }
 | none=>a
def Bq9:List Nat->Nat->Nat
 | [],m=>m
 | b::r,m=>Bq9 r (cond (ah1 m b) (b+1) m)
def Cn6:List Blk->Nat->Nat
 | [],m=>m
 | b::r,m=>Cn6 r (Bq9 b.nms m)
def C97{b:Type}(m:Nat)(a:St b):St b:=cond (ah1 (m+1) a.hp.length) (Z4 m a) a
def Ef9{b:Type}(L:Nat)(a:St b):St b:=C97 (Cn6 a.hp (Bq9 (D0 a.sl) L)) a
def Yj{b:Type}(ds:Option (List Nat))(L:Nat)(a:St b):St b:=match ds with
 | some g=>Ef9 L { sl:=Gv g a.sl,hp:=a.hp,s:=a.s }
 | none=>a
def D4{c R:Type}(L:Nat)(ds:Option (List Nat))(a:St c->(Out->St c->Option R)->Option R):Nat->St c->(Out->St c->Option R)->Option R
 | 0,_,_=>none
 | n+1,st,k=>a st λo b=>match o with
  | .normal=>D4 L ds a n (Nx ds (Z4 L b)) k
  | o=>k o (Nx ds b)
def Aq0:Code->Nat
 | .region id _ _=>id
 | .seq (.label _) b=>Aq0 b
 | .seq a _=>Aq0 a
 | .scope a=>Aq0 a
 | .block _ a=>Aq0 a
 | .loop a=>Aq0 a
 | _=>0
def J1(a:List Nat)(b:Nat):Nat:=a.idxOf b
def No(a:List Nat)(L:Nat)(i:Nat):Nat:=if i<a.length then a.getD i 0 else L+(i-a.length)
def Y4:List Blk->List Nat->List Blk->List Blk
 | H,b::a,x::xs=>Y4 (H.set b x) a xs
 | H,_,_=>H
section calls
variable {L R : Type} (C : Cfg)
def Ft:Blk->Bool
 | .arr _ e _ _=>Ij C e
 | _=>true
def N1(a:List Nat)(sl:List PV):List PV:=a.foldl (λsl b=>Ab b sl) sl
def U1(a:List Nat)(H:List Blk):List Blk:=a.foldl (λH b=>H.map (Blk.kill b)) H
def Jh(H:List Blk)(a:List Nat)(ret:PV)(b:List Blk):PV × List Blk:=
 (ret.rn (No a H.length),
  cond ((ret.rn (No a H.length)).nms.all (· < H.length)&&Ce4 H.length ((b.take a.length).map (Blk.rn (No a H.length))))
  (Y4 H a ((b.take a.length).map (Blk.rn (No a H.length))))
  (Y4 H a ((b.take a.length).map (Blk.rn (No a H.length)))++(b.drop a.length).map (Blk.rn (No a H.length))))
def Dg4(C:Cfg)(g:Nat)(args:List PV):Option ((SV->List (List SV)->Bool × List (List SV)) × Nat × SV):=match C.Z g,args with
 | some a,[.fl b,.s x]=>match x with
  | .nilp=>none
  | x=>some (a,b,x)
 | some a,[.fl b]=>some (a,b,.nilp)
 | _,_=>none
def Xs(j:G1)(n:Yh L)(g:Nat)(args:List PV)(a:St L)(k:PV->St L->Option R):Option R:=
 match C.X g with
 | some f=>
  if (D0 (argX a.hp args)).isEmpty then Gm (cond (C.xp g) (Tu (f (argX a.hp args))) (f (argX a.hp args))) λret d=>
   need (DP a.hp args||(ret.clean&&d.all Blk.clean)) (k (ret.rn (a.hp.length + ·)) { sl:=a.sl,hp:=a.hp++d.map (Blk.rn (a.hp.length + ·)),s:=a.s })
  else none
 | none=>match Dg4 C g args with
 | some (f,b,x)=>match a.hp[b]? with
  | some (.arr v e m h)=>need (f x h).1 (k (.tup []) { sl:=a.sl,hp:=a.hp.set b (.arr v e m (f x h).2),s:=a.s })
  | _=>none
 | none=>
  if C.lend g||!FM args then
   let i:=cond (C.lend g) args (Q3 a.hp args);let c:=Ee a.hp (D0 i)
   if Fr a.hp c then
    match C.Y g with
    | some f=>Gm (f (rnL (J1 c) i) (c.map λb=>(a.hp.getD b .dead).rn (J1 c))) λret d=>k (Jh (U1 (c.filter λb=>!Ft C (a.hp.getD b .dead)) a.hp) c ret d).1
      { sl:=N1 (c.filter λb=>!Ft C (a.hp.getD b .dead)) a.sl,hp:=(Jh (U1 (c.filter λb=>!Ft C (a.hp.getD b .dead)) a.hp) c ret d).2,s:=a.s }
    | none=>match j L n g (rnL (J1 c) i) (c.map λb=>(a.hp.getD b .dead).rn (J1 c)) a.s with
     | some (ret,d,l)=>k (Jh (U1 (c.filter λb=>!Ft C (a.hp.getD b .dead)) a.hp) c ret d).1
       { sl:=N1 (c.filter λb=>!Ft C (a.hp.getD b .dead)) a.sl,hp:=(Jh (U1 (c.filter λb=>!Ft C (a.hp.getD b .dead)) a.hp) c ret d).2,s:=l }
     | none=>none
   else none
  else if (D0 (Q3 a.hp args)).isEmpty then
   match j Unit (λ_ _=>none) g (Q3 a.hp args) [] () with
   | some (ret,d,_)=>if ret.clean then need (d.all Blk.clean) (k (ret.rn (a.hp.length + ·)) { sl:=a.sl,hp:=a.hp++d.map (Blk.rn (a.hp.length + ·)),s:=a.s }) else none
   | none=>none
  else none
def Lb:List PV->Bool
 | []=>true
 | .s _::r=>Lb r
 | .agg l::r=>(Lc l).isSome&&Lb r
 | _::_=>false
def ydK(x:Option (Bool × L))(k:Bool->L->Option R):Option R:=match x with
 | some (b,a)=>k b a
 | none=>none
def EP(d:G1)(c:Yh L)(f:PV)(args:List PV)(a:St L)(k:PV->St L->Option R):Option R:=
 match f with
 | .s (.fn (.func g) first caps)=>Xs C d c g (first.map .s++args++caps.map .s) a k
 | .fnr (.func g) first caps=>Xs C d c g (first++args++caps) a k
 | .yd=>if Lb args then ydK (c args a.s) λb e=>k (.s (.bool b)) { sl:=a.sl,hp:=a.hp,s:=e } else none
 | _=>none
def Rn{b c:Type}(f:b->c):Option b->Option c
 | some a=>some (f a)
 | none=>none
def SL:Sh->Bool
 | .str=>true
 | .slice _=>true
 | _=>false
def Lk(b:Builtin)(e:List Nat)(args:List PV)(a:St L)(k:PV->St L->Option R):Option R:=
 match b,e,args with
 | .len,t::_,[x]=>Ce2 C x t a.hp λv=>k v a
 | .append,[t,u],[s,x]=>if SL (C.sh u) then Si C t a.sl s x a.hp λv c H'=>k v { a with sl:=c,hp:=H' } else none
 | .copy,[t,_],[d,x]=>RS C t d x a.hp λv H'=>k v { a with hp:=H' }
 | .min,_,args=>Oh false args λv=>k v a
 | .max,_,args=>Oh true args λv=>k v a
 | _,_,_=>none
def GI(e:Nat)(cells:List PV)(H:List Blk)(k:PV->List Blk->Option R):Option R:=
 if (C.ti e).ok then match C.sh e with
 | .array n a=>match Lc cells with
  | some b=>if cells.length=n*(C.ti a).ks.length then k (.ptr H.length 0 0) (H++[.arr false e (C.ti a).ks.length (U4 (C.ti a).ks.length n b)]) else none
  | none=>none
 | _=>
  k (.ptr (G7 (C.nilT e) cells 0 H).2.length 0 0) ((G7 (C.nilT e) cells 0 H).2++[.box (G7 (C.nilT e) cells 0 H).1])
 else none
def Bd9(x:PV):Bool:=
 match x with
 | .ptr _ _ _=>true
 | .s (.sp _ _ _)=>true
 | .s (.fn (.func _) _ _)=>true
 | .fnr (.func _) _ _=>true
 | _=>false
def C23(f:Fn)(x y:List PV):PV:=
 match Lc x,Lc y with
 | some a,some b=>.s (.fn f a b)
 | _,_=>.fnr f x y
def nilT(t:Nat):Nat × Nat:=match C.sh t with
 | .slice e=>(e,(C.ti e).ks.length)
 | _=>(0,0)
def opK(D:G1)(I:Yh L)(o:Oper)(d:St L)(k:St L->Option R):Option R:=
 let ρ:=opnd C d.sl;let h (v:PV):Option R:=k { d with sl:=Db o.dst v d.sl };let q (v:PV) (H:List Blk):Option R:=k { d with sl:=Db o.dst v d.sl,hp:=H }
 match o.op with
 | .move x=>h (ρ x)
 | .assign x=>match ρ x with
  | .nsl=>q (.fl d.hp.length) (d.hp++[.arr true (nilT C o.type).1 (nilT C o.type).2 []])
  | v=>h v
 | .pick c a b=>match ρ c with
  | .s (.bool t)=>Gj t λt=>h (cond t (ρ a) (ρ b))
  | _=>none
 | .alloc e=>GI C e ((C.ti e).ks.map Y5) d.hp q
 | .box e x=>if (ρ x).cells.length=(C.ti e).ks.length then GI C e (ρ x).cells d.hp q else none
 | .build t parts=>BZ C t (parts.toList.map λ(i,x)=>(i,ρ x)) h
 | .buildSlice t len parts=>cond (C.stab t) (Cc C t len (parts.toList.map λ(i,x)=>(i,ρ x)) h) (Cm C t len (parts.toList.map λ(i,x)=>(i,ρ x)) d.hp q)
 | .load t a=>MM (C.ti t) (ρ a) d.hp h
 | .store t a x=>EA (C.nilT (1000000+t)) (C.ti t) (ρ a) (ρ x) d.hp λH=>q (.tup []) H
 | .nilCheck x=>if Bd9 (ρ x) then h (ρ x) else none
 | .binOp op t x y _=>B94 C op t (ρ x) (ρ y) d.hp h
 | .unOp op _ x=>unK op (ρ x) h
 | .convert u r x=>match C.sh r with
  | .slice _=>CA C u r (ρ x) h
  | _=>RP C u r (ρ x) d.hp h
 | .makeFunc (.func g) x y=>h (C23 (.func g) (x.toList.map ρ) (y.toList.map ρ))
 | .makeSlice t l c=>Eu C t (ρ l) (ρ c) d.hp q
 | .slice t x B z A=>match C.sh t,ρ x with
  | .array n e,.ptr b 0 0=>match d.hp[b]? with
   | some (.arr _ _ F w)=>if (C.ti e).ok/\(C.ti e).ks.length=F/\0<n/\n<=65536 then need (decide (w.length=n)) (Hz b n (Rn ρ B) (Rn ρ z) (Rn ρ A) h) else none
   | _=>none
  | _,v=>if A.isSome=true->z.isSome=true then DZ C t v (Rn ρ B) (Rn ρ z) (Rn ρ A) d.hp h else none
 | .fieldAddr t x f=>Em C t (ρ x) f h
 | .indexAddr t x i=>Ep C t (ρ x) (ρ i) d.hp h
 | .index t x i=>DA C t (ρ x) (ρ i) h
 | .range t x=>match ρ x with
  | .s (.str l)=>match C.sh t with
   | .str=>q (.it d.hp.length) (d.hp++[.iter l 0])
   | _=>none
  | _=>none
 | .next it true=>match ρ it with
  | .it b=>match d.hp[b]? with
   | some (.iter l p)=>Gj (decide (p<l.length)) λt=>
    cond t (let(c,wd):=ae7 ⟨l.toArray⟩ p
     q (.tup [.s (.bool true),.s (.int .i64 p),.s (.int .i32 c)]) (d.hp.set b (.iter l (p+wd)))) (h (.tup [.s (.bool false)]))
   | _=>none
  | _=>none
 | .makeMap t none=>Mm C t d.hp q
 | .lookup t x i ok=>Tm C t (ρ x) (ρ i) ok d.hp h
 | .mapUpdate t m x v=>Tn C t (ρ m) (ρ x) (ρ v) d.hp λH=>q (.tup []) H
 | .extract t i=>match ρ t with
  | .tup G=>match G[i]? with
   | some v=>h v
   | none=>none
  | _=>none
 | .call c=>match c.callee with
  | .builtin b=>Lk C b c.argTypes.toList (c.args.toList.map ρ) d λv j=>k { j with sl:=Db o.dst v j.sl }
  | .value f=>EP C D I (ρ f) (c.args.toList.map ρ) d λv j=>k { j with sl:=Db o.dst v j.sl }
  | _=>none
 | _=>none
def Jm(e:G1)(f:Yh L)(all:Array Oper):List Oper->St L->(St L->Option R)->Option R
 | [],c,k=>k c
 | o::a,c,k=>match o.guard with
  | none=>opK C e f o c λd=>Jm e f all a d k
  | some (j,h)=>match ((all[j]?).bind (·.dst)) with
   | some g=>match c.sl.getD g (.tup []) with
    | .s (.bool b)=>Gj b λb=>
     if b==h then opK C e f o { c with sl:=c.sl.set g (.s (.bool b)) } λd=>Jm e f all a d k
     else Jm e f all a { c with sl:=Db o.dst (.tup []) (c.sl.set g (.s (.bool b))) } k
    | .tup []=>Jm e f all a { c with sl:=Db o.dst (.tup []) c.sl } k
    | _=>none
   | none=>none
def Mw:List PV->List Nat->List PV->List PV
 | sl,t::a,v::b=>Mw (sl.set t v) a b
 | sl,_,_=>sl
end calls
mutual
def PV.yf:PV->Bool
 | .yd=>false
 | .fnr _ x y=>yfL x&&yfL y
 | .agg l=>yfL l
 | .tup l=>yfL l
 | _=>true
def yfL:List PV->Bool
 | []=>true
 | v::r=>v.yf&&yfL r
end
def Blk.yf:Blk->Bool
 | .box cells=>yfL cells
 | .mp ents=>yfL (ents.map ac4)
 | _=>true
def CW(P:Program)(g:Nat):Bool:=match P.funcs[g]? with
 | some fn=>fn.body.isSome && !(fn.name == "runtime.NumGoroutine")
 | none=>false
def Tw:PV->Option (Nat × List PV × List PV)
 | .s (.fn (.func g) first caps)=>some (g,first.map .s,caps.map .s)
 | .fnr (.func g) first caps=>some (g,first,caps)
 | _=>none
def Ex:Out->Option Out
 | .normal=>none
 | o=>some o
def Ct(C:Cfg):List Blk->Nat->List Nat
 | [],_=>[]
 | b::r,n=>cond (Ft C b) (Ct C r (n+1)) (n::Ct C r (n+1))
def P5(a:List Nat)(H:List Blk):List Blk:=Y4 (U1 a H) a (o9 a.length .dead)
def Jo:Blk->Blk
 | .box cells=>.box (cells.map λ_=>.bad)
 | .mp a=>.mp (PE (λ_=>.bad) a)
 | b=>b
def Al4(C:Cfg)(a:List Nat)(H d c:List Blk):List Blk:=Y4 c a (a.map λb=>cond (Ft C (H.getD b .dead)) (Jo (d.getD (J1 a b) .dead)) .dead)
def SK:Blk->Bool | .box _=>true|_=>false
def Ky{c:Type}(i:Array Tmp)(f:List PV)(d e:St c->(Out->St c->Option (Bool × (List Blk × Option Out × c)))->Option (Bool × (List Blk × Option Out × c))):Yh (List Blk × Option Out × c):=λa x=>match x with
 | (H,none,s)=>if a.length=i.size then
   d { sl:=Mw f i.toList a,hp:=H,s:=s } λo g=>match o with
    | .normal=>e g λh b=>some ((Ex h).isNone,((Z4 H.length b).hp,Ex h,b.s))
    | _=>none
  else none
 | _=>none
def Zc{g R:Type}(C:Cfg)(j:G1)(f:Nat)(first d:List PV)(a:List Nat)(c:St g)(m:List PV->Yh (List Blk × Option Out × g))(k:Out->St g->Option R):Option R:=
 if Fr c.hp a&&yfL (first++d)&&(a.all λb=>(c.hp.getD b .dead).yf)&&CW C.P f then
  match j (List Blk × Option Out × g) (m (N1 (a++Ct C c.hp 0) c.sl)) f (rnL (J1 a) first++.yd::rnL (J1 a) d) (a.map λb=>(c.hp.getD b .dead).rn (J1 a)) (P5 a c.hp,none,c.s) with
  | some (_,i,(h,e,l))=>k (e.getD .normal) { sl:=N1 (a++Ct C c.hp 0) c.sl,hp:=Al4 C a c.hp i h,s:=l }
  | none=>none
 else none
def V9{e R:Type}(g:Array Tmp)(d:List PV)(b c:St e->(Out->St e->Option R)->Option R):List (List PV)->List Blk->e->(Option Out->List Blk->e->Option R)->Option R
 | [],H,s,k=>k none H s
 | x::xs,H,s,k=>if x.length=g.size then
   b { sl:=Mw d g.toList x,hp:=H,s:=s } λo h=>match o with
    | .normal=>c h λf a=>match f with
     | .normal=>V9 g d b c xs (Z4 H.length a).hp a.s k
     | f=>k (some f) (Z4 H.length a).hp a.s
    | _=>none
  else none
def rgK{c R:Type}(b:List PV)(d:List Blk->List Blk)(k:Out->St c->Option R):Option Out->List Blk->c->Option R:=λa H s=>k (a.getD .normal) { sl:=b,hp:=d H,s:=s }
def Bh2{g R:Type}(C:Cfg)(h:List PV->List Blk->Option (Bool × List (List PV)))(f:Nat)(first e:List PV)(a:List Nat)(d:St g)(i:List PV->List (List PV)->List Blk->g->(Option Out->List Blk->g->Option R)->Option R)(k:Out->St g->Option R):Option R:=
 if Fr d.hp a&&yfL (first++e)&&(a.all λb=>(d.hp.getD b .dead).yf)&&CW C.P f&&(a.all λb=>SK (d.hp.getD b .dead)) then match h (rnL (J1 a) first++.yd::rnL (J1 a) e) (a.map λb=>(d.hp.getD b .dead).rn (J1 a)) with
  | some (c,L)=>need c (i (N1 (a++Ct C d.hp 0) d.sl) L (P5 a d.hp) d.s (rgK (N1 (a++Ct C d.hp 0) d.sl) (Al4 C a d.hp ((a.map λb=>(d.hp.getD b .dead).rn (J1 a)).map Jo)) k))
  | none=>none
 else none
def Wo{a R:Type}(C:Cfg)(c:G1)(g:PV)(b:St a)(h:List PV->Yh (List Blk × Option Out × a))(e:List PV->List (List PV)->List Blk->a->(Option Out->List Blk->a->Option R)->Option R)(k:Out->St a->Option R):Option R:=match Tw g with
 | some (f,first,caps)=>match C.S f with
  | some d=>Bh2 C d f first caps (Ee b.hp (D0 (first++caps))) b e k
  | none=>Zc C c f first caps (Ee b.hp (D0 (first++caps))) b h k
 | none=>none
def P7(C:Cfg):Op->Bool
 | .move _=>true
 | .assign _=>true
 | .pick _ _ _=>true
 | .build _ _=>true
 | .load _ _=>true
 | .nilCheck _=>true
 | .binOp _ _ _ _ _=>true
 | .unOp _ _ _=>true
 | .convert _ a _=>match C.sh a with | .slice _=>false|_=>true
 | .makeFunc (.func _) _ _=>true
 | .slice _ _ _ _ _=>true
 | .fieldAddr _ _ _=>true
 | .indexAddr _ _ _=>true
 | .index _ _ _=>true
 | .lookup _ _ _ _=>true
 | .extract _ _=>true
 | .call c=>match c.callee with
  | .builtin .len=>true
  | .builtin .min=>true
  | .builtin .max=>true
  | _=>false
 | _=>false
def Tv(C:Cfg):Op->Bool
 | .call c=>match c.callee with
  | .value (.func g)=>C.xp g&&(C.X g).isSome&&CW C.P g
  | _=>false
 | _=>false
def NJ(C:Cfg)(op:Op):Bool:=P7 C op||Tv C op
def B19(C:Cfg):Op->Bool
 | .buildSlice _ _ _=>true
 | .alloc _=>true
 | .makeMap _ none=>true
 | .call c=>match c.callee with
  | .value (.func g)=>(C.X g).isSome&&CW C.P g
  | _=>false
 | _=>false
def Ku(C:Cfg)(op:Op):Nat:=match op with
 | .move _=>0
 | .assign _=>0
 | .pick _ _ _=>0
 | .extract _ _=>0
 | .slice _ _ _ _ _=>0
 | .binOp _ _ _ _ _=>0
 | .fieldAddr _ _ _=>0
 | .indexAddr _ _ _=>0
 | .build _ _=>0
 | .nilCheck _=>0
 | op=>cond (NJ C op) 1 (cond (B19 C op) 2 3)
def D82(C:Cfg):List Oper->List (Nat × Bool)->Nat->List (Nat × Bool)
 | [],a,_=>a
 | o::r,a,n=>cond (ah1 2 (Ku C o.op)) (D82 C r (a++[(n,true)]) (n+1))
   (D82 C r (a++[(o.after.toList.foldl (λm e=>cond (Region.binds .any e) (match a[e.on]? with|some (s,b)=>Nat.max m (cond b (s+1) s)|none=>m) m) 0,false)]) n)
def Aa6(s:Nat)(b:Bool):List (Nat × Bool)->Nat->List Nat
 | [],_=>[]
 | (t,c)::r,i=>cond (ad5 t s&&(c==b)) (i::Aa6 s b r (i+1)) (Aa6 s b r (i+1))
def C90(l:List (Nat × Bool)):Nat->Nat->List Nat
 | 0,_=>[]
 | f+1,s=>Aa6 s false l 0++(Aa6 s true l 0++C90 l f (s+1))
def Yy(C:Cfg)(a:List Oper):List Nat:=
 let l:=D82 C a [] 0
 C90 l ((l.filter (·.2)).length+1) 0
def O5(C:Cfg)(a:Array Oper)(i:Nat):Nat:=match a[i]? with
 | some o=>Ku C o.op
 | none=>1
inductive Trn where
 | row (v:SV)
 | var (e:Nat)
def Bl6(C:Cfg)(o:Oper)(sl:List PV)(k:Trn->Option R):Option R:=match o.guard,o.op with
 | none,.alloc e=>match C.sh e with
  | .array _ _=>none
  | _=>need (C.ti e).ok (k (.var e))
 | none,.buildSlice t len parts=>match C.sh t with
  | .slice e=>if (C.ti e).ok&&decide (len*(C.ti e).ks.length<=16777216)&&decide (len<=16777216) then match Ed (λi=>some (i*(C.ti e).ks.length,(C.ti e).ks.length)) ((o9 len ((C.ti e).ks.map Y5)).flatten) (parts.toList.map λ(i,x)=>(i,opnd C sl x)) with
   | some cells=>match Lc cells with
    | some a=>k (.row (.sl false true (C.ti e).ks.length (U4 (C.ti e).ks.length len a)))
    | none=>none
   | none=>none else none
  | _=>none
 | _,_=>none
def Ve{b R:Type}(C:Cfg)(d:Option Nat)(t:Trn)(a:St b)(k:St b->Option R):Option R:=match t with
 | .row v=>k { a with sl:=Db d (.s v) a.sl }
 | .var e=>GI C e ((C.ti e).ks.map Y5) a.hp λv H=>k { a with hp:=H,sl:=Db d v a.sl }
def ltK(C:Cfg)(c:Array Oper):List Nat->List Nat × List Nat
 | []=>([],[])
 | i::r=>cond (ah1 (O5 C c i) 1) (let(a,b):=ltK C c r;(i::a,b)) ([],i::r)
def D86(i:Nat):List Nat->List Nat × List Nat
 | []=>([],[])
 | j::r=>cond (ad5 j i) ([],r) (let(a,b):=D86 i r;(j::a,b))
def Kz(C:Cfg)(a:Array Oper):List Nat:=(ltK C a (Yy C a.toList)).1
def Iw(C:Cfg)(a:Array Oper)(i:Nat):List Nat:=(D86 i (ltK C a (Yy C a.toList)).2).1
def Fm(C:Cfg)(a:Array Oper)(i:Nat):List Nat:=(D86 i (ltK C a (Yy C a.toList)).2).2
def okN:List Nat->Nat->Bool
 | [],_=>false
 | a::r,n=>ad5 n a||okN r n
def Mr{a R:Type}(C:Cfg)(b:G1)(d:Yh a)(all:Array Oper)(_:Option (List Nat × List Nat))(_:List Blk)(_:Bool)(l:List Nat)(c:St a)(k:St a->Option R):Option R:=Jm C b d all (l.filterMap (all[·]?)) c k
def Qb{e R:Type}(C:Cfg)(g:G1)(j:Yh e)(all:Array Oper)(h:Option (List Nat × List Nat))(f:List Blk)(d:Option Nat):List Nat->St e->(St e->Option R)->Option R
 | [],c,k=>k c
 | i::a,c,k=>Mr C g j all h f false [i] c λb=>Qb C g j all h f d a { b with sl:=Db d .bad b.sl } k
def C45{b R:Type}(C:Cfg)(c:G1)(e:Yh b)(a:Array Oper)(d:St b)(k:St b->Option R)(l:List Oper):Option R:=Jm C c e a l d k
def Bh7{j R:Type}(C:Cfg)(e:G1)(f:Yh j)(id:Nat)(a:Array Oper)(d:Bool)(b:St j)(k:St j->Option R):Option R:=match C.rowR id with
 | none=>match d with
  | true=>Mr C e f a (C.farR id) b.hp true (Yy C a.toList) b k
  | false=>C45 C e f a b k a.toList
 | some i=>match d,a[i]? with
  | true,some o=>Mr C e f a (C.farR id) b.hp true (Kz C a) b λc=>Bl6 C o c.sl λt=>
    Qb C e f a (C.farR id) b.hp o.dst (Iw C a i) { c with sl:=Db o.dst .bad c.sl } λg=>Ve C o.dst t g λh=>
     Mr C e f a (C.farR id) b.hp false (Fm C a i) h k
  | _,_=>none
def C3(C:Cfg)(h:G1){p:Type}(i:Yh p):Code->{R:Type}->St p->(Out->St p->Option R)->Option R
 | .skip,_,e,k=>k .normal e
 | .label _,_,e,k=>k .normal e
 | .region id n d,_,e,k=>Bh7 C h i id n d e λf=>k .normal (Yj (C.keepR id) e.hp.length f)
 | .seq a b,_,e,k=>C3 C h i a e λo f=>match o with
  | .normal=>C3 C h i b f k
  | o=>k o f
 | .cond c a b,_,e,k=>match opnd C e.sl c with
  | .s (.bool t)=>Gj t λt=>cond t (C3 C h i a e k) (C3 C h i b e k)
  | _=>none
 | .block id a,_,e,k=>C3 C h i a e λo f=>match o with
  | .exit j=>if j=id then k .normal f else k (.exit j) f
  | o=>k o f
 | .loop a,_,e,k=>D4 e.hp.length (C.keep (Aq0 a)) (λe k=>C3 C h i a e k) C.lf (Nx (C.keep (Aq0 a)) e) k
 | .scope a,_,e,k=>C3 C h i a e k
 | .exit id,_,e,k=>k (.exit id) (Nx (C.keepE id) e)
 | .ret,_,e,k=>k .ret (Nx C.keepT e)
 | .rangeFunc g r q l,_,e,k=>Wo C h (opnd C e.sl g) e (λm=>Ky r m (λe k=>C3 C h i q e k) (λe k=>C3 C h i l e k)) (λm=>V9 r m (λe k=>C3 C h i q e k) (λe k=>C3 C h i l e k)) k
 | _,_,_,_=>none
def GL(C:Cfg)(sl:List PV)(H:List Blk):List ResultVar->(List PV->Option R)->Option R
 | [],k=>k []
 | .tmp t::r,k=>GL C sl H r λb=>k (sl.getD t (.tup [])::b)
 | .cell a t::r,k=>MM (C.ti t) (sl.getD a (.tup [])) H λv=>GL C sl H r λb=>k (v::b)
def Dn:List PV->PV
 | [v]=>v
 | a=>.tup a
def evC(C:Cfg):Nat->G1
 | 0=>λ_ _ _ _ _ _=>none
 | d+1=>λ_ e f args H s=>
  match C.okf f,C.P.funcs[f]? with
  | true,some fn=>match fn.body with
   | some c=>C3 C (evC C d) e c { sl:=args++o9 (fn.ntmps-args.length) (.tup []),hp:=H,s:=s } λo a=>match o with
    | .normal=>GL C a.sl a.hp fn.results.toList λb=>some (Dn b,a.hp,a.s)
    | .ret=>GL C a.sl a.hp fn.results.toList λb=>some (Dn b,a.hp,a.s)
    | _=>none
   | none=>none
  | _,_=>none
structure Ctx where
 St:Nat->Prop
 nm:Nat->Option Nat
 yv:Value
 yv1:yv.oneCell'=true
inductive Shp where
 | arr (v:Bool) (e sz n:Nat)
 | box
 | iter
 | mp
 | dead
def Blk.shp:Blk->Shp
 | .arr v e sz els=>.arr v e sz els.length
 | .box _=>.box
 | .iter _ _=>.iter
 | .mp _=>.mp
 | .ms _ _=>.mp
 | .dead=>.dead
def A3(H:List Blk)(b:Nat):Option Shp:=(H[b]?).map Blk.shp
inductive VS (St:Nat->Prop) (w:World):SV->Value->Prop
 | bool (b:Bool):VS St w (.bool b) (.bool b)
 | int (k:IntKind) (n:Int):VS St w (.int k n) (.int k n)
 | str (s:ByteArray):VS St w (.str s.data.toList) (.string s)
 | nilp:VS St w .nilp (.pointer none)
 | nilm:VS St w .nilm (.map none)
 | nilf:VS St w .nilf .nilFunc
 | nil (t:Bool) (k:Nat):VS St w (.sl true t k []) (.slice none 0 0)
 | emp (t:Bool) (k:Nat) (a:Addr) (cap:Nat) (ht:t=true->cap=0) (hm:cap<=maxLen):VS St w (.sl false t k []) (.slice (some a) 0 cap)
 | sl (t:Bool) (els:List (List SV)) (g off n cap sz:Nat) (Vs:Nat->Nat->Value) (hn:n=els.length) (hcap:n<=cap) (hm:cap<=maxLen) (ht:t=true->cap=n) (hg:St g)
   (hl:∀i (h:i<els.length),(els[i]).length=sz)
   (hc:∀i (h:i<els.length) j (h':j<(els[i]).length),w.cell? ⟨g,off+i*sz+j,none⟩=some (Vs i j))
   (hv:∀i (h:i<els.length) j (h':j<(els[i]).length),VS St w (els[i][j]) (Vs i j)) :
   VS St w (.sl false t sz els) (.slice (some ⟨g,off,none⟩) n cap)
 | sp (els:List (List SV)) (i o:Nat) (g off sz:Nat) (Vs:Nat->Nat->Value) (hg:St g)
   (hl:∀i (h:i<els.length),(els[i]).length=sz)
   (hc:∀i (h:i<els.length) j (h':j<(els[i]).length),w.cell? ⟨g,off+i*sz+j,none⟩=some (Vs i j))
   (hv:∀i (h:i<els.length) j (h':j<(els[i]).length),VS St w (els[i][j]) (Vs i j)) :
   VS St w (.sp els i o) (.pointer (some ⟨g,off+i*sz+o,none⟩))
 | fn (f:Fn) (x y:List SV) (A B:Array Value) (As Bs:Nat->Value) (hf:∀l,f≠.yield l) (hA:A.size=x.length) (hB:B.size=y.length)
   (ha:∀j,j<x.length->A[j]? = some (As j)) (hb:∀j,j<y.length->B[j]? = some (Bs j))
   (hx:∀j (h:j<x.length),VS St w (x[j]) (As j)) (hy:∀j (h:j<y.length),VS St w (y[j]) (Bs j)) :
   VS St w (.fn f x y) (.func f A B)
def VS.mono{St St':Nat->Prop}{w w':World}(hs:∀g,St g->w'.heap[g]? = w.heap[g]?)(hsub:∀g,St g->St' g){s:SV}{V:Value}(h:VS St w s V):VS St' w' s V:=by
 have hcell:∀g o,St g->w'.cell? ⟨g,o,none⟩=w.cell? ⟨g,o,none⟩:=λg o hg=>by simp[ad7,hs g hg]
 induction h with
 | bool b=>exact .bool b
 | int k n=>exact .int k n
 | str s=>exact .str s
 | nilp=>exact .nilp
 | nilm=>exact .nilm
 | nilf=>exact .nilf
 | nil t k=>exact .nil t k
 | emp t k a cap ht hm=>exact .emp t k a cap ht hm
 | sl t els g off n cap sz Vs hn hcap hm ht hg hl hc hv ih=>
  exact .sl t els g off n cap sz Vs hn hcap hm ht (hsub g hg) hl (λi h j h'=>by rw[hcell g _ hg];exact hc i h j h') ih
 | sp els i o g off sz Vs hg hl hc hv ih=>
  exact .sp els i o g off sz Vs (hsub g hg) hl (λi h j h'=>by rw[hcell g _ hg];exact hc i h j h') ih
 | fn f x y A B As Bs hf hA hB ha hb hx hy ihx ihy=>exact .fn f x y A B As Bs hf hA hB ha hb ihx ihy
inductive VP (Γ:Ctx) (sh:Nat->Option Shp) (w:World):PV->Value->Prop
 | s (v:SV) (V:Value) (h:VS Γ.St w v V):VP Γ sh w (.s v) V
 | nsl:VP Γ sh w .nsl (.slice none 0 0)
 | flv (b e sz:Nat) (h:sh b=some (.arr true e sz 0)):VP Γ sh w (.fl b) (.slice none 0 0)
 | fl (b g:Nat) (v:Bool) (e sz n cap:Nat) (h:sh b=some (.arr v e sz n)) (hv:v=true->n≠0) (hg:Γ.nm b=some g) (hcap:n<=cap) (hm:cap<=maxLen)
   (hs:w.shape? g=some (e,cap*sz)):VP Γ sh w (.fl b) (.slice (some ⟨g,0,none⟩) n cap)
 | vwv (b e sz i:Nat) (h:sh b=some (.arr true e sz 0)):VP Γ sh w (.vw b i 0) (.slice none 0 0)
 | vw (b i n g:Nat) (a:Addr) (cap:Nat) (v:Bool) (e sz m:Nat) (h:sh b=some (.arr v e sz m)) (hv:v=true->m≠0) (hg:Γ.nm b=some g)
   (ha:n≠0->a=⟨g,i*sz,none⟩) (hi:i+n<=m) (hcap:n<=cap) (hm:cap<=maxLen):VP Γ sh w (.vw b i n) (.slice (some a) n cap)
 | ptrA (b i off g:Nat) (v:Bool) (e sz n:Nat) (h:sh b=some (.arr v e sz n)) (hg:Γ.nm b=some g):VP Γ sh w (.ptr b i off) (.pointer (some ⟨g,i*sz+off,none⟩))
 | ptrB (b off g:Nat) (h:sh b=some .box) (hg:Γ.nm b=some g):VP Γ sh w (.ptr b 0 off) (.pointer (some ⟨g,off,none⟩))
 | fnr (f:Fn) (x y:List PV) (A B:Array Value) (As Bs:Nat->Value) (hf:∀l,f≠.yield l) (hA:A.size=x.length) (hB:B.size=y.length)
   (ha:∀j,j<x.length->A[j]? = some (As j)) (hb:∀j,j<y.length->B[j]? = some (Bs j))
   (hx:∀j (h:j<x.length),VP Γ sh w (x[j]) (As j)) (hy:∀j (h:j<y.length),VP Γ sh w (y[j]) (Bs j)) :
   VP Γ sh w (.fnr f x y) (.func f A B)
 | it (b g:Nat) (h:sh b=some .iter) (hg:Γ.nm b=some g):VP Γ sh w (.it b) (.pointer (some ⟨g,0,none⟩))
 | mpv (b g:Nat) (h:sh b=some .mp) (hg:Γ.nm b=some g):VP Γ sh w (.it b) (.map (some g))
 | yd:VP Γ sh w .yd Γ.yv
 | agg (l:List PV) (A:Array Value) (As:Nat->Value) (hA:A.size=l.length) (ha:∀j,j<l.length->A[j]? = some (As j)) (hl:∀j (h:j<l.length),VP Γ sh w (l[j]) (As j)) :
   VP Γ sh w (.agg l) (.agg A)
 | tup (l:List PV) (A:Array Value) (As:Nat->Value) (hA:A.size=l.length) (ha:∀j,j<l.length->A[j]? = some (As j)) (hl:∀j (h:j<l.length),VP Γ sh w (l[j]) (As j)) :
   VP Γ sh w (.tup l) (.tuple A)
 | bad (V:Value):VP Γ sh w .bad V
def C7{l:List PV}{b:Nat}:b∈D0 l↔∃j,∃h:j<l.length,b∈(l[j]).nms:=by
 induction l with
 | nil=>simp[D0]
 | cons v r a=>
  simp only[D0,k9,a];constructor
  ·rintro(h|⟨j,hj,h⟩)
   ·exact⟨0,by simp,by simpa using h⟩
   ·exact⟨j+1,by simpa using hj,by simpa using h⟩
  grind
structure Bg (Γ:Ctx) (sh:Nat->Option Shp) (w:World) (Γ':Ctx) (sh':Nat->Option Shp) (w':World) (ok:Nat->Prop):Prop where
 st:∀g,Γ.St g->w'.heap[g]? = w.heap[g]?
 sub:∀g,Γ.St g->Γ'.St g
 nm:∀b,ok b->Γ'.nm b=Γ.nm b
 shp:∀b,ok b->sh' b=sh b
 hs:∀b g,ok b->Γ.nm b=some g->w'.shape? g=w.shape? g
 yv:Γ'.yv=Γ.yv
def VP.mono{Γ Γ':Ctx}{sh sh':Nat->Option Shp}{w w':World}{ok:Nat->Prop}(M:Bg Γ sh w Γ' sh' w' ok){v:PV}{V:Value}(h:VP Γ sh w v V) :
  (∀b∈v.nms,ok b)->VP Γ' sh' w' v V:=by
 induction h with
 | s v V h=>intro _;exact .s v V (h.mono M.st M.sub)
 | nsl=>intro _;exact .nsl
 | flv b e sz h=>intro hok;exact .flv b e sz (by rw[M.shp b (hok b (by simp[PV.nms]))];exact h)
 | fl b g v e sz n cap h hv hg hcap hm hs=>
  intro hok;have o:=hok b (by simp[PV.nms]);exact .fl b g v e sz n cap (by rw[M.shp b o];exact h) hv (by rw[M.nm b o];exact hg) hcap hm (by rw[M.hs b g o hg];exact hs)
 | vwv b e sz i h=>intro hok;exact .vwv b e sz i (by rw[M.shp b (hok b (by simp[PV.nms]))];exact h)
 | vw b i n g a cap v e sz m h hv hg ha hi hcap hm=>
  intro hok;have o:=hok b (by simp[PV.nms]);exact .vw b i n g a cap v e sz m (by rw[M.shp b o];exact h) hv (by rw[M.nm b o];exact hg) ha hi hcap hm
 | ptrA b i off g v e sz n h hg=>
  intro hok;have o:=hok b (by simp[PV.nms]);exact .ptrA b i off g v e sz n (by rw[M.shp b o];exact h) (by rw[M.nm b o];exact hg)
 | ptrB b off g h hg=>
  intro hok;have o:=hok b (by simp[PV.nms]);exact .ptrB b off g (by rw[M.shp b o];exact h) (by rw[M.nm b o];exact hg)
 | fnr f x y A B As Bs hf hA hB ha hb hx hy ihx ihy=>
  intro hok;exact .fnr f x y A B As Bs hf hA hB ha hb
   (λj h=>ihx j h λb hb=>hok b (by simp only[PV.nms,k9];exact .inl (C7.2 ⟨j,h,hb⟩)))
   (λj h=>ihy j h λb hb=>hok b (by simp only[PV.nms,k9];exact .inr (C7.2 ⟨j,h,hb⟩)))
 | it b g h hg=>
  intro hok;have o:=hok b (by simp[PV.nms]);exact .it b g (by rw[M.shp b o];exact h) (by rw[M.nm b o];exact hg)
 | mpv b g h hg=>
  intro hok;have o:=hok b (by simp[PV.nms]);exact .mpv b g (by rw[M.shp b o];exact h) (by rw[M.nm b o];exact hg)
 | yd=>intro _;rw[<-M.yv];exact .yd
 | agg l A As hA ha hl ih=>intro hok;exact .agg l A As hA ha λj h=>ih j h λb hb=>hok b (by simp only[PV.nms];exact C7.2 ⟨j,h,hb⟩)
 | tup l A As hA ha hl ih=>intro hok;exact .tup l A As hA ha λj h=>ih j h λb hb=>hok b (by simp only[PV.nms];exact C7.2 ⟨j,h,hb⟩)
 | bad V=>intro _;exact .bad V
def Dk(b:Nat)(l:List PV):Ab b l=l.map (PV.kill b):=by
 induction l with
 | nil=>rfl
 | cons v r a=>simp[Ab,a]
def VP.kill{Γ:Ctx}{sh:Nat->Option Shp}{w:World}(c:Nat){v:PV}{V:Value}(h:VP Γ sh w v V):VP Γ sh w (v.kill c) V:=by
 induction h with
 | s v V h=>exact .s v V h
 | nsl=>exact .nsl
 | flv b e sz h=>unfold PV.kill;split;exact .bad _;exact .flv b e sz h
 | fl b g v e sz n cap h hv hg hcap hm hs=>unfold PV.kill;split;exact .bad _;exact .fl b g v e sz n cap h hv hg hcap hm hs
 | vwv b e sz i h=>unfold PV.kill;split;exact .bad _;exact .vwv b e sz i h
 | vw b i n g a cap v e sz m h hv hg ha hi hcap hm=>unfold PV.kill;split;exact .bad _;exact .vw b i n g a cap v e sz m h hv hg ha hi hcap hm
 | ptrA b i off g v e sz n h hg=>unfold PV.kill;split;exact .bad _;exact .ptrA b i off g v e sz n h hg
 | ptrB b off g h hg=>unfold PV.kill;split;exact .bad _;exact .ptrB b off g h hg
 | fnr f x y A B As Bs hf hA hB ha hb hx hy ihx ihy=>
  simp only[PV.kill,Dk];exact .fnr f _ _ A B As Bs hf (by simpa using hA) (by simpa using hB) (λj h=>ha j (by simpa using h)) (λj h=>hb j (by simpa using h))
   (λj h=>by simpa using ihx j (by simpa using h)) (λj h=>by simpa using ihy j (by simpa using h))
 | it b g h hg=>unfold PV.kill;split;exact .bad _;exact .it b g h hg
 | mpv b g h hg=>unfold PV.kill;split;exact .bad _;exact .mpv b g h hg
 | yd=>exact .yd
 | agg l A As hA ha hl ih=>
  simp only[PV.kill,Dk];exact .agg _ A As (by simpa using hA) (λj h=>ha j (by simpa using h)) (λj h=>by simpa using ih j (by simpa using h))
 | tup l A As hA ha hl ih=>
  simp only[PV.kill,Dk];exact .tup _ A As (by simpa using hA) (λj h=>ha j (by simpa using h)) (λj h=>by simpa using ih j (by simpa using h))
 | bad V=>exact .bad V
mutual
def PV.not_mem_kill(c:Nat):∀v:PV,c∉(v.kill c).nms
 | .s _=>by simp[PV.kill,PV.nms]
 | .nsl=>by simp[PV.kill,PV.nms]
 | .fl b=>by unfold PV.kill;split<;>simp_all [PV.nms,eq_comm]
 | .vw b _ _=>by unfold PV.kill;split<;>simp_all [PV.nms,eq_comm]
 | .ptr b _ _=>by unfold PV.kill;split<;>simp_all [PV.nms,eq_comm]
 | .fnr _ x y=>by simp only[PV.kill,PV.nms,k9,not_or];exact⟨V2 c x,V2 c y⟩
 | .it b=>by unfold PV.kill;split<;>simp_all [PV.nms,eq_comm]
 | .yd=>by simp[PV.kill,PV.nms]
 | .agg l=>by simp only[PV.kill,PV.nms];exact V2 c l
 | .tup l=>by simp only[PV.kill,PV.nms];exact V2 c l
 | .bad=>by simp[PV.kill,PV.nms]
def V2(c:Nat):∀l:List PV,c∉D0 (Ab c l)
 | []=>by simp[Ab,D0]
 | v::r=>by simp only[Ab,D0,k9,not_or];exact⟨PV.not_mem_kill c v,V2 c r⟩
end
mutual
def PV.kill_nms(c:Nat):∀(v:PV) b,b∈(v.kill c).nms->b∈v.nms
 | .s _,b=>by simp[PV.kill,PV.nms]
 | .nsl,b=>by simp[PV.kill,PV.nms]
 | .fl a,b=>by unfold PV.kill;split<;>simp_all [PV.nms]
 | .vw a _ _,b=>by unfold PV.kill;split<;>simp_all [PV.nms]
 | .ptr a _ _,b=>by unfold PV.kill;split<;>simp_all [PV.nms]
 | .fnr _ x y,b=>by
  simp only[PV.kill,PV.nms,k9];rintro(h|h)
  ·exact .inl (Cs c x b h)
  ·exact .inr (Cs c y b h)
 | .it a,b=>by unfold PV.kill;split<;>simp_all [PV.nms]
 | .yd,b=>by simp[PV.kill,PV.nms]
 | .agg l,b=>by simp only[PV.kill,PV.nms];exact Cs c l b
 | .tup l,b=>by simp only[PV.kill,PV.nms];exact Cs c l b
 | .bad,b=>by simp[PV.kill,PV.nms]
def Cs(c:Nat):∀(l:List PV) b,b∈D0 (Ab c l)->b∈D0 l
 | [],b=>by simp[Ab,D0]
 | v::r,b=>by
  simp only[Ab,D0,k9];rintro(h|h)
  ·exact .inl (PV.kill_nms c v b h)
  ·exact .inr (Cs c r b h)
end
def MR(a:Ctx)(sh:Nat->Option Shp)(w:World):List (List UInt8 × PV)->List MapEntry->Prop
 | [],[]=>True
 | e::r,E::q=>((∃s:ByteArray,E.key = .string s/\s.data.toList=e.1)/\VP a sh w e.2 E.val)/\MR a sh w r q
 | _,_=>False
def MR.map{Γ Γ':Ctx}{sh sh':Nat->Option Shp}{w w':World}{f:PV->PV}:∀{l:List (List UInt8 × PV)} {es:List MapEntry},MR Γ sh w l es->(∀v∈l.map ac4,∀V,VP Γ sh w v V->VP Γ' sh' w' (f v) V)->MR Γ' sh' w' (PE f l) es
 | [],[],_,_=>trivial
 | e::r,E::q,h,hf=>⟨⟨h.1.1,hf _ (by simp) _ h.1.2⟩,h.2.map λv hv V=>hf v (by simp only[aa1,ab0];exact .inr hv) V⟩
 | [],_::_,h,_=>h.elim
 | _::_,[],h,_=>h.elim
def MR.len{Γ:Ctx}{sh:Nat->Option Shp}{w:World}:∀{l:List (List UInt8 × PV)} {es:List MapEntry},MR Γ sh w l es->es.length=l.length
 | [],[],_=>rfl
 | e::r,E::q,h=>by rw[af1,af1,h.2.len]
 | [],_::_,h=>h.elim
 | _::_,[],h=>h.elim
def MR.imp{Γ Γ':Ctx}{sh sh':Nat->Option Shp}{w w':World}{l:List (List UInt8 × PV)}{es:List MapEntry}(h:MR Γ sh w l es)(hf:∀v∈l.map ac4,∀V,VP Γ sh w v V->VP Γ' sh' w' v V):MR Γ' sh' w' l es:=by have:=h.map (f:=id) hf;simpa[PE] using this
def Dp0(l:List SV):D0 (l.map PV.s)=[]:=by induction l with
 | nil=>rfl
 | cons a l b=>simp[D0,PV.nms,b]
def Af7(a:Bool)(l:List SV):(svV a l).nms=[]:=by
 cases a with
 | true=>simp only[svV,aa,PV.nms,Dp0]
 | false=>simp only[svV,ab];split<;>rfl
def GZ{a:Bool}{b:List (List UInt8 × List SV)}{v:PV}(h:v∈(msP a b).map ac4):∃e∈b,v=svV a e.2:=by simp only[msP,ac7,af7,ah2] at h;obtain⟨e,c,rfl⟩:=h;exact⟨e,c,rfl⟩
def Do8{a:Bool}{b:List (List UInt8 × List SV)}{v:PV}(h:v∈(msP a b).map ac4):v.nms=[]:=by obtain⟨e,_,rfl⟩:=GZ h;exact Af7 a _
def MR.vals{Γ:Ctx}{sh:Nat->Option Shp}{w:World}:∀{l:List (List UInt8 × PV)} {es:List MapEntry},MR Γ sh w l es->∀v∈l.map ac4,∀{p:Prop},(∀V,VP Γ sh w v V->p)->p
 | e::r,E::q,h,v,hv,p,hf=>by
  rcases ab0.1 hv with rfl|hv
  ·exact hf _ h.1.2
  ·exact h.2.vals v hv hf
 | [],_,_,v,hv,_,_=>by simp at hv
 | _::_,[],h,_,_,_,_=>h.elim
def DL{l:List PV}{v:PV}(h:v∈l):∀c∈v.nms,c∈D0 l:=λc a=>by
 obtain⟨j,b,rfl⟩:=ah5 h;exact C7.2 ⟨j,b,a⟩
def BR(Γ:Ctx)(sh:Nat->Option Shp)(w:World)(b:Nat):Blk->Prop
 | .arr v e k c=>(v=true/\c=[])\/(¬(v=true/\c=[])/\∃g cur,Γ.nm b=some g/\w.heap[g]? = some (.cells cur e (0,0))/\c.length*k<=cur.size/\
   (∀i (h:i<c.length),(c[i]).length=k)/\∀i (h:i<c.length) j (m:j<(c[i]).length),∃V,cur[i*k+j]? = some V/\VS Γ.St w (c[i][j]) V)
 | .box cells=>∃g cur e,Γ.nm b=some g/\w.heap[g]? = some (.cells cur e (0,0))/\cur.size=cells.length/\∀j (h:j<cells.length),∃V,cur[j]? = some V/\VP Γ sh w (cells[j]) V
 | .iter s p=>∃g l,Γ.nm b=some g/\w.heap[g]? = some (.stringIter l p)/\l.data.toList=s
 | .mp d=>∃g f clock,Γ.nm b=some g/\w.heap[g]? = some (.map f clock)/\MR Γ sh w d f.toList
 | .ms a d=>∃g f clock,Γ.nm b=some g/\w.heap[g]? = some (.map f clock)/\MR Γ sh w (msP a d) f.toList
 | .dead=>True
structure HR (Γ:Ctx) (H:List Blk) (w:World):Prop where
 inj:∀b b' g,Γ.nm b=some g->Γ.nm b'=some g->b=b'
 lt:∀b g,Γ.nm b=some g->b<H.length/\g<w.heap.size/\¬ Γ.St g
 stlt:∀g,Γ.St g->g<w.heap.size
 nms:∀b (h:b<H.length),∀c∈(H[b]).nms,c<H.length
 blk:∀b (h:b<H.length),BR Γ (A3 H) w b (H[b])
structure SR (Γ:Ctx) (H:List Blk) (w:World) (sl:List PV) (tmps:Array Value):Prop where
 size:tmps.size=sl.length
 nms:∀c∈D0 sl,c<H.length
 slot:∀i (h:i<sl.length),∃V,tmps[i]? = some V/\VP Γ (A3 H) w (sl[i]) V
def BR.mono{Γ Γ':Ctx}{sh sh':Nat->Option Shp}{w w':World}{ok:Nat->Prop}(M:Bg Γ sh w Γ' sh' w' ok){b:Nat}{x:Blk}
  (h:BR Γ sh w b x) (hnm:Γ'.nm b=Γ.nm b) (hheap:∀g,Γ.nm b=some g->w'.heap[g]? = w.heap[g]?) (hok:∀c∈x.nms,ok c):BR Γ' sh' w' b x:=by
 cases x with
 | arr v e sz els=>
  rcases h with h|⟨hn,g,cur,h1,h2,h3,h4,h5⟩
  ·exact .inl h
  ·refine .inr ⟨hn,g,cur,by rw[hnm];exact h1,by rw[hheap g h1];exact h2,h3,h4,λi h j h'=>?_⟩;obtain⟨V,e1,e2⟩:=h5 i h j h';exact⟨V,e1,e2.mono M.st M.sub⟩
 | box cells=>
  obtain⟨g,cur,e,h1,h2,h3,h4⟩:=h;refine⟨g,cur,e,by rw[hnm];exact h1,by rw[hheap g h1];exact h2,h3,λj h=>?_⟩;obtain⟨V,e1,e2⟩:=h4 j h;exact⟨V,e1,e2.mono M λc hc=>hok c (by simp only[Blk.nms];exact C7.2 ⟨j,h,hc⟩)⟩
 | iter s p=>
  obtain⟨g,s',h1,h2,h3⟩:=h;exact⟨g,s',by rw[hnm];exact h1,by rw[hheap g h1];exact h2,h3⟩
 | mp ents=>
  obtain⟨g,es,ck,h1,h2,h3⟩:=h;exact⟨g,es,ck,by rw[hnm];exact h1,by rw[hheap g h1];exact h2,h3.imp λv hv V k=>k.mono M λc hc=>hok c (DL hv c hc)⟩
 | ms a ents=>
  obtain⟨g,es,ck,h1,h2,h3⟩:=h;exact⟨g,es,ck,by rw[hnm];exact h1,by rw[hheap g h1];exact h2,h3.imp λv hv V k=>k.mono M λc hc=>by rw[Do8 hv] at hc;simp at hc⟩
 | dead=>trivial
def SR.mono{Γ Γ':Ctx}{H H':List Blk}{w w':World}{ok:Nat->Prop}{sl:List PV}{tmps:Array Value}(M:Bg Γ (A3 H) w Γ' (A3 H') w' ok)
  (h:SR Γ H w sl tmps) (hok:∀c∈D0 sl,ok c/\c<H'.length):SR Γ' H' w' sl tmps:=by
 refine⟨h.size,λc hc=>(hok c hc).2,λi hi=>?_⟩;obtain⟨V,e1,e2⟩:=h.slot i hi;exact⟨V,e1,e2.mono M λc hc=>(hok c (C7.2 ⟨i,hi,hc⟩)).1⟩
def Ext(w w':World):Prop:=∀g,g<w.heap.size->w'.heap[g]? = w.heap[g]?
def Ext.refl(w:World):Ext w w:=λ_ _=>rfl
def LC{w w':World}(h:Ext w w'){a:Addr}{v:Value}(c:w.cell? a=some v):w'.cell? a=some v:=by
 have b:a.block<w.heap.size:=aa6 λd=>by
  simp[ad7,af3 (af2 d)] at c
 rw[<-c];simp only[ad7,h a.block b]
def Ed3(P:Program)(w:World)(m:Sem Value)(V:Value):Prop:=∀w':World,Ext w w'->m.run P w' = .ok V w'
def QV(P:Program)(a:Ctx)(H:List Blk)(w:World)(m:Sem Value)(v:PV):Prop:=
 (∀c∈v.nms,c<H.length)/\∃V,VP a (A3 H) w v V/\Ed3 P w m V
def QV0(P:Program)(a:Ctx)(H:List Blk)(w:World)(m:Sem Value)(v:PV):Prop:=
 (∀c∈v.nms,c<H.length)/\∃V,VP a (A3 H) w v V/\∀w':World,m.run P w' = .ok V w'
def QV0.qv{P:Program}{Γ:Ctx}{H:List Blk}{w:World}{m:Sem Value}{v:PV}(h:QV0 P Γ H w m v):QV P Γ H w m v:=
 ⟨h.1,h.2.imp λV k=>⟨k.1,λw' _=>k.2 w'⟩⟩
def QV0.mk0{P:Program}{Γ:Ctx}{H:List Blk}{w:World}{m:Sem Value}{v:PV}{V:Value}(hn:∀c∈v.nms,c<H.length)(h:VP Γ (A3 H) w v V)(hm:∀w':World,m.run P w' = .ok V w'):QV0 P Γ H w m v:=⟨hn,V,h,hm⟩
section inv
variable {Γ : Ctx} {sh : Nat -> Option Shp} {w : World} {V : Value} {St : Nat -> Prop}
def VP.inv_s{x:SV}(h:VP Γ sh w (.s x) V):VS Γ.St w x V:=by cases h;assumption
def VS.inv_bool{b:Bool}(h:VS St w (.bool b) V):V = .bool b:=by cases h;rfl
def VS.inv_int{k:IntKind}{n:Int}(h:VS St w (.int k n) V):V = .int k n:=by cases h;rfl
def VS.inv_str{l:List UInt8}(h:VS St w (.str l) V):∃s:ByteArray,V = .string s/\s.data.toList=l:=by cases h;exact⟨_,rfl,rfl⟩
def VP.inv_bool{b:Bool}(h:VP Γ sh w (.s (.bool b)) V):V = .bool b:=h.inv_s.inv_bool
def VP.inv_int{k:IntKind}{n:Int}(h:VP Γ sh w (.s (.int k n)) V):V = .int k n:=h.inv_s.inv_int
def VP.inv_str{l:List UInt8}(h:VP Γ sh w (.s (.str l)) V):∃s:ByteArray,V = .string s/\s.data.toList=l:=h.inv_s.inv_str
def VP.inv_agg{l:List PV}(h:VP Γ sh w (.agg l) V):∃A:Array Value,V = .agg A/\A.size=l.length/\∀j (h:j<l.length),∃U,A[j]? = some U/\VP Γ sh w (l[j]) U:=by
 cases h with
 | agg l A As hA ha hl=>exact⟨A,rfl,hA,λj h=>⟨As j,ha j h,hl j h⟩⟩
def VP.inv_tup{l:List PV}(h:VP Γ sh w (.tup l) V):∃A:Array Value,V = .tuple A/\A.size=l.length/\∀j (h:j<l.length),∃U,A[j]? = some U/\VP Γ sh w (l[j]) U:=by
 cases h with
 | tup l A As hA ha hl=>exact⟨A,rfl,hA,λj h=>⟨As j,ha j h,hl j h⟩⟩
def VP.mk_agg{l:List PV}{A:Array Value}(hA:A.size=l.length)(h:∀j (h:j<l.length),∃U,A[j]? = some U/\VP Γ sh w (l[j]) U):VP Γ sh w (.agg l) (.agg A):=
 .agg l A (λj=>A.getD j undef) hA (λj hj=>by obtain⟨U,e,_⟩:=h j hj;simp[e]) (λj hj=>by obtain⟨U,e,k⟩:=h j hj;simpa[e] using k)
def VP.mk_tup{l:List PV}{A:Array Value}(hA:A.size=l.length)(h:∀j (h:j<l.length),∃U,A[j]? = some U/\VP Γ sh w (l[j]) U):VP Γ sh w (.tup l) (.tuple A):=
 .tup l A (λj=>A.getD j undef) hA (λj hj=>by obtain⟨U,e,_⟩:=h j hj;simp[e]) (λj hj=>by obtain⟨U,e,k⟩:=h j hj;simpa[e] using k)
def VP.bool(b:Bool):VP Γ sh w (.s (.bool b)) (.bool b):=.s _ _ (.bool b)
def VP.int(k:IntKind)(n:Int):VP Γ sh w (.s (.int k n)) (.int k n):=.s _ _ (.int k n)
def VP.str{l:List UInt8}(s:ByteArray)(h:s.data.toList=l):VP Γ sh w (.s (.str l)) (.string s):=by subst h;exact .s _ _ (.str s)
end inv
def D6{c:Bool}{k:Option R}{r:R}(h:need c k=some r):c=true/\k=some r:=by cases c<;>simp_all [need]
def XU(a b:List UInt8):bytesLess a b=ag0 a b:=by
 induction a generalizing b with
 | nil=>cases b<;>simp[bytesLess,ag0]
 | cons x a c=>
  cases b with
  | nil=>simp[bytesLess,ag0]
  | cons y b=>simp[bytesLess,ag0,c]
section ops
variable {P : Program} {Γ : Ctx} {H : List Blk} {w : World} {R : Type} {r : R}
def QV.val{m:Sem Value}{v:PV}{V:Value}(hn:v.nms=[])(h:VP Γ (A3 H) w v V)(hm:∀w':World,Ext w w'->m.run P w' = .ok V w'):QV P Γ H w m v:=
 ⟨by simp[hn],V,h,hm⟩
def QV0.val{m:Sem Value}{v:PV}{V:Value}(hn:v.nms=[])(h:VP Γ (A3 H) w v V)(hm:∀w':World,m.run P w' = .ok V w'):QV0 P Γ H w m v:=
 ⟨by simp[hn],V,h,hm⟩
def Cn8{op:UnOp}{x:PV}{X:Value}{k:PV->Option R}(h:unK op x k=some r)(a:VP Γ (A3 H) w x X) :
  ∃v,k v=some r/\QV P Γ H w (am1 op X) v:=by
 unfold unK at h;split at h
 ·obtain rfl:=a.inv_bool;exact⟨_,h,.val rfl (.bool _) λw' _=>by simp[am1]⟩
 ·obtain rfl:=a.inv_int;exact⟨_,h,.val rfl (.int _ _) λw' _=>by simp[am1,Op.intArith]⟩
 ·cases h
def C28(a b:Int):(!decide (b<a))=decide (a<=b):=by grind
def A83{op:BinOp}{t:Nat}{d e:Operand}{c:IntKind}{a b:Int}{v:PV}(h:D45 op c a b=some v) :
  QV0 P Γ H w (do eqGuard op t d e (.int c a) (.int c b);binOp op t (.int c a) (.int c b)) v:=by
 cases op<;>simp only[D45,c9,reduceCtorEq] at h<;>subst h <;>
  first
  | exact .val rfl (.int _ _) λw'=>by simp[eqGuard,binOp,Op.intArith,Op.intBits]
  | exact .val rfl (.bool _) λw'=>by simp[eqGuard,binOp,Op.intCmp,Y0,C28]
def A84{op:BinOp}{t:Nat}{d e:Operand}{a b:ByteArray}{v:PV}(h:D46 op a.data.toList b.data.toList=some v)(c:op≠.add) :
  QV0 P Γ H w (do eqGuard op t d e (.string a) (.string b);binOp op t (.string a) (.string b)) v:=by
 cases op<;>simp only[D46,c9,reduceCtorEq,ne_eq,not_true_eq_false] at h c<;>subst h <;>
  exact .val rfl (.bool _) λw'=>by simp[eqGuard,binOp,Op.stringOp,ad9,XU]
def FG{x:PV}{X:Value}{z:Bool}(o:VP Γ (A3 H) w x X)(h:B42 H x=some z) :
  ∃a n c,X = .slice a n c/\a.isNone=z/\(a=none->n=0/\c=0):=by
 unfold B42 at h;split at h
 ·cases o;simp at h;exact⟨none,0,0,rfl,by simp[h],λ_=>⟨rfl,rfl⟩⟩
 ·have A:=o.inv_s;cases A<;>simp at h<;>subst h<;>first|exact⟨_,_,_,rfl,rfl,λh=>⟨rfl,rfl⟩⟩|exact⟨_,_,_,rfl,rfl,λh=>by simp at h⟩
 ·rename_i b;split at h
  ·rename_i v e y f t;have j:A3 H b=some (.arr v e y f.length):=by simp[A3,t,Blk.shp]
   simp only[c9] at h;subst h;cases o with
   | flv _ p k d=>
    rw[j] at d;simp only[c9,Shp.arr.injEq] at d;obtain⟨rfl,_,_,q⟩:=d;exact⟨none,0,0,rfl,by simp[o5.1 q],λ_=>⟨rfl,rfl⟩⟩
   | fl _ g D p k n cap d u B l C A=>
    rw[j] at d;simp only[c9,Shp.arr.injEq] at d;obtain⟨rfl,_,_,rfl⟩:=d;refine⟨_,_,_,rfl,?_,λh=>by simp at h⟩;cases v
    ·rfl
    ·have:=u rfl;cases f<;>simp_all
  ·cases h
 ·rename_i b i n;split at h
  ·rename_i v e y f t;have j:A3 H b=some (.arr v e y f.length):=by simp[A3,t,Blk.shp]
   simp only[c9] at h;subst h;cases o with
   | vwv _ p k _ d=>
    rw[j] at d;simp only[c9,Shp.arr.injEq] at d;obtain⟨rfl,_,_,q⟩:=d;exact⟨none,0,0,rfl,by simp[o5.1 q],λ_=>⟨rfl,rfl⟩⟩
   | vw _ _ _ g a cap D p k m d u B F G l C=>
    rw[j] at d;simp only[c9,Shp.arr.injEq] at d;obtain⟨rfl,_,_,rfl⟩:=d;refine⟨_,_,_,rfl,?_,λh=>by simp at h⟩;cases v
    ·rfl
    ·have:=u rfl;cases f<;>simp_all
  ·cases h
 ·cases h
def L1{C:Cfg}{t e:Nat}(h:C.sh t = .slice e):C.P.underlying t=some (.slice e):=by simp only[Cfg.sh,PW] at h;split at h<;>simp_all
def Je{C:Cfg}{t n e:Nat}(h:C.sh t = .array n e):C.P.underlying t=some (.array n e):=by simp only[Cfg.sh,PW] at h;split at h<;>simp_all
def NZ{C:Cfg}{t e:Nat}(h:C.sh t = .ptr e):C.P.underlying t=some (.pointer e):=by simp only[Cfg.sh,PW] at h;split at h<;>simp_all
def DY{C:Cfg}{t:Nat}{a:List (Nat × Nat)}(h:C.sh t = .struct a):∃F:Array Field,C.P.underlying t=some (.struct F)/\a=F.toList.map λf=>(f.offset,f.type):=by simp only[Cfg.sh,PW] at h;split at h<;>simp_all
def A07{C:Cfg}{t:Nat}(h:C.sh t = .fn):∃a b c,C.P.underlying t=some (.func a b c):=by simp only[Cfg.sh,PW] at h;split at h<;>simp_all
def Dv0{C:Cfg}{t:Nat}(h:C.sh t = .bool):C.P.underlying t=some .bool:=by simp only[Cfg.sh,PW] at h;split at h<;>simp_all
def U5{P:Program}{t:Nat}{X Y:Value}{b:Bool}{w':World}(e:(ai7 t X Y).run P w' = .ok b w')
  (d:∀op a c,(eqGuard op t a c X Y).run P w' = .ok () w') (f:binOp .eql t X Y=(do pure (.bool (<-ai7 t X Y)))) (g:binOp .neq t X Y=(do pure (.bool (!(<-ai7 t X Y))))) :
  (∀a c,(do eqGuard .eql t a c X Y;binOp .eql t X Y).run P w' = .ok (.bool b) w')/\(∀a c,(do eqGuard .neq t a c X Y;binOp .neq t X Y).run P w' = .ok (.bool (!b)) w'):=by
 refine⟨λa c=>?_,λa c=>?_⟩
 ·rw[f];simp[d,e]
 ·rw[g];simp[d,e]
def Uq{P:Program}{t:Nat}{X Y:Value}{b:Bool}{w':World}(h:∀d,(p5 (d+1) t X Y).run P w' = .ok b w'):(ai7 t X Y).run P w' = .ok b w':=h 9999
def VP.inv_nilp{Γ:Ctx}{sh:Nat->Option Shp}{w:World}{V:Value}(h:VP Γ sh w (.s .nilp) V):V = .pointer none:=by have:=h.inv_s;cases this;rfl
def VP.inv_nilf{Γ:Ctx}{sh:Nat->Option Shp}{w:World}{V:Value}(h:VP Γ sh w (.s .nilf) V):V = .nilFunc:=by have:=h.inv_s;cases this;rfl
def VP.inv_sp{Γ:Ctx}{sh:Nat->Option Shp}{w:World}{V:Value}{els i o}(h:VP Γ sh w (.s (.sp els i o)) V):∃a,V = .pointer (some a):=by have:=h.inv_s;cases this;exact⟨_,rfl⟩
def VP.inv_ptr{Γ:Ctx}{sh:Nat->Option Shp}{w:World}{V:Value}{b i o}(h:VP Γ sh w (.ptr b i o) V):∃a,V = .pointer (some a):=by cases h<;>exact⟨_,rfl⟩
def VP.inv_fn{Γ:Ctx}{sh:Nat->Option Shp}{w:World}{V:Value}{f x y}(h:VP Γ sh w (.s (.fn f x y)) V):∃A B,V = .func f A B:=by have:=h.inv_s;cases this;exact⟨_,_,rfl⟩
def VP.inv_fnr{Γ:Ctx}{sh:Nat->Option Shp}{w:World}{V:Value}{f x y}(h:VP Γ sh w (.fnr f x y) V):∃A B,V = .func f A B:=by cases h;exact⟨_,_,rfl⟩
def VP.inv_nsl{Γ:Ctx}{sh:Nat->Option Shp}{w:World}{V:Value}(h:VP Γ sh w .nsl V):V = .slice none 0 0:=by cases h;rfl
def Rv{C:Cfg}{t k e:Nat}(h:C.sh t = .map k e):C.P.underlying t=some (.map k e):=by simp only[Cfg.sh,PW] at h;split at h<;>simp_all
def VP.inv_nilm{Γ:Ctx}{sh:Nat->Option Shp}{w:World}{V:Value}(h:VP Γ sh w (.s .nilm) V):V = .map none:=by have:=h.inv_s;cases this;rfl
def Bd8{b:Nat}{V:Value}{a:Bool}{c:List (List UInt8 × List SV)}(e:H[b]? = some (.ms a c))(f:VP Γ (A3 H) w (.it b) V):∃g,Γ.nm b=some g/\V = .map (some g):=by
 cases f with
 | it _ g h d=>simp[A3,e,Blk.shp] at h
 | mpv _ g h d=>exact⟨g,d,rfl⟩
def Bd7{b:Nat}{V:Value}{a:List (List UInt8 × PV)}(d:H[b]? = some (.mp a))(e:VP Γ (A3 H) w (.it b) V):∃g,Γ.nm b=some g/\V = .map (some g):=by
 cases e with
 | it _ g h c=>simp[A3,d,Blk.shp] at h
 | mpv _ g h c=>exact⟨g,c,rfl⟩
def MF{b:Nat}{V:Value}{r:Bool}(h:Dm4 H b=some r)(e:VP Γ (A3 H) w (.it b) V):∃g,V = .map (some g)/\false=r:=by
 unfold Dm4 at h;split at h
 ·rename_i c d;obtain⟨g,_,rfl⟩:=Bd7 d e;exact⟨g,rfl,by simpa using h⟩
 ·rename_i a c d;obtain⟨g,_,rfl⟩:=Bd8 d e;exact⟨g,rfl,by simpa using h⟩
 ·cases h
def LN{C:Cfg}{t:Nat}{x y:PV}{X Y:Value}{b:Bool}(h:Dj7 H (C.sh t) x y=some b)(i:VP Γ (A3 H) w x X)(j:VP Γ (A3 H) w y Y)(w':World) :
  (∀u v,(do eqGuard .eql t u v X Y;binOp .eql t X Y).run C.P w' = .ok (.bool b) w')/\(∀u v,(do eqGuard .neq t u v X Y;binOp .neq t X Y).run C.P w' = .ok (.bool (!b)) w'):=by
 unfold Dj7 at h;split at h
 ·rename_i e f;obtain rfl:=i.inv_nilp;obtain rfl:=j.inv_nilp;simp only[c9] at h;subst h;exact U5 (Uq λd=>by simp[p5,run_underlying (NZ f)]) (by intros;simp[eqGuard]) (by simp[binOp]) (by simp[binOp])
 ·rename_i e _ _ _ f;obtain rfl:=i.inv_nilp;obtain⟨a,rfl⟩:=j.inv_sp;simp only[c9] at h;subst h;exact U5 (Uq λd=>by simp[p5,run_underlying (NZ f)]) (by intros;simp[eqGuard]) (by simp[binOp]) (by simp[binOp])
 ·rename_i e _ _ _ f;obtain rfl:=j.inv_nilp;obtain⟨a,rfl⟩:=i.inv_sp;simp only[c9] at h;subst h;exact U5 (Uq λd=>by simp[p5,run_underlying (NZ f)]) (by intros;simp[eqGuard]) (by simp[binOp]) (by simp[binOp])
 ·rename_i e _ _ _ f;obtain rfl:=i.inv_nilp;obtain⟨a,rfl⟩:=j.inv_ptr;simp only[c9] at h;subst h;exact U5 (Uq λd=>by simp[p5,run_underlying (NZ f)]) (by intros;simp[eqGuard]) (by simp[binOp]) (by simp[binOp])
 ·rename_i e _ _ _ f;obtain rfl:=j.inv_nilp;obtain⟨a,rfl⟩:=i.inv_ptr;simp only[c9] at h;subst h;exact U5 (Uq λd=>by simp[p5,run_underlying (NZ f)]) (by intros;simp[eqGuard]) (by simp[binOp]) (by simp[binOp])
 ·rename_i f;obtain⟨l,m,o,k⟩:=A07 f;obtain rfl:=i.inv_nilf;obtain rfl:=j.inv_nilf;simp only[c9] at h;subst h;exact U5 (Uq λd=>by simp[p5,run_underlying k]) (by intros;simp[eqGuard]) (by simp[binOp]) (by simp[binOp])
 ·rename_i f;obtain⟨l,m,o,k⟩:=A07 f;obtain rfl:=i.inv_nilf;obtain⟨A,B,rfl⟩:=j.inv_fn;simp only[c9] at h;subst h;exact U5 (Uq λd=>by simp[p5,run_underlying k]) (by intros;simp[eqGuard]) (by simp[binOp]) (by simp[binOp])
 ·rename_i f;obtain⟨l,m,o,k⟩:=A07 f;obtain rfl:=j.inv_nilf;obtain⟨A,B,rfl⟩:=i.inv_fn;simp only[c9] at h;subst h;exact U5 (Uq λd=>by simp[p5,run_underlying k]) (by intros;simp[eqGuard]) (by simp[binOp]) (by simp[binOp])
 ·rename_i f;obtain⟨l,m,o,k⟩:=A07 f;obtain rfl:=i.inv_nilf;obtain⟨A,B,rfl⟩:=j.inv_fnr;simp only[c9] at h;subst h;exact U5 (Uq λd=>by simp[p5,run_underlying k]) (by intros;simp[eqGuard]) (by simp[binOp]) (by simp[binOp])
 ·rename_i f;obtain⟨l,m,o,k⟩:=A07 f;obtain rfl:=j.inv_nilf;obtain⟨A,B,rfl⟩:=i.inv_fnr;simp only[c9] at h;subst h;exact U5 (Uq λd=>by simp[p5,run_underlying k]) (by intros;simp[eqGuard]) (by simp[binOp]) (by simp[binOp])
 ·rename_i p q f;obtain rfl:=i.inv_bool;obtain rfl:=j.inv_bool;simp only[c9] at h;subst h;exact U5 (Uq λd=>by simp[p5,run_underlying (Dv0 f)]) (by intros;simp[eqGuard]) (by simp[binOp]) (by simp[binOp])
 ·rename_i f;obtain rfl:=i.inv_nilm;obtain rfl:=j.inv_nilm;simp only[c9] at h;subst h;exact U5 (Uq λd=>by simp[p5,run_underlying (Rv f)]) (by intros;simp[eqGuard]) (by simp[binOp]) (by simp[binOp])
 ·rename_i f;obtain⟨g,rfl,rfl⟩:=MF h j;obtain rfl:=i.inv_nilm;exact U5 (Uq λd=>by simp[p5,run_underlying (Rv f)]) (by intros;simp[eqGuard]) (by simp[binOp]) (by simp[binOp])
 ·rename_i f;obtain⟨g,rfl,rfl⟩:=MF h i;obtain rfl:=j.inv_nilm;exact U5 (Uq λd=>by simp[p5,run_underlying (Rv f)]) (by intros;simp[eqGuard]) (by simp[binOp]) (by simp[binOp])
 ·rename_i e f;obtain rfl:=j.inv_nsl;obtain⟨a,n,c,rfl,rfl,z⟩:=FG i h;refine U5 ?_ (by intros;simp[eqGuard]) (by simp[binOp]) (by simp[binOp]);exact Uq λd=>by cases a<;>simp[p5,run_underlying (L1 f)]
 ·rename_i e f _;obtain rfl:=i.inv_nsl;obtain⟨a,n,c,rfl,rfl,z⟩:=FG j h;refine U5 ?_ (by intros;simp[eqGuard]) (by simp[binOp]) (by simp[binOp]);exact Uq λd=>by cases a<;>simp[p5,run_underlying (L1 f)]
 ·cases h
end ops
def Ii:∀{x y:List PV} {b:Bool},Q5 x y=some b->x.length=y.length
 | [],[],_,_=>rfl
 | a::x,c::y,b,h=>by
  simp only[Q5] at h;split at h
  ·rename_i p q e d;simp[Ii d]
  ·cases h
 | [],_::_,_,h=>by simp[Q5] at h
 | _::_,[],_,h=>by simp[Q5] at h
def Ih:∀{x e y f:List PV} {b:Bool},x.length=y.length->Q5 (x++e) (y++f)=some b->∃p q,Q5 x y=some p/\Q5 e f=some q/\b=(p&&q)
 | [],e,[],f,b,_,h=>⟨true,b,rfl,h,by simp⟩
 | a::x,e,c::y,f,b,d,h=>by
  simp only[List.cons_append,Q5] at h;split at h
  ·rename_i p q j k;obtain⟨l,m,g,i,rfl⟩:=Ih (by simpa using d) k;refine⟨p&&l,m,by simp[Q5,j,g],i,?_⟩;grind
  ·cases h
 | [],_,_::_,_,_,d,_=>by simp at d
 | _::_,_,[],_,_,d,_=>by simp at d
def KS(a:List CK)(x:List PV):Prop:=x.length=a.length/\∀j (h:j<a.length) (b:j<x.length),(x[j]).has (a[j])=true
def KS.append_inv{a b:List CK}{x:List PV}(h:KS (a++b) x):∃y z,x=y++z/\KS a y/\KS b z:=by obtain⟨hl,hk⟩:=h;refine⟨x.take a.length,x.drop a.length,(List.take_append_drop _ _).symm,⟨by simp at hl ⊢;omega,λj h h'=>?_⟩,⟨by simp at hl ⊢;omega,λj h h'=>?_⟩⟩;all_goals grind
def At(a:Ctx)(sh:Nat->Option Shp)(w:World)(A:Array Value)(off:Nat)(x:List PV):Prop:=∀j (h:j<x.length),∃U,A[off+j]? = some U/\VP a sh w (x[j]) U
def At.append_inv{Γ:Ctx}{sh:Nat->Option Shp}{w:World}{A:Array Value}{off:Nat}{x y:List PV}(h:At Γ sh w A off (x++y)):At Γ sh w A off x/\At Γ sh w A (off+x.length) y:=by
 refine⟨λj hj=>?_,λj hj=>?_⟩
 ·obtain⟨U,e,k⟩:=h j (by simp;omega);grind
 ·obtain⟨U,e,k⟩:=h (x.length+j) (by simp;omega);grind
def Ob:TypeDesc->Bool
 | .struct _=>true
 | .array _ _=>true
 | _=>false
def Ul{P:Program}{t:TypeId}{d:TypeDesc}(h:P.underlying t=some d)(w:World):(isAgg t).run P w = .ok (Ob d) w:=by unfold isAgg;rw[p9,run_underlying h w];cases d<;>simp[Ob]
def Ba{P:Program}{t:TypeId}{d:TypeDesc}{i:TypeInfo}(h:P.underlying t=some d)(a:Ob d=true)(b:P.info? t=some i)(A:Array Value)(off:Nat)(w:World) :
  (part t A off).run P w = .ok (.agg (A.extract off (off+i.size))) w:=by
 simp[part,Ul h,a,sizeOf,typeInfo,b]
def Hi{P:Program}{t:TypeId}{d:TypeDesc}(h:P.underlying t=some d)(b:Ob d=false){A:Array Value}{off:Nat}{U:Value}(a:A[off]? = some U)(w:World) :
  (part t A off).run P w = .ok U w:=by
 simp[part,Ul h,b,a]
def At.extract{Γ:Ctx}{sh:Nat->Option Shp}{w:World}{A:Array Value}{off n:Nat}{x:List PV}(h:At Γ sh w A off x)(hn:x.length<=n):At Γ sh w (A.extract off (off+n)) 0 x:=by intro j hj;obtain⟨U,e,k⟩:=h j hj;grind
def D37(P:Program)(d:Nat)(t:TypeId)(f:List CK):Prop:=
 ∀(g:Ctx) (sh:Nat->Option Shp) (w:World) (A B:Array Value) (off e:Nat) (x y:List PV) (b:Bool),KS f x->KS f y->At g sh w A off x->At g sh w B e y->Q5 x y=some b->
  ∀(D:Nat),d<=D->∀w',∃a c,(part t A off).run P w' = .ok a w'/\(part t B e).run P w' = .ok c w'/\(p5 D t a c).run P w' = .ok b w'
def Ba0{P:Program}{t:TypeId}{h:TypeDesc}{ck:CK}(m:P.underlying t=some h)(l:Ob h=false)
  (v:∀(p q:PV) (b:Bool),p.has ck=true->q.has ck=true->LM p q=some b->∀(c:Ctx) (sh:Nat->Option Shp) (w:World) U V,VP c sh w p U->VP c sh w q V->∀D w',(p5 (D+1) t U V).run P w' = .ok b w') :
  D37 P 1 t [ck]:=by
 intro c sh w A B off n x y b d e hA u a D I w';obtain⟨f,z⟩:=d;obtain⟨g,C⟩:=e
 match x,y,f,g with
 | [p],[q],_,_=>
  obtain⟨U,i,F⟩:=hA 0 (by simp);obtain⟨V,j,G⟩:=u 0 (by simp);simp only[ac8] at i j;rcases D with _|D;omega
  simp only[Q5] at a;split at a
  ·rename_i H J r k;simp only[c9] at k a;subst k a;refine⟨U,V,Hi m l i w',Hi m l j w',?_⟩;rw[Bool.and_true];exact v p q H (by simpa using z 0 (by simp) (by simp)) (by simpa using C 0 (by simp) (by simp)) r c sh w U V F G D w'
  ·cases a
def SG{c:CK}{p:PV}(h:p.has c=true)(a:c = .bool\/(∃k,c = .int k)\/c = .str):∃x,p = .s x/\x.has c=true:=by rcases a with rfl|⟨k,rfl⟩|rfl<;>cases p<;>simp_all [PV.has]
def Yc{P:Program}{d:Nat}{f:Nat->Option (List CK)}(I:∀t e,f t=some e->D37 P d t e){Γ:Ctx}{sh:Nat->Option Shp}{w:World}{A B:Array Value}{D:Nat}(H:d<=D)(w':World) :
  ∀(m:List Field) (off:Nat) (e:List CK) (x y:List PV) (b:Bool),ML f m off=some e->KS e x->KS e y->At Γ sh w A off x->At Γ sh w B off y->Q5 x y=some b->
   (aj4 D A B m).run P w' = .ok b w'
 | [],off,e,x,y,b,h,z,F,_,_,n=>by
  simp only[ML,c9] at h;subst h;obtain rfl:=y8 z.1;obtain rfl:=y8 F.1;simp only[Q5,c9] at n;subst n;simp[aj4]
 | g::m,off,e,x,y,b,h,z,F,hA,L,n=>by
  simp only[ML] at h;split at h
  ·rename_i o;simp only[j0,beq_iff_eq,bne_iff_ne,ne_eq] at o;split at h
   ·rename_i a M;split at h
    ·rename_i c r;simp only[c9] at h;subst h;obtain⟨S,T,rfl,i,C⟩:=z.append_inv;obtain⟨U,V,rfl,j,G⟩:=F.append_inv;obtain⟨p,q,J,K,rfl⟩:=Ih (by rw[i.1,j.1]) n;have k:=hA.append_inv;have l:=L.append_inv;obtain⟨u,v,O,Q,R⟩:=I g.type a M Γ sh w A B off off S U p i j k.1 l.1 J D H w';have N:=Yc I H w' m (off+a.length) c T V q r C G (by rw[<-i.1];exact k.2) (by rw[<-j.1];exact l.2) K;simp only[aj4];rw[ac o.2,o.1];simp only[p9,O,Q,R,o8,Sem.run_ite,v7,N];grind
    grind
   ·cases h
  ·cases h
def Ad8{P:Program}{D:Nat}{t e:TypeId}{n:Nat}{i:TypeInfo}(k:P.underlying t=some (.array n e))(f:P.info? e=some i){A B:Array Value}(w':World)(q:Nat->Bool)
  (h:∀j,j<n->∃a c,(part e A (j*i.size)).run P w' = .ok a w'/\(part e B (j*i.size)).run P w' = .ok c w'/\(p5 D e a c).run P w' = .ok (q j) w') :
  (p5 (D+1) t (.agg A) (.agg B)).run P w' = .ok ((af8 n).all q) w':=by
 simp only[p5,p9,run_underlying k,o8,sizeOf,typeInfo,run_program,f,v7];rw[ah0];simp only[al3,Nat.sub_zero,Nat.add_sub_cancel,Nat.div_one];have key:∀(m s:Nat),s+m=n->
   (Sem.run P (forIn (m:=Sem) (aj3 s m 1) ((none,()):Option Bool × Unit) λb __s=>do
      let __do_lift <-part e A (b*i.size);let __do_lift_1 <-part e B (b*i.size);let __do_lift <-p5 D e __do_lift __do_lift_1
      if (!__do_lift)=true then pure (ForInStep.done (some false,())) else pure (ForInStep.yield (none,()))) w') =
    .ok (if ((aj3 s m).all q) then (none,()) else (some false,())) w':=by
  intro m
  induction m with
  | zero=>intro s g;simp
  | succ m l=>
   intro s g;obtain⟨a,c,o,p,r⟩:=h s (by omega);simp only[List.range'_succ,List.forIn_cons,p9,o,p,r,o8,Sem.run_ite,v7];cases d:q s
   ·simp[d]
   ·simp only[ak0,y5,if_false,o8];rw[l (s+1) (by omega)];simp only[ah9,d,ak1]
 have:=key n 0 (by omega);rw[List.range_eq_range'];rw[this];cases (aj3 0 n).all q<;>simp
def Nw{b:Type}(n:Nat)(a:List b):(o9 (n+1) a).flatten=a++(o9 n a).flatten:=by grind
def Rd:∀(n:Nat) (a:List CK) (x y:List PV) (b:Bool),KS (o9 n a).flatten x->KS (o9 n a).flatten y->Q5 x y=some b->
  ∃q:Nat->Bool,b=(af8 n).all q/\∀j,j<n->∃u v,KS a u/\KS a v/\Q5 u v=some (q j)/\
   (∃p r,x=p++(u++r)/\p.length=j*a.length)/\(∃p r,y=p++(v++r)/\p.length=j*a.length)
 | 0,a,x,y,b,e,f,g=>by
  simp only[List.replicate_zero,List.flatten_nil] at e f;obtain rfl:=y8 e.1;obtain rfl:=y8 f.1;simp only[Q5,c9] at g;simp_all
 | n+1,a,x,y,b,e,f,g=>by
  rw[Nw] at e f;obtain⟨k,l,rfl,c,h⟩:=e.append_inv;obtain⟨m,o,rfl,d,i⟩:=f.append_inv;obtain⟨p,q,t,w,rfl⟩:=Ih (by rw[c.1,d.1]) g;obtain⟨K,rfl,D⟩:=Rd n a l o q h i w;refine⟨λj=>match j with|0=>p|j+1=>K j,?_,λj N=>?_⟩
  ·rw[List.range_succ_eq_map,ah9,List.all_map];rfl
  ·cases j with
   | zero=>exact⟨k,m,c,d,t,⟨[],l,rfl,by simp⟩,⟨[],o,rfl,by simp⟩⟩
   | succ j=>
    obtain⟨u,v,F,G,H,⟨I,L,z,A⟩,⟨J,M,B,C⟩⟩:=D j (by omega);exact⟨u,v,F,G,H,⟨k++I,L,by rw[z,ac2],by rw[j9,A,c.1,p6];omega⟩,⟨m++J,M,by rw[B,ac2],by rw[j9,C,d.1,p6];omega⟩⟩
def At.mid{Γ:Ctx}{sh:Nat->Option Shp}{w:World}{A:Array Value}{off:Nat}{p u r:List PV}(h:At Γ sh w A off (p++(u++r))):At Γ sh w A (off+p.length) u:=
 (h.append_inv.2).append_inv.1
def LK{P:Program}:∀(d t:Nat) (R:List CK),SP P d t=some R->D37 P d t R
 | 0,t,R,h=>by simp[SP] at h
 | d+1,t,R,h=>by
  have ih:=LK (P:=P) d;simp only[SP] at h;split at h
  ·rename_i g;simp only[c9] at h;subst h;have:=Ba0 (P:=P) (ck:=.bool) g rfl (λp q b O F l Γ sh w U V N hV D w'=>by
    obtain⟨x,rfl,I⟩:=SG O (.inl rfl);obtain⟨y,rfl,J⟩:=SG F (.inl rfl);cases x<;>simp[SV.has] at I
    cases y<;>simp[SV.has] at J
    obtain rfl:=N.inv_bool;obtain rfl:=hV.inv_bool;simp only[LM,c9] at l;subst l;exact run_equalIn_bool' w' D t _ _ g)
   exact λΓ sh w A B off c x y b z G C H K D Q=>this Γ sh w A B off c x y b z G C H K D (by omega)
  ·rename_i k g;simp only[c9] at h;subst h;have:=Ba0 (P:=P) (ck:=.int k) g rfl (λp q b O F l Γ sh w U V N hV D w'=>by
    obtain⟨x,rfl,I⟩:=SG O (.inr (.inl ⟨k,rfl⟩));obtain⟨y,rfl,J⟩:=SG F (.inr (.inl ⟨k,rfl⟩));cases x<;>simp[SV.has] at I
    cases y<;>simp[SV.has] at J
    subst I J;obtain rfl:=N.inv_int;obtain rfl:=hV.inv_int;simp only[LM,if_true,c9] at l;subst l;exact run_equalIn_int w' D t _ _ _ _ g)
   exact λΓ sh w A B off c x y b z G C H K D Q=>this Γ sh w A B off c x y b z G C H K D (by omega)
  ·rename_i g;simp only[c9] at h;subst h;have:=Ba0 (P:=P) (ck:=.str) g rfl (λp q b O F l Γ sh w U V N hV D w'=>by
    obtain⟨x,rfl,I⟩:=SG O (.inr (.inr rfl));obtain⟨y,rfl,J⟩:=SG F (.inr (.inr rfl));cases x<;>simp[SV.has] at I
    cases y<;>simp[SV.has] at J
    obtain⟨s1,rfl,rfl⟩:=N.inv_str;obtain⟨s2,rfl,rfl⟩:=hV.inv_str;simp only[LM,c9] at l;subst l;rw[<-ad9,<-ad9];exact run_equalIn_string w' D t _ _ g)
   exact λΓ sh w A B off c x y b z G C H K D Q=>this Γ sh w A B off c x y b z G C H K D (by omega)
  ·rename_i X g;split at h
   ·cases h
   ·rename_i r;split at h
    ·rename_i a1 hl;split at h
     ·rename_i f;simp only[c9] at h;subst h;simp only[beq_iff_eq,s9] at f;obtain⟨i,Z,f⟩:=f;intro Γ sh w A B off c x y b m o hA T l D Q w';rcases D with _|D;omega
      refine⟨_,_,Ba g rfl Z A off w',Ba g rfl Z B c w',?_⟩;have Y:P.fieldsOf t=X:=by simp[Program.fieldsOf,g]
      rw[run_equalIn_struct w' D t _ _ (by rw[Y];exact g) (by simpa using r),Y];exact Yc ih (Γ:=Γ) (sh:=sh) (w:=w) (by omega) w' X.toList 0 _ x y b hl m o (hA.extract (by rw[m.1,f];exact j7 _)) (T.extract (by rw[o.1,f];exact j7 _)) l
     grind
    grind
  ·rename_i n e g;split at h
   ·rename_i a ha;split at h
    ·rename_i f;simp only[c9] at h;subst h;simp only[j0,beq_iff_eq,s9] at f;obtain⟨⟨ie,W,a0⟩,it,hit,r⟩:=f;intro Γ sh w A B off c x y b m o hA T l D Q w';rcases D with _|D;omega
     refine⟨_,_,Ba g rfl hit A off w',Ba g rfl hit B c w',?_⟩;obtain⟨q,rfl,F⟩:=Rd n a x y b m o l;have L:At Γ sh w (A.extract off (off+it.size)) 0 x:=hA.extract (by rw[m.1,r];exact j7 _);have M:At Γ sh w (B.extract c (c+it.size)) 0 y:=T.extract (by rw[o.1,r];exact j7 _);refine Ad8 g W w' q λj hj=>?_
     obtain⟨u,v,k1,k2,k3,⟨p1,r1,z,G⟩,⟨p2,r2,C,H⟩⟩:=F j hj;have m1:At Γ sh w (A.extract off (off+it.size)) (j*ie.size) u:=by
      have:=(by rw[z] at L;exact L.mid:At Γ sh w (A.extract off (off+it.size)) (0+p1.length) u)
      grind
     have m2:At Γ sh w (B.extract c (c+it.size)) (j*ie.size) v:=by
      have:=(by rw[C] at M;exact M.mid:At Γ sh w (B.extract c (c+it.size)) (0+p2.length) v)
      grind
     exact ih e a ha Γ sh w _ _ _ _ u v (q j) k1 k2 m1 m2 k3 D (by omega) w'
    grind
   ·cases h
  ·cases h
def C32{t:TI}{x:List PV}(h:okP t x 0=true)(c:x.length=t.ks.length):KS t.ks x:=by refine⟨c,λj a b=>?_⟩;simp only[okP,j0,o0] at h;have:=h.2 (t.ks[j],j) (by rw[aa0];simp[a]);grind
section
variable {L : Ctx} {H : List Blk} {w : World} {R : Type} {r : R}
def Rx:∀{a:List CK} {l:List Value},Ea a l=true->a.length=l.length
 | [],[],_=>rfl
 | c::r,v::q,h=>by
  simp only[Ea,j0] at h;simp[Rx h.2]
 | [],_::_,h=>by simp[Ea] at h
 | _::_,[],h=>by simp[Ea] at h
def Ke{C:Cfg}{t:Nat}(h:(C.ti t).ok=true):∃i d z,C.P.info? t=some i/\C.P.underlying t=some d/\i.zero=some z/\i.size=z.cells.size/\i.bytes<=512/\0<i.size/\
  Ea (C.ti t).ks z.cells.toList=true/\(C.ti t).agg=Ob d/\i.size=(C.ti t).ks.length:=by
 simp only[Cfg.ti,Dv6] at h ⊢;split at h
 ·rename_i i d f b a c;split at h
  ·rename_i z e;simp only[j0,beq_iff_eq,af] at h;refine⟨i,d,z,b,a,e,h.1.1.1,h.1.1.2,h.1.2,h.2,?_,?_⟩
   ·cases d<;>rfl
   ·rw[h.1.1.1,Rx h.2];simp
  ·cases h
 ·cases h
def EU{C:Cfg}{t:Nat}{x y:List PV}{X Y:Value}{b:Bool}(M:(Dj6 C.P t&&(C.ti t).agg&&okP (C.ti t) x 0&&okP (C.ti t) y 0&&decide (x.length=(C.ti t).ks.length))=true)(F:Q5 x y=some b)
  (W:VP L (A3 H) w (.agg x) X) (Z:VP L (A3 H) w (.agg y) Y) (w':World) :
  (∀f g,(do eqGuard .eql t f g X Y;binOp .eql t X Y).run C.P w' = .ok (.bool b) w')/\(∀f g,(do eqGuard .neq t f g X Y;binOp .neq t X Y).run C.P w' = .ok (.bool (!b)) w'):=by
 simp only[j0,af,Dj6,beq_iff_eq,ae3] at M;obtain⟨⟨⟨⟨⟨O,Q⟩,h6⟩,n⟩,S⟩,K⟩:=M;have o:y.length=(C.ti t).ks.length:=by rw[<-Ii F];exact K
 obtain⟨A,rfl,p,q⟩:=W.inv_agg;obtain⟨B,rfl,u,v⟩:=Z.inv_agg;have D:=LK (P:=C.P) 20 t _ O L (A3 H) w A B 0 0 x y b (C32 n K) (C32 S o) (λj h=>by simpa using q j h) (λj h=>by simpa using v j h) F 10000 (by omega) w';obtain⟨a,c,k,l,r3⟩:=D;have e:∃i m,C.P.info? t=some i/\C.P.underlying t=some m/\Ob m=true/\i.size=x.length:=by
  have G:(C.ti t).ok=true:=by simp only[okP,j0] at n;exact n.1
  obtain⟨i,d,z,I,J,e3,e4,e5,e6,e7,e8,e9⟩:=Ke G;grind
 obtain⟨i,m,U,V,T,N⟩:=e;rw[Ba V T U] at k l;simp only[Result.ok.injEq,and_true] at k l;have I:A.extract 0 (0+i.size)=A:=by rw[N,w9,<-p];simp
 have J:B.extract 0 (0+i.size)=B:=by rw[N,w9,Ii F,<-u];simp
 rw[I] at k;rw[J] at l;subst k l;have r4:(ai7 t (.agg A) (.agg B)).run C.P w' = .ok b w':=r3;exact U5 r4 (λop f g=>run_eqGuard_agg w' op t f g A B Q) (by simp[binOp]) (by simp[binOp])
def KN{C:Cfg}{op:BinOp}{t:Nat}{ox oy:Operand}{x y:PV}{X Y:Value}{k:PV->Option R}(h:B94 C op t x y H k=some r)(d:VP L (A3 H) w x X)(e:VP L (A3 H) w y Y) :
  ∃v,k v=some r/\QV0 C.P L H w (do eqGuard op t ox oy X Y;binOp op t X Y) v:=by
 unfold B94 at h;split at h
 ·obtain rfl:=d.inv_int;obtain rfl:=e.inv_int;obtain⟨c,f⟩:=D6 h;simp only[af] at c;refine⟨_,f,.val rfl (.int _ _) λw'=>?_⟩;simp[eqGuard,binOp,Op.shift,Int.not_lt.2 c]
 ·obtain rfl:=d.inv_int;obtain rfl:=e.inv_int;obtain⟨c,f⟩:=D6 h;simp only[af] at c;refine⟨_,f,.val rfl (.int _ _) λw'=>?_⟩;simp[eqGuard,binOp,Op.shift,Int.not_lt.2 c]
 ·obtain rfl:=d.inv_int;obtain rfl:=e.inv_int;obtain⟨c,f⟩:=D6 h;simp only[j0,af,bne_iff_ne,ne_eq] at c;obtain⟨rfl,c⟩:=c;refine⟨_,f,.val rfl (.int _ _) λw'=>?_⟩;simp[eqGuard,binOp,Op.intDiv,c]
 ·obtain rfl:=d.inv_int;obtain rfl:=e.inv_int;obtain⟨c,f⟩:=D6 h;simp only[j0,af,bne_iff_ne,ne_eq] at c;obtain⟨rfl,c⟩:=c;refine⟨_,f,.val rfl (.int _ _) λw'=>?_⟩;simp[eqGuard,binOp,Op.intDiv,c]
 ·obtain rfl:=d.inv_int;obtain rfl:=e.inv_int;split at h
  ·rename_i o;subst o;split at h
   ·rename_i v l;exact⟨v,h,A83 l⟩
   ·cases h
  ·cases h
 ·obtain⟨a,rfl,rfl⟩:=d.inv_str;obtain⟨b,rfl,rfl⟩:=e.inv_str;obtain⟨c,f⟩:=D6 h;simp only[af] at c;refine⟨_,f,.val rfl (.str (a++b) (by simp)) λw'=>?_⟩;have m:a.size=a.data.toList.length:=by rw[p4];rfl
  have n:b.size=b.data.toList.length:=by rw[p4];rfl
  have:¬(((a.size+b.size:Nat):Int) > IntKind.i64.max):=by rw[m,n];simp[IntKind.max,IntKind.signed,IntKind.bits];omega
  simp only[eqGuard,binOp,Op.stringOp,p9];rw[ae this];simp
 ·rename_i j;obtain⟨a,rfl,rfl⟩:=d.inv_str;obtain⟨b,rfl,rfl⟩:=e.inv_str;split at h
  ·rename_i v l;exact⟨v,h,A84 l (by rintro rfl;exact j rfl)⟩
  ·cases h
 ·split at h
  ·rename_i i;split at h
   ·rename_i b g;exact⟨_,h,.val rfl (.bool _) λw'=>(EU i g d e w').1 ox oy⟩
   ·cases h
  ·cases h
 ·split at h
  ·rename_i i;split at h
   ·rename_i b g;exact⟨_,h,.val rfl (.bool _) λw'=>(EU i g d e w').2 ox oy⟩
   ·cases h
  ·cases h
 ·split at h
  ·rename_i b g;exact⟨_,h,.val rfl (.bool _) λw'=>(LN g d e w').1 ox oy⟩
  ·cases h
 ·split at h
  ·rename_i b g;exact⟨_,h,.val rfl (.bool _) λw'=>(LN g d e w').2 ox oy⟩
  ·cases h
 ·cases h
end
def VS.as{St:Nat->Prop}{Γ:Ctx}{sh:Nat->Option Shp}{w:World}(hSt:Γ.St=St){c:CK}{x:SV}{V:Value}(hx:VS St w x V)(h:x.has c=true):VP Γ sh w (x.as c) V:=by
 subst hSt;cases c with
 | bool=>cases x<;>simp[SV.has] at h;exact .s _ _ hx
 | int k=>cases x<;>simp[SV.has] at h;subst h;exact .s _ _ hx
 | str=>cases x<;>simp[SV.has] at h;exact .s _ _ hx
 | ptr=>exact .s _ _ hx
 | map=>exact .s _ _ hx
 | fn=>exact .s _ _ hx
 | sl k=>
  cases x<;>simp[SV.has] at h
  rename_i z t k' els;show VP Γ sh w (.s (.sl z t k els)) V;rcases h with rfl|rfl
  ·exact .s _ _ hx
  ·cases hx;exact .s _ _ (.nil t k)
def VP.as{Γ:Ctx}{sh:Nat->Option Shp}{w:World}{c:CK}{x:PV}{V:Value}(hx:VP Γ sh w x V)(h:x.has c=true):VP Γ sh w (x.as c) V:=by
 cases x with
 | s x=>
  have h':x.has c=true:=by cases c<;>simpa[PV.has] using h
  have:=VS.as (Γ:=Γ) (sh:=sh) rfl hx.inv_s h';cases c<;>simpa[PV.as,SV.as,PV.toS] using this
 | _=>cases c<;>simp_all [PV.has,PV.as]
def PV.as_nms{c:CK}{x:PV}:∀b∈(x.as c).nms,b∈x.nms:=by
 intro b;cases x with
 | s x=>cases c<;>simp[PV.as,SV.as,PV.nms]
 | _=>cases c<;>simp[PV.as,PV.nms]
def Ca0{w w':World}(h:w'.heap=w.heap)(a:Addr):w'.cell? a=w.cell? a:=by simp[ad7,h]
def Al{a:Type}{l:List a}{i:Nat}{d:a}(h:i<l.length):l.getD i d=l[i]:=by simp[ai9,j4 h]
section
variable {Γ : Ctx} {H : List Blk} {w : World} {R : Type} {r : R}
def Fh(Γ:Ctx)(sh:Nat->Option Shp)(w:World)(g o:Nat)(x:List PV):Prop:=∀j (h:j<x.length),∃U,w.cell? ⟨g,o+j,none⟩=some U/\VP Γ sh w (x[j]) U
def O8(g o j:Nat):(⟨g,o,none⟩:Addr).add j=⟨g,o+j,none⟩:=by unfold Addr.add;split<;>simp_all
def PA{C:Cfg}{tid g o:Nat}{x:List PV}(y:(C.ti tid).ok=true)(F:x.length=(C.ti tid).ks.length)(u:Fh Γ (A3 H) w g o x)
  (G:∀c∈D0 x,c<H.length):QV C.P Γ H w (loadVar tid ⟨g,o,none⟩) (if (C.ti tid).agg then .agg x else x.getD 0 .bad):=by
 obtain⟨i,d,z,O,D,T,S,N,I,Q,h,t⟩:=Ke y;rw[<-t] at F;let f:Nat->Value:=λj=>(w.cell? ⟨g,o+j,none⟩).getD undef
 have l:∀j,j<x.length->w.cell? ⟨g,o+j,none⟩=some (f j):=λj p=>by obtain⟨U,e,_⟩:=u j p;simp[f,e]
 have m:∀j (p:j<x.length),VP Γ (A3 H) w (x[j]) (f j):=λj p=>by obtain⟨U,e,k⟩:=u j p;simpa[f,e] using k
 by_cases n:Ob d=true
 ·rw[h,ac n];refine⟨by simpa[PV.nms] using G,.agg ((af8 i.size).map f).toArray,.agg x _ f (by simp[F]) (λj p=>by simp[List.getElem?_range (by omega:j<i.size)]) m,λw' A=>?_⟩;have q:=run_loadCells_list (P:=C.P) w' ⟨g,o,none⟩ ((af8 i.size).map f) (λj v J=>by
   rw[O8];refine LC A ?_;simp only[w6,s9] at J;obtain⟨a,K,L⟩:=J;have:=j5.1 K;obtain⟨M,B⟩:=this;simp at M B;subst B L;exact l j (by omega))
  simp only[o6,List.length_range] at q;simp[loadVar,Ul D,n,sizeOf,typeInfo,O,q]
 ·simp only[ai8] at n;rw[h,n];have b:0<x.length:=by omega
  have e0:x.getD 0 .bad=x[0]:=by simp[ai9,j4 b]
  simp only[y5,if_false];rw[e0];refine⟨λc u=>G c (C7.2 ⟨0,b,u⟩),f 0,m 0 b,λw' A=>?_⟩;have:=l 0 b;simp only[ac8] at this;simp[loadVar,Ul D,n,LC A this]
def Bd(t:TI)(cells:List PV)(off:Nat):List PV:=t.ks.zipIdx.map λ(c,j)=>(cells.getD (off+j) .bad).as c
def S6(t:TI)(cells:List PV)(off:Nat):(Bd t cells off).length=t.ks.length:=by simp[Bd]
def ZY{t:TI}{cells:List PV}{off:Nat}(h:okP t cells off=true)(j:Nat)(a:j<t.ks.length):(cells.getD (off+j) .bad).has (t.ks[j])=true:=by simp only[okP,j0,o0] at h;exact h.2 (t.ks[j],j) (by rw[aa0];simp[a])
def MO{t:TI}{cells:List PV}{off:Nat}:Pz t cells off=(if t.agg then .agg (Bd t cells off) else if t.ks.length=1 then (Bd t cells off).getD 0 .bad else .bad):=by
 unfold Pz Bd;split
 ·rfl
 ·split
  ·grind
  ·rename_i a;split
   ·rename_i b
    match d:t.ks,b with
    | [c],_=>exact absurd d (a c)
   ·rfl
def Be4{t:TI}{cells:List PV}{off:Nat}(h:okP t cells off=true):∀j,j<t.ks.length->off+j<cells.length:=by intro j a;simp only[okP,j0,o0] at h;have:=h.2 (t.ks[j],j) (by rw[aa0];simp[a]);apply aa6;intro b;rw[aa3,ag4 (by omega)] at this;generalize t.ks[j]=c at this;cases c<;>simp[PV.has] at this
def Yr{C:Cfg}{tid g o off:Nat}{cells:List PV}(h:okP (C.ti tid) cells off=true)(u:Fh Γ (A3 H) w g o cells)(v:∀c∈D0 cells,c<H.length) :
  QV C.P Γ H w (loadVar tid ⟨g,o+off,none⟩) (Pz (C.ti tid) cells off):=by
 have l:(C.ti tid).ok=true:=by simp only[okP,j0] at h;exact h.1
 have f:=Be4 h;have q:∀j (a:j<(Bd (C.ti tid) cells off).length),∃(d:off+j<cells.length) (k:j<(C.ti tid).ks.length),(Bd (C.ti tid) cells off)[j]=(cells[off+j]).as ((C.ti tid).ks[j]):=by
  intro j a;have b:j<(C.ti tid).ks.length:=by rw[S6] at a;exact a
  exact⟨f j b,b,by simp[Bd,j4 (f j b)]⟩
 have key:=PA (Γ:=Γ) (H:=H) (w:=w) (C:=C) (tid:=tid) (g:=g) (o:=o+off) (x:=Bd (C.ti tid) cells off) l (S6 _ _ _)
  (λj a=>by
   obtain⟨d,k,e⟩:=q j a;obtain⟨U,t,z⟩:=u (off+j) d;have:=ZY h j k;rw[Al d] at this;exact⟨U,by rw[<-t];congr 2;omega,by rw[e];exact z.as this⟩)
  (λc i=>by
   obtain⟨j,a,p⟩:=C7.1 i;obtain⟨d,k,e⟩:=q j a;rw[e] at p;exact v c (C7.2 ⟨off+j,d,PV.as_nms c p⟩))
 rw[MO];by_cases n:(C.ti tid).agg=true
 ·simpa[n] using key
 ·simp only[n] at key ⊢;by_cases m:(C.ti tid).ks.length=1
  ·rw[ac m];simpa using key
  ·rw[ae m];refine⟨by simp[PV.nms],?_⟩;obtain⟨_,V,_,y⟩:=key;exact⟨V,.bad V,y⟩
def HR.box{C:Cfg}(hH:HR Γ H w){b:Nat}{cells:List PV}(hb:H[b]? = some (.box cells)):∃g,Γ.nm b=some g/\Fh Γ (A3 H) w g 0 cells/\∀c∈D0 cells,c<H.length:=by obtain⟨hlt,hbe⟩:=j5.1 hb;have:=hH.blk b hlt;rw[hbe] at this;obtain⟨g,cur,e,h1,h2,h3,h4⟩:=this;refine⟨g,h1,λj hj=>?_,λc hc=>hH.nms b hlt c (by rw[hbe];exact hc)⟩;obtain⟨V,e1,e2⟩:=h4 j hj;exact⟨V,by rw[cell_of_row w g _ cur e (0,0) h2,w9];exact e1,e2⟩
def MW(l:List SV):D0 (l.map PV.s)=[]:=by induction l with
 | nil=>rfl
 | cons a l b=>simp[D0,PV.nms,b]
def HR.arr{C:Cfg}(hH:HR Γ H w){b:Nat}{v:Bool}{e sz:Nat}{els:List (List SV)}(hb:H[b]? = some (.arr v e sz els))(hne:¬(v=true/\els=[])) :
  ∃g cur,Γ.nm b=some g/\w.heap[g]? = some (.cells cur e (0,0))/\els.length*sz<=cur.size/\(∀i (h:i<els.length),(els[i]).length=sz)/\∀i (h:i<els.length),Fh Γ (A3 H) w g (i*sz) ((els[i]).map .s):=by
 obtain⟨hlt,hbe⟩:=j5.1 hb;have:=hH.blk b hlt;rw[hbe] at this;rcases this with h|⟨_,g,cur,h1,h2,h3,h4,h5⟩
 ·exact absurd h hne
 ·refine⟨g,cur,h1,h2,h3,h4,λi hi j hj=>?_⟩;simp at hj;obtain⟨V,e1,e2⟩:=h5 i hi j hj;exact⟨V,by rw[cell_of_row w g _ cur e (0,0) h2];exact e1,by simpa using .s _ _ e2⟩
def Fh.flatten{sh:Nat->Option Shp}{g sz:Nat}:∀(els:List (List SV)) (o:Nat),(∀i (h:i<els.length),(els[i]).length=sz)->(∀i (h:i<els.length),Fh Γ sh w g (o+i*sz) ((els[i]).map .s))->
  Fh Γ sh w g o (els.flatten.map .s)
 | [],o,_,_=>λj hj=>by simp at hj
 | el::els,o,hl,hc=>by
  have ih:=Fh.flatten (sh:=sh) (g:=g) (sz:=sz) els (o+sz) (λi h=>hl (i+1) (by simpa using h)) (λi h=>by
   have:=hc (i+1) (by simpa using h);simp only[List.getElem_cons_succ] at this;rw[show o+(i+1)*sz=o+sz+i*sz by rw[p6];omega] at this;exact this)
  have h0:=hc 0 (by simp);simp only[al2,ac8,s8] at h0;have hsz:=hl 0 (by simp);simp only[s8] at hsz;intro j hj;rw[o6,ae5,j9] at hj;by_cases hlt:j<el.length
  ·obtain⟨U,e,k⟩:=h0 j (by simpa using hlt);exact⟨U,e,by simpa[w8,hlt] using k⟩
  ·obtain⟨U,e,k⟩:=ih (j-sz) (by rw[o6];omega);refine⟨U,by rw[<-e];congr 2;omega,?_⟩;simp only[ae5,ag3];rw[ae2 (by simp;omega)];simpa[hsz] using k
def VS.sp_cells{sh:Nat->Option Shp}{els:List (List SV)}{i o:Nat}{V:Value}(h:VS Γ.St w (.sp els i o) V)(hi:i<els.length) :
  ∃g off,V = .pointer (some ⟨g,off+o,none⟩)/\Fh Γ sh w g off ((els[i]).map .s):=by
 cases h with
 | sp _ _ _ g off sz Vs hg hl hc hv=>
  exact⟨g,off+i*sz,rfl,λj hj=>by
   simp at hj;exact⟨_,hc i hi j hj,by simpa using .s _ _ (hv i hi j hj)⟩⟩
def Yk{a:Type}{l:List a}{i:Nat}{d:a}(h:i<l.length):l.getD i d=l[i]:=by simp[ai9,j4 h]
def ZZ{t:TI}{cells:List SV}{off:Nat}(h:okS t cells off=true):okP t (cells.map .s) off=true/\As1 t cells off=Pz t (cells.map .s) off:=by
 simp only[okS,j0,af,o0] at h;obtain⟨⟨d,k⟩,f⟩:=h;have a:∀j,j<t.ks.length->(cells.map PV.s).getD (off+j) .bad = .s (cells.getD (off+j) .nilp):=λj b=>by grind
 have g:∀(c:CK) (x:SV),(PV.s x).as c=x.as c:=λc x=>by cases c<;>rfl
 refine⟨?_,?_⟩
 ·simp only[okP,d,ak1,o0];rintro⟨c,j⟩ i;have b:j<t.ks.length:=by grind
  have:=f _ i;dsimp only at this ⊢;rw[a j b];cases c<;>exact this
 ·unfold As1 Pz;have e:(t.ks.zipIdx.map λ(c,j)=>(cells.getD (off+j) .nilp).as c)=t.ks.zipIdx.map λ(c,j)=>((cells.map PV.s).getD (off+j) .bad).as c:=by
   apply ah7;grind
  grind
def FC{C:Cfg}{tid:Nat}{a:PV}{A:Value}{k:PV->Option R}(G:HR Γ H w)(h:MM (C.ti tid) a H k=some r)(B:VP Γ (A3 H) w a A) :
  ∃v,k v=some r/\QV C.P Γ H w (ae0 tid A) v:=by
 unfold MM at h;split at h
 ·rename_i b i off;split at h
  ·rename_i cells l;split at h
   ·rename_i m;subst m;obtain⟨c,f⟩:=D6 h;obtain⟨g,D,q,O⟩:=G.box (C:=C) l;have hA:A = .pointer (some ⟨g,0+off,none⟩):=by
     cases B with
     | ptrA _ _ _ u v e M n j d=>simp[A3,l,Blk.shp] at j
     | ptrB _ _ u j d=>rw[D] at d;cases d;simp
    subst hA;refine⟨_,f,?_⟩;have:=Yr (C:=C) (tid:=tid) c q O;exact⟨this.1,let⟨V,x,y⟩:=this.2;⟨V,x,λw' t=>by simp only[ae0,aa2,p9,v7,o8];exact y w' t⟩⟩
   ·cases h
  ·rename_i v e M p l;split at h
   ·obtain⟨c,f⟩:=D6 h;simp only[j0,af] at c;obtain⟨m,c⟩:=c;obtain⟨c,z⟩:=ZZ c;rw[z] at f;obtain⟨g,F,D,_,_,_,q⟩:=G.arr (C:=C) l (by rintro⟨_,rfl⟩;simp at m);have hA:A = .pointer (some ⟨g,i*M+off,none⟩):=by
     cases B with
     | ptrA _ _ _ u Q N L P j d=>
      rw[D] at d;cases d;simp[A3,l,Blk.shp] at j;grind
     | ptrB _ _ u j d=>simp[A3,l,Blk.shp] at j
    subst hA;rw[Yk m] at c f;refine⟨_,f,?_⟩;have:=Yr (C:=C) (tid:=tid) c (q i m) (by rw[MW];simp);exact⟨this.1,let⟨V,x,y⟩:=this.2;⟨V,x,λw' t=>by simp only[ae0,aa2,p9,v7,o8];exact y w' t⟩⟩
   ·split at h
    ·rename_i I;obtain⟨rfl,rfl⟩:=I;obtain⟨c,f⟩:=D6 h;simp only[j0,af] at c;obtain⟨S,c⟩:=c;obtain⟨c,z⟩:=ZZ c;rw[z] at f;have J:¬(v=true/\p=[]):=by grind
     obtain⟨g,F,D,_,_,K,q⟩:=G.arr (C:=C) l J;have hA:A = .pointer (some ⟨g,0+0,none⟩):=by
      cases B with
      | ptrA _ _ _ u Q N L P j d=>
       grind
      | ptrB _ _ u j d=>simp[A3,l,Blk.shp] at j
     subst hA;refine⟨_,f,?_⟩;have:=Yr (C:=C) (tid:=tid) c (Fh.flatten p 0 K (λi h=>by simpa using q i h)) (by rw[MW];simp);exact⟨this.1,let⟨V,x,y⟩:=this.2;⟨V,x,λw' t=>by simp only[ae0,aa2,p9,v7,o8];exact y w' t⟩⟩
    ·cases h
  ·cases h
 ·rename_i p i off;obtain⟨c,f⟩:=D6 h;simp only[j0,af] at c;obtain⟨m,c⟩:=c;obtain⟨c,z⟩:=ZZ c;rw[z] at f;obtain⟨g,o,rfl,q⟩:=VS.sp_cells (sh:=A3 H) B.inv_s m;rw[Yk m] at c f;refine⟨_,f,?_⟩;have:=Yr (C:=C) (tid:=tid) c q (by rw[MW];simp);exact⟨this.1,let⟨V,x,y⟩:=this.2;⟨V,x,λw' t=>by simp only[ae0,aa2,p9,v7,o8];exact y w' t⟩⟩
 ·cases h
end
section
variable {Γ : Ctx} {H : List Blk} {w : World} {R : Type} {r : R}
def Ip{sh:Nat->Option Shp}(v:Value):VP Γ sh w (Rm v) v/\(Rm v).nms=[]:=by
 unfold Rm;split<;>first
  | exact⟨.bool _,rfl⟩
  | exact⟨.int _ _,rfl⟩
  | exact⟨.str _ rfl,rfl⟩
  | exact⟨.s _ _ .nilp,rfl⟩
  | exact⟨.nsl,rfl⟩
  | exact⟨.s _ _ .nilm,rfl⟩
  | exact⟨.s _ _ .nilf,rfl⟩
  | exact⟨.bad _,rfl⟩
def C27{l:List PV}(h:∀v∈l,v.nms=[]):D0 l=[]:=by
 induction l with
 | nil=>rfl
 | cons a l c=>simp[D0,h a (by simp),c (λv b=>h v (by simp[b]))]
def PG{sh:Nat->Option Shp}(v:Value):VP Γ sh w (HB v) v/\(HB v).nms=[]:=by
 unfold HB;split
 ·rename_i cs;refine⟨VP.mk_agg (by simp) λj b=>?_,?_⟩
  ·simp at b;exact⟨cs[j],by simp[b],by simpa using(Ip cs[j]).1⟩
  ·simp only[PV.nms];refine C27 λv c=>?_
   simp only[af7] at c;obtain⟨u,_,rfl⟩:=c;exact(Ip (Γ:=Γ) (w:=w) (sh:=sh) u).2
 ·rename_i a;split
  ·rename_i h;obtain rfl:a = #[]:=Array.eq_empty_of_size_eq_zero h;exact⟨VP.mk_tup (by simp) λj b=>by simp at b,rfl⟩
  ·exact⟨.bad _,rfl⟩
 ·exact Ip v
def GOK(C:Cfg)(St:Nat->Prop)(w:World):Prop:=
 (∀g k a,C.G.tab g=some (k,a)->St g/\∃e x,w.heap[g]? = some (.cells (a.map λz=>ak8 k z).toArray e x))/\∀g,C.G.gi g=true->St g/\∃m,w.cell? ⟨g,0,none⟩=some (.int .i64 m)
def GOK.congr{C C':Cfg}{St:Nat->Prop}{w:World}(h:C'.G=C.G)(hg:GOK C St w):GOK C' St w:=by unfold GOK at hg ⊢;rw[h];exact hg
def D85{St:Nat->Prop}{w:World}{g:Nat}{k:IntKind}{b:List Int}(d:St g){e:Nat}{x:Nat × Nat}(h:w.heap[g]? = some (.cells (b.map λz=>ak8 k z).toArray e x)):VS St w (.sp [b.map (SV.int k)] 0 0) (.pointer (some ⟨g,0,none⟩)):=by
 have e:(0:Nat)=0+0*b.length+0:=by omega
 rw[show(some (⟨g,0,none⟩:Addr))=some ⟨g,0+0*b.length+0,none⟩ by rw[<-e]];refine VS.sp [b.map (SV.int k)] 0 0 g 0 b.length (λ_ j=>.int k (b.getD j 0)) d (λi a=>?_) (λi a j c=>?_) (λi a j c=>?_)
 ·simp at a;subst a;simp
 ·simp at a;subst a;simp at c;simp[ad7,h,aa3,j4 c]
 ·simp at a;subst a;simp at c;simp only[s8,o7,aa3,j4 c,aj2];exact .int _ _
def Be5{C:Cfg}{sl:List PV}{a:Array Value}{ds:List Deferred}(o:GOK C Γ.St w)(l:SR Γ H w sl a)(x:Operand) :
  VP Γ (A3 H) w (opnd C sl x) (({ tmps:=a,defers:=ds }:Act).eval x)/\∀c∈(opnd C sl x).nms,c<H.length:=by
 cases x with
 | tmp t=>
  simp only[opnd,Act.eval];by_cases b:t<sl.length
  ·obtain⟨V,e,k⟩:=l.slot t b;rw[Yk b];refine⟨by simpa[e] using k,λc p=>l.nms c (C7.2 ⟨t,b,p⟩)⟩
  ·have d:sl.getD t (.tup []) = .tup []:=by simp[ai9,ag4 (af2 b)]
   have i:a.getD t undef=undef:=by
    have m:a.size<=t:=by rw[l.size];exact af2 b
    rw[x4,af3 m];rfl
   rw[d,i];exact⟨VP.mk_tup (by simp) λj u=>by simp at u,by simp[PV.nms,D0]⟩
 | const v=>
  have:=PG (Γ:=Γ) (w:=w) (sh:=A3 H) v;exact⟨this.1,by simp only[opnd];rw[this.2];simp⟩
 | global g=>
  simp only[opnd,Act.eval];cases q:C.G.tab g with
  | none=>exact⟨.bad _,by simp[PV.nms]⟩
  | some n=>
   obtain⟨d,e,x,i⟩:=o.1 g n.1 n.2 q;exact⟨.s _ _ (D85 d i),by simp[PV.nms]⟩
 | func f=>exact⟨.s _ _ (.fn (.func f) [] [] #[] #[] (λ_=>undef) (λ_=>undef) (by simp) rfl rfl (by simp) (by simp) (λj h=>by simp at h) (λj h=>by simp at h)),by simp[opnd,PV.nms]⟩
def NY{C:Cfg}{t:Nat}{k:IntKind}(h:C.sh t = .int k):C.P.underlying t=some (.int k):=by simp only[Cfg.sh,PW] at h;split at h<;>simp_all
def Fc{C:Cfg}{t:Nat}(h:C.sh t = .str):C.P.underlying t=some .string:=by simp only[Cfg.sh,PW] at h;split at h<;>simp_all
structure SlV (Γ:Ctx) (w:World) (X:Value) (els:List (List SV)):Prop where
 ex:∃a cap,X = .slice a els.length cap/\els.length<=cap/\cap<=maxLen/\(a=none->cap=0)/\
  (els≠[]->∃g o sz,a=some ⟨g,o,none⟩/\(∀i (h:i<els.length),(els[i]).length=sz)/\∀i (h:i<els.length) j (h':j<(els[i]).length),∃U,w.cell? ⟨g,o+i*sz+j,none⟩=some U/\VS Γ.St w (els[i][j]) U)
def U8{b:Nat}{v:Bool}{e g:Nat}{a:List (List SV)}(j:H[b]? = some (.arr v e g a)){i:Bool}{d c f:Nat}(h:A3 H b=some (.arr i d c f)) :
  v=i/\e=d/\g=c/\a.length=f:=by
 simp[A3,j,Blk.shp] at h;exact h
def Zu{C:Cfg}{x:PV}{X:Value}{u:List (List SV)}(Y:HR Γ H w)(K:VP Γ (A3 H) w x X)(h:Pu H x=some u):SlV Γ w X u:=by
 unfold Pu at h;split at h
 ·cases K;simp only[c9] at h;subst h;exact⟨none,0,rfl,j7 _,ab2 _,λ_=>rfl,λh=>absurd rfl h⟩
 ·simp only[c9] at h;subst h;have hs:=K.inv_s;cases hs with
  | nil t k=>exact⟨none,0,rfl,j7 _,ab2 _,λ_=>rfl,λh=>absurd rfl h⟩
  | emp t k a cap ht A=>exact⟨some a,cap,rfl,ab2 _,A,by simp,λh=>absurd rfl h⟩
  | sl t u g off n cap L Vs hn d A ht J hl hc W=>
   subst hn;exact⟨_,cap,rfl,d,A,by simp,λ_=>⟨g,off,_,rfl,hl,λi h j f=>⟨_,hc i h j f,W i h j f⟩⟩⟩
 ·rename_i b;split at h
  ·rename_i v e L c D;simp only[c9] at h;subst h;cases K with
   | flv _ M B f=>
    obtain⟨_,_,_,I⟩:=U8 D f;obtain rfl:=o5.1 I;exact⟨none,0,rfl,j7 _,ab2 _,λ_=>rfl,λh=>absurd rfl h⟩
   | fl _ g v' M B n cap f W J d A hs=>
    obtain⟨rfl,rfl,rfl,rfl⟩:=U8 D f;refine⟨_,cap,rfl,d,A,by simp,λo=>?_⟩;obtain⟨z,y⟩:=j5.1 D;have:=Y.blk b z;rw[y] at this;rcases this with h|⟨_,g',q,G,P,h3,I,Q⟩
    ·exact absurd h.2 o
    ·rw[J] at G;cases G;refine⟨g,0,_,rfl,I,λi Z j S=>?_⟩;obtain⟨V,N,O⟩:=Q i Z j S;exact⟨V,by rw[cell_of_row w g _ q _ (0,0) P,w9];exact N,O⟩
  ·cases h
 ·rename_i b i n;split at h
  ·rename_i v e L c D;simp only[c9] at h;subst h;cases K with
   | vwv _ M B _ f=>exact⟨none,0,by simp,by simp,ab2 _,λ_=>rfl,λh=>absurd (by simp) h⟩
   | vw _ _ _ g a cap v' M B m f W J ha Z d A=>
    obtain⟨rfl,rfl,rfl,rfl⟩:=U8 D f;have l:((c.drop i).take n).length=n:=by simp;omega
    refine⟨some a,cap,by rw[l],by rw[l];exact d,A,by simp,λo=>?_⟩;have U:n≠0:=by rintro rfl;simp at o
    obtain⟨z,y⟩:=j5.1 D;have:=Y.blk b z;rw[y] at this;rcases this with h|⟨_,g',q,G,P,h3,I,Q⟩
    ·exact absurd (by simp[h.2]) o
    ·rw[J] at G;cases G;have p:∀k (F:k<((c.drop i).take n).length),∃f:i+k<c.length,((c.drop i).take n)[k]=c[i+k]:=λk F=>by
      rw[l] at F;exact⟨by omega,by simp⟩
     refine⟨g,i*L,L,by rw[ha U],λk F=>?_,λk F j S=>?_⟩
     ·obtain⟨f,e⟩:=p k F;rw[e];exact I _ f
     ·obtain⟨f,e⟩:=p k F;have T:j<(c[i+k]).length:=by rw[<-e];exact S
      obtain⟨V,N,O⟩:=Q (i+k) f j T;refine⟨V,?_,by simp only[e];exact O⟩;rw[cell_of_row w g _ q _ (0,0) P,<-N]
      congr 1
      rw[p6]
  ·cases h
 ·cases h
def Bc4{x:PV}{n:Nat}(h:Et H x=some n)(j:∀l,x≠.s (.str l))(d:∀b i m,x = .vw b i m->∃v e f a,H[b]? = some (.arr v e f a)/\i+m<=a.length):∃a,Pu H x=some a/\a.length=n:=by
 unfold Et at h;split at h
 ·simp only[c9] at h;subst h;exact⟨[],rfl,rfl⟩
 ·simp only[c9] at h;subst h;exact⟨_,rfl,rfl⟩
 ·exact absurd rfl (j _)
 ·split at h
  ·rename_i c;simp only[c9] at h;subst h;exact⟨_,by simp[Pu,c],rfl⟩
  ·cases h
 ·rename_i b i m;simp only[c9] at h;subst h;obtain⟨v,e,f,a,c,g⟩:=d b i m rfl;exact⟨(a.drop i).take m,by simp only[Pu,c],by simp;omega⟩
 ·cases h
def ZI{C:Cfg}{x:PV}{X:Value}{n:Nat}(t:HR Γ H w)(f:VP Γ (A3 H) w x X)(h:Et H x=some n)(u:∀l,x≠.s (.str l)):∃a cap,X = .slice a n cap/\n<=cap:=by
 by_cases d:∃b i m,x = .vw b i m
 ·obtain⟨b,i,m,rfl⟩:=d;simp only[Et,c9] at h;subst h;cases f with
  | vwv=>exact⟨none,0,rfl,j7 _⟩
  | vw _ _ _ g a cap G y v m z d B A D c F=>exact⟨some a,cap,rfl,c⟩
 ·obtain⟨q,j,k⟩:=Bc4 h u (λb i m e=>absurd ⟨b,i,m,e⟩ d);obtain⟨a,cap,o,p,_⟩:=(Zu (C:=C) t f j).ex;subst k;exact⟨a,cap,o,p⟩
def Bc3{C:Cfg}{x:PV}{X:Value}{t ty:Nat}{ts:List Nat}{k:PV->Option R}(A:HR Γ H w)(h:Ce2 C x t H k=some r)(y:VP Γ (A3 H) w x X) :
  ∃v,k v=some r/\QV C.P Γ H w (ac5 (t::ts).toArray ty #[X]) v:=by
 unfold Ce2 at h;split at h
 ·rename_i n e c;exact⟨_,h,.val rfl (.int _ _) λw' _=>by simp[ac5,run_underlying (Je c),goInt]⟩
 ·rename_i l c;obtain⟨s,rfl,rfl⟩:=y.inv_str;exact⟨_,h,.val rfl (.int _ _) λw' _=>by simp[ac5,run_underlying (Fc c),goInt]⟩
 ·cases h
 ·rename_i e c D;split at h
  ·rename_i n K;obtain⟨a,cap,rfl,_⟩:=ZI (C:=C) A y K (λl e=>D l e);exact⟨_,h,.val rfl (.int _ _) λw' _=>by simp[ac5,run_underlying (L1 c),goInt]⟩
  ·cases h
 ·rename_i c;obtain rfl:=y.inv_nilm;exact⟨_,h,.val rfl (.int _ _) λw' _=>by simp[ac5,run_underlying (Rv c),goInt]⟩
 ·rename_i b c;split at h
  ·rename_i d u;obtain⟨g,B,rfl⟩:=Bd7 u y;obtain⟨j,i⟩:=j5.1 u;have q:=A.blk b j;rw[i] at q;obtain⟨J,I,G,o,p,z⟩:=q;rw[B] at o;cases o;refine⟨_,h,.val rfl (.int _ _) λw' F=>?_⟩;have f:=(F g (x5.1 p).1).trans p;have m:=z.len;rw[p4] at m;simp[ac5,run_underlying (Rv c),x7 f,goInt,m]
  ·rename_i a d u;obtain⟨g,B,rfl⟩:=Bd8 u y;obtain⟨j,i⟩:=j5.1 u;have q:=A.blk b j;rw[i] at q;obtain⟨J,I,G,o,p,z⟩:=q;rw[B] at o;cases o;refine⟨_,h,.val rfl (.int _ _) λw' F=>?_⟩;have f:=(F g (x5.1 p).1).trans p;have m:=z.len;rw[show(msP a d).length=d.length from o6 _] at m;rw[p4] at m;simp[ac5,run_underlying (Rv c),x7 f,goInt,m]
  ·cases h
 ·cases h
def Uz{P:Program}{d:Bool}{xs:List PV}{k:PV->Option R}(e:Array TypeId)(f:TypeId)(h:Oh d xs k=some r) :
  ∃v a b c,k v=some r/\xs=[.s (.int c a),.s (.int c b)]/\QV P Γ H w (if d then Builtin.max_ e f #[.int c a,.int c b] else Builtin.min_ e f #[.int c a,.int c b]) v:=by
 unfold Oh at h;split at h
 ·rename_i c a i b;split at h
  ·rename_i g;subst g;refine⟨_,a,b,c,h,rfl,.val rfl (.int _ _) λw' _=>?_⟩;cases d
   ·simp[run_min_int2]
   ·simp[run_max_int2]
  ·cases h
 ·cases h
end
section
variable {L : Ctx} {H : List Blk} {w : World} {R : Type} {r : R}
def N2{C:Cfg}{t:Nat}(h:(C.ti t).ok=true):∃i,C.P.info? t=some i/\i.size=(C.ti t).ks.length/\0<i.size:=by obtain⟨i,d,z,k,j,l,g,e,c,f,a,b⟩:=Ke h;grind
def Dt{P:Program}{t e:Nat}{i:TypeInfo}{g:IntKind}{a:Addr}{len cap:Nat}{n:Int}(f:P.underlying t=some (.slice e))(d:P.info? e=some i)(b:0<=n)(c:n<len)(w':World) :
  (ad4 t (.slice (some a) len cap) (.int g n)).run P w' = .ok (.pointer (some (a.add (n.toNat*i.size)))) w':=by
 simp[ad4,asIntOf,run_underlying f,b,c,sizeOf,typeInfo,d]
def Dr{P:Program}{t e m:Nat}{i:TypeInfo}{g:IntKind}{a:Addr}{n:Int}(f:P.underlying t=some (.array m e))(d:P.info? e=some i)(b:0<=n)(c:n<m)(w':World) :
  (ad4 t (.pointer (some a)) (.int g n)).run P w' = .ok (.pointer (some (a.add (n.toNat*i.size)))) w':=by
 simp[ad4,asIntOf,run_underlying f,b,c,sizeOf,typeInfo,d,aa2]
def DQ{b i off:Nat}{A:Value}(a:VP L (A3 H) w (.ptr b i off) A) :
  (∃g v e j d,H[b]? = some (.arr v e j d)/\L.nm b=some g/\A = .pointer (some ⟨g,i*j+off,none⟩))\/(∃g cells,i=0/\H[b]? = some (.box cells)/\L.nm b=some g/\A = .pointer (some ⟨g,off,none⟩)):=by
 have key:∀{s:Shp},A3 H b=some s->∃x,H[b]? = some x/\x.shp=s:=λh=>by simpa[A3] using h
 cases a with
 | ptrA _ _ _ g v e j n h f=>
  obtain⟨x,a,c⟩:=key h;cases x<;>simp[Blk.shp] at c
  obtain⟨rfl,rfl,rfl,rfl⟩:=c;exact .inl ⟨g,_,_,_,_,a,f,rfl⟩
 | ptrB _ _ g h f=>
  obtain⟨x,a,c⟩:=key h;cases x<;>simp[Blk.shp] at c
  exact .inr ⟨g,_,rfl,a,f,rfl⟩
def QV.mk1{P:Program}{m:Sem Value}{v:PV}{V:Value}(hn:∀c∈v.nms,c<H.length)(h:VP L (A3 H) w v V)(hm:∀w':World,Ext w w'->m.run P w' = .ok V w'):QV P L H w m v:=⟨hn,V,h,hm⟩
def Mg{C:Cfg}{t:Nat}{x i:PV}{X I:Value}{k:PV->Option R}(hH:HR L H w)(h:Ep C t x i H k=some r)(Q:VP L (A3 H) w x X)(u:VP L (A3 H) w i I)
  (J:∀c∈x.nms,c<H.length):∃v,k v=some r/\QV0 C.P L H w (ad4 t X I) v:=by
 unfold Ep at h;split at h
 ·rename_i kd n;obtain rfl:=u.inv_int;split at h
  ·rename_i b;split at h
   ·rename_i v U G p e D l;split at h
    ·rename_i F;obtain⟨d,y⟩:=D6 h;simp only[j0,af] at d;obtain⟨i,u,f,q⟩:=N2 F.1;refine⟨_,y,?_⟩;cases Q with
     | flv _ W O K=>obtain⟨_,_,_,h4⟩:=U8 D K;omega
     | fl _ g v' W O n' cap K P A M Z S=>
      obtain⟨rfl,rfl,rfl,rfl⟩:=U8 D K;refine .mk0 J (V:=.pointer (some ⟨g,n.toNat*G+0,none⟩)) (.ptrA b _ 0 g _ _ G _ K A) λw'=>?_
      rw[Dt (L1 l) u d.1 d.2,O8,f,F.2];simp
    ·cases h
   ·cases h
  ·rename_i b o m;split at h
   ·rename_i v U G p e D l;split at h
    ·rename_i F;obtain⟨d,y⟩:=D6 h;simp only[j0,af] at d;obtain⟨i,u,f,q⟩:=N2 F.1;refine⟨_,y,?_⟩;cases Q with
     | vwv _ W O _ K=>omega
     | vw _ _ _ g a cap v' W O m' K P A ha a0 M Z=>
      obtain⟨rfl,rfl,rfl,rfl⟩:=U8 D K;refine .mk0 J (V:=.pointer (some ⟨g,(o+n.toNat)*G+0,none⟩)) (.ptrA b _ 0 g _ _ G _ K A) λw'=>?_
      rw[Dt (L1 l) u d.1 d.2,ha (by omega),O8,f,F.2,p6];rfl
    ·cases h
   ·cases h
  ·rename_i z tt kk p;split at h
   ·rename_i e l;split at h
    ·rename_i F;obtain⟨d,y⟩:=D6 h;simp only[j0,af] at d;obtain⟨i,u,f,q⟩:=N2 F.1;refine⟨_,y,?_⟩;have S:=Q.inv_s;cases S with
     | nil=>simp at d;omega
     | emp=>simp at d;omega
     | sl t' p g off n' cap G T hn M Z ht A Y N P=>
      refine .mk0 (by simp[PV.nms]) (V:=.pointer (some ⟨g,off+n.toNat*kk+0,none⟩)) (.s _ _ (.sp p n.toNat 0 g off kk T A Y N P)) λw'=>?_
      rw[Dt (L1 l) u d.1 (by omega),O8,f,F.2];rfl
    ·cases h
   ·cases h
  ·rename_i b j off;split at h
   ·rename_i m e l;rcases DQ Q with⟨g,v,U,G,p,D,A,rfl⟩|⟨g,cells,rfl,D,A,rfl⟩
    ·rw[D] at h;dsimp only at h;split at h
     ·rename_i F;obtain⟨rfl,rfl,B,rfl⟩:=F;obtain⟨d,y⟩:=D6 h;simp only[j0,af] at d;obtain⟨i,u,f,q⟩:=N2 B;refine⟨_,y,.mk0 J (V:=.pointer (some ⟨g,n.toNat*(C.ti e).ks.length+0,none⟩)) (.ptrA b _ 0 g v U _ p.length (by simp[A3,D,Blk.shp]) A) λw'=>?_⟩;rw[Dr (Je l) u d.1 d.2,O8,f];simp
     ·cases h
    ·rw[D] at h;dsimp only at h;split at h
     ·rename_i B;obtain⟨d,y⟩:=D6 h;simp only[j0,af] at d;obtain⟨i,u,f,q⟩:=N2 B;refine⟨_,y,.mk0 J (V:=.pointer (some ⟨g,off+n.toNat*(C.ti e).ks.length,none⟩)) (.ptrB b _ g (by simp[A3,D,Blk.shp]) A) λw'=>?_⟩;rw[Dr (Je l) u d.1 d.2,O8,f]
     ·cases h
   ·cases h
  ·rename_i p j off;split at h
   ·rename_i m e l;split at h
    ·rename_i B;obtain⟨d,y⟩:=D6 h;simp only[j0,af] at d;obtain⟨i,u,f,q⟩:=N2 B;refine⟨_,y,?_⟩;have S:=Q.inv_s;cases S with
     | sp _ _ _ g o G T A Y N P=>
      refine .mk0 (by simp[PV.nms]) (V:=.pointer (some ⟨g,o+j*G+(off+n.toNat*(C.ti e).ks.length),none⟩)) (.s _ _ (.sp p j _ g o G T A Y N P)) λw'=>?_
      rw[Dr (Je l) u d.1 d.2,O8,f];simp[ai0]
    ·cases h
   ·cases h
  ·cases h
 ·cases h
def QV.part{C:Cfg}{u o:Nat}{cells:List PV}{A:Array Value}(h:okP (C.ti u) cells o=true)(hA:A.size=cells.length)(hc:∀j (h:j<cells.length),∃U,A[j]? = some U/\VP L (A3 H) w (cells[j]) U)
  (hn:∀c∈D0 cells,c<H.length):QV C.P L H w (part u A o) (Pz (C.ti u) cells o):=by
 have hok:(C.ti u).ok=true:=by simp only[okP,j0] at h;exact h.1
 obtain⟨i,d,z,hi,hd,hz,hsz,hby,hpos,hks,hagg,hlen⟩:=Ke hok;have hlt:=Be4 h;have hx:∀j (hj:j<(Bd (C.ti u) cells o).length),∃(h':o+j<cells.length) (hk:j<(C.ti u).ks.length),(Bd (C.ti u) cells o)[j]=(cells[o+j]).as ((C.ti u).ks[j]):=by
  intro j hj;have hj':j<(C.ti u).ks.length:=by rw[S6] at hj;exact hj
  exact⟨hlt j hj',hj',by simp[Bd,j4 (hlt j hj')]⟩
 have hvp:∀j (hj:j<(Bd (C.ti u) cells o).length),∃U,A[o+j]? = some U/\VP L (A3 H) w ((Bd (C.ti u) cells o)[j]) U:=λj hj=>by
  obtain⟨h',hk,e⟩:=hx j hj;obtain⟨U,e1,k1⟩:=hc (o+j) h';have:=ZY h j hk;rw[Al h'] at this;exact⟨U,e1,by rw[e];exact k1.as this⟩
 have hnm:∀c∈D0 (Bd (C.ti u) cells o),c<H.length:=λc hc'=>by
  obtain⟨j,hj,hm⟩:=C7.1 hc';obtain⟨h',hk,e⟩:=hx j hj;rw[e] at hm;exact hn c (C7.2 ⟨o+j,h',PV.as_nms c hm⟩)
 rw[MO];have hpos':0<(Bd (C.ti u) cells o).length:=by rw[S6,<-hlen];exact hpos
 by_cases ha:Ob d=true
 ·rw[hagg,ac ha];refine .mk1 (by simpa[PV.nms] using hnm) (VP.mk_agg (A:=A.extract o (o+i.size)) ?_ λj hj=>?_) λw' hw=>Ba hd ha hi A o w'
  ·have:=hlt ((C.ti u).ks.length-1) (by omega);rw[Array.size_extract,S6,hlen];omega
  ·obtain⟨U,e,k⟩:=hvp j hj;refine⟨U,?_,k⟩;rw[Array.getElem?_extract,ac]
   ·exact e
   ·have:=(x5.1 e).1;rw[S6,<-hlen] at hj;omega
 ·simp only[ai8] at ha;rw[hagg,ha];simp only[y5,if_false];obtain⟨U,e,k⟩:=hvp 0 hpos';simp only[ac8] at e;split
  ·rw[Al hpos'];exact .mk1 (λc hc'=>hnm c (C7.2 ⟨0,hpos',hc'⟩)) k λw' hw=>Hi hd ha e w'
  ·exact .mk1 (by simp[PV.nms]) (.bad U) λw' hw=>Hi hd ha e w'
def Dj8{C:Cfg}{t f:Nat}{x:PV}{X:Value}{k:PV->Option R}(h:Cz1 C t x f k=some r)(z:VP L (A3 H) w x X)(l:∀c∈x.nms,c<H.length) :
  ∃v,k v=some r/\QV C.P L H w (al5 t X f) v:=by
 unfold Cz1 at h;split at h
 ·rename_i B cells j;split at h
  ·rename_i o u d;obtain⟨m,n⟩:=D6 h;obtain⟨A,rfl,e,g⟩:=z.inv_agg;obtain⟨F,q,rfl⟩:=DY j;simp only[w6,s9] at d;obtain⟨fl,d,p⟩:=d;cases p;have:=QV.part (C:=C) m e g (by simpa[PV.nms] using l);refine⟨_,n,this.1,let⟨V,a,b⟩:=this.2;⟨V,a,λw' y=>?_⟩⟩;have i:F[f]? = some fl:=by simpa using d
   simp only[al5,p9,run_underlying q,o8,i,asAgg,v7];exact b w' y
  ·cases h
 ·cases h
def Rt{P:Program}{t f:Nat}{F:Array Field}{fl:Field}{i:TypeInfo}{a:Addr}(e:P.underlying t=some (.struct F))(c:F[f]? = some fl)(d:P.info? fl.type=some i)(b:0<i.size)(w':World) :
  (ah8 t (.pointer (some a)) f).run P w' = .ok (.pointer (some (a.add fl.offset))) w':=by
 have:¬i.size=0:=by omega
 simp[ah8,run_underlying e,c,aa2,fieldPlace,sizeOf,typeInfo,d,this]
def Mc{C:Cfg}{t f:Nat}{x:PV}{X:Value}{k:PV->Option R}(h:Em C t x f k=some r)(I:VP L (A3 H) w x X)(n:∀c∈x.nms,c<H.length) :
  ∃v,k v=some r/\QV0 C.P L H w (ah8 t X f) v:=by
 unfold Em at h;split at h
 ·rename_i P B;obtain⟨F,G,rfl⟩:=DY B;split at h
  ·rename_i o u b i off d;split at h
   ·rename_i l;simp only[w6,s9] at d;obtain⟨fl,d,A⟩:=d;cases A;have e:F[f]? = some fl:=by simpa using d
    obtain⟨ii,p,D,a⟩:=N2 l;refine⟨_,h,?_⟩;rcases DQ I with⟨g,v,K,q,j,y,m,rfl⟩|⟨g,cells,rfl,y,m,rfl⟩
    ·refine .mk0 n (V:=.pointer (some ⟨g,i*q+(off+fl.offset),none⟩)) (.ptrA b _ _ g v K _ j.length (by simp[A3,y,Blk.shp]) m) λw'=>?_
     rw[Rt G e p a,O8,ai0]
    ·refine .mk0 n (V:=.pointer (some ⟨g,off+fl.offset,none⟩)) (.ptrB b _ g (by simp[A3,y,Blk.shp]) m) λw'=>?_
     rw[Rt G e p a,O8]
   ·cases h
  ·rename_i o u j i off d;split at h
   ·rename_i l;simp only[w6,s9] at d;obtain⟨fl,d,A⟩:=d;cases A;have e:F[f]? = some fl:=by simpa using d
    obtain⟨ii,p,D,a⟩:=N2 l;refine⟨_,h,?_⟩;have N:=I.inv_s;cases N with
    | sp _ _ _ g o q J m M z O=>
     refine .mk0 (by simp[PV.nms]) (V:=.pointer (some ⟨g,o+i*q+(off+fl.offset),none⟩)) (.s _ _ (.sp j i _ g o q J m M z O)) λw'=>?_
     rw[Rt G e p a,O8];simp[ai0]
   ·cases h
  ·cases h
 ·cases h
def ZB{C:Cfg}{t:Nat}{x i:PV}{X I:Value}{k:PV->Option R}(h:DA C t x i k=some r)(F:VP L (A3 H) w x X)(G:VP L (A3 H) w i I)(z:∀c∈x.nms,c<H.length) :
  ∃v,k v=some r/\QV C.P L H w (al6 t X I) v:=by
 unfold DA at h;split at h
 ·rename_i J n;obtain rfl:=G.inv_int;split at h
  ·rename_i l;split at h
   ·rename_i f;obtain⟨s,rfl,rfl⟩:=F.inv_str;obtain⟨d,j⟩:=D6 h;simp only[j0,af] at d;refine⟨_,j,.val rfl (.int _ _) λw' D=>?_⟩;have g:s.size=s.data.toList.length:=by rw[p4];rfl
    rw[run_index_string w' t s J n (Fc f),dif_pos ⟨d.1,by rw[g];exact d.2⟩]
    congr 2
    have u:n.toNat<s.data.toList.length:=by omega
    rw[Al u];rfl
   ·cases h
  ·rename_i cells;split at h
   ·rename_i m e f;obtain⟨d,j⟩:=D6 h;simp only[j0,af] at d;obtain⟨A,rfl,o,p⟩:=F.inv_agg;have y:(C.ti e).ok=true:=by have:=d.2;simp only[okP,j0] at this;exact this.1
    obtain⟨ii,q,g,B⟩:=N2 y;have:=QV.part (C:=C) d.2 o p (by simpa[PV.nms] using z);refine⟨_,j,this.1,let⟨V,a,b⟩:=this.2;⟨V,a,λw' D=>?_⟩⟩;have:=b w' D;simp only[al6,asIntOf,p9,v7,run_underlying (Je f),o8];rw[ac d.1];simp only[sizeOf,typeInfo,p9,run_program,q,o8,v7,g];exact this
   ·cases h
  ·cases h
 ·cases h
end
section
variable {Γ : Ctx} {H : List Blk} {w : World} {R : Type} {r : R}
def BV(d:Nat)(n:Nat):Option Value->Prop
 | none=>n=d
 | some v=>∃k,v = .int k n
def BV.none(d:Nat):BV d d none:=rfl
def Wr{P:Program}{isSlice:Bool}{len cap l h m:Nat}{f a mx:Option Value}(c:BV 0 l f)(b:BV len h a)(d:BV cap m mx)(e:mx.isSome=true->a.isSome=true)(g:l<=h)(i:h<=m)(j:m<=cap)(w':World) :
  (ai3 isSlice len cap f a mx).run P w' = .ok (l,h,m) w':=by
 cases f<;>cases a<;>cases mx<;>simp only[BV] at c b d<;>simp at e <;>
  (try (obtain⟨n,rfl⟩:=c))<;>(try (obtain⟨k,rfl⟩:=b))<;>(try (obtain⟨o,rfl⟩:=d))<;>(try subst c)<;>(try subst b)<;>(try subst d) <;>
  simp[ai3,run_sliceBound_if,Int.ofNat_le,g,i,j]
def OV(Γ:Ctx)(sh:Nat->Option Shp)(w:World)(p:Option PV)(V:Option Value):Prop:=
 match p,V with
 | none,none=>True
 | some p,some V=>VP Γ sh w p V
 | _,_=>False
def Hl{sh:Nat->Option Shp}{d:Nat}{p:Option PV}{V:Option Value}{n:Int}(a:BX d p=some n)(b:OV Γ sh w p V)(f:0<=n):BV d n.toNat V:=by
 unfold BX at a;split at a
 ·simp only[c9] at a;subst a;cases V with
  | none=>simp[BV]
  | some V=>exact b.elim
 ·simp only[c9] at a;subst a;cases V with
  | none=>exact b.elim
  | some V=>
   rename_i e g;have c:VP Γ sh w (.s (.int e g)) V:=b;obtain rfl:=c.inv_int;exact⟨e,by simp[ah4 f]⟩
 ·cases a
def T0{P:Program}{t e:Nat}{i:TypeInfo}{a:Option Addr}{len cap l h m:Nat}{g b f:Option Value}(u:P.underlying t=some (.slice e))(c:P.info? e=some i)
  (p:BV 0 l g) (o:BV len h b) (q:BV cap m f) (d:f.isSome=true->b.isSome=true) (j:l<=h) (k:h<=m) (n:m<=cap) (w':World) :
  (ab9 t (.slice a len cap) g b f).run P w' = .ok (.slice (if m=l then a else a.map (·.add (l*i.size))) (h-l) (m-l)) w':=by
 simp only[ab9,al7,p9,run_underlying u,o8,Wr p o q d j k n,sizeOf,typeInfo,run_program,c,v7]
def PU{P:Program}{t:Nat}{s:ByteArray}{l h:Nat}{b a:Option Value}(i:P.underlying t=some .string)
  (g:BV 0 l b) (f:BV s.size h a) (c:l<=h) (d:h<=s.size) (w':World) :
  (ab9 t (.string s) b a none).run P w' = .ok (.string (s.extract l h)) w':=by
 have e:=Wr (P:=P) (isSlice:=false) (mx:=none) (m:=s.size) (cap:=s.size) g f rfl (by simp) c d (j7 _) w';simp[ab9,al7,run_underlying i,e]
def YK(s:ByteArray)(a b:Nat):(s.extract a b).data.toList=(s.data.toList.take b).drop a:=by rw[Lib.extract_data,List.drop_take]
def OV.none{sh:Nat->Option Shp}{V:Option Value}(h:OV Γ sh w none V):V=none:=by
 cases V with
 | none=>rfl
 | some V=>exact h.elim
def OV.int{sh:Nat->Option Shp}{V:Option Value}{kd:IntKind}{n:Int}(h:OV Γ sh w (some (.s (.int kd n))) V):V=some (.int kd n):=by
 cases V with
 | none=>exact h.elim
 | some V=>
  have hv':VP Γ sh w (.s (.int kd n)) V:=h;rw[hv'.inv_int]
def OV.isSome{sh:Nat->Option Shp}{p:Option PV}{V:Option Value}(h:OV Γ sh w p V):V.isSome=p.isSome:=by cases p<;>cases V<;>first|rfl|exact h.elim
def LJ{c:Type}{l:List c}{a b:Nat}(h:a<=b)(e:b<=l.length):((l.take b).drop a).length=b-a/\∀i (f:i<((l.take b).drop a).length),∃d:a+i<l.length,((l.take b).drop a)[i]=l[a+i]:=by grind
def VS.slice{St:Nat->Prop}{z t:Bool}{kk:Nat}{els:List (List SV)}{A:Option Addr}{len cap:Nat}(hs:VS St w (.sl z t kk els) (.slice A len cap)){l h m:Nat}(h1:l<=h)(h2:h<=len)(hm1:h<=m)(hm2:m<=cap){t':Bool}(ht':t'=true->m=h\/cap=0){size:Nat}(hsz:size=kk\/z=true) :
  len=els.length/\VS St w (.sl z t' kk ((els.take h).drop l)) (.slice (if m=l then A else A.map (·.add (l*size))) (h-l) (m-l)):=by
 cases hs with
 | nil=>
  refine⟨rfl,?_⟩;have:h=0:=by omega
  have:m=0:=by omega
  subst h m;have:l=0:=by omega
  subst l;simpa using VS.nil t' kk
 | emp _ _ a _ ht hmx=>
  refine⟨rfl,?_⟩;have:h=0:=by omega
  subst h;have:l=0:=by omega
  subst l;have:=VS.emp (St:=St) (w:=w) t' kk (if m=0 then a else a.add (0*size)) m (λe=>by rcases ht' e with h|h<;>omega) (by omega);split at this
  ·rename_i e;simpa[e] using this
  ·rename_i e;simpa[e] using this
 | sl _ _ g off n _ _ Vs hn hcap hm ht hg hl hc hv=>
  refine⟨hn,?_⟩;obtain⟨e1,e2⟩:=LJ (l:=els) h1 (by omega);have hsz':size=kk:=by rcases hsz with h|h<;>first|exact h|cases h
  subst hsz';by_cases he:h=l
  ·subst he;have e3:(els.take h).drop h=[]:=by simp
   rw[e3,Nat.sub_self];by_cases hml:m=h
   ·rw[ac hml];exact .emp t' _ _ _ (λ_=>by omega) (by omega)
   ·rw[ae hml];exact .emp t' _ _ _ (λe=>by rcases ht' e with h|h<;>omega) (by omega)
  ·have hml:¬m=l:=by omega
   rw[ae hml];simp only[ac9];rw[O8];refine .sl t' _ g (off+l*size) (h-l) (m-l) size (λi j=>Vs (l+i) j) (by omega) (by omega) (by omega) (λe=>by rcases ht' e with h|h<;>omega) hg (λi hi=>?_) (λi hi j hj=>?_) (λi hi j hj=>?_)
   ·obtain⟨h',e⟩:=e2 i hi;rw[e];exact hl _ h'
   ·obtain⟨h',e⟩:=e2 i hi;rw[show off+l*size+i*size+j=off+(l+i)*size+j by rw[p6];omega];exact hc _ h' j (by rw[<-e];exact hj)
   ·obtain⟨h',e⟩:=e2 i hi;simp only[e];exact hv _ h' j (by rw[<-e];exact hj)
def Un(s:ByteArray):s.data.toList.length=s.size:=by rw[p4];rfl
def Zv{C:Cfg}{t:Nat}{x:PV}{X:Value}{lo u mx:Option PV}{LO HI MX:Option Value}{k:PV->Option R}(hH:HR Γ H w)(h:DZ C t x lo u mx H k=some r)(Q:VP Γ (A3 H) w x X)(M:∀c∈x.nms,c<H.length)
  (Z:OV Γ (A3 H) w lo LO) (O:OV Γ (A3 H) w u HI) (a0:OV Γ (A3 H) w mx MX) (hm:mx.isSome=true->u.isSome=true):∃v,k v=some r/\QV0 C.P Γ H w (ab9 t X LO HI MX) v:=by
 unfold DZ at h;split at h
 ·rename_i f;split at h
  ·cases h
  ·rename_i len j;split at h
   ·rename_i I N hl hh;split at h
    ·obtain⟨h1,G⟩:=D6 h;simp only[j0,af] at h1;obtain rfl:=a0.none;have L:=Hl hl Z (by omega);have J:=Hl hh O (by omega);split at G
     ·rename_i s;simp only[Gd] at f;split at f
      ·rename_i p;obtain⟨s',rfl,rfl⟩:=Q.inv_str;simp only[Et,c9] at j;subst j;rw[Un] at J;refine⟨_,G,.mk0 (by simp[PV.nms]) (.str (s'.extract I.toNat N.toNat) (YK _ _ _)) λw'=>?_⟩;rw[PU (Fc p) L J (by omega) (by rw[<-Un];omega)]
      ·cases f
     ·rename_i z tt kk B;simp only[Gd] at f;split at f
      ·rename_i e p;simp only[j0,af] at f;obtain⟨i,u,F,y⟩:=N2 f.1;simp only[Et,c9] at j;subst j;have U:=Q.inv_s;have key:∃A cap,X = .slice A B.length cap/\B.length<=cap/\(z=true->cap=0):=by
        cases U with
        | nil=>exact⟨_,_,rfl,j7 _,λ_=>rfl⟩
        | emp=>exact⟨_,_,rfl,ab2 _,by simp⟩
        | sl _ _ g off n cap _ Vs hn q hm ht Y hl hc hv=>subst hn;exact⟨_,_,rfl,q,by simp⟩
       obtain⟨A,cap,rfl,q,hz⟩:=key;have:=VS.slice U (l:=I.toNat) (h:=N.toNat) (m:=cap) (by omega) (by omega) (by omega) (j7 _) (t':=z) (λe=>.inr (hz e)) (size:=i.size) (.inl (by omega));refine⟨_,G,.mk0 (by simp[PV.nms]) (.s _ _ this.2) λw'=>?_⟩;rw[T0 (L1 p) u L J (BV.none cap) (by simp) (by omega) (by omega) (j7 _)]
      ·cases f
     ·simp only[Gd] at f;split at f
      ·rename_i e p;obtain⟨i,u,F,y⟩:=N2 f;obtain rfl:=Q.inv_nsl;simp only[Et,c9] at j;subst j;refine⟨_,G,.mk0 (by simp[PV.nms]) .nsl λw'=>?_⟩;rw[T0 (L1 p) u L J (m:=0) (cap:=0) (BV.none _) (by simp) (by omega) (by omega) (j7 _)];simp;omega
      ·cases f
     ·rename_i b;simp only[Gd] at f;split at f
      ·rename_i v e' sz B e T p;simp only[j0,af] at f;obtain⟨i,u,F,y⟩:=N2 f.1;simp only[Et,T,c9] at j;subst j;cases Q with
       | flv _ e2 S K=>
        obtain⟨_,_,_,h4⟩:=U8 T K;have P:I.toNat=0:=by omega
        have D:N.toNat=0:=by omega
        refine⟨_,G,.mk0 M (V:=.slice none 0 0) ?_ λw'=>?_⟩
        ·rw[P,D];exact .vwv b _ _ _ K
        ·rw[T0 (L1 p) u L (by rw[h4] at J;exact J) (m:=0) (cap:=0) (BV.none _) (by simp) (by omega) (by omega) (j7 _)];simp[D]
       | fl _ g v' e2 S n' cap K hv Y q hm U=>
        obtain⟨rfl,rfl,rfl,rfl⟩:=U8 T K;refine⟨_,G,.mk0 M (V:=.slice (some (if cap=I.toNat then ⟨g,0,none⟩ else (⟨g,0,none⟩:Addr).add (I.toNat*i.size))) (N.toNat-I.toNat) (cap-I.toNat)) ?_ λw'=>?_⟩
        ·refine .vw b _ _ g _ _ _ _ _ _ K hv Y (λa2=>?_) (by omega) (by omega) (by omega);rw[ae (by omega),O8,F,f.2,w9]
        ·rw[T0 (L1 p) u L J (m:=cap) (BV.none _) (by simp) (by omega) (by omega) (j7 _)]
         congr 2
         split<;>simp
      ·cases f
     ·rename_i b o n;simp only[Gd] at f;split at f
      ·rename_i v e' sz B e T p;simp only[j0,af] at f;obtain⟨i,u,F,y⟩:=N2 f.1;simp only[Et,c9] at j;subst j;cases Q with
       | vwv _ e2 S _ K=>
        obtain⟨_,_,_,h4⟩:=U8 T K;have P:I.toNat=0:=by omega
        have D:N.toNat=0:=by omega
        refine⟨_,G,.mk0 M (V:=.slice none 0 0) ?_ λw'=>?_⟩
        ·rw[P,D];exact .vwv b _ _ _ K
        ·rw[T0 (L1 p) u L J (m:=0) (cap:=0) (BV.none _) (by simp) (by omega) (by omega) (j7 _)];simp[D]
       | vw _ _ _ g a cap v' e2 S m K hv Y ha a3 q hm=>
        obtain⟨rfl,rfl,rfl,rfl⟩:=U8 T K;refine⟨_,G,.mk0 M (V:=.slice (some (if cap=I.toNat then a else a.add (I.toNat*i.size))) (N.toNat-I.toNat) (cap-I.toNat)) ?_ λw'=>?_⟩
        ·refine .vw b _ _ g _ _ _ _ _ _ K hv Y (λa2=>?_) (by omega) (by omega) (by omega);rw[ae (by omega),ha (by omega),O8,F,f.2,p6]
        ·rw[T0 (L1 p) u L J (m:=cap) (BV.none _) (by simp) (by omega) (by omega) (j7 _)]
         congr 2
         split<;>simp
      ·cases f
     ·cases G
    ·rename_i kd m;obtain⟨h1,G⟩:=D6 h;simp only[j0,af] at h1;obtain rfl:=a0.int;have W:HI.isSome=true:=by rw[O.isSome];exact hm rfl
     have L:=Hl hl Z (by omega);have J:=Hl hh O (by omega);have bm:∀d,BV d m.toNat (some (.int kd m)):=λd=>⟨kd,by rw[ah4 (by omega)]⟩
     split at G
     ·rename_i z tt kk B;simp only[Gd] at f;split at f
      ·rename_i e p;simp only[j0,af] at f;obtain⟨i,u,F,y⟩:=N2 f.1;simp only[Et,c9] at j;subst j;have U:=Q.inv_s;have key:∃A cap,X = .slice A B.length cap/\B.length<=cap:=by
        cases U with
        | nil=>exact⟨_,_,rfl,j7 _⟩
        | emp=>exact⟨_,_,rfl,ab2 _⟩
        | sl _ _ g off n cap _ Vs hn q hm ht Y hl hc hv=>subst hn;exact⟨_,_,rfl,q⟩
       obtain⟨A,cap,rfl,q⟩:=key;have:=VS.slice U (l:=I.toNat) (h:=N.toNat) (m:=m.toNat) (by omega) (by omega) (by omega) (by omega) (t':=true) (λe=>.inl (by omega)) (size:=i.size) (.inl (by omega));refine⟨_,G,.mk0 (by simp[PV.nms]) (.s _ _ this.2) λw'=>?_⟩;rw[T0 (L1 p) u L J (bm _) (λ_=>W) (by omega) (by omega) (by omega)]
      ·cases f
     ·simp only[Gd] at f;split at f
      ·rename_i e p;obtain⟨i,u,F,y⟩:=N2 f;obtain rfl:=Q.inv_nsl;simp only[Et,c9] at j;subst j;refine⟨_,G,.mk0 (by simp[PV.nms]) .nsl λw'=>?_⟩;rw[T0 (L1 p) u L J (bm _) (λ_=>W) (by omega) (by omega) (by omega)];have D:N.toNat=0:=by omega
       have a1:m.toNat=0:=by omega
       simp[D,a1]
      ·cases f
     ·cases G
    ·cases h
   ·cases h
 ·cases h
def Qc{C:Cfg}{t e b n:Nat}{v:Bool}{D z:Nat}{c:List (List SV)}{X:Value}{J f K:Option PV}{A HI B:Option Value}{k:PV->Option R}(hH:HR Γ H w)(h:Hz b n J f K k=some r)
  (x:C.sh t = .array n e) (u:(C.ti e).ok=true) (o:(C.ti e).ks.length=z) (d:H[b]? = some (.arr v D z c)) (hn:c.length=n) (T:n≠0) (W:n<=maxLen) (Y:VP Γ (A3 H) w (.ptr b 0 0) X)
  (p:OV Γ (A3 H) w J A) (l:OV Γ (A3 H) w f HI) (q:OV Γ (A3 H) w K B):∃v,k v=some r/\QV0 C.P Γ H w (ab9 t X A HI B) v:=by
 unfold Hz at h;split at h
 ·rename_i j N S Q;obtain⟨O,P⟩:=D6 h;simp only[j0,af] at O;obtain rfl:=q.none;have M:=Hl S p (by omega);have L:=Hl Q l (by omega);obtain⟨i,f,y,I⟩:=N2 u;rcases DQ Y with⟨g,v',e2,Z,F,a,G,rfl⟩|⟨g,cells,_,a,G,rfl⟩
  ·rw[d] at a;simp only[c9,Blk.arr.injEq] at a;obtain⟨rfl,rfl,rfl,rfl⟩:=a;refine⟨_,P,.mk0 (by simp[PV.nms];exact(j5.1 d).1) (V:=.slice (some (if n=j.toNat then ⟨g,0,none⟩ else (⟨g,0,none⟩:Addr).add (j.toNat*i.size))) (N.toNat-j.toNat) (n-j.toNat)) ?_ λw'=>?_⟩
   ·refine .vw b _ _ g _ _ v D z c.length (by simp[A3,d,Blk.shp]) (λ_=>by omega) G (λU=>?_) (by omega) (by omega) (by omega);rw[ae (by omega),O8,y,o,w9]
   ·simp only[ab9,p9,run_underlying (Je x),o8,aa2,v7];rw[Wr M L (m:=n) (BV.none _) (by simp) (by omega) (by omega) (j7 _)];simp[sizeOf,typeInfo,f]
  ·rw[d] at a;cases a
 ·cases h
end
def CR(a:Ctx)(sh:Nat->Option Shp)(w:World)(l:List PV)(A:Array Value):Prop:=A.size=l.length/\∀j (h:j<l.length),∃U,A[j]? = some U/\VP a sh w (l[j]) U
section
variable {Γ : Ctx} {sh : Nat -> Option Shp} {H : List Blk} {w : World} {R : Type} {r : R}
def CR.one{v:PV}{V:Value}(h:VP Γ sh w v V):CR Γ sh w [v] #[V]:=by refine⟨rfl,λj hj=>?_⟩;grind
def Ca1{V:Value}(h:V.oneCell'=true):V.cells = #[V]:=by cases V<;>first|rfl|simp[Value.oneCell'] at h
def VS.oneCell{St:Nat->Prop}{v:SV}{V:Value}(h:VS St w v V):V.oneCell'=true:=by cases h<;>rfl
def VP.oneCell{v:PV}{V:Value}(h:VP Γ sh w v V)(h1:v.one=true):V.oneCell'=true:=by
 cases h with
 | s v V h=>exact h.oneCell
 | yd=>exact Γ.yv1
 | agg=>simp[PV.one] at h1
 | tup=>simp[PV.one] at h1
 | bad=>simp[PV.one] at h1
 | _=>rfl
def VP.cells{v:PV}{V:Value}(h:VP Γ sh w v V)(hb:v.cells≠[])(ht:∀l,v≠.tup l):CR Γ sh w v.cells V.cells:=by
 by_cases ha:∃l,v = .agg l
 ·obtain⟨l,rfl⟩:=ha;obtain⟨A,rfl,hA,hc⟩:=h.inv_agg;exact⟨hA,hc⟩
 ·have h1:v.one=true:=by
   cases v<;>simp_all [PV.cells,PV.one]
  have hv:v.cells=[v]:=by cases v<;>simp_all [PV.cells,PV.one]
  rw[hv,Ca1 (h.oneCell h1)];exact CR.one h
def VP.cells'{v:PV}{V:Value}(h:VP Γ sh w v V)(hb:v.cells≠[]):CR Γ sh w v.cells V.cells:=by
 by_cases ht:∃l,v = .tup l
 ·obtain⟨l,rfl⟩:=ht;obtain⟨A,rfl,hA,hc⟩:=h.inv_tup;exact CR.one h
 ·exact h.cells hb (λl e=>ht ⟨l,e⟩)
def PV.cells_nms{v:PV}:∀c∈D0 v.cells,c∈v.nms:=by intro c;cases v<;>simp[PV.cells,D0,PV.nms]
def C94{Γ':Ctx}{sh':Nat->Option Shp}{w':World}(c:∀g,Γ.St g->w'.heap[g]? = w.heap[g]?)(b:∀g,Γ.St g->Γ'.St g){a:Bool}{l:List SV}{V:Value}(h:VP Γ sh w (svV a l) V):VP Γ' sh' w' (svV a l) V:=by
 cases a with
 | true=>
  simp only[svV,aa] at h ⊢;obtain⟨A,rfl,hA,d⟩:=h.inv_agg;refine VP.mk_agg hA λj f=>?_
  obtain⟨U,e,k⟩:=d j f;simp only[o7] at k ⊢;exact⟨U,e,.s _ _ (k.inv_s.mono c b)⟩
 | false=>
  match l with
  | []=>exact .bad _
  | [x]=>exact .s _ _ (h.inv_s.mono c b)
  | _::_::_=>exact .bad _
def Ah5{c:CK}{V:Value}(h:Bu2 c V=true):VP Γ sh w (Y5 c) V:=by
 unfold Bu2 at h;split at h
 ·rename_i b;cases b<;>simp at h;exact .bool _
 ·simp only[j0,af] at h;obtain⟨rfl,rfl⟩:=h;exact .int _ _
 ·exact .str _ (by simpa using h)
 ·exact .nsl
 ·exact .s _ _ .nilp
 ·exact .s _ _ .nilm
 ·exact .s _ _ .nilf
 ·cases h
def Vg:∀{a:List CK} {l:List Value},Ea a l=true->∀j (h:j<a.length),∃U,l[j]? = some U/\VP Γ sh w (Y5 a[j]) U
 | [],[],_=>λj h=>by simp at h
 | c::r,v::q,h=>by
  simp only[Ea,j0] at h;intro j b;cases j with
  | zero=>exact⟨v,rfl,by simpa using Ah5 h.1⟩
  | succ j=>
   obtain⟨U,e,k⟩:=Vg h.2 j (by simpa using b);exact⟨U,by simpa using e,by simpa using k⟩
 | [],_::_,h=>by simp[Ea] at h
 | _::_,[],h=>by simp[Ea] at h
def Hk{C:Cfg}{t:Nat}(h:(C.ti t).ok=true):∃i z,C.P.info? t=some i/\i.zero=some z/\i.size=(C.ti t).ks.length/\CR Γ sh w ((C.ti t).ks.map Y5) z.cells:=by obtain⟨i,d,z,m,p,o,c,l,g,b,f,a⟩:=Ke h;refine⟨i,z,m,o,a,by rw[o6,<-a,c],λj n=>?_⟩;obtain⟨U,e,k⟩:=Vg b j (by simpa using n);exact⟨U,by simpa using e,by simpa using k⟩
def E5{b:Type}:∀(a:List b) (l:List b) (off:Nat),(I4 l off a).length=l.length
 | [],l,off=>by simp[I4]
 | v::a,l,off=>by simp[I4,E5 a]
def P0{b:Type}:∀(a:List b) (l:List b) (off:Nat),off+a.length<=l.length->∀j,(I4 l off a)[j]? = if off<=j/\j<off+a.length then a[j-off]? else l[j]?
 | [],l,off,_,j=>by simp[I4];intro c d;omega
 | v::a,l,off,h,j=>by
  simp only[af1] at h;rw[I4,P0 a _ _ (by simp;omega)];grind
def RZ:∀(a:List Value) (k:Nat) (off:Nat) (A:Array Value),(((a.zipIdx k).foldl (λcs (c,j)=>cs.setIfInBounds (off+j) c) A).toList=I4 A.toList (off+k) a)
 | [],k,off,A=>by simp[I4]
 | v::a,k,off,A=>by
  rw[List.zipIdx_cons,aa7,RZ a (k+1) off,I4];grind
def CR.put{l x:List PV}{A X:Array Value}{off:Nat}(h:CR Γ sh w l A)(hx:CR Γ sh w x X)(hl:off+x.length<=l.length) :
  CR Γ sh w (I4 l off x) (X.zipIdx.foldl (λcs (c,j)=>cs.setIfInBounds (off+j) c) A):=by
 have e:(X.zipIdx.foldl (λcs (c,j)=>cs.setIfInBounds (off+j) c) A).toList=I4 A.toList off X.toList:=by
  have:=RZ X.toList 0 off A;rw[ac8] at this;rw[<-this,<-Array.foldl_toList,Array.toList_zipIdx]
 have hAl:A.toList.length=l.length:=by simpa using h.1
 have hXl:X.toList.length=x.length:=by simpa using hx.1
 refine⟨?_,λj hj=>?_⟩
 ·rw[<-p4,e,E5,E5,hAl]
 ·rw[E5] at hj;have g1:(X.zipIdx.foldl (λcs (c,j)=>cs.setIfInBounds (off+j) c) A)[j]? = (I4 A.toList off X.toList)[j]?:=by rw[<-e,Array.getElem?_toList]
  rw[g1,P0 _ _ _ (by omega)];have g2:=P0 x l off hl j;have hj':j<(I4 l off x).length:=by rw[E5];exact hj
  rw[j4 hj'] at g2;by_cases hc:off<=j/\j<off+x.length
  ·rw[ac (by omega)];rw[ac hc] at g2;obtain⟨U,e1,k1⟩:=hx.2 (j-off) (by omega);refine⟨U,by simpa using e1,?_⟩;rw[j4 (by omega)] at g2;simp only[c9] at g2;rw[g2];exact k1
  ·rw[ae (by omega)];rw[ae hc] at g2;obtain⟨U,e1,k1⟩:=h.2 j hj;refine⟨U,by simpa using e1,?_⟩;rw[j4 hj] at g2;simp only[c9] at g2;rw[g2];exact k1
def PR(Γ:Ctx)(sh:Nat->Option Shp)(w:World):List (Nat × PV)->List (Nat × Value)->Prop
 | [],[]=>True
 | (i,v)::r,(a,V)::q=>i=a/\VP Γ sh w v V/\PR Γ sh w r q
 | _,_=>False
def Wk:∀(b l:List PV) (off:Nat),∀c∈D0 (I4 l off b),c∈D0 l\/c∈D0 b
 | [],l,off,c,h=>.inl (by simpa[I4] using h)
 | v::b,l,off,c,h=>by
  rw[I4] at h;rcases Wk b _ _ c h with h|h
  ·obtain⟨j,d,a⟩:=C7.1 h;rw[x3] at a;split at a
   ·exact .inr (by simp only[D0,k9];exact .inl a)
   ·exact .inl (C7.2 ⟨j,by simpa using d,a⟩)
  ·exact .inr (by simp only[D0,k9];exact .inr h)
def En{place:Nat->Option (Nat × Nat)}{place':Nat->Option (Nat × Nat)}(k:∀i off size,place i=some (off,size)->0<size->place' i=some (off,size)) :
  ∀{parts:List (Nat × PV)} {n:List (Nat × Value)} {cells out:List PV} {A:Array Value},Ed place cells parts=some out->CR Γ sh w cells A->PR Γ sh w parts n->
   ∃B,af4 place' A n=some B/\CR Γ sh w out B/\∀c∈D0 out,c∈D0 cells\/∃p∈parts,c∈p.2.nms
 | [],[],cells,out,A,h,b,_=>by
  simp only[Ed,c9] at h;subst h;exact⟨A,rfl,b,λc b=>.inl b⟩
 | (i,v)::r,(z,V)::q,cells,out,A,h,b,d=>by
  obtain⟨rfl,y,d⟩:=d;simp only[Ed] at h;split at h
  ·rename_i off size l;split at h
   ·rename_i a;simp only[j0,af] at a;obtain⟨⟨m,o⟩,t⟩:=a;have j:v.cells≠[]:=by intro e;rw[e] at m;simp at m;omega
    have f:=y.cells' j;obtain⟨B,e,u,x⟩:=En k h (b.put f t) d;refine⟨B,?_,u,λc g=>?_⟩
    ·simp only[af4,k i off size l o];rw[ae,e];simp only[ab7,af,not_or];rw[f.1,b.1];omega
    ·rcases x c g with h|⟨p,k,b⟩
     ·rcases Wk _ _ _ c h with h|h
      ·grind
      ·exact .inr ⟨(i,v),by simp,PV.cells_nms c h⟩
     grind
   ·cases h
  ·cases h
 | [],_::_,_,_,_,_,_,d=>d.elim
 | _::_,[],_,_,_,_,_,d=>by simp[PR] at d
def Ry(a:List CK):D0 (a.map Y5)=[]:=by
 induction a with
 | nil=>rfl
 | cons c r b=>cases c<;>simp[D0,Y5,PV.nms,b]
def GM{P:Program}{t:Nat}{d:TypeDesc}(h:P.underlying t=some d):∃i,P.info? t=some i:=by unfold Program.underlying at h;grind
def SN{P:Program}{d t:Nat}{b:List CK}(h:OY P d t=some b):∃i,P.info? t=some i:=by
 cases d with
 | zero=>simp[OY] at h
 | succ d=>
  unfold OY at h;cases a:P.underlying t with
  | none=>simp[a] at h
  | some x=>exact GM a
def Ar6{P:Program}{d:Nat}:∀{e:List Field} {off:Nat} {g:List CK},ksF (OY P d) e off=some g->∀f∈e,∃i,P.info? f.type=some i
 | [],_,_,_,f,c=>by simp at c
 | x::r,off,g,h,f,c=>by
  simp only[ksF] at h;split at h
  ·split at h
   ·rename_i a j;split at h
    ·rename_i b k;rcases ab0.1 c with rfl|c
     ·exact SN j
     ·exact Ar6 k f c
    grind
   ·cases h
  ·cases h
def SU{a b:Type}{f:a->Option b}{g:a->b}:∀(l:List a),(∀x∈l,f x=some (g x))->l.mapM f=some (l.map g)
 | [],_=>rfl
 | x::r,h=>by
  rw[List.mapM_cons,h x (by simp),SU r (λy c=>h y (by simp[c]))];rfl
def A25{C:Cfg}{t:Nat}(h:0<Cn2 C t):∃i,C.P.info? t=some i/\i.size=Cn2 C t:=by
 unfold Cn2 at h ⊢;split at h
 ·rename_i a;obtain⟨i,b,c,_⟩:=N2 a;grind
 ·omega
def D33{C:Cfg}{t:Nat}(h:(C.ti t).ok=true):OY C.P 20 t=some (C.ti t).ks:=by simp only[Cfg.ti,Dv6] at h ⊢;grind
def Xr{C:Cfg}{t:Nat}{parts:List (Nat × PV)}{ps:Array (Nat × Value)}{k:PV->Option R}(h:BZ C t parts k=some r)(u:PR Γ (A3 H) w parts ps.toList)(N:∀p∈parts,∀c∈p.2.nms,c<H.length) :
  ∃v,k v=some r/\QV0 C.P Γ H w (Instr.build t ps) v:=by
 unfold BZ at h;split at h
 ·rename_i o;obtain⟨i,z,a,O,S,y⟩:=Hk (Γ:=Γ) (sh:=A3 H) (w:=w) o;split at h
  ·rename_i T q;obtain⟨F,D,rfl⟩:=DY q;dsimp only at h;split at h
   ·rename_i out l;have m:∀f∈F.toList,∃i,C.P.info? f.type=some i:=by
     have:=D33 o;unfold OY at this;rw[D] at this;exact Ar6 this
    let g:Field->Nat × Nat:=λf=>(f.offset,((C.P.info? f.type).map (·.size)).getD 0)
    have Q:F.toList.mapM (λf=>(C.P.info? f.type).map λi=>(f.offset,i.size))=some (F.toList.map g):=SU _ λf l=>by
     obtain⟨i,a⟩:=m f l;simp[g,a]
    obtain⟨B,I,x,J⟩:=En (place':=λj=>((F.toList.map g).toArray)[j]?) (λj off size A K=>by
     simp only[w6,aj9,s9] at A;obtain⟨f,l,M⟩:=A;simp only[ak3,af0] at M;obtain⟨rfl,rfl⟩:=M;obtain⟨i,a,L⟩:=A25 K;simp only[ac0,w6,l,ac9,g,a,aj2,L]) l y u
    refine⟨_,h,.mk0 (λc d=>?_) (VP.mk_agg x.1 x.2) λw'=>run_build w' t ps B ?_⟩
    ·rcases J c (by simpa[PV.nms] using d) with h|⟨p,u,d⟩
     ·rw[Ry] at h;simp at h
     ·exact N p u c d
    ·simp only[ak7,a,D,O,Q];exact I
   ·cases h
  ·rename_i n e q;dsimp only at h;split at h
   ·rename_i out l;have D:=Je q;have b:∃G,C.P.info? e=some G:=by
     have:=D33 o;unfold OY at this;rw[D] at this;dsimp only at this;split at this
     ·rename_i P;exact SN P
     ·cases this
    obtain⟨G,b⟩:=b;obtain⟨B,I,x,J⟩:=En (place':=λj=>some (j*G.size,G.size)) (λj off size A K=>by
     simp only[c9,af0] at A;obtain⟨rfl,rfl⟩:=A;obtain⟨i,a,L⟩:=A25 K;rw[b] at a;simp only[c9] at a;subst a;rw[L]) l y u
    refine⟨_,h,.mk0 (λc d=>?_) (VP.mk_agg x.1 x.2) λw'=>run_build w' t ps B ?_⟩
    ·rcases J c (by simpa[PV.nms] using d) with h|⟨p,u,d⟩
     ·rw[Ry] at h;simp at h
     ·exact N p u c d
    ·simp only[ak7,a,D,O,b];exact I
   ·cases h
  ·cases h
 ·cases h
def Ao1{C:Cfg}{f d:Nat}{x:PV}{X:Value}{k:PV->Option R}(hH:HR Γ H w)(h:RP C f d x H k=some r)(J:VP Γ (A3 H) w x X) :
  ∃v,k v=some r/\QV C.P Γ H w (convert f d X) v:=by
 unfold RP at h;split at h
 ·rename_i k1 kd Q n t u;obtain rfl:=J.inv_int;refine⟨_,h,.val rfl (.int _ _) λw' I=>?_⟩;have Y:=NY u;have hk:C.P.intKind d=kd:=by simp[Program.intKind,Y]
  have:=run_convert_int (P:=C.P) (w:=w') f d Q n (by rw[NY t];rfl) (by rw[hk];exact Y);rw[hk] at this;exact this
 ·rename_i l t u;obtain⟨s,rfl,rfl⟩:=J.inv_str;refine⟨_,h,.val rfl (.str s rfl) λw' I=>?_⟩;simp[convert,run_underlying (Fc t),run_underlying (Fc u)]
 ·rename_i k1 Q n t u;obtain rfl:=J.inv_int;refine⟨_,h,.val rfl (.str (am3 n) rfl) λw' I=>?_⟩;exact run_convert_int_string w' f d Q n (by rw[NY t];rfl) (Fc u)
 ·rename_i v e t u;split at h
  ·rename_i c D y;obtain⟨h3,h4⟩:=D6 h;obtain⟨a,cap,rfl,W,hm,A,q⟩:=(Zu (C:=C) hH J y).ex;have B:∀w':World,(convert f d (.slice a c.length cap)).run C.P w'=(Conv.bytesToString (.slice a c.length cap)).run C.P w':=
    λw'=>run_convert_bytes_string w' f d e a _ cap (L1 t) (NY D) (Fc u)
   have O:∀i (Z:i<c.length),∃n:Int,c[i]=[.int .u8 n]:=λi Z=>by
    have:=o0.1 h3 (c[i]) (p7 Z);unfold Qh at this;grind
   let p:List Int:=c.map λel=>(el.getD 0 .nilp).gI
   have F:(p.foldl (λr n=>r.push (ae6 n.toNat)) aj6).data.toList=c.map Nu:=by
    have key:∀(l:List Int) (b:ByteArray),(l.foldl (λr n=>r.push (ae6 n.toNat)) b).data.toList=b.data.toList++l.map λn=>ae6 n.toNat:=by
     intro l
     induction l with
     | nil=>intro b;simp
     | cons n l ih=>intro b;rw[aa7,ih];simp[ByteArray.push]
    rw[key];simp only[p,ac7];rfl
   refine⟨_,h4,.val rfl (.str (p.foldl (λr n=>r.push (ae6 n.toNat)) aj6) F) λw' I=>?_⟩;rw[B w'];cases a with
   | none=>
    have a0:=A rfl;have:c=[]:=o5.1 (by omega);subst this;rfl
   | some a=>
    have z:p.length=c.length:=by simp[p]
    rw[<-z];refine run_bytesToString w' a p.length cap p ?_;have:=run_loadCells_list (P:=C.P) w' a (p.map (ak8 .u8)) (λj v K=>?_)
    ·simpa using this
    ·have m:j<c.length:=by
      have:=(j5.1 K).1;simpa[p] using this
     have L:c≠[]:=by rintro rfl;simp at m
     obtain⟨g,o,sz,V,N,hc⟩:=q L;simp only[c9] at V;subst V;obtain⟨n,G⟩:=O j m;have M:sz=1:=by rw[<-N j m,G];rfl
     subst M;obtain⟨U,S,T⟩:=hc j m 0 (by rw[G];simp);simp only[G,s8] at T;have:=T.inv_int;subst this;rw[Nat.mul_one,ac8] at S;rw[O8];refine(LC I S).trans ?_;have:v = .int .u8 n:=by
      simp only[p,ac7,w6,j4 m,ac9,ak3,G,c9] at K;exact K.symm
     rw[this]
  ·cases h
 ·cases h
end
def Kq(C:Cfg):Option Shp->Prop
 | some (.arr _ e _ _)=>Ij C e=true
 | some _=>True
 | none=>False
structure Stp (C:Cfg) (Γ:Ctx) (H:List Blk) (w:World) (Φ:Nat->Prop) (Γ':Ctx) (H':List Blk) (w':World) (Φ':Nat->Prop):Prop where
 os:w'.os=w.os
 tape:w'.tape=w.tape
 output:w'.output=w.output
 size:w.heap.size<=w'.heap.size
 sub:∀g,Γ.St g->Γ'.St g
 stnew:∀g,Γ'.St g->Γ.St g\/w.heap.size<=g
 own:∀b g,Γ'.nm b=some g->(b<H.length/\Γ.nm b=some g)\/w.heap.size<=g
 foot:∀g,Φ' g->Φ g\/w.heap.size<=g
 frame:∀g,g<w.heap.size->(∀b,Γ.nm b≠some g)->¬ Φ g->w'.heap[g]? = w.heap[g]?
 yv:Γ'.yv=Γ.yv
 len:H.length<=H'.length
 keep:∀b,b<H.length->Kq C (A3 H b)->Γ'.nm b=Γ.nm b/\A3 H' b=A3 H b/\∀g,Γ.nm b=some g->w'.shape? g=w.shape? g
def Stp.refl{C:Cfg}{Γ:Ctx}{H:List Blk}{w:World}{Φ:Nat->Prop}(hH:HR Γ H w):Stp C Γ H w Φ Γ H w Φ where
 os:=rfl
 tape:=rfl
 output:=rfl
 size:=j7 _
 sub:=λ_ h=>h
 stnew:=λ_ h=>.inl h
 own:=λb g h=>.inl ⟨(hH.lt b g h).1,h⟩
 foot:=λ_ h=>.inl h
 frame:=λ_ _ _ _=>rfl
 yv:=rfl
 len:=j7 _
 keep:=λ_ _ _=>⟨rfl,rfl,λ_ _=>rfl⟩
def Stp.trans{C:Cfg}{Γ Γ' Γ'':Ctx}{H H' H'':List Blk}{w w' w'':World}{Φ Φ' Φ'':Nat->Prop}(h:Stp C Γ H w Φ Γ' H' w' Φ')(k:Stp C Γ' H' w' Φ' Γ'' H'' w'' Φ''):Stp C Γ H w Φ Γ'' H'' w'' Φ'' where
 os:=k.os.trans h.os
 tape:=k.tape.trans h.tape
 output:=k.output.trans h.output
 size:=ae1 h.size k.size
 sub:=λg hg=>k.sub g (h.sub g hg)
 stnew:=λg hg=>by
  rcases k.stnew g hg with hg|hg
  ·exact h.stnew g hg
  ·exact .inr (ae1 h.size hg)
 own:=λb g hg=>by
  rcases k.own b g hg with⟨_,hg⟩|hg
  ·exact h.own b g hg
  ·exact .inr (ae1 h.size hg)
 foot:=λg hg=>by
  rcases k.foot g hg with hg|hg
  ·exact h.foot g hg
  ·exact .inr (ae1 h.size hg)
 frame:=λg hg hn hp=>by
  rw[k.frame g (ad0 hg h.size) (λb hb=>by rcases h.own b g hb with⟨_,e⟩|e;exact hn b e;omega) (λhp'=>by rcases h.foot g hp' with e|e;exact hp e;omega),h.frame g hg hn hp]
 yv:=k.yv.trans h.yv
 len:=ae1 h.len k.len
 keep:=λb hb hf=>by
  obtain⟨e1,e2,e3⟩:=h.keep b hb hf;obtain⟨f1,f2,f3⟩:=k.keep b (ad0 hb h.len) (by rw[e2];exact hf);grind
structure HI {σ:Type} (I:σ->(Nat->Prop)->(Nat->Prop)->World->Prop):Prop where
 foot:∀s St Φ w,I s St Φ w->∀g,Φ g->g<w.heap.size/\¬St g
 mono:∀s St Φ w St' w',I s St Φ w->(∀g,St g->St' g)->(∀g,St' g->¬ Φ g)->(∀g,St' g->g<w'.heap.size)->(∀g,St g\/Φ g->w'.heap[g]? = w.heap[g]?)->w.heap.size<=w'.heap.size->
  w'.os=w.os->w'.tape=w.tape->w'.output=w.output->I s St' Φ w'
structure SI {σ:Type} (C:Cfg) (I:σ->(Nat->Prop)->(Nat->Prop)->World->Prop) (Γ:Ctx) (Φ:Nat->Prop) (st:St σ) (tmps:Array Value) (w:World):Prop where
 hr:HR Γ st.hp w
 sr:SR Γ st.hp w st.sl tmps
 g:GOK C Γ.St w
 inv:I st.s Γ.St Φ w
 dis:∀b g,Γ.nm b=some g->¬ Φ g
def Ctx.upd(Γ:Ctx)(b g:Nat):Ctx:={ Γ with nm:=λc=>if c=b then some g else Γ.nm c }
section
variable {L : Ctx} {H : List Blk} {w w' : World} {R : Type} {r : R} {C : Cfg}
def R0{b:Nat}{T:List Blk}(h:b<H.length):A3 (H++T) b=A3 H b:=by simp[A3,v8 h]
def J4{x:Blk}:A3 (H++[x]) H.length=some x.shp:=by simp[A3]
def TW{b c:Nat}{x:Blk}(h:b<H.length):A3 (H.set b x) c=if c=b then some x.shp else A3 H c:=by simp only[A3,ai4];grind
def Blk.kill_shp(b:Nat)(x:Blk):(x.kill b).shp=x.shp:=by cases x<;>rfl
def OA(b c:Nat):A3 (H.map (Blk.kill b)) c=A3 H c:=by
 simp only[A3,w6,aj9]
 congr 1
 funext x
 exact Blk.kill_shp b x
def I3{o:Obj}(a:w'.heap=w.heap.push o){g:Nat}(h:g<w.heap.size):w'.heap[g]? = w.heap[g]?:=by grind
def I2{o:Obj}(a:w'.heap=w.heap.push o):w'.heap[w.heap.size]? = some o:=by grind
def F9{g:Nat}(h:w'.heap[g]? = w.heap[g]?):w'.shape? g=w.shape? g:=by simp[aa9,h]
def Nm{x:Blk}{o:Obj}(d:HR L H w)(e:w'.heap=w.heap.push o):Bg L (A3 H) w (L.upd H.length w.heap.size) (A3 (H++[x])) w' (· < H.length) where
 st:=λg c=>I3 e (d.stlt g c)
 sub:=λ_ h=>h
 nm:=λb a=>by simp only[Ctx.upd];rw[ae (by omega)]
 shp:=λb a=>R0 a
 hs:=λb g a c=>F9 (I3 e (d.lt b g c).2.1)
 yv:=rfl
def Ct2{x:Blk}{o:Obj}(d:HR L H w)(m:w'.heap=w.heap.push o)(u:BR (L.upd H.length w.heap.size) (A3 (H++[x])) w' H.length x)(p:∀c∈x.nms,c<H.length+1) :
  HR (L.upd H.length w.heap.size) (H++[x]) w':=by
 have M:=Nm (x:=x) d m;have t:w'.heap.size=w.heap.size+1:=by rw[m];simp
 refine⟨λb n g i j=>?_,λb g h=>?_,λg l=>?_,λb k c f=>?_,λb k=>?_⟩
 ·simp only[Ctx.upd] at i j;split at i<;>split at j
  ·omega
  ·simp only[c9] at i;have:=(d.lt n g j).2.1;omega
  ·simp only[c9] at j;have:=(d.lt b g i).2.1;omega
  ·exact d.inj b n g i j
 ·simp only[Ctx.upd] at h;split at h
  ·simp only[c9] at h;subst h;refine⟨by simp;omega,by omega,λq=>?_⟩;have:=d.stlt _ q;omega
  ·have:=d.lt b g h;exact⟨by simp;omega,by omega,this.2.2⟩
 ·have:=d.stlt g l;omega
 ·rw[j9,aa5];rw[j9,aa5] at k;by_cases e:b=H.length
  ·subst e;simp at f;exact p c f
  ·have a:b<H.length:=by omega
   rw[w8 a] at f;have:=d.nms b a c f;omega
 ·rw[j9,aa5] at k;by_cases e:b=H.length
  ·subst e;simpa using u
  ·have a:b<H.length:=by omega
   rw[w8 a];exact(d.blk b a).mono M (M.nm b a) (λg l=>I3 m (d.lt b g l).2.1) (λc f=>d.nms b a c f)
def B92{x:Blk}{o:Obj}{f:Nat->Prop}(e:HR L H w)(d:w'.heap=w.heap.push o)(i:w'.os=w.os)(j:w'.tape=w.tape)(k:w'.output=w.output) :
  Stp C L H w f (L.upd H.length w.heap.size) (H++[x]) w' f where
 os:=i
 tape:=j
 output:=k
 size:=by rw[d];simp
 sub:=λ_ h=>h
 stnew:=λ_ h=>.inl h
 own:=λb g h=>by
  simp only[Ctx.upd] at h;split at h
  ·grind
  ·exact .inl ⟨(e.lt b g h).1,h⟩
 foot:=λ_ h=>.inl h
 frame:=λg c _ _=>I3 d c
 yv:=rfl
 len:=by simp
 keep:=λb a l=>by
  have M:=Nm (x:=x) e d;exact⟨M.nm b a,M.shp b a,λg c=>M.hs b g a c⟩
def Yv(x:Blk)(c:HR L H w):Bg L (A3 H) w L (A3 (H++[x])) w (· < H.length) where
 st:=λ_ _=>rfl
 sub:=λ_ h=>h
 nm:=λ_ _=>rfl
 shp:=λb a=>R0 a
 hs:=λ_ _ _ _=>rfl
 yv:=rfl
def Be0{x:Blk}(f:HR L H w)(l:x.nms=[])(j:BR L (A3 (H++[x])) w H.length x):HR L (H++[x]) w:=by
 have M:=Yv x f;refine⟨f.inj,λb g h=>?_,f.stlt,λb j c i=>?_,λb d=>?_⟩
 ·have:=f.lt b g h;grind
 ·rw[j9,aa5] at j ⊢;by_cases e:b=H.length
  ·grind
  ·have d:b<H.length:=by omega
   rw[w8 d] at i;have:=f.nms b d c i;omega
 ·rw[j9,aa5] at d;by_cases e:b=H.length
  ·grind
  ·have a:b<H.length:=by omega
   rw[w8 a];exact(f.blk b a).mono M rfl (λg k=>rfl) (λc i=>f.nms b a c i)
def ZR{x:Blk}{a:Nat->Prop}(c:HR L H w):Stp C L H w a L (H++[x]) w a where
 os:=rfl
 tape:=rfl
 output:=rfl
 size:=j7 _
 sub:=λ_ h=>h
 stnew:=λ_ h=>.inl h
 own:=λb g h=>.inl ⟨(c.lt b g h).1,h⟩
 foot:=λ_ h=>.inl h
 frame:=λ_ _ _ _=>rfl
 yv:=rfl
 len:=by simp
 keep:=λb d e=>⟨rfl,R0 d,λ_ _=>rfl⟩
def GOK.mono{St St':Nat->Prop}(h:GOK C St w)(hs:∀g,St g->w'.heap[g]? = w.heap[g]?)(hsub:∀g,St g->St' g):GOK C St' w':=
 ⟨λg k zs hg=>by
  obtain⟨h1,e,x,h2⟩:=h.1 g k zs hg;exact⟨hsub g h1,e,x,by rw[hs g h1];exact h2⟩,λg hg=>by
  obtain⟨h1,m,h2⟩:=h.2 g hg;exact⟨hsub g h1,m,by rw[<-h2];simp[ad7,hs g h1]⟩⟩
def Stp.st{Φ Φ':Nat->Prop}{Γ':Ctx}{H':List Blk}(h:Stp C L H w Φ Γ' H' w' Φ')(hH:HR L H w)(hΦ:∀g,Φ g->¬L.St g)(g:Nat)(hg:L.St g):w'.heap[g]? = w.heap[g]?:=
 h.frame g (hH.stlt g hg) (λb hb=>(hH.lt b g hb).2.2 hg) (λhp=>hΦ g hp hg)
def SI.step{σ:Type}{I:σ->(Nat->Prop)->(Nat->Prop)->World->Prop}(hI:HI I){Φ:Nat->Prop}{st:St σ}{tmps:Array Value}{Γ':Ctx}{H':List Blk}(S:SI C I L Φ st tmps w)(h:Stp C L st.hp w Φ Γ' H' w' Φ)
  (hΦ:∀g,Φ g->w'.heap[g]? = w.heap[g]?) (hr:HR Γ' H' w') {sl':List PV} {tmps':Array Value} (sr:SR Γ' H' w' sl' tmps') :
  SI C I Γ' Φ { sl:=sl',hp:=H',s:=st.s } tmps' w':=by
 have hf:=hI.foot _ _ _ _ S.inv;have hst:=h.st S.hr (λg hg=>(hf g hg).2);refine⟨hr,sr,S.g.mono hst h.sub,hI.mono _ _ _ _ _ _ S.inv h.sub (λg hg hp=>?_) hr.stlt (λg hg=>?_) h.size h.os h.tape h.output,λb g hb hp=>?_⟩
 ·rcases h.stnew g hg with hg|hg
  ·exact(hf g hp).2 hg
  ·have:=(hf g hp).1;omega
 ·rcases hg with hg|hg
  ·exact hst g hg
  ·exact hΦ g hg
 ·rcases h.own b g hb with⟨_,e⟩|e
  ·exact S.dis b g e hp
  ·have:=(hf g hp).1;omega
def SR.put{sl:List PV}{tmps:Array Value}(h:SR L H w sl tmps)(o:Oper){v:PV}{V:Value}(hv:VP L (A3 H) w v V)(hn:∀c∈v.nms,c<H.length){ds:List Deferred} :
  SR L H w (Db o.dst v sl) (({ tmps:=tmps,defers:=ds }:Act).put o.dst V).tmps:=by
 cases hd:o.dst with
 | none=>exact h
 | some d=>
  simp only[Db,Act.put];refine⟨by simp[h.size],λc hc=>?_,λi hi=>?_⟩
  ·obtain⟨j,hj,hc⟩:=C7.1 hc;rw[x3] at hc;split at hc
   ·exact hn c hc
   ·exact h.nms c (C7.2 ⟨j,by simpa using hj,hc⟩)
  ·have hi':i<sl.length:=by simpa using hi
   rw[x3];by_cases e:d=i
   ·subst e;rw[ac rfl];exact⟨V,by rw[y9,ac rfl,ac (by rw[h.size];exact hi')],hv⟩
   ·rw[ae e];obtain⟨U,e1,e2⟩:=h.slot i hi';exact⟨U,by rw[y9,ae e];exact e1,e2⟩
end
section
variable {Γ : Ctx} {H : List Blk} {w : World} {R : Type} {r : R} {C : Cfg}
abbrev noΦ:Nat->Prop:=λ_=>False
def WV(C:Cfg)(Γ:Ctx)(H:List Blk)(w:World)(sl:List PV)(a:Array Value)(m:Sem Value)(v:PV)(b:List PV)(H':List Blk):Prop:=
 ∃V w' Γ',m.run C.P w = .ok V w'/\Stp C Γ H w noΦ Γ' H' w' noΦ/\HR Γ' H' w'/\(SR Γ H w sl a->SR Γ' H' w' b a)/\VP Γ' (A3 H') w' v V/\∀c∈v.nms,c<H'.length
def SR.grow{Γ':Ctx}{T:List Blk}{w':World}{sl:List PV}{tmps:Array Value}(M:Bg Γ (A3 H) w Γ' (A3 (H++T)) w' (· < H.length))(h:SR Γ H w sl tmps):SR Γ' (H++T) w' sl tmps:=
 h.mono M λc hc=>⟨h.nms c hc,by rw[j9];have:=h.nms c hc;omega⟩
def CR.mono{Γ':Ctx}{H':List Blk}{w':World}{ok:Nat->Prop}{l:List PV}{A:Array Value}(M:Bg Γ (A3 H) w Γ' (A3 H') w' ok)(h:CR Γ (A3 H) w l A)(hn:∀c∈D0 l,ok c):CR Γ' (A3 H') w' l A:=
 ⟨h.1,λj hj=>by
  obtain⟨U,e,k⟩:=h.2 j hj;exact⟨U,e,k.mono M λc hc=>hn c (C7.2 ⟨j,hj,hc⟩)⟩⟩
def Fq{m:Sem Value}{x:Blk}{o:Obj}{w':World}{V:Value}{v:PV}{sl:List PV}{a:Array Value}(b:HR Γ H w)(h:m.run C.P w = .ok V w')(d:w'.heap=w.heap.push o)(e:w'.os=w.os)(f:w'.tape=w.tape)(g:w'.output=w.output)
  (k:BR (Γ.upd H.length w.heap.size) (A3 (H++[x])) w' H.length x) (i:∀c∈x.nms,c<H.length+1) (j:VP (Γ.upd H.length w.heap.size) (A3 (H++[x])) w' v V) (hvn:∀c∈v.nms,c<H.length+1) :
  WV C Γ H w sl a m v sl (H++[x]):=
 ⟨V,w',_,h,B92 b d e f g,Ct2 b d k i,SR.grow (Nm b d),j,by simpa using hvn⟩
def Bg.trans{Γ1 Γ2 Γ3:Ctx}{s1 s2 s3:Nat->Option Shp}{w1 w2 w3:World}{ok ok':Nat->Prop}(M:Bg Γ1 s1 w1 Γ2 s2 w2 ok)(N:Bg Γ2 s2 w2 Γ3 s3 w3 ok')(hok:∀b,ok b->ok' b):Bg Γ1 s1 w1 Γ3 s3 w3 ok where
 st:=λg hg=>(N.st g (M.sub g hg)).trans (M.st g hg)
 sub:=λg hg=>N.sub g (M.sub g hg)
 nm:=λb hb=>(N.nm b (hok b hb)).trans (M.nm b hb)
 shp:=λb hb=>(N.shp b (hok b hb)).trans (M.shp b hb)
 hs:=λb g hb hg=>(N.hs b g (hok b hb) ((M.nm b hb).trans hg)).trans (M.hs b g hb hg)
 yv:=N.yv.trans M.yv
def Bg.refl{Γ:Ctx}{s:Nat->Option Shp}{w:World}{ok:Nat->Prop}:Bg Γ s w Γ s w ok:=
 ⟨λ_ _=>rfl,λ_ h=>h,λ_ _=>rfl,λ_ _=>rfl,λ_ _ _ _=>rfl,rfl⟩
def W5(f:Nat->Nat × Nat):∀(cells:List PV) (i:Nat) (H:List Blk) (d:List Value),HR Γ H w->cells.length=d.length->(∀j (h:j<cells.length),∃U,d[j]? = some U/\VP Γ (A3 H) w (cells[j]) U)->(∀c∈D0 cells,c<H.length)->
  ∃T,(G7 f cells i H).2=H++T/\HR Γ (H++T) w/\Stp C Γ H w noΦ Γ (H++T) w noΦ/\Bg Γ (A3 H) w Γ (A3 (H++T)) w (· < H.length)/\(G7 f cells i H).1.length=d.length/\
   (∀j (h:j<(G7 f cells i H).1.length),∃U,d[j]? = some U/\VP Γ (A3 (H++T)) w ((G7 f cells i H).1[j]) U)/\∀c∈D0 (G7 f cells i H).1,c<(H++T).length
 | [],i,H,d,g,z,_,_=>⟨[],by simp[G7],by simpa using g,by simpa using Stp.refl g,by simpa using Bg.refl,by simpa[G7] using z,by simp[G7],by simp[G7,D0]⟩
 | v::cells,i,H,[],g,z,_,_=>by simp at z
 | v::cells,i,H,A::d,g,z,a,L=>by
  have I:VP Γ (A3 H) w v A:=by
   obtain⟨U,e,k⟩:=a 0 (by simp);grind
  have q:cells.length=d.length:=by simpa using z
  have o:∀j (h:j<cells.length),∃U,d[j]? = some U/\VP Γ (A3 H) w (cells[j]) U:=λj p=>by
   obtain⟨U,e,k⟩:=a (j+1) (by simpa using p);grind
  have G:∀c∈v.nms,c<H.length:=λc h=>L c (by simp only[D0,k9];exact .inl h)
  have l:∀c∈D0 cells,c<H.length:=λc h=>L c (by simp only[D0,k9];exact .inr h)
  by_cases n:v = .nsl
  ·subst n;cases B:(ad5 (f i).1 0&&al0 0 (f i).2) with
   | true=>
   have key:G7 f (.nsl::cells) i H=(.s (.sl true true (f i).2 [])::(G7 f cells (i+1) H).1,(G7 f cells (i+1) H).2):=by
    show cond (ad5 (f i).1 0&&al0 0 (f i).2) _ _=_;rw[B];rfl
   rw[key];obtain⟨T,t,u,x,m,y,K,D⟩:=W5 f cells (i+1) H d g q o l;refine⟨T,t,u,x,m,by simpa using y,λj p=>?_,λc a=>D c (by simpa[D0,PV.nms] using a)⟩;rcases j with _|j
   ·exact⟨A,rfl,by rw[I.inv_nsl];exact .s _ _ (.nil true _)⟩
   ·grind
   | false=>
   have F:HR Γ (H++[.arr true (f i).1 (f i).2 []]) w:=Be0 g rfl (.inl ⟨rfl,rfl⟩);have J:=Yv (.arr true (f i).1 (f i).2 []) g;obtain⟨T,t,u,x,m,y,K,D⟩:=W5 f cells (i+1) (H++[.arr true (f i).1 (f i).2 []]) d F q (λj p=>by
    obtain⟨U,e,k⟩:=o j p;exact⟨U,e,k.mono J λc a=>l c (C7.2 ⟨j,p,a⟩)⟩) (λc a=>by have:=l c a;simp;omega)
   have key:G7 f (.nsl::cells) i H=(.fl H.length::(G7 f cells (i+1) (H++[.arr true (f i).1 (f i).2 []])).1,(G7 f cells (i+1) (H++[.arr true (f i).1 (f i).2 []])).2) :=by
    show cond (ad5 (f i).1 0&&al0 0 (f i).2) _ _=_;rw[B];rfl
   rw[key];rw[ac2] at t u x m D;have M:=m;refine⟨[.arr true (f i).1 (f i).2 []]++T,t,u,(ZR g).trans x,J.trans m (λb N=>by simp;omega),by simpa using y,λj p=>?_,λc a=>?_⟩
   ·cases j with
    | zero=>
     refine⟨A,rfl,?_⟩;rw[I.inv_nsl];refine .flv _ (f i).1 (f i).2 ?_;rw[<-ac2,R0 (by simp),J4];rfl
    | succ j=>
     grind
   ·simp only[D0,k9,PV.nms,List.mem_singleton] at a;grind
  ·have key:G7 f (v::cells) i H=(v::(G7 f cells (i+1) H).1,(G7 f cells (i+1) H).2):=by
    cases v<;>first|rfl|exact absurd rfl n
   rw[key];obtain⟨T,t,u,x,m,y,K,D⟩:=W5 f cells (i+1) H d g q o l;refine⟨T,t,u,x,m,by simpa using y,λj p=>?_,λc a=>?_⟩
   ·cases j with
    | zero=>exact⟨A,rfl,I.mono m G⟩
    | succ j=>
     grind
   ·simp only[D0,k9] at a;grind
def X5(a:Nat):∀(n:Nat) (l:List SV),(U4 a n l).length=n
 | 0,_=>rfl
 | n+1,l=>by simp[U4,X5 a n]
def Co(a:Nat):∀(n:Nat) (l:List SV),l.length=n*a->∀i (h:i<(U4 a n l).length),(U4 a n l)[i].length=a/\∀j (c:j<(U4 a n l)[i].length),∃d:i*a+j<l.length,(U4 a n l)[i][j]=l[i*a+j]
 | 0,_,_,i,h=>by simp[U4] at h
 | n+1,l,hl,i,h=>by
  have k:a<=l.length:=by rw[hl,p6];omega
  cases i with
  | zero=>
   refine⟨by simp[U4];omega,λj b=>?_⟩;simp[U4] at b;exact⟨by omega,by simp[U4]⟩
  | succ i=>
   have c:i<(U4 a n (l.drop a)).length:=by simpa[U4] using h
   obtain⟨f,g⟩:=Co a n (l.drop a) (by rw[aj0,hl,p6];omega) i c;refine⟨by simpa[U4] using f,λj b=>?_⟩;obtain⟨d,e⟩:=g j (by simpa[U4] using b);rw[aj0] at d;refine⟨by rw[p6];omega,?_⟩;have m:(U4 a (n+1) l)[i+1][j]=(U4 a n (l.drop a))[i][j]'(by simpa[U4] using b):=rfl;grind
def T2{sh:Nat->Option Shp}:∀{l:List PV} {a:List SV} {As:List Value},Lc l=some a->l.length=As.length->(∀j (h:j<l.length),∃U,As[j]? = some U/\VP Γ sh w (l[j]) U)->
  a.length=As.length/\∀j (h:j<a.length),∃U,As[j]? = some U/\VS Γ.St w (a[j]) U
 | [],a,As,h,c,_=>by
  simp only[Lc,c9] at h;grind
 | v::l,a,[],h,c,_=>by simp at c
 | v::l,a,A::As,h,c,d=>by
  simp only[Lc] at h;split at h
  ·rename_i x y b i;simp only[c9] at h;subst h;obtain⟨g,m⟩:=T2 (As:=As) i (by simpa using c) (λj f=>by
    obtain⟨U,e,k⟩:=d (j+1) (by simpa using f);exact⟨U,by simpa using e,by simpa using k⟩)
   refine⟨by simp[g],λj f=>?_⟩;cases j with
   | zero=>
    obtain⟨U,e,k⟩:=d 0 (by simp);refine⟨U,e,?_⟩;simp only[s8] at k ⊢;unfold PV.sv? at b;split at b
    ·simp only[c9] at b;subst b;exact k.inv_s
    ·simp only[c9] at b;subst b;rw[k.inv_nsl];exact .nil _ _
    grind
   | succ j=>
    grind
  ·cases h
def BR.row{sh:Nat->Option Shp}{w':World}{b g e sz n:Nat}{z:Bool}{vs:List SV}{A:Array Value}{rest:Array Value}{Γ':Ctx}(hg:Γ'.nm b=some g)(hh:w'.heap[g]? = some (.cells (A++rest) e (0,0)))(hz:z=true->n≠0)
  (hl:vs.length=n*sz) (hA:vs.length=A.size) (hc:∀j (h:j<vs.length),∃U,A[j]? = some U/\VS Γ'.St w' (vs[j]) U):BR Γ' sh w' b (.arr z e sz (U4 sz n vs)):=by
 refine .inr ⟨λh=>?_,g,_,hg,hh,?_,λi hi=>(Co sz n vs hl i hi).1,λi hi j hj=>?_⟩
 ·have:=congrArg ag7 h.2;rw[X5] at this;exact hz h.1 this
 ·rw[X5,ai2];omega
 ·obtain⟨h2,e⟩:=(Co sz n vs hl i hi).2 j hj;obtain⟨U,e1,k⟩:=hc _ h2;refine⟨U,?_,by rw[e];exact k⟩;rw[ac3 (by omega)];exact e1
def KP{e:Nat}{V:Value}{cells:List PV}{k:PV->List Blk->Option R}{sl:List PV}{tmps:Array Value}{m:Sem Value}(o:HR Γ H w)(h:GI C e cells H k=some r)(b:CR Γ (A3 H) w cells V.cells)(L:∀c∈D0 cells,c<H.length)
  (u:m.run C.P w = .ok (.pointer (some ⟨w.heap.size,0,none⟩)) (w.alloc (.cells V.cells e))) :
  ∃v H',k v H'=some r/\WV C Γ H w sl tmps m v sl H':=by
 unfold GI at h;split at h
 ·rename_i N;split at h
  ·rename_i n t O;split at h
   ·rename_i Z p;split at h
    ·rename_i f;refine⟨_,_,h,?_⟩;obtain⟨i,l⟩:=T2 (As:=V.cells.toList) p (by simpa using b.1.symm) (λj d=>by
      obtain⟨U,e,k⟩:=b.2 j d;exact⟨U,by simpa using e,k⟩)
     have a:(w.alloc (.cells V.cells e)).heap=w.heap.push (.cells V.cells e):=rfl;refine Fq o u a rfl rfl rfl (BR.row (g:=w.heap.size) (A:=V.cells) (rest:=#[]) (by simp[Ctx.upd]) (by rw[I2 a];simp) (by simp) ?_ (by simpa using i) (λj d=>?_)) (by simp[Blk.nms]) ?_ (by simp[PV.nms])
     ·rw[i,p4,b.1,f]
     ·obtain⟨U,e,k⟩:=l j d;exact⟨U,by simpa using e,k.mono (λg K=>I3 a (o.stlt g K)) (λ_ h=>h)⟩
     ·have:=VP.ptrA (Γ:=Γ.upd H.length w.heap.size) (w:=w.alloc (.cells V.cells e)) (sh:=A3 (H++[Blk.arr false e (C.ti t).ks.length (U4 (C.ti t).ks.length n Z)])) H.length 0 0 w.heap.size _ _ _ _ J4 (by simp[Ctx.upd]);simpa using this
    ·cases h
   ·cases h
  ·refine⟨_,_,h,?_⟩;obtain⟨T,i,l,z,B,D,F,q⟩:=W5 (C:=C) (C.nilT e) cells 0 H V.cells.toList o (by simpa using b.1.symm) (λj d=>by
    obtain⟨U,e,k⟩:=b.2 j d;exact⟨U,by simpa using e,k⟩) L
   rw[i];have a:(w.alloc (.cells V.cells e)).heap=w.heap.push (.cells V.cells e):=rfl;have M:=Nm (x:=.box (G7 (C.nilT e) cells 0 H).1) l a;have key:WV C Γ (H++T) w sl tmps m (.ptr (H++T).length 0 0) sl ((H++T)++[.box (G7 (C.nilT e) cells 0 H).1]):=by
    refine Fq l u a rfl rfl rfl ⟨w.heap.size,V.cells,e,by simp[Ctx.upd],by rw[I2 a],by simpa using D.symm,λj d=>?_⟩ (λc b=>?_) ?_ (by simp[PV.nms])
    ·obtain⟨U,G,I⟩:=F j d;exact⟨U,by simpa using G,I.mono M λc b=>q c (C7.2 ⟨j,d,b⟩)⟩
    ·have:=q c b;omega
    ·exact .ptrB _ 0 w.heap.size J4 (by simp[Ctx.upd])
   obtain⟨y,w',Γ',P,Q,S,W,X,Y⟩:=key;exact⟨y,w',Γ',P,z.trans Q,S,λJ=>W (SR.grow B J),X,Y⟩
 ·cases h
end
section
variable {Y : Ctx} {H : List Blk} {w : World} {R : Type} {r : R} {C : Cfg}
def Ap9{b:Type}(l:List b):∀(n j:Nat),j<n*l.length->((o9 n l).flatten)[j]? = l[j % l.length]?
 | 0,j,h=>by simp at h
 | n+1,j,h=>by
  rw[List.replicate_succ,ae5];by_cases a:j<l.length
  ·rw[v8 a,aj1 a]
  ·rw[x6 (by omega),Ap9 l n (j-l.length) (by rw[p6] at h;omega),<-Nat.mod_eq_sub_mod (by omega)]
def Fu{a:Type}(l:List a)(n:Nat):((o9 n l).flatten).length=n*l.length:=by simp
def As3{z:Array Value}{n j:Nat}{U:Value}(b:j<n)(a:0<z.size)(h:z[j % z.size]? = some U):(madeCells z n)[j]? = some U:=by
 have c:j % z.size<z.size:=aj8 _ a;have:z[j % z.size]! = U:=by grind
 simp[madeCells,b,this]
def ZP{sh:Nat->Option Shp}{a:List PV}{z:Array Value}(h:CR Y sh w a z)(c:0<a.length)(n:Nat):CR Y sh w ((o9 n a).flatten) (madeCells z (n*a.length)):=by refine⟨by rw[size_madeCells,Fu],λj b=>?_⟩;rw[Fu] at b;have d:j % a.length<a.length:=aj8 _ c;obtain⟨U,e,k⟩:=h.2 _ d;refine⟨U,As3 b (by rw[h.1];exact c) (by rw[h.1];exact e),?_⟩;have:=Ap9 a n j b;grind
def Ck{P:Program}(w:World){t e:Nat}(len:Nat)(parts:Array (Nat × Value))(cells:Array Value){a:TypeInfo}{z:Value}
  (g:P.underlying t=some (.slice e)) (c:P.info? e=some a) (k:a.zero=some z) (d:len*a.size<=16777216)
  (h:af4 (λi=>some (i*a.size,a.size)) (madeCells z.cells (len*a.size)) parts.toList=some cells) :
  (y7 t len parts).run P w = .ok (.slice (some ⟨w.heap.size,0,none⟩) len len) (w.alloc (.cells cells e)):=by
 have j:¬len*a.size > 2 ^ 24:=by omega
 by_cases b:len*a.size=0
 ·rw[b] at h;have f:af4 (λi=>some (i*a.size,a.size)) #[] parts.toList=some cells:=by simpa[madeCells,ai1] using h
  simp[y7,run_underlying g,sizeOf,typeInfo,c,b,f,newRow,ai1]
 ·have f:af4 (λi=>some (i*a.size,a.size)) ((Array.range (len*a.size)).map (z.cells[· % z.cells.size]!)) parts.toList=some cells:=h;simp[y7,run_underlying g,sizeOf,typeInfo,zeroValue,c,k,j,b,f,newRow]
def Jp{t len:Nat}{parts:List (Nat × PV)}{ps:Array (Nat × Value)}{k:PV->List Blk->Option R}{sl:List PV}{tmps:Array Value}(G:HR Y H w)(h:Cm C t len parts H k=some r)(S:PR Y (A3 H) w parts ps.toList) :
  ∃v H',k v H'=some r/\WV C Y H w sl tmps (y7 t len ps) v sl H'/\∃V o,(y7 t len ps).run C.P w = .ok V (w.alloc o):=by
 unfold Cm at h;split at h
 ·rename_i e x;dsimp only at h;split at h
  ·rename_i a;simp only[j0,af] at a;obtain⟨⟨a,b⟩,K⟩:=a;split at h
   ·rename_i out J;split at h
    ·rename_i vs y;refine⟨_,_,h,?_⟩;obtain⟨i,z,Q,T,f,q⟩:=Hk (Γ:=Y) (sh:=A3 H) (w:=w) a;obtain⟨_,_,_,L⟩:=N2 a;have u:0<(C.ti e).ks.length:=by rename_i h1 h2;omega
     have I:=ZP q (by simpa using u) len;rw[o6] at I;obtain⟨B,D,n,X⟩:=En (place':=λj=>some (j*i.size,i.size)) (λj off size m Z=>by rw[f];exact m) J I S;obtain⟨F,N⟩:=T2 (As:=B.toList) y (by simpa using n.1.symm) (λj m=>by
      obtain⟨U,e,k⟩:=n.2 j m;exact⟨U,by simpa using e,k⟩)
     have M:=Ck (P:=C.P) w len ps B (L1 x) Q T (by rw[f];exact b) (by rw[f] at D ⊢;exact D);refine⟨?_,_,_,M⟩;have c:(w.alloc (.cells B e)).heap=w.heap.push (.cells B e):=rfl;have l:B.size=len*(C.ti e).ks.length:=by
      have d:∀{place:Nat->Option (Nat × Nat)} {ps:List (Nat × PV)} {cells out:List PV},Ed place cells ps=some out->out.length=cells.length:=by
       intro place ps
       induction ps with
       | nil=>intro cells out h;simp only[Ed,c9] at h;rw[h]
       | cons p ps W=>
        intro cells out h;obtain⟨i,v⟩:=p;simp only[Ed] at h;split at h
        ·split at h
         ·rw[W h,E5]
         grind
        grind
      rw[n.1,d J,Fu,o6]
     refine Fq G M c rfl rfl rfl (BR.row (g:=w.heap.size) (A:=B) (rest:=#[]) (by simp[Ctx.upd]) (by rw[I2 c];simp) (by simp) ?_ (by simpa using F) (λj m=>?_)) (by simp[Blk.nms]) ?_ (by simp[PV.nms])
     ·rw[F,p4,l]
     ·obtain⟨U,e,k⟩:=N j m;exact⟨U,by simpa using e,k.mono (λg O=>I3 c (G.stlt g O)) (λ_ h=>h)⟩
     ·refine .fl H.length w.heap.size false e (C.ti e).ks.length len len ?_ (by simp) (by simp[Ctx.upd]) (j7 _) (by simp only[maxLen];omega) ?_
      ·rw[J4];simp[Blk.shp,X5]
      ·simp only[aa9,I2 c,l]
    ·cases h
   ·cases h
  ·cases h
 ·cases h
def DK{t:Nat}{l c:PV}{L N:Value}{k:PV->List Blk->Option R}{sl:List PV}{tmps:Array Value}(I:HR Y H w)(h:Eu C t l c H k=some r)(hl:VP Y (A3 H) w l L)(hc:VP Y (A3 H) w c N) :
  ∃v H',k v H'=some r/\WV C Y H w sl tmps (Instr.makeSlice t L N) v sl H':=by
 unfold Eu at h;split at h
 ·rename_i e k1 n k2 m B;obtain rfl:=hl.inv_int;obtain rfl:=hc.inv_int;split at h
  ·rename_i y;split at h
   ·rename_i z' D;obtain⟨G,V⟩:=D6 h;simp only[j0,af,G0] at G;obtain⟨⟨W,X⟩,h5⟩:=G;refine⟨_,_,V,?_⟩;obtain⟨i,d,z,M,hd,Q,p,a0,O,a1,K,f⟩:=Ke y;obtain⟨i',z2,q,u,a2,x⟩:=Hk (Γ:=Y) (sh:=A3 H) (w:=w) y;rw[M] at q;simp only[c9] at q;subst q;rw[Q] at u;simp only[c9] at u;subst u;have A:(i.bytes:Int)*m<=281474976710656:=by
     have Z:m<=68719476736:=by omega
     have h7:(i.bytes:Int)<=512:=by omega
     have h8:(i.bytes:Int)*m<=512*68719476736:=Int.mul_le_mul h7 Z (by omega) (by omega);omega
    have hr:=run_make (P:=C.P) w t e i z (L1 B) M Q k1 k2 n m W X A (by omega);obtain⟨S,T⟩:=T2 (As:=z.cells.toList) D (by simpa using x.1.symm) (λj hj=>by
     obtain⟨U,e,k⟩:=x.2 j hj;exact⟨U,by simpa using e,k⟩)
    have F:z'.length=i.size:=by rw[S,p4,p]
    have o:(w.alloc (.cells (madeCells z.cells (m.toNat*i.size)) e)).heap=w.heap.push (.cells (madeCells z.cells (m.toNat*i.size)) e):=rfl;refine Fq I hr o rfl rfl rfl (.inr ⟨by simp,w.heap.size,_,by simp[Ctx.upd],I2 o,?_,λa J=>?_,λa J b A=>?_⟩) (by simp[Blk.nms]) ?_ (by simp[PV.nms])
    ·rw[ag5,size_madeCells,<-f];exact j8 _ (by omega)
    ·rw[af6,F,f]
    ·rw[ag5] at J;simp only[af6] at A ⊢;obtain⟨U,e,k⟩:=T b A;refine⟨U,As3 ?_ (by omega) ?_,k.mono (λg hg=>I3 o (I.stlt g hg)) (λ_ h=>h)⟩
     ·have:(a+1)*i.size<=m.toNat*i.size:=j8 _ (by omega);rw[p6] at this;rw[<-f];omega
     ·rw[<-f,<-p,Nat.add_comm,Nat.add_mul_mod_self_right,aj1 (by omega)];simpa using e
    ·refine .fl H.length w.heap.size false e (C.ti e).ks.length n.toNat m.toNat ?_ (by simp) (by simp[Ctx.upd]) (by omega) (by simp only[maxLen];omega) ?_
     ·rw[J4];simp[Blk.shp]
     ·simp only[aa9,I2 o,size_madeCells];rw[f]
   ·cases h
  ·cases h
 ·cases h
def C40{t:Nat}{s:ByteArray}{sl:List PV}{tmps:Array Value}(b:HR Y H w)(c:C.P.underlying t=some .string) :
  WV C Y H w sl tmps (Instr.range t (.string s)) (.it H.length) sl (H++[.iter s.data.toList 0]):=by
 have a:(w.iter s 0).heap=w.heap.push (.stringIter s 0):=rfl;refine Fq b (run_range_string w t s c) a rfl rfl rfl ⟨w.heap.size,s,by simp[Ctx.upd],I2 a,rfl⟩ (by simp[Blk.nms]) ?_ (by simp[PV.nms]);exact .it _ _ (by rw[J4];rfl) (by simp[Ctx.upd])
def FO{P:Program}{g pos ty:Nat}{s:ByteArray}(a:w.heap[g]? = some (.stringIter s pos)) :
  (af5 (.pointer (some ⟨g,0,none⟩)) true ty).run P w=if pos<s.size then .ok (.tuple #[.bool true,.int .i64 pos,.int .i32 (ae7 s pos).1]) { w with heap:=w.heap.setIfInBounds g (.stringIter s (pos+(ae7 s pos).2)) }
   else .ok (.tuple #[.bool false]) w:=by
 by_cases h:pos<s.size
 ·simp[af5,getObj,setObj,Sem.run,a,h,goInt,ag9]
 ·simp[af5,getObj,Sem.run,a,h,ag9]
def Ff{b g:Nat}{x y:Blk}{w':World}(l:HR Y H w)(i:H[b]? = some x)(m:Y.nm b=some g)(f:y.shp=x.shp)(a:∀k,k≠g->w'.heap[k]? = w.heap[k]?)(n:w'.shape? g=w.shape? g) :
  Bg Y (A3 H) w Y (A3 (H.set b y)) w' (λ_=>True):=by
 have d:=(j5.1 i).1;refine⟨λk j=>a k (λe=>(l.lt b g m).2.2 (e▸j)),λ_ h=>h,λ_ _=>rfl,λc _=>?_,λc k _ j=>?_,rfl⟩
 ·rw[TW d];split
  ·rename_i e;subst e;simp[A3,i,f]
  ·rfl
 ·by_cases e:k=g
  ·subst e;exact n
  ·exact F9 (a k e)
def A39{b g:Nat}{x y:Blk}{w':World}(f:HR Y H w)(n:H[b]? = some x)(o:Y.nm b=some g)(l:y.shp=x.shp)(a:∀k,k≠g->w'.heap[k]? = w.heap[k]?)(u:w'.shape? g=w.shape? g)(m:w.heap.size<=w'.heap.size)
  (v:BR Y (A3 (H.set b y)) w' b y) (t:∀c∈y.nms,c<H.length):HR Y (H.set b y) w':=by
 have M:=Ff f n o l a u;have q:=(j5.1 n).1;refine⟨f.inj,λc k i=>?_,λk i=>ad0 (f.stlt k i) m,λc h d j=>?_,λc h=>?_⟩
 ·have:=f.lt c k i;exact⟨by simpa using this.1,by omega,this.2.2⟩
 ·rw[x9] at h ⊢;rw[x3] at j;split at j
  ·exact t d j
  ·exact f.nms c h d j
 ·rw[x9] at h;rw[x3];split
  ·rename_i e;subst e;exact v
  ·rename_i e;exact(f.blk c h).mono M rfl (λk i=>a k (λp=>e (f.inj b c g o (p▸i)))) (λ_ _=>trivial)
def UG{b g:Nat}{x y:Blk}{w':World}(j:HR Y H w)(p:H[b]? = some x)(l:Y.nm b=some g)(f:y.shp=x.shp)(a:∀k,k≠g->w'.heap[k]? = w.heap[k]?)(q:w'.shape? g=w.shape? g)(i:w.heap.size<=w'.heap.size)
  (m:w'.os=w.os) (n:w'.tape=w.tape) (o:w'.output=w.output):Stp C Y H w noΦ Y (H.set b y) w' noΦ where
 os:=m
 tape:=n
 output:=o
 size:=i
 sub:=λ_ h=>h
 stnew:=λ_ h=>.inl h
 own:=λc k d=>.inl ⟨(j.lt c k d).1,d⟩
 foot:=λ_ h=>.inl h
 frame:=λk _ d _=>a k (λe=>d b (e▸l))
 yv:=rfl
 len:=by simp
 keep:=λc t _=>by
  have M:=Ff j p l f a q;exact⟨rfl,M.shp c trivial,λk d=>M.hs c k trivial d⟩
def Ng{m:Sem Value}{b g:Nat}{x y:Blk}{w':World}{V:Value}{v:PV}{sl:List PV}{f:Array Value}(h:HR Y H w)(u:m.run C.P w = .ok V w')(i:H[b]? = some x)(j:Y.nm b=some g)(d:y.shp=x.shp)
  (a:∀k,k≠g->w'.heap[k]? = w.heap[k]?) (l:w'.shape? g=w.shape? g) (e:w.heap.size<=w'.heap.size) (o:w'.os=w.os) (p:w'.tape=w.tape) (q:w'.output=w.output)
  (B:BR Y (A3 (H.set b y)) w' b y) (z:∀c∈y.nms,c<H.length) (A:VP Y (A3 (H.set b y)) w' v V) (hvn:∀c∈v.nms,c<H.length):WV C Y H w sl f m v sl (H.set b y):=
 ⟨V,w',Y,u,UG h i j d a l e o p q,A39 h i j d a l e B z,λn=>n.mono (Ff h i j d a l) (λc t=>⟨trivial,by simpa using n.nms c t⟩),A,by simpa using hvn⟩
def D66{b:Nat}{X:Value}(c:A3 H b=some .iter)(d:VP Y (A3 H) w (.it b) X):∃g,Y.nm b=some g/\X = .pointer (some ⟨g,0,none⟩):=by
 cases d with
 | it _ g h a=>exact⟨g,a,rfl⟩
 | mpv _ g h a=>rw[c] at h;cases h
def Ar5{b ty:Nat}{l:List UInt8}{pos:Nat}{X:Value}(j:HR Y H w)(k:VP Y (A3 H) w (.it b) X)(e:H[b]? = some (.iter l pos)) :
  ∃g s,Y.nm b=some g/\X = .pointer (some ⟨g,0,none⟩)/\w.heap[g]? = some (.stringIter s pos)/\s.data.toList=l:=by
 obtain⟨g,f,rfl⟩:=D66 (by simp[A3,e,Blk.shp]) k;obtain⟨c,a⟩:=j5.1 e;have:=j.blk b c;rw[a] at this;obtain⟨m,s,d,h,i⟩:=this;rw[f] at d;cases d;exact⟨g,s,f,rfl,h,i⟩
def As8{b ty:Nat}{l:List UInt8}{pos:Nat}{X:Value}(d:HR Y H w)(i:VP Y (A3 H) w (.it b) X)(e:H[b]? = some (.iter l pos))(c:¬pos<l.length):QV C.P Y H w (af5 X true ty) (.tup [.s (.bool false)]):=by
 obtain⟨g,s,k,rfl,a,rfl⟩:=Ar5 (ty:=ty) d i e;rw[Un] at c;refine .mk1 (by simp[PV.nms,D0]) (V:=.tuple #[.bool false]) (VP.mk_tup rfl λj f=>?_) λw' h=>?_
 ·have:j=0:=by simpa using f
  subst this;exact⟨_,rfl,.bool _⟩
 ·rw[FO ((h g (x5.1 a).1).trans a),ae c]
def Do9{b ty:Nat}{l:List UInt8}{pos:Nat}{X:Value}{sl:List PV}{tmps:Array Value}(c:HR Y H w)(o:VP Y (A3 H) w (.it b) X)(e:H[b]? = some (.iter l pos))(h:pos<l.length) :
  WV C Y H w sl tmps (af5 X true ty) (.tup [.s (.bool true),.s (.int .i64 pos),.s (.int .i32 (ae7 ⟨l.toArray⟩ pos).1)]) sl (H.set b (.iter l (pos+(ae7 ⟨l.toArray⟩ pos).2))):=by
 obtain⟨g,s,d,rfl,f,rfl⟩:=Ar5 (ty:=ty) c o e;rw[Un] at h;have a:g<w.heap.size:=(c.lt b g d).2.1;have n:(⟨s.data.toList.toArray⟩:ByteArray)=s:=by cases s;simp
 rw[n];have i:=FO (P:=C.P) (ty:=ty) f;rw[ac h] at i;refine Ng c i e d rfl (λk p=>?_) ?_ (by simp) rfl rfl rfl ⟨g,s,d,?_,rfl⟩ (by simp[Blk.nms]) (VP.mk_tup rfl λj m=>?_) (by simp[PV.nms,D0])
 ·simp only[y9];rw[ae (by omega)]
 ·simp only[aa9,f,y9,if_true,a]
 ·simp[a]
 ·match j,m with
  | 0,_=>exact⟨_,rfl,.bool _⟩
  | 1,_=>exact⟨_,rfl,.int _ _⟩
  | 2,_=>exact⟨_,rfl,.int _ _⟩
def Dv4{m:Sem Value}{o:Obj}{w':World}{V:Value}{v:PV}{sl:List PV}{i:Array Value}(e:HR Y H w)(x:m.run C.P w = .ok V w')(f:w'.heap=w.heap.push o)(n:w'.os=w.os)(p:w'.tape=w.tape)(q:w'.output=w.output)
  (z:VP { Y with St:=λg=>Y.St g\/g=w.heap.size } (A3 H) w' v V) (u:∀c∈v.nms,c<H.length):WV C Y H w sl i m v sl H:=by
 let Γ':Ctx:={ Y with St:=λg=>Y.St g\/g=w.heap.size }
 have d:∀g,g<w.heap.size->w'.heap[g]? = w.heap[g]?:=λg a=>I3 f a
 have M:Bg Y (A3 H) w Γ' (A3 H) w' (λ_=>True):=⟨λg a=>d g (e.stlt g a),λ_ h=>.inl h,λ_ _=>rfl,λ_ _=>rfl,λb g _ a=>F9 (d g (e.lt b g a).2.1),rfl⟩
 have y:w'.heap.size=w.heap.size+1:=by rw[f];simp
 have j:HR Γ' H w':=by
  refine⟨e.inj,λb g a=>?_,λg a=>?_,e.nms,λb l=>(e.blk b l).mono M rfl (λg a=>d g (e.lt b g a).2.1) (λ_ _=>trivial)⟩
  ·have:=e.lt b g a;grind
  ·rcases a with h|rfl
   ·have:=e.stlt g h;omega
   ·omega
 exact⟨V,w',Γ',x,⟨n,p,q,by omega,λ_ h=>.inl h,λg a=>by rcases a with h|rfl;exact .inl h;exact .inr (j7 _),λb g a=>.inl ⟨(e.lt b g a).1,a⟩,λ_ h=>.inl h,λg a _ _=>d g a,rfl,j7 _,
  λb l A=>⟨rfl,rfl,λg a=>F9 (d g (e.lt b g a).2.1)⟩⟩,j,λk=>k.mono M (λc t=>⟨trivial,k.nms c t⟩),z,u⟩
def KQ{t len:Nat}{parts:List (Nat × PV)}{c:Array (Nat × Value)}{k:PV->Option R}{sl:List PV}{tmps:Array Value}(N:HR Y H w)(h:Cc C t len parts k=some r)(hp:PR Y (A3 H) w parts c.toList) :
  ∃v e B,k v=some r/\C.P.underlying t=some (.slice e)/\(y7 t len c).run C.P w = .ok (.slice (some ⟨w.heap.size,0,none⟩) len len) (w.alloc (.cells B e))/\
   ∀(m:Sem Value) (x:Nat × Nat),m.run C.P w = .ok (.slice (some ⟨w.heap.size,0,none⟩) len len) (w.alloc (.cells B e x))->WV C Y H w sl tmps m v sl H:=by
 unfold Cc at h;split at h
 ·rename_i e q;dsimp only at h;split at h
  ·rename_i a;simp only[j0,af] at a;obtain⟨⟨a,b⟩,S⟩:=a;split at h
   ·rename_i out Q;split at h
    ·rename_i V J;obtain⟨h1,M⟩:=D6 h;obtain⟨i,z,n,hz,f,D⟩:=Hk (Γ:=Y) (sh:=A3 H) (w:=w) a;obtain⟨_,_,_,T⟩:=N2 a;have F:0<(C.ti e).ks.length:=by rename_i h1 M;omega
     have O:=ZP D (by simpa using F) len;rw[o6] at O;obtain⟨B,K,y,e3⟩:=En (place':=λj=>some (j*i.size,i.size)) (λj off size o h0=>by rw[f];exact o) Q O hp;obtain⟨f1,f2⟩:=T2 (As:=B.toList) J (by simpa using y.1.symm) (λj o=>by
      obtain⟨U,e,k⟩:=y.2 j o;exact⟨U,by simpa using e,k⟩)
     have I:=Ck (P:=C.P) w len c B (L1 q) n hz (by rw[f];exact b) (by rw[f] at K ⊢;exact K);refine⟨_,_,B,M,L1 q,I,λm x I=>?_⟩;have l:(w.alloc (.cells B e x)).heap=w.heap.push (.cells B e x):=rfl;have A:B.size=len*(C.ti e).ks.length:=by
      have d:∀{place:Nat->Option (Nat × Nat)} {c:List (Nat × PV)} {cells out:List PV},Ed place cells c=some out->out.length=cells.length:=by
       intro place c
       induction c with
       | nil=>intro cells out h;simp only[Ed,c9] at h;rw[h]
       | cons p c ih=>
        intro cells out h;obtain⟨i,v⟩:=p;simp only[Ed] at h;split at h
        ·split at h
         ·rw[ih h,E5]
         grind
        grind
      rw[y.1,d Q,Fu,o6]
     have u:V.length=len*(C.ti e).ks.length:=by rw[f1,p4,A]
     refine Dv4 N I l rfl rfl rfl (.s _ _ ?_) (by simp[PV.nms]);refine .sl true (U4 (C.ti e).ks.length len V) w.heap.size 0 len len (C.ti e).ks.length (λi j=>B.toList.getD (i*(C.ti e).ks.length+j) undef) (X5 _ _ _).symm (j7 _) (by simp only[maxLen];omega) (λ_=>rfl) (.inr rfl) (λi n=>(Co _ _ _ u i n).1) (λi n j o=>?_) (λi n j o=>?_);all_goals
      obtain⟨c1,W⟩:=Co _ _ _ u i n;obtain⟨X,Z⟩:=W j o;obtain⟨U,L,k⟩:=f2 (i*(C.ti e).ks.length+j) X
     ·rw[cell_of_row (w.alloc (.cells B e x)) w.heap.size _ _ _ _ (I2 l)];have G:i*(C.ti e).ks.length+j<B.toList.length:=(j5.1 L).1;rw[Al G,show 0+i*(C.ti e).ks.length+j=i*(C.ti e).ks.length+j by omega];simp
     ·rw[aa3,L,Z];exact k.mono (λg hg=>I3 l (N.stlt g hg)) (λ_ h=>.inl h)
    ·cases h
   ·cases h
  ·cases h
 ·cases h
def Lj{t len:Nat}{parts:List (Nat × PV)}{ps:Array (Nat × Value)}{k:PV->Option R}{sl:List PV}{tmps:Array Value}(d:HR Y H w)(h:Cc C t len parts k=some r)(f:PR Y (A3 H) w parts ps.toList) :
  ∃v,k v=some r/\WV C Y H w sl tmps (y7 t len ps) v sl H/\∃V o,(y7 t len ps).run C.P w = .ok V (w.alloc o):=by
 obtain⟨v,e,B,b,_,a,c⟩:=KQ (sl:=sl) (tmps:=tmps) d h f;exact⟨v,b,c _ _ a,_,_,a⟩
def XT{A q:Nat}{x:PV}{X:Value}{k:PV->Option R}{sl:List PV}{tmps:Array Value}(n:HR Y H w)(h:CA C A q x k=some r)(hx:VP Y (A3 H) w x X) :
  ∃v,k v=some r/\WV C Y H w sl tmps (convert A q X) v sl H:=by
 unfold CA at h;split at h
 ·rename_i e l U V;split at h
  ·rename_i W;obtain⟨L,Z⟩:=D6 h;simp only[G0,af] at L;obtain⟨s,rfl,rfl⟩:=hx.inv_str;rw[Un] at L;refine⟨_,Z,?_⟩;have K:=run_bytes_of_string (P:=C.P) w A q e s (Fc U) (L1 V) (NY W);generalize p:grownCap w s.size 0 e=cap at K;have F:s.size<=cap:=by rw[<-p];exact grownCap_ge _ _ _ _
   have I:cap<=maxLen:=by rw[<-p];exact grownCap_le_maxLen _ _ _ _ (by simp only[maxLen];omega)
   generalize o:w.drew.alloc (.cells (bytesRow s cap) e ((bytesRow s cap).size,(bytesRow s cap).size+1))=w' at K;have z:w'.heap=w.heap.push (.cells (bytesRow s cap) e ((bytesRow s cap).size,(bytesRow s cap).size+1)):=by rw[<-o];rfl
   have Q:w'.os=w.os:=by rw[<-o];rfl
   have S:w'.tape=w.tape:=by rw[<-o];rfl
   have T:w'.output=w.output:=by rw[<-o];rfl
   let Γ':Ctx:={ Y with St:=λg=>Y.St g\/g=w.heap.size }
   have f:∀g,g<w.heap.size->w'.heap[g]? = w.heap[g]?:=λg d=>I3 z d
   have M:Bg Y (A3 H) w Γ' (A3 H) w' (λ_=>True):=⟨λg d=>f g (n.stlt g d),λ_ h=>.inl h,λ_ _=>rfl,λ_ _=>rfl,λb g _ d=>F9 (f g (n.lt b g d).2.1),rfl⟩
   have a0:w'.heap.size=w.heap.size+1:=by rw[z];simp
   have D:HR Γ' H w':=by
    refine⟨n.inj,λb g d=>?_,λg d=>?_,n.nms,λb O=>(n.blk b O).mono M rfl (λg d=>f g (n.lt b g d).2.1) (λ_ _=>trivial)⟩
    ·have:=n.lt b g d;grind
    ·rcases d with h|rfl
     ·have:=n.stlt g h;omega
     ·omega
   refine⟨_,w',Γ',K,⟨Q,S,T,by omega,λ_ h=>.inl h,λg d=>by rcases d with h|rfl;exact .inl h;exact .inr (j7 _),λb g d=>.inl ⟨(n.lt b g d).1,d⟩,λ_ h=>.inl h,λg d _ _=>f g d,rfl,j7 _,
    λb O hf=>⟨rfl,rfl,λg d=>F9 (f g (n.lt b g d).2.1)⟩⟩,D,λN=>N.mono M (λc hc=>⟨trivial,N.nms c hc⟩),.s _ _ ?_,by simp[PV.nms]⟩
   have B:s.data.toList.length=s.size:=Un s;have y:∀(a:List UInt8) i (t:i<(a.map F4).length),((a.map F4)[i]).length=1:=λa i t=>by simp[F4]
   refine .sl false (s.data.toList.map F4) w.heap.size 0 s.size cap 1 (λi _=>.int .u8 ((s.data.toList.getD i 0).toNat)) (by rw[o6,B]) F I (by simp) (.inr rfl) (y _) (λi t j G=>?_) (λi t j G=>?_)
   ·have u:j=0:=by rw[y _ i t] at G;omega
    subst u;have m:i<s.data.size:=by simpa using t
    rw[cell_of_row w' w.heap.size _ _ _ _ (I2 z)];have J:i<s.data.toList.length:=by simpa using m
    rw[Al J];simp only[bytesRow];rw[ac3 (by simpa using m)];rw[Array.getElem?_map,show 0+i*1+0=i by omega,Array.getElem?_eq_getElem m];rfl
   ·have u:j=0:=by rw[y _ i t] at G;omega
    subst u;have m:i<s.data.toList.length:=by simpa using t
    rw[Al m];simp only[o7,F4,s8];exact .int _ _
  ·cases h
 ·cases h
end
section
variable {L : Ctx} {H : List Blk} {w : World} {R : Type} {r : R} {C : Cfg}
def Au4{b:Type}(l a:List b)(off:Nat)(h:off+a.length<=l.length):I4 l off a=l.take off++a++l.drop (off+a.length):=by
 apply ae4;intro j;rw[P0 a l off h j];have c:(l.take off).length=off:=by rw[ac6];omega
 grind
def P2{P:Program}{g o e:Nat}{vs:List Value}{a:Array Value}(c:w.heap[g]? = some (.cells a e (0,0)))(b:o+vs.length<=a.size)(f:∀v∈vs,v.oneCell'=true) :
  ∃w',(storeCells ⟨g,o,none⟩ vs).run P w = .ok () w'/\w'.heap[g]? = some (.cells (I4 a.toList o vs).toArray e (0,0))/\(∀k,k≠g->w'.heap[k]? = w.heap[k]?)/\w'.heap.size=w.heap.size/\w'.os=w.os/\w'.tape=w.tape/\w'.output=w.output/\
   w'.shape? g=w.shape? g:=by
 have:=run_storeCells_at P g o e vs 0 a w c (by simpa using b) f;simp only[ac8] at this;rw[<-Au4 a.toList vs o (by simpa using b)] at this;have d:=setRow_heap w g a (I4 a.toList o vs).toArray e (0,0) c;refine⟨_,this,d,λk h=>setRow_other w g k _ h,by simp,rfl,rfl,rfl,?_⟩;simp only[aa9,d,c];simp[E5]
def Pc{P:Program}{t:Nat}{i:TypeInfo}{a:Addr}{V:Value}(b:P.info? t=some i)(c:V.cells.size=i.size){w w':World}(h:(storeCells a V.cells.toList).run P w = .ok () w') :
  (do ae8 t (.pointer (some a)) V;pure undef:Sem Value).run P w = .ok undef w':=by
 simp[ae8,aa2,storeVar,sizeOf,typeInfo,b,c,h]
def Dh6{l:List PV}{a:List Value}{sh:Nat->Option Shp}(g:l.length=a.length)(h:l.all PV.one=true)(c:∀j (h:j<l.length),∃U,a[j]? = some U/\VP L sh w (l[j]) U):∀v∈a,v.oneCell'=true:=by intro v f;obtain⟨j,d,e⟩:=ah5 f;obtain⟨U,b,k⟩:=c j (by omega);rw[j4 d] at b;simp only[c9] at b;rw[<-e,b];exact k.oneCell (o0.1 h _ (p7 _))
def Au{sh:Nat->Option Shp}:VP L sh w (.tup []) undef:=VP.mk_tup (by rfl) λj a=>by simp at a
def Dq8{c:Type}{Rel:c->Value->Prop}{l vs:List c}{A B:List Value}{o:Nat}(m:l.length=A.length)(n:vs.length=B.length)(i:o+vs.length<=l.length)(d:∀j (h:j<l.length),∃U,A[j]? = some U/\Rel (l[j]) U)
  (f:∀j (h:j<vs.length),∃U,B[j]? = some U/\Rel (vs[j]) U):∀j (h:j<(I4 l o vs).length),∃U,(I4 A o B)[j]? = some U/\Rel ((I4 l o vs)[j]) U:=by
 intro j a;have g:=P0 vs l o i j;rw[j4 a] at g;rw[E5] at a;rw[P0 B A o (by omega) j];by_cases b:o<=j/\j<o+vs.length
 ·rw[ac (by omega)];rw[ac b,j4 (by omega)] at g;simp only[c9] at g;obtain⟨U,e,k⟩:=f (j-o) (by omega);exact⟨U,e,by rw[g];exact k⟩
 ·rw[ae (by omega)];rw[ae b,j4 a] at g;simp only[c9] at g;obtain⟨U,e,k⟩:=d j a;exact⟨U,e,by rw[g];exact k⟩
def HR.box'(hH:HR L H w){b:Nat}{cells:List PV}(hb:H[b]? = some (.box cells)):∃g cur e,L.nm b=some g/\w.heap[g]? = some (.cells cur e (0,0))/\cur.size=cells.length/\(∀j (h:j<cells.length),∃V,cur[j]? = some V/\VP L (A3 H) w (cells[j]) V)/\∀c∈D0 cells,c<H.length:=by obtain⟨hlt,hbe⟩:=j5.1 hb;have:=hH.blk b hlt;rw[hbe] at this;obtain⟨g,cur,e,h1,h2,h3,h4⟩:=this;exact⟨g,cur,e,h1,h2,h3,h4,λc hc=>hH.nms b hlt c (by rw[hbe];exact hc)⟩
def HR.arr'(hH:HR L H w){b:Nat}{v:Bool}{e sz:Nat}{els:List (List SV)}(hb:H[b]? = some (.arr v e sz els))(hne:¬(v=true/\els=[])) :
  ∃g cur,L.nm b=some g/\w.heap[g]? = some (.cells cur e (0,0))/\els.length*sz<=cur.size/\(∀i (h:i<els.length),(els[i]).length=sz)/\∀i (h:i<els.length) j (h':j<(els[i]).length),∃V,cur[i*sz+j]? = some V/\VS L.St w (els[i][j]) V:=by
 obtain⟨hlt,hbe⟩:=j5.1 hb;have:=hH.blk b hlt;rw[hbe] at this;rcases this with h|⟨_,g,cur,h1,h2,h3,h4,h5⟩
 ·exact absurd h hne
 ·exact⟨g,cur,h1,h2,h3,h4,h5⟩
def Cy7{i b j o n a:Nat}(c:b≠i)(d:j<a)(e:o+n<=a):¬(i*a+o<=b*a+j/\b*a+j<i*a+o+n):=by
 rcases Nat.lt_or_gt_of_ne c with h|h
 ·have:(b+1)*a<=i*a:=j8 _ h;grind
 ·have:(i+1)*a<=b*a:=j8 _ h;grind
def Af6{f:Nat->Nat × Nat}{tid:Nat}{a v:PV}{A V:Value}{k:List Blk->Option R}{sl:List PV}{tmps:Array Value}(hH:HR L H w)(h:EA f (C.ti tid) a v H k=some r)(J:VP L (A3 H) w a A)(hv:VP L (A3 H) w v V)(hn:∀c∈v.nms,c<H.length) :
  ∃H',k H'=some r/\WV C L H w sl tmps (do ae8 tid A V;pure undef) (.tup []) sl H':=by
 unfold EA at h;split at h
 ·rename_i hc;obtain⟨b5,q,a8⟩:=hc;obtain⟨i0,hi,b6,c0⟩:=N2 b5;have b4:v.cells≠[]:=by intro e;rw[e] at q;simp at q;omega
  have a7:=hv.cells' b4;have G:v.cells.length=V.cells.toList.length:=by simpa using a7.1.symm
  have a5:∀j (h:j<v.cells.length),∃U,V.cells.toList[j]? = some U/\VP L (A3 H) w (v.cells[j]) U:=λj K=>by
   obtain⟨U,e,k⟩:=a7.2 j K;grind
  have a1:=Dh6 G a8 a5;have a2:V.cells.size=i0.size:=by rw[a7.1,q,b6]
  split at h
  ·rename_i b i off;split at h
   ·rename_i cells N;split at h
    ·rename_i b1;subst b1;dsimp only at h;obtain⟨x,h3⟩:=D6 h;simp only[af] at x;refine⟨_,h3,?_⟩;obtain⟨T,e1,e2,e3,e4,e5,e6,e7⟩:=W5 (C:=C) f v.cells 0 H V.cells.toList hH G a5 (λc hc=>hn c (PV.cells_nms c hc));have a4:(H++T)[b]? = some (.box cells):=by rw[v8 (j5.1 N).1];exact N
     obtain⟨g,F,e,I,hh,O,a0,b9⟩:=e2.box' a4;have hA:A = .pointer (some ⟨g,off,none⟩):=by
      cases J with
      | ptrA _ _ _ g' v e sz n h' t=>simp[A3,N,Blk.shp] at h'
      | ptrB _ _ g' h' t=>rw[I] at t;cases t;rfl
     subst hA;obtain⟨w',r1,r2,r3,r4,r5,r6,r7,r8⟩:=P2 (P:=C.P) (o:=off) hh (vs:=V.cells.toList) (by rw[<-G,q,O];exact x) a1;have Z:=Pc hi a2 r1;have M:=Ff (y:=.box (I4 cells off (G7 f v.cells 0 H).1)) e2 a4 I rfl r3 r8;rw[e1];have key:WV C L (H++T) w sl tmps (do ae8 tid (.pointer (some ⟨g,off,none⟩)) V;pure undef) (.tup []) sl ((H++T).set b (.box (I4 cells off (G7 f v.cells 0 H).1))):=by
      refine Ng e2 Z a4 I rfl r3 r8 (by omega) r5 r6 r7 ⟨g,_,e,I,r2,by simp[E5,O],λj K=>?_⟩ (λc hc=>?_) Au (by simp[PV.nms,D0])
      ·have:=Dq8 (Rel:=λp U=>VP L (A3 ((H++T).set b (.box (I4 cells off (G7 f v.cells 0 H).1)))) w' p U) (l:=cells) (vs:=(G7 f v.cells 0 H).1) (A:=F.toList) (B:=V.cells.toList) (o:=off)
        (by simpa using O.symm) e5 (by rw[e5,<-G,q];exact x)
        (λj K=>by
         obtain⟨U,f1,f2⟩:=a0 j K;exact⟨U,by simpa using f1,f2.mono M (λ_ _=>trivial)⟩)
        (λj K=>by
         obtain⟨U,f1,f2⟩:=e6 j K;exact⟨U,f1,f2.mono M (λ_ _=>trivial)⟩) j K
       grind
      ·rcases Wk _ _ _ c hc with h|h
       all_goals grind
     obtain⟨V',w',Γ',k1,k2,k3,k4,k5,k6⟩:=key;exact⟨V',w',Γ',k1,e3.trans k2,k3,λhS=>k4 (SR.grow e4 hS),k5,k6⟩
    ·cases h
   ·rename_i z e sz d N;split at h
    ·rename_i vs b7;obtain⟨f1,f2⟩:=T2 b7 G a5;split at h
     ·rename_i b8;obtain⟨x,h3⟩:=D6 h;simp only[af] at x;refine⟨_,h3,?_⟩;obtain⟨g,F,I,hh,Y,m,Q⟩:=hH.arr' N (by rintro⟨_,rfl⟩;simp at x);have hA:A = .pointer (some ⟨g,i*sz+off,none⟩):=by
       cases J with
       | ptrA _ _ _ g' v e sz n h' t=>
        rw[I] at t;cases t;obtain⟨_,_,rfl,_⟩:=U8 N h';rfl
       | ptrB _ _ g' h' t=>simp[A3,N,Blk.shp] at h'
      subst hA;have X:i*sz+off+V.cells.toList.length<=F.size:=by
       have:(i+1)*sz<=d.length*sz:=j8 _ x;grind
      obtain⟨w',r1,r2,r3,r4,r5,r6,r7,r8⟩:=P2 (P:=C.P) (o:=i*sz+off) hh (vs:=V.cells.toList) X a1;have Z:=Pc hi a2 r1;rw[Al x];have a9:off+vs.length<=(d[i]).length:=by rw[m i x,f1];omega
      refine Ng hH Z N I (by simp[Blk.shp]) r3 r8 (by omega) r5 r6 r7 (.inr ⟨λhz=>?_,g,_,I,r2,by simpa[E5] using Y,λa J=>?_,λa J j K=>?_⟩) (by simp[Blk.nms]) Au (by simp[PV.nms,D0])
      ·have:=congrArg ag7 hz.2;rw[x9] at this;simp only[ag2] at this;omega
      ·rw[x3];rw[x9] at J;split
       ·rw[E5];exact m i x
       ·exact m a J
      ·rw[x9] at J;have u:∀k,L.St k->w'.heap[k]? = w.heap[k]?:=λk hk=>r3 k (λe=>(hH.lt b g I).2.2 (e▸hk))
       simp only[ac0];rw[P0 _ _ _ (by simpa using X)];by_cases a3:i=a
       ·subst a3;have a6:(d.set i (I4 d[i] off vs))[i]'(by simpa using J)=I4 d[i] off vs:=by simp
        have D:j<(I4 d[i] off vs).length:=by rw[<-a6];exact K
        have W:(d.set i (I4 d[i] off vs))[i][j]=(I4 d[i] off vs)[j]:=by simp
        rw[W];have g1:=P0 vs d[i] off a9 j;rw[j4 D] at g1;rw[E5] at D;by_cases hc:off<=j/\j<off+vs.length
        ·rw[ac (by omega)];rw[ac hc,j4 (by omega)] at g1;simp only[c9] at g1;obtain⟨U,q1,q2⟩:=f2 (j-off) (by omega);refine⟨U,?_,by rw[g1];exact q2.mono u (λ_ h=>h)⟩;rw[<-q1];congr 1;omega
        ·rw[ae (by omega)];rw[ae hc,j4 D] at g1;simp only[c9] at g1;obtain⟨U,q1,q2⟩:=Q i x j D;exact⟨U,by simpa using q1,by rw[g1];exact q2.mono u (λ_ h=>h)⟩
       ·have a6:(d.set i (I4 d[i] off vs))[a]'(by simpa using J)=d[a]:=by rw[x3,ae a3]
        have D:j<(d[a]).length:=by rw[<-a6];exact K
        have W:(d.set i (I4 d[i] off vs))[a][j]=d[a][j]:=by congr 1
        rw[W];obtain⟨U,q1,q2⟩:=Q a J j D;have b3:j<sz:=by rw[<-m a J];exact D
        rw[ae (Cy7 (λe=>a3 e.symm) b3 (by rw[<-f1,<-m i x];exact a9))];exact⟨U,by simpa using q1,q2.mono u (λ_ h=>h)⟩
     ·split at h
      ·rename_i b2;obtain⟨rfl,rfl⟩:=b2;obtain⟨x,h3⟩:=D6 h;simp only[af] at x;refine⟨_,h3,?_⟩;have S:d≠[]:=by rintro rfl;rw[ag2,al2] at x;omega
       obtain⟨g,F,I,hh,Y,m,Q⟩:=hH.arr' N (λhz=>S hz.2);have hA:A = .pointer (some ⟨g,0,none⟩):=by
        cases J with
        | ptrA _ _ _ g' v e sz n h' t=>
         grind
        | ptrB _ _ g' h' t=>simp[A3,N,Blk.shp] at h'
       subst hA;have X:0+V.cells.toList.length<=F.size:=by omega
       obtain⟨w',r1,r2,r3,r4,r5,r6,r7,r8⟩:=P2 (P:=C.P) (o:=0) hh (vs:=V.cells.toList) X a1;have Z:=Pc hi a2 r1;have u:∀k,L.St k->w'.heap[k]? = w.heap[k]?:=λk hk=>r3 k (λe=>(hH.lt b g I).2.2 (e▸hk))
       have b0:w'.heap[g]? = some (.cells (V.cells++(F.toList.drop V.cells.size).toArray) e (0,0)):=by
        rw[r2,Au4 _ _ _ (by simpa using X)];simp_all
       refine Ng hH Z N I (by simp[Blk.shp,X5]) r3 r8 (by omega) r5 r6 r7 (BR.row I b0 (λ_=>?_) ?_ ?_ λj K=>?_) (by simp[Blk.nms]) Au (by simp[PV.nms,D0])
       ·intro e;exact S (o5.1 e)
       ·rw[f1,<-G,q,x]
       ·rw[f1];simp
       ·obtain⟨U,q1,q2⟩:=f2 j K;exact⟨U,by simpa using q1,q2.mono u (λ_ h=>h)⟩
      ·cases h
    ·cases h
   ·cases h
  ·cases h
 ·cases h
end
section
variable {Γ : Ctx} {H : List Blk} {w : World} {R : Type} {r : R} {C : Cfg}
structure Qk (P:Program) (Γ:Ctx) (w:World) (n:Nat) (X:Value) (news:List (List SV)) (Vs:List Value):Prop where
 len:∀w',(ak2 X).run P w' = .ok news.length w'
 first:∀k,k<=news.length->∀w':World,w'.heap=w.heap->(ab4 n k X).run P w' = .ok (Vs.take (k*n)).toArray w'
 size:Vs.length=news.length*n
 one:∀u∈Vs,u.oneCell'=true
 els:∀i (h:i<news.length),(news[i]).length=n/\∀j (h':j<(news[i]).length),∃U,Vs[i*n+j]? = some U/\VS Γ.St w (news[i][j]) U
def Qk.nil{P:Program}{n:Nat}{X:Value}(a:Option Addr)(cap:Nat)(hX:X = .slice a 0 cap):Qk P Γ w n X [] []:=by
 subst hX;refine⟨λw'=>rfl,λk hk w' hw=>?_,by simp,by simp,λi hi=>by simp at hi⟩;have:k=0:=by simpa using hk
 subst this;cases a with
 | none=>simp[ab4]
 | some a=>
  have:=run_loadCells_list (P:=P) w' a [] (by simp);simpa[ab4] using this
def Cd1{q m n:Nat}(h:q<m*n):q / n<m/\q % n<n/\q / n*n+q % n=q:=by
 have a:0<n:=by grind
 exact⟨Nat.div_lt_of_lt_mul (by rw[al1];exact h),aj8 _ a,by rw[al1];exact Nat.div_add_mod q n⟩
def Qk.slice{P:Program}{n:Nat}{X:Value}{els:List (List SV)}(h:SlV Γ w X els)(hn:∀i (h:i<els.length),(els[i]).length=n):∃Vs,Qk P Γ w n X els Vs:=by
 obtain⟨a,cap,rfl,hcap,hm,hnil,hcells⟩:=h.ex;by_cases he:els=[]
 ·subst he;exact⟨[],Qk.nil a cap rfl⟩
 ·obtain⟨g,o,sz,rfl,hsz,hc⟩:=hcells he;have hcell:∀q,q<els.length*n->∃U,w.cell? ⟨g,o+q,none⟩=some U/\U.oneCell'=true:=λq hq=>by
   obtain⟨h1,h2,h3⟩:=Cd1 hq;have hs:sz=n:=by rw[<-hsz _ h1];exact hn _ h1
   subst hs;obtain⟨U,e,k⟩:=hc _ h1 (q % sz) (by rw[hsz _ h1];exact h2);exact⟨U,by rw[<-e];congr 2;omega,k.oneCell⟩
  let Vs:=(af8 (els.length*n)).map λq=>(w.cell? ⟨g,o+q,none⟩).getD undef
  have hVs:∀q,q<els.length*n->∀U,w.cell? ⟨g,o+q,none⟩=some U->Vs[q]? = some U:=λq hq U e=>by simp[Vs,hq,e]
  refine⟨Vs,λw'=>rfl,λk hk w' hw=>?_,by simp[Vs],λu hu=>?_,λi hi=>⟨hn i hi,λj hj=>?_⟩⟩
  ·have hkn:k*n<=els.length*n:=j8 _ hk;have hVl:Vs.length=els.length*n:=by simp[Vs]
   have hl:(Vs.take (k*n)).length=k*n:=by rw[ac6,hVl];omega
   refine run_firstCells_some (P:=P) w' n k ⟨g,o,none⟩ els.length cap (Vs.take (k*n)) hl (λj v hj=>?_);rw[aa4] at hj;split at hj
   ·rename_i hjk;obtain⟨U,e,_⟩:=hcell j (by omega);rw[hVs j (by omega) U e] at hj;simp only[c9] at hj;subst hj;rw[O8,Ca0 hw,e]
   grind
  ·grind
  ·have hs:sz=n:=by rw[<-hsz _ hi];exact hn _ hi
   subst hs;obtain⟨U,e,k⟩:=hc i hi j hj;have hj':j<sz:=by rw[<-hsz i hi];exact hj
   have hlt:i*sz+j<els.length*sz:=by
    have:(i+1)*sz<=els.length*sz:=j8 _ hi;grind
   grind
def TY{n:Nat}{x:PV}{X:Value}{c:List (List SV)}(z:HR Γ H w)(G:VP Γ (A3 H) w x X)(d:GC n H x=true)(h:MV H x=some c):∃I,Qk C.P Γ w n X c I:=by
 by_cases q:∃l,x = .s (.str l)
 ·obtain⟨l,rfl⟩:=q;simp only[MV,c9] at h;subst h;simp only[GC,af] at d;subst d;obtain⟨s,rfl,rfl⟩:=G.inv_str;refine⟨s.data.toList.map λb=>.int .u8 b.toNat,λw'=>by simp[ak2],λk T w' hw=>?_,by simp,λu K=>?_,λi o=>⟨by simp[F4],λj N=>?_⟩⟩
  ·simp only[ab4,v7]
   congr 1
   apply am4;simp_all
  ·simp only[af7] at K;obtain⟨b,_,rfl⟩:=K;rfl
  ·have F:j=0:=by simpa[F4] using N
   subst F;have B:i<s.data.toList.length:=by simpa using o
   refine⟨.int .u8 (s.data.toList[i]).toNat,by rw[show i*1+0=i by omega,w6,j4 B];rfl,?_⟩;simp only[o7,F4,s8];exact .int _ _
 ·have a:Pu H x=some c:=by
   unfold MV at h;grind
  have A:=Zu (C:=C) z G a;refine Qk.slice A λi o=>?_
  unfold GC at d;unfold Pu at a;split at a
  ·grind
  ·simp only[c9] at a;subst a;simp only[ab7,af] at d;have M:=G.inv_s;cases M with
   | nil=>simp at o
   | emp=>simp at o
   | sl t f g off P cap L I W J V Y S U Q Z=>
    grind
  ·split at a
   ·rename_i b _ v e L f p;simp only[c9] at a;subst a;dsimp only at d;rw[p] at d;simp only[ab7,af,j0,ad2] at d;obtain⟨g,y,_,_,_,m,_⟩:=z.arr' p (by rintro⟨_,rfl⟩;simp at o);grind
   grind
  ·split at a
   ·rename_i b O P _ v e L f p;simp only[c9] at a;subst a;dsimp only at d;rw[p] at d;simp only[ab7,af,j0,ad2] at d;have D:O+i<f.length:=by simp at o;omega
    obtain⟨g,y,_,_,_,m,_⟩:=z.arr' p (by rintro⟨_,rfl⟩;simp at D);grind
   grind
  grind
def B41{P:Program}{a b:Nat}:Nat.min a b=min a b:=rfl
def Zo{P:Program}{t u ty e:Nat}{h:TypeInfo}{D X:Value}{a:Option Addr}{b f:Nat}{c:List (List SV)}{i:List Value}{w':World}(l:P.underlying t=some (.slice e))(k:P.info? e=some h)(m:D = .slice a b f)
  (g:Qk P Γ w h.size X c i) (d:match a with|some a=>(storeCells a (i.take (min c.length b*h.size))).run P w = .ok () w'|none=>w'=w) :
  (ab8 #[t,u] ty #[D,X]).run P w = .ok (.int .i64 (min c.length b:Nat)) w':=by
 subst m;have j:=g.first (min c.length b) (Nat.min_le_left _ _) w rfl;cases a with
 | none=>
  simp only at d;subst d;simp[ab8,run_underlying l,g.len,sizeOf,typeInfo,k,B41,j,goInt]
 | some a=>
  simp only at d;simp[ab8,run_underlying l,g.len,sizeOf,typeInfo,k,B41,j,d,goInt]
def Bp9(b a:List (List SV))(i n:Nat)(e:i+n<=b.length)(q:Nat) :
  (b.take i++(a.take n++b.drop (i+min a.length n)))[q]? = if i<=q/\q<i+min a.length n then a[q-i]? else b[q]?:=by
 have c:(b.take i).length=i:=by rw[ac6];omega
 have d:(a.take n).length=min a.length n:=by rw[ac6];omega
 by_cases f:q<i
 ·rw[ae (by omega),v8 (by omega),aa4,ac f]
 ·rw[x6 (by omega),c];by_cases g:q<i+min a.length n
  ·rw[ac (by omega),v8 (by omega),aa4,ac (by omega)]
  ·rw[ae (by omega),x6 (by omega),d,List.getElem?_drop]
   congr 1;omega
def PX(a b:List (List SV))(i n:Nat)(c:i+n<=a.length):(a.take i++(b.take n++a.drop (i+min b.length n))).length=a.length:=by grind
def D75{b g i n f I Q:Nat}{v:Bool}{d c:List (List SV)}{S:Sem Value}{RV:Value}{rv:PV}{A:List Value}{sl:List PV}{P:Array Value}{o:Array Value}(hH:HR Γ H w)
  (a9:f=I) (hb:H[b]? = some (.arr v Q I d)) (M:i+n<=d.length) (X:Γ.nm b=some g) (hh:w.heap[g]? = some (.cells o Q (0,0))) (G:d.length*I<=o.size) (x:∀i (h:i<d.length),(d[i]).length=I)
  (L:∀i (h:i<d.length) j (h':j<(d[i]).length),∃V,o[i*I+j]? = some V/\VS Γ.St w (d[i][j]) V) (a6:¬(v=true/\d=[])) (W:A.length=c.length*f) (N:∀u∈A,u.oneCell'=true) (p:∀i (h:i<c.length),(c[i]).length=f/\∀j (h':j<(c[i]).length),∃U,A[i*f+j]? = some U/\VS Γ.St w (c[i][j]) U) (a:Addr) (ha:n≠0->a=⟨g,i*I,none⟩)
  (O:∀w',(storeCells a (A.take (min c.length n*f))).run C.P w = .ok () w'->S.run C.P w = .ok RV w') (a8:∀ Γ sh w,VP Γ sh w rv RV) (a7:rv.nms=[]) :
  WV C Γ H w sl P S rv sl (H.set b (.arr v Q I (d.take i++(c.take n++d.drop (i+min c.length n))))):=by
 subst a9;generalize hm:min c.length n=m;have a4:m<=c.length:=by omega
 have b0:m<=n:=by omega
 have T:(A.take (m*f)).length=m*f:=by
  have:m*f<=c.length*f:=j8 _ a4;rw[ac6,W];omega
 have D:i*f+(A.take (m*f)).length<=o.size:=by
  have:(i+m)*f<=d.length*f:=j8 _ (by omega);grind
 have l:=PX d c i n M;rw[hm] at l;have key:∃w',(storeCells a (A.take (m*f))).run C.P w = .ok () w'/\w'.heap[g]? = some (.cells (I4 o.toList (i*f) (A.take (m*f))).toArray Q (0,0))/\(∀k,k≠g->w'.heap[k]? = w.heap[k]?)/\w'.heap.size=w.heap.size/\w'.os=w.os/\w'.tape=w.tape/\w'.output=w.output/\
   w'.shape? g=w.shape? g:=by
  by_cases a5:n=0
  ·have a0:m=0:=by omega
   subst a0;refine⟨w,by simp[storeCells],by simpa[I4] using hh,λ_ _=>rfl,rfl,rfl,rfl,rfl,rfl⟩
  ·rw[ha a5];exact P2 hh D (λv hv=>N v (List.mem_of_mem_take hv))
 obtain⟨w',r1,r2,r3,r4,r5,r6,r7,r8⟩:=key;have F:∀k,Γ.St k->w'.heap[k]? = w.heap[k]?:=λk hk=>r3 k (λe=>(hH.lt b g X).2.2 (e▸hk))
 have hr:=O w' (by rw[hm];exact r1);have B:∀q (z:q<(d.take i++(c.take n++d.drop (i+m))).length),(i<=q/\q<i+m/\∃h:q-i<c.length,(d.take i++(c.take n++d.drop (i+m)))[q]=c[q-i])\/
   (¬(i<=q/\q<i+m)/\∃h:q<d.length,(d.take i++(c.take n++d.drop (i+m)))[q]=d[q]):=λq z=>by
  have:=Bp9 d c i n M q;rw[hm,j4 z] at this;rw[l] at z;by_cases K:i<=q/\q<i+m
  ·rw[ac K,j4 (by omega)] at this;exact .inl ⟨K.1,K.2,by omega,by simpa using this⟩
  ·rw[ae K,j4 z] at this;exact .inr ⟨K,z,by simpa using this⟩
 refine Ng hH hr hb X (by simp only[Blk.shp,l]) r3 r8 (by omega) r5 r6 r7 (.inr ⟨λhz=>a6 ⟨hz.1,?_⟩,g,_,X,r2,by rw[l];simpa[E5] using G,λq z=>?_,λq z j hj=>?_⟩) (by simp[Blk.nms]) (a8 _ _ _) (by simp[a7])
 ·have:=congrArg ag7 hz.2;rw[l] at this;exact o5.1 (by simpa using this)
 ·rcases B q z with⟨J,h2,y,e⟩|⟨J,y,e⟩
  ·rw[e];exact(p _ y).1
  ·rw[e];exact x _ y
 ·simp only[ac0];rw[P0 _ _ _ (by simpa using D),T];rcases B q z with⟨J,h2,y,e⟩|⟨J,y,e⟩
  ·have t:j<(c[q-i]).length:=by rw[<-e];exact hj
   obtain⟨U,q1,q2⟩:=(p _ y).2 j t;have Y:j<f:=by rw[<-(p _ y).1];exact t
   have a1:i*f<=q*f:=j8 _ J;have a2:(q+1)*f<=(i+m)*f:=j8 _ h2;rw[p6,p6] at a2;have a3:q*f+j-i*f=(q-i)*f+j:=by rw[Nat.sub_mul];omega
   rw[ac (by omega),a3];refine⟨U,?_,by simp only[e];exact q2.mono F (λ_ h=>h)⟩;rw[aa4,ac]
   ·exact q1
   ·rw[<-a3];omega
  ·have t:j<(d[q]).length:=by rw[<-e];exact hj
   obtain⟨U,q1,q2⟩:=L q y j t;have Y:j<f:=by rw[<-x q y];exact t
   rw[ae]
   ·exact⟨U,by simpa using q1,by simp only[e];exact q2.mono F (λ_ h=>h)⟩
   ·rintro⟨b1,b2⟩;apply J;constructor
    ·apply aa6;intro Z;have:(q+1)*f<=i*f:=j8 _ (by omega);rw[p6] at this;omega
    ·apply aa6;intro Z;have:(i+m)*f<=q*f:=j8 _ (by omega);rw[p6] at this;omega
def B09{t u ty e b g i n dCap m x:Nat}{v:Bool}{q:TypeInfo}{c d:List (List SV)}{D X:Value}{F:List Value}{sl:List PV}{tmps:Array Value}{f:Array Value}(I:HR Γ H w)(O:C.P.underlying t=some (.slice e))(y:C.P.info? e=some q)
  (B:q.size=m) (K:H[b]? = some (.arr v x m c)) (z:i+n<=c.length) (L:Γ.nm b=some g) (M:w.heap[g]? = some (.cells f x (0,0))) (l:c.length*m<=f.size) (k:∀i (h:i<c.length),(c[i]).length=m)
  (o:∀i (h:i<c.length) j (Q:j<(c[i]).length),∃V,f[i*m+j]? = some V/\VS Γ.St w (c[i][j]) V) (A:¬(v=true/\c=[])) (p:Qk C.P Γ w q.size X d F) (a:Addr) (J:n≠0->a=⟨g,i*m,none⟩) (G:D = .slice (some a) n dCap) :
  WV C Γ H w sl tmps (ab8 #[t,u] ty #[D,X]) (.s (.int .i64 (min d.length n:Nat))) sl (H.set b (.arr v x m (c.take i++(d.take n++c.drop (i+min d.length n))))):=by
 have N:∀w',(storeCells a (F.take (min d.length n*q.size))).run C.P w = .ok () w'->(ab8 #[t,u] ty #[D,X]).run C.P w = .ok (.int .i64 (min d.length n:Nat)) w':=λw' h=>Zo (P:=C.P) (w:=w) (u:=u) (ty:=ty) O y G p (w':=w') h
 exact D75 I B K z L M l k o A p.size p.one p.els a J N (λ_ _ _=>.int _ _) (by simp[PV.nms])
def A16{b n e c:Nat}{v:Bool}{a:List (List SV)}(f:H[b]? = some (.arr v e c a))(h:(decide (c=n)||(v&&a.isEmpty))=true)(d:¬(v=true/\a=[])):c=n:=by grind
def Ao2{t u ty:Nat}{d x:PV}{D X:Value}{k:PV->List Blk->Option R}{sl:List PV}{tmps:Array Value}(J:HR Γ H w)(h:RS C t d x H k=some r)(Z:VP Γ (A3 H) w d D)(hx:VP Γ (A3 H) w x X) :
  ∃v H',k v H'=some r/\WV C Γ H w sl tmps (ab8 #[t,u] ty #[D,X]) v sl H':=by
 unfold RS at h;split at h
 ·rename_i e a0;split at h
  ·rename_i G;simp only[j0] at G;obtain⟨⟨G,Q⟩,o⟩:=G;obtain⟨ie,K,A,a1⟩:=N2 G;split at h
   ·rename_i a2 L;obtain⟨Vs,Y⟩:=TY (C:=C) J hx Q L;have hu:=L1 a0;have j:∀{H':List Blk},(hn:D = .slice none 0 0)->k (.s (.int .i64 0)) H=some r->∃v H',k v H'=some r/\WV C Γ H w sl tmps (ab8 #[t,u] ty #[D,X]) v sl H':=λhn hk=>by
     have hr:=Zo (P:=C.P) (w:=w) (u:=u) (ty:=ty) hu K hn (by rw[A];exact Y) (w':=w) rfl;simp only[ai6] at hr;exact⟨_,_,hk,_,w,Γ,hr,Stp.refl J,J,id,.int _ _,by simp[PV.nms]⟩
    split at h
    ·rename_i b;split at h
     ·rename_i v U sz F p;cases Z with
      | flv _ V M I=>
       obtain⟨rfl,_,_,W⟩:=U8 p I;obtain rfl:=o5.1 W;simp only[ag2,ai6,ag8,ak5,ag1] at h;have z:H.set b (.arr true U sz [])=H:=by
        apply ae4;grind
       rw[z] at h;exact j (H':=H) rfl h
      | fl _ g v' V M n' cap I hv O N hm hs=>
       obtain⟨rfl,rfl,rfl,rfl⟩:=U8 p I;have f:¬(v=true/\F=[]):=by rintro⟨q1,q2⟩;exact hv q1 (by rw[q2];rfl)
       simp only[GC,p] at o;have B:=A16 p o f;obtain⟨g',T,y,hh,l,c,q⟩:=J.arr' p f;rw[O] at y;cases y;have:=B09 (C:=C) (u:=u) (ty:=ty) (i:=0) (n:=F.length) (dCap:=cap) (sl:=sl) (tmps:=tmps) J hu K (by rw[A,B]) p (by omega) O hh l c q f (by rw[A];exact Y) ⟨g,0,none⟩ (λ_=>by simp) rfl;simp only[ag8,List.nil_append,w9] at this;exact⟨_,_,h,this⟩
     ·cases h
    ·rename_i b i n;split at h
     ·rename_i v U sz F p;obtain⟨h1,S⟩:=D6 h;simp only[af] at h1;cases Z with
      | vwv _ V M _ I=>
       obtain⟨rfl,_,_,W⟩:=U8 p I;obtain rfl:=o5.1 W;simp only[ai6,ag8,ak5,ag1,List.take_nil] at S;have z:H.set b (.arr true U sz [])=H:=by
        apply ae4;grind
       rw[z] at S;exact j (H':=H) rfl S
      | vw _ _ _ g a cap v' V M m I hv O ha a3 N hm=>
       obtain⟨rfl,rfl,rfl,rfl⟩:=U8 p I;have f:¬(v=true/\F=[]):=by rintro⟨q1,q2⟩;exact hv q1 (by rw[q2];rfl)
       simp only[GC,p] at o;have B:=A16 p o f;obtain⟨g',T,y,hh,l,c,q⟩:=J.arr' p f;rw[O] at y;cases y;have:=B09 (C:=C) (u:=u) (ty:=ty) (i:=i) (n:=n) (dCap:=cap) (sl:=sl) (tmps:=tmps) J hu K (by rw[A,B]) p h1 O hh l c q f (by rw[A];exact Y) a ha rfl;exact⟨_,_,S,this⟩
     ·cases h
    ·exact j (H':=H) Z.inv_nsl h
    ·cases h
   ·cases h
  ·cases h
 ·cases h
end
section
variable {Γ : Ctx} {H : List Blk} {w : World} {R : Type} {r : R} {C : Cfg}
def BR.kill{sh:Nat->Option Shp}{b c:Nat}{x:Blk}(h:BR Γ sh w c x):BR Γ sh w c (x.kill b):=by
 cases x with
 | box cells=>
  obtain⟨g,cur,e,h1,h2,h3,h4⟩:=h;simp only[Blk.kill,Dk];refine⟨g,cur,e,h1,h2,by simpa using h3,λj hj=>?_⟩;obtain⟨V,e1,e2⟩:=h4 j (by simpa using hj);exact⟨V,e1,by simpa using e2.kill b⟩
 | arr=>exact h
 | iter=>exact h
 | mp ents=>
  obtain⟨g,es,ck,h1,h2,h3⟩:=h;exact⟨g,es,ck,h1,h2,h3.map λv _ V k=>k.kill b⟩
 | ms=>exact h
 | dead=>exact h
def Blk.kill_nms'{b:Nat}{x:Blk}:∀c∈(x.kill b).nms,c≠b/\c∈x.nms:=by
 intro c hc;cases x with
 | box cells=>
  simp only[Blk.kill,Blk.nms] at hc ⊢;exact⟨λe=>V2 b cells (e▸hc),Cs b cells c hc⟩
 | arr=>simp[Blk.kill,Blk.nms] at hc
 | iter=>simp[Blk.kill,Blk.nms] at hc
 | ms=>simp[Blk.kill,Blk.nms] at hc
 | mp ents=>
  simp only[Blk.kill,Blk.nms] at hc ⊢;obtain⟨j,hj,hc⟩:=C7.1 hc;simp only[PE,ac7,o7,ah2] at hc;exact⟨λe=>PV.not_mem_kill b _ (e▸hc),DL (af7.2 ⟨_,p7 _,rfl⟩) c (PV.kill_nms b _ c hc)⟩
 | dead=>simp[Blk.kill,Blk.nms] at hc
def Ctx.re(Γ:Ctx)(b:Nat)(ng:Option Nat):Ctx:={ Γ with nm:=λc=>if c=b then ng else Γ.nm c }
def Zs{b c:Nat}{y:Blk}(a:b<H.length):A3 ((H.map (Blk.kill b)).set b y) c=if c=b then some y.shp else A3 H c:=by rw[TW (by simpa using a),OA]
def NN{b:Nat}{y:Blk}{ng:Option Nat}{w':World}(m:HR Γ H w)(D:b<H.length)(F:¬Kq C (A3 H b))(p:∀g,ng=some g->g<w'.heap.size/\¬ Γ.St g/\∀c,c≠b->Γ.nm c≠some g)
  (u:∀g,ng=some g->Γ.nm b=some g\/w.heap.size<=g) (n:∀k,k<w.heap.size->Γ.nm b≠some k->w'.heap[k]? = w.heap[k]?) (v:w.heap.size<=w'.heap.size) (N:w'.os=w.os) (O:w'.tape=w.tape) (P:w'.output=w.output)
  (T:BR (Γ.re b ng) (A3 ((H.map (Blk.kill b)).set b y)) w' b y) (I:y.nms=[]) :
  Stp C Γ H w noΦ (Γ.re b ng) ((H.map (Blk.kill b)).set b y) w' noΦ/\HR (Γ.re b ng) ((H.map (Blk.kill b)).set b y) w'/\
   ∀sl o,SR Γ H w sl o->SR (Γ.re b ng) ((H.map (Blk.kill b)).set b y) w' (Ab b sl) o:=by
 have G:∀k,Γ.St k->w'.heap[k]? = w.heap[k]?:=λk B=>n k (m.stlt k B) (λe=>(m.lt b k e).2.2 B)
 have q:∀c g,c≠b->Γ.nm c=some g->w'.heap[g]? = w.heap[g]?:=λc g a f=>n g (m.lt c g f).2.1 (λe=>a (m.inj c b g f e))
 have M:Bg Γ (A3 H) w (Γ.re b ng) (A3 ((H.map (Blk.kill b)).set b y)) w' (λc=>c≠b/\c<H.length):=
  ⟨G,λ_ h=>h,λc a=>by simp only[Ctx.re];rw[ae a.1],λc a=>by rw[Zs D,ae a.1],λc g a f=>F9 (q c g a.1 f),rfl⟩
 refine⟨⟨N,O,P,v,λ_ h=>h,λ_ h=>.inl h,λc g f=>?_,λ_ h=>.inl h,λg f S _=>n g f (S b),rfl,by simp,λc a Q=>?_⟩,⟨λc d g a j=>?_,λc g f=>?_,λk B=>ad0 (m.stlt k B) v,λc a d j=>?_,λc a=>?_⟩,λsl o A=>⟨?_,λc a=>?_,λi J=>?_⟩⟩
 ·simp only[Ctx.re] at f;split at f
  ·rename_i e;subst e;rcases u g f with h|h
   ·exact .inl ⟨D,h⟩
   ·exact .inr h
  ·exact .inl ⟨(m.lt c g f).1,f⟩
 ·have l:c≠b:=λe=>F (e▸Q)
  exact⟨M.nm c ⟨l,a⟩,M.shp c ⟨l,a⟩,λg f=>M.hs c g ⟨l,a⟩ f⟩
 ·simp only[Ctx.re] at a j;split at a<;>split at j
  ·omega
  ·rename_i x z;exact absurd j ((p g a).2.2 d z)
  ·rename_i x z;exact absurd a ((p g j).2.2 c x)
  ·exact m.inj c d g a j
 ·simp only[Ctx.re] at f;rw[x9,o6];split at f
  ·rename_i e;subst e;exact⟨D,(p g f).1,(p g f).2.1⟩
  ·have:=m.lt c g f;exact⟨this.1,by omega,this.2.2⟩
 ·rw[x9,o6] at a ⊢;rw[x3] at j;split at j
  ·rw[I] at j;simp at j
  ·rw[o7] at j;exact m.nms c a d (Blk.kill_nms' d j).2
 ·rw[x9,o6] at a;rw[x3];split
  ·rename_i e;subst e;exact T
  ·rename_i e;rw[o7];have l:c≠b:=λK=>e K.symm
   exact(BR.kill (m.blk c a)).mono M (M.nm c ⟨l,a⟩) (λg f=>q c g l f) (λd j=>⟨(Blk.kill_nms' d j).1,m.nms c a d (Blk.kill_nms' d j).2⟩)
 ·rw[Dk,o6];exact A.size
 ·rw[x9,o6];exact A.nms c (Cs b sl c a)
 ·have t:i<sl.length:=by rw[Dk] at J;simpa using J
  obtain⟨V,x,z⟩:=A.slot i t;refine⟨V,x,?_⟩;have L:(Ab b sl)[i]=(sl[i]).kill b:=by simp[Dk]
  rw[L];exact(z.kill b).mono M λc a=>⟨λe=>PV.not_mem_kill b _ (e▸a),A.nms c (C7.2 ⟨i,t,PV.kill_nms b _ c a⟩)⟩
def Yp{u:Nat}(h:SL (C.sh u)=true):∃d,C.P.underlying u=some d/\(d = .string\/∃b,d = .slice b):=by
 unfold SL at h;split at h
 ·rename_i a;exact⟨_,Fc a,.inl rfl⟩
 ·rename_i e a;exact⟨_,L1 a,.inr ⟨_,rfl⟩⟩
 ·cases h
def Bj{P:Program}{t u ty e n cap:Nat}{i:TypeInfo}{d:TypeDesc}{base:Option Addr}{X:Value}{b:List (List SV)}{g:List Value}{w':World}(o:P.underlying t=some (.slice e))(p:P.underlying u=some d)(l:d = .string\/∃j,d = .slice j)(m:P.info? e=some i)
  (h:Qk P Γ w i.size X b g) (c:n+b.length<=cap) (f:match base with|some a=>(storeCells (a.add (n*i.size)) g).run P w = .ok () w'|none=>w'=w) :
  (x8 #[t,u] ty #[.slice base n cap,X]).run P w = .ok (.slice base (n+b.length) cap) w':=by
 have k:=h.first b.length (j7 _) w rfl;have hV:g.take (b.length*i.size)=g:=ab6 (by rw[h.size];exact j7 _);rw[hV] at k;cases base with
 | none=>
  simp only at f;subst f;rcases l with rfl|⟨j,rfl⟩ <;>
   simp[x8,run_underlying o,run_underlying p,sizeOf,typeInfo,m,h.len,c,k]
 | some a=>
  simp only at f;rcases l with rfl|⟨j,rfl⟩ <;>
   simp[x8,run_underlying o,run_underlying p,sizeOf,typeInfo,m,h.len,c,k,f]
def Gn{P:Program}{t u ty e n cap:Nat}{c:TypeInfo}{z:Value}{d:TypeDesc}{base:Option Addr}{X:Value}{a:List (List SV)}{h olds:List Value}(A:P.underlying t=some (.slice e))(B:P.underlying u=some d)(v:d = .string\/∃o,d = .slice o)(x:P.info? e=some c)(D:c.zero=some z)
  (l:Qk P Γ w c.size X a h) (q:∀w':World,w'.heap=w.heap->(ab4 c.size n (.slice base n cap)).run P w' = .ok olds.toArray w') (b:cap<n+a.length) (j:n+a.length<=maxLen) (m:(n+a.length)*c.bytes<=140737488355328) :
  (x8 #[t,u] ty #[.slice base n cap,X]).run P w = .ok (.slice (some ⟨w.heap.size,0,none⟩) (n+a.length) (grownCap w (n+a.length) cap e))
   (w.drew.alloc (.cells (olds.toArray++h.toArray++ac1 z.cells (grownCap w (n+a.length) cap e-(n+a.length))) e)):=by
 have p:=l.first a.length (j7 _) w.drew rfl;have hV:h.take (a.length*c.size)=h:=ab6 (by rw[l.size];exact j7 _);rw[hV] at p;have k:=q w.drew rfl;have y:¬(n+a.length<=cap):=by omega
 have i:n+a.length<=9223372036854775807:=by simp only[maxLen] at j;omega
 have g:¬(9223372036854775807<((n:Int)+(a.length:Int))):=by omega
 have f:¬(281474976710656<Builtin.nextslicecap (n+a.length) cap*c.bytes):=by have:=growslice_fits b m;omega
 rcases v with rfl|⟨o,rfl⟩ <;>
 ·simp[x8,run_underlying A,run_underlying B,sizeOf,typeInfo,zeroValue,x,D,l.len,y,g,f,Question.forced,p,k,newRow,grownCap]
  congr 2
  apply am4;simp[ac2]
end
section
variable {Γ : Ctx} {H : List Blk} {w : World} {R : Type} {r : R} {C : Cfg}
def Els(St:Nat->Prop)(w:World)(n:Nat)(a:List (List SV))(b:List Value):Prop:=
 b.length=a.length*n/\∀i (h:i<a.length),(a[i]).length=n/\∀j (c:j<(a[i]).length),∃U,b[i*n+j]? = some U/\VS St w (a[i][j]) U
def Qk.toEls{P:Program}{n:Nat}{X:Value}{news:List (List SV)}{Vs:List Value}(h:Qk P Γ w n X news Vs):Els Γ.St w n news Vs:=⟨h.size,h.els⟩
def Els.append{St:Nat->Prop}{n:Nat}{a b:List (List SV)}{A B:List Value}(ha:Els St w n a A)(hb:Els St w n b B):Els St w n (a++b) (A++B):=by
 refine⟨by rw[j9,j9,ha.1,hb.1,p6],λi hi=>?_⟩;rw[j9] at hi;by_cases h:i<a.length
 ·have e:(a++b)[i]'(by rw[j9];exact hi)=a[i]:=w8 h;refine⟨by rw[e];exact(ha.2 i h).1,λj hj=>?_⟩;have hj':j<(a[i]).length:=by rw[<-e];exact hj
  obtain⟨U,e1,k⟩:=(ha.2 i h).2 j hj';grind
 ·have h':i-a.length<b.length:=by omega
  have e:(a++b)[i]'(by rw[j9];exact hi)=b[i-a.length]:=ae2 (by omega);refine⟨by rw[e];exact(hb.2 _ h').1,λj hj=>?_⟩;have hj':j<(b[i-a.length]).length:=by rw[<-e];exact hj
  obtain⟨U,e1,k⟩:=(hb.2 _ h').2 j hj';refine⟨U,?_,by simp only[e];exact k⟩;have hle:a.length*n<=i*n:=j8 _ (by omega);rw[x6 (by rw[ha.1];omega),ha.1,<-e1]
  congr 1
  rw[Nat.sub_mul];omega
def Els.mono{St St':Nat->Prop}{w':World}{n:Nat}{els:List (List SV)}{Vs:List Value}(h:Els St w n els Vs)(hs:∀g,St g->w'.heap[g]? = w.heap[g]?)(hsub:∀g,St g->St' g):Els St' w' n els Vs:=
 ⟨h.1,λi hi=>⟨(h.2 i hi).1,λj hj=>by obtain⟨U,e,k⟩:=(h.2 i hi).2 j hj;exact⟨U,e,k.mono hs hsub⟩⟩⟩
def BR.els{Γ':Ctx}{sh:Nat->Option Shp}{w':World}{b g e n:Nat}{v:Bool}{els:List (List SV)}{Vs:List Value}{cur:Array Value}(hg:Γ'.nm b=some g)(hh:w'.heap[g]? = some (.cells cur e (0,0)))(hE:Els Γ'.St w' n els Vs)(hne:¬(v=true/\els=[]))
  (hc:∀q,q<Vs.length->cur[q]? = Vs[q]?) (hl:Vs.length<=cur.size):BR Γ' sh w' b (.arr v e n els):=by
 refine .inr ⟨hne,g,cur,hg,hh,by rw[<-hE.1];exact hl,λi hi=>(hE.2 i hi).1,λi hi j hj=>?_⟩;obtain⟨U,e1,k⟩:=(hE.2 i hi).2 j hj;exact⟨U,by rw[hc _ (j5.1 e1).1];exact e1,k⟩
def EL{n m bytes:Nat}(h:n+m<=68719476736)(a:bytes<=512):(n+m)*bytes<=140737488355328:=by have:(n+m)*bytes<=68719476736*512:=Nat.mul_le_mul h a;omega
def Jr{need cap e:Nat}(h:need<=68719476736):need<=grownCap w need cap e/\grownCap w need cap e<=maxLen:=
 ⟨grownCap_ge _ _ _ _,grownCap_le_maxLen _ _ _ _ (by simp only[maxLen];omega)⟩
def CY{olds Vs:List Value}{z:Array Value}{k n m size:Nat}(c:z.size=size)(a:olds.length=n*size)(hV:Vs.length=m*size)(d:n+m<=k) :
  (olds.toArray++Vs.toArray++ac1 z (k-(n+m))).size=k*size/\(∀q,q<(olds++Vs).length->(olds.toArray++Vs.toArray++ac1 z (k-(n+m)))[q]? = (olds++Vs)[q]?):=by
 refine⟨?_,λq b=>?_⟩
 ·simp only[ai2,List.size_toArray,size_zeroCells,c,a,hV,<-p6]
  congr 1;omega
 ·rw[ac3 (by simpa using b)];simp
def Eg0{z:Bool}{d:Nat}{b:List (List SV)}{S:Value}(h:VS Γ.St w (.sl z true d b) S):∃A,S = .slice A b.length b.length/\(z=true->A=none/\b=[])/\(z=false->A≠none)/\∀i (h:i<b.length),(b[i]).length=d:=by
 cases h with
 | nil=>exact⟨none,rfl,λ_=>⟨rfl,rfl⟩,by simp,λi h=>by simp at h⟩
 | emp _ _ a cap f e=>
  simp_all
 | sl _ _ g off n cap q j o c e f l m k p=>
  simp_all
def KJ{t u ty e:Nat}{z:Bool}{els a:List (List SV)}{S X:Value}{A:Option Addr}{sl:List PV}{tmps:Array Value}(l:HR Γ H w)(U:C.P.underlying t=some (.slice e))(hu:SL (C.sh u)=true)(J:(C.ti e).ok=true)
  (hS:S = .slice A els.length els.length) (D:SlV Γ w S els) (hz:z=true->A=none/\els=[]) (j:∀i (h:i<els.length),(els[i]).length=(C.ti e).ks.length) {B:List Value} (y:Qk C.P Γ w (C.ti e).ks.length X a B)
  (I:z=true\/a≠[]) (Q:els.length+a.length<=68719476736) :
  WV C Γ H w sl tmps (x8 #[t,u] ty #[S,X]) (.fl H.length) sl (H++[.arr z e (C.ti e).ks.length (els++a)]):=by
 obtain⟨ud,q,v⟩:=Yp hu;obtain⟨ie,dd,Z,N,hd,L,p,F,O,a0,M,c⟩:=Ke J;subst hS;by_cases G:a=[]
 ·subst G;rcases I with h|h
  ·obtain⟨rfl,rfl⟩:=hz h;subst h;have b:=Bj (P:=C.P) (w:=w) (ty:=ty) (n:=0) (cap:=0) (base:=none) U q v N (by rw[c];exact y) (j7 _) (w':=w) rfl;exact⟨_,w,Γ,b,ZR l,Be0 l rfl (.inl ⟨rfl,rfl⟩),SR.grow (Yv _ l),.flv _ e (C.ti e).ks.length (by rw[J4];rfl),by simp[PV.nms]⟩
  ·exact absurd rfl h
 ·have hm:0<a.length:=ah6.2 G;obtain⟨olds,x⟩:=Qk.slice (P:=C.P) D j;have K:olds.take (els.length*(C.ti e).ks.length)=olds:=ab6 (by rw[x.size];exact j7 _);have b:=Gn (P:=C.P) (w:=w) (ty:=ty) (olds:=olds) U q v N L (by rw[c];exact y) (λw' hw=>by have:=x.first els.length (j7 _) w' hw;rw[K] at this;rw[c];exact this) (by omega) (by simp only[maxLen];omega) (EL Q F);obtain⟨f,m⟩:=Jr (w:=w) (need:=els.length+a.length) (cap:=els.length) (e:=e) Q;generalize grownCap w (els.length+a.length) els.length e=V at b f m;obtain⟨W,Y⟩:=CY (z:=Z.cells) (by rw[<-p,c]) x.size y.size f;generalize T:olds.toArray++B.toArray++ac1 Z.cells (V-(els.length+a.length))=row at b W Y;have d:(w.drew.alloc (.cells row e)).heap=w.heap.push (.cells row e):=rfl;have hE:=(x.toEls.append y.toEls).mono (w':=w.drew.alloc (.cells row e)) (λg hg=>I3 d (l.stlt g hg)) (λ_ h=>h);have o:¬(z=true/\els++a=[]):=by rintro⟨_,h⟩;simp at h;exact G h.2
  have k:(olds++B).length<=row.size:=by grind
  refine Fq l b d rfl rfl rfl (BR.els (g:=w.heap.size) (cur:=row) (by simp[Ctx.upd]) (I2 d) hE o Y k) (by simp[Blk.nms]) ?_ (by simp[PV.nms]);refine .fl H.length w.heap.size z e (C.ti e).ks.length (els.length+a.length) V ?_ (λ_=>by omega) (by simp[Ctx.upd]) f m ?_
  ·rw[J4];simp[Blk.shp]
  ·simp only[aa9,I2 d,W]
def A78{t u ty e b A sz:Nat}{v:Bool}{a d:List (List SV)}{S X:Value}{sl:List PV}{B:Array Value}(D:HR Γ H w)(ht:C.P.underlying t=some (.slice e))(hu:SL (C.sh u)=true)(b7:(C.ti e).ok=true)(hb:H[b]? = some (.arr v A sz a))(b6:Ij C A=false)
  (Q:(v=true/\a=[])\/(A=e/\sz=(C.ti e).ks.length)) (hS:VP Γ (A3 H) w (.fl b) S) {Vs:List Value} (T:Qk C.P Γ w (C.ti e).ks.length X d Vs) (hr:a.length+d.length<=68719476736) :
  WV C Γ H w sl B (x8 #[t,u] ty #[S,X]) (.fl b) (Ab b sl) ((H.map (Blk.kill b)).set b (.arr v e (C.ti e).ks.length (a++d))):=by
 obtain⟨ud,a4,a5⟩:=Yp hu;obtain⟨ie,dd,zv,V,hd,c1,a9,b2,c3,c7,c2,x⟩:=Ke b7;have f:=(j5.1 hb).1;have K:¬Kq C (A3 H b):=by
  simp only[A3,hb,ac9,Blk.shp,Kq,b6];simp
 have c5:b<((H.map (Blk.kill b)).set b (.arr v e (C.ti e).ks.length (a++d))).length:=by simpa using f
 have grow:∀(base:Option Addr) (cap:Nat),S = .slice base a.length cap->cap<a.length+d.length->SlV Γ w S a->(∀i (h:i<a.length),(a[i]).length=(C.ti e).ks.length)->
   WV C Γ H w sl B (x8 #[t,u] ty #[S,X]) (.fl b) (Ab b sl) ((H.map (Blk.kill b)).set b (.arr v e (C.ti e).ks.length (a++d))):=by
  intro base cap b1 I Y l;subst b1;obtain⟨olds,W⟩:=Qk.slice (P:=C.P) Y l;have b8:olds.take (a.length*(C.ti e).ks.length)=olds:=ab6 (by rw[W.size];exact j7 _);have m:=Gn (P:=C.P) (w:=w) (ty:=ty) (olds:=olds) ht a4 a5 V c1 (by rw[x];exact T) (λw' hw=>by have:=W.first a.length (j7 _) w' hw;rw[b8] at this;rw[x];exact this) I (by simp only[maxLen];omega) (EL hr b2);obtain⟨a0,a8⟩:=Jr (w:=w) (need:=a.length+d.length) (cap:=cap) (e:=e) hr;generalize grownCap w (a.length+d.length) cap e=kc at m a0 a8;obtain⟨r1,r2⟩:=CY (z:=zv.cells) (by rw[<-a9,x]) W.size T.size a0;generalize c4:olds.toArray++Vs.toArray++ac1 zv.cells (kc-(a.length+d.length))=row at m r1 r2;have G:(w.drew.alloc (.cells row e)).heap=w.heap.push (.cells row e):=rfl;have N:∀g,Γ.St g->(w.drew.alloc (.cells row e)).heap[g]? = w.heap[g]?:=λg p=>I3 G (D.stlt g p)
  have hE:=(W.toEls.append T.toEls).mono (w':=w.drew.alloc (.cells row e)) N (λ_ h=>h);have b3:0<a.length+d.length:=by omega
  have J:¬(v=true/\a++d=[]):=by rintro⟨_,h⟩;have:=congrArg ag7 h;simp at this;simp[this] at b3
  have M:(olds++Vs).length<=row.size:=by grind
  have L:(Γ.re b (some w.heap.size)).nm b=some w.heap.size:=by simp[Ctx.re]
  obtain⟨s1,s2,s3⟩:=NN (C:=C) (y:=.arr v e (C.ti e).ks.length (a++d)) (ng:=some w.heap.size) (w':=w.drew.alloc (.cells row e)) D f K (λg p=>by
    simp only[c9] at p;subst p;refine⟨by rw[G];simp,λhs=>ak6 _ (D.stlt _ hs),λc _ Q=>ak6 _ (D.lt c _ Q).2.1⟩)
   (λg p=>by simp only[c9] at p;subst p;exact .inr (j7 _)) (λk O _=>I3 G O) (by rw[G];simp) rfl rfl rfl
   (BR.els (g:=w.heap.size) (cur:=row) L (I2 G) hE J r2 M) rfl
  refine⟨_,_,_,m,s1,s2,s3 sl B,?_,by simpa[PV.nms] using f⟩;refine .fl b w.heap.size v e (C.ti e).ks.length (a.length+d.length) kc ?_ (λ_=>by omega) L a0 a8 ?_
  ·rw[Zs f,ac rfl];simp[Blk.shp]
  ·simp only[aa9,I2 G,r1]
 cases hS with
 | flv _ e2 b0 h'=>
  obtain⟨rfl,_,_,h4⟩:=U8 hb h';obtain rfl:=o5.1 h4;by_cases hn:d=[]
  ·subst hn;have m:=Bj (P:=C.P) (w:=w) (ty:=ty) (n:=0) (cap:=0) (base:=none) ht a4 a5 V (by rw[x];exact T) (j7 _) (w':=w) rfl;obtain⟨s1,s2,s3⟩:=NN (C:=C) (y:=.arr true e (C.ti e).ks.length ([]++[])) (ng:=Γ.nm b) (w':=w) D f K (λg p=>⟨(D.lt b g p).2.1,(D.lt b g p).2.2,λc Q Z=>Q (D.inj c b g Z p)⟩)
    (λg p=>.inl p) (λ_ _ _=>rfl) (j7 _) rfl rfl rfl (.inl ⟨rfl,rfl⟩) rfl
   exact⟨_,_,_,m,s1,s2,s3 sl B,.flv b e (C.ti e).ks.length (by rw[Zs f,ac rfl];rfl),by simpa[PV.nms] using f⟩
  ·have hm:0<d.length:=ah6.2 hn;refine grow none 0 rfl (by simpa using hm) ⟨none,0,rfl,j7 _,ab2 _,λ_=>rfl,λh=>absurd rfl h⟩ (λi h=>by simp at h)
 | fl _ g v' e2 b0 n' cap h' hv p I hm hs=>
  have Y:=Zu (C:=C) D (VP.fl b g v' e2 b0 n' cap h' hv p I hm hs) (show Pu H (.fl b)=some a by simp only[Pu,hb]);obtain⟨rfl,rfl,rfl,rfl⟩:=U8 hb h';have a2:¬(v=true/\a=[]):=by rintro⟨q1,q2⟩;exact hv q1 (by rw[q2];rfl)
  rcases Q with Q|⟨rfl,rfl⟩
  ·exact absurd Q a2
  ·obtain⟨g',cur,a7,hh,M,l,a6⟩:=D.arr' hb a2;rw[p] at a7;cases a7;by_cases F:a.length+d.length<=cap
   ·have b4:cur.size=cap*(C.ti A).ks.length:=by
     have:=hs;simp only[aa9,hh,c9,af0,true_and] at this;exact this
    have a1:a.length*(C.ti A).ks.length+Vs.length<=cur.size:=by
     rw[T.size,b4,<-p6];exact j8 _ F
    obtain⟨w',r1,r2,r3,r4,r5,r6,r7,r8⟩:=P2 (P:=C.P) (o:=a.length*(C.ti A).ks.length) hh a1 T.one;have m:=Bj (P:=C.P) (w:=w) (ty:=ty) (n:=a.length) (cap:=cap) (base:=some ⟨g,0,none⟩) ht a4 a5 V (by rw[x];exact T) F (w':=w') (by simp only;rw[O8,x,w9];exact r1);have N:∀k,Γ.St k->w'.heap[k]? = w.heap[k]?:=λk O=>r3 k (λe=>(D.lt b g p).2.2 (e▸O))
    have W:Els Γ.St w (C.ti A).ks.length a (cur.toList.take (a.length*(C.ti A).ks.length)):=by
     refine⟨by simp;omega,λi V=>⟨l i V,λj hj=>?_⟩⟩;obtain⟨U,e1,k⟩:=a6 i V j hj;refine⟨U,?_,k⟩;have c6:j<(C.ti A).ks.length:=by rw[<-l i V];exact hj
     have:(i+1)*(C.ti A).ks.length<=a.length*(C.ti A).ks.length:=j8 _ V;rw[p6] at this;rw[aa4,ac (by omega)];simpa using e1
    have hE:=(W.append T.toEls).mono (w':=w') N (λ_ h=>h);have J:¬(v=true/\a++d=[]):=by rintro⟨h1,h⟩;simp at h;exact a2 ⟨h1,h.1⟩
    have L:(Γ.re b (some g)).nm b=some g:=by simp[Ctx.re]
    have a3:(cur.toList.take (a.length*(C.ti A).ks.length)).length=a.length*(C.ti A).ks.length:=W.1;obtain⟨s1,s2,s3⟩:=NN (C:=C) (y:=.arr v A (C.ti A).ks.length (a++d)) (ng:=some g) (w':=w') D f K (λk O=>by
      simp only[c9] at O;subst O;refine⟨by have:=(D.lt b g p).2.1;omega,(D.lt b g p).2.2,λc Q Z=>Q (D.inj c b g Z p)⟩)
     (λk O=>by simp only[c9] at O;subst O;exact .inl p) (λk O b5=>r3 k (λe=>b5 (e▸p))) (by omega) r5 r6 r7
     (BR.els L r2 hE J (λq hq=>by
      rw[j9,a3] at hq;simp only[ac0];rw[P0 _ _ _ (by simpa using a1)];by_cases b9:q<a.length*(C.ti A).ks.length
      ·rw[ae (by omega),v8 (by omega),aa4,ac b9]
      ·rw[ac (by omega),x6 (by omega),a3]) (by rw[j9,a3];simpa[E5] using a1)) rfl
    refine⟨_,_,_,m,s1,s2,s3 sl B,?_,by simpa[PV.nms] using f⟩;refine .fl b g v A (C.ti A).ks.length (a.length+d.length) cap ?_ (λc0=>?_) L F hm ?_
    ·rw[Zs f,ac rfl];simp[Blk.shp]
    ·have:=hv c0;omega
    ·rw[r8];exact hs
   ·exact grow _ cap rfl (by omega) Y l
def OT{t u ty:Nat}{sl:List PV}{s x:PV}{S X:Value}{k:PV->List PV->List Blk->Option R}{tmps:Array Value}(j:HR Γ H w)(F:SL (C.sh u)=true)(h:Si C t sl s x H k=some r)(n:VP Γ (A3 H) w s S)(J:VP Γ (A3 H) w x X) :
  ∃v m H',k v m H'=some r/\WV C Γ H w sl tmps (x8 #[t,u] ty #[S,X]) v m H':=by
 unfold Si at h;split at h
 ·rename_i e B;have D:=L1 B;split at h
  ·rename_i a;simp only[j0] at a;obtain⟨a,l⟩:=a;split at h
   ·rename_i G f;obtain⟨L,p⟩:=TY (C:=C) j J l f;split at h
    ·obtain⟨c,g⟩:=D6 h;simp only[G0,af] at c;obtain rfl:=n.inv_nsl;have:=KJ (C:=C) (t:=t) (u:=u) (ty:=ty) (z:=true) (els:=[]) (A:=none) (sl:=sl) (tmps:=tmps) j D F a rfl ⟨none,0,rfl,j7 _,ab2 _,λ_=>rfl,λh=>absurd rfl h⟩ (λ_=>⟨rfl,rfl⟩) (λi h=>by simp at h) p (.inl rfl) (by simpa using c);exact⟨_,_,_,g,this⟩
    ·rename_i z N els;split at h
     ·rename_i y;subst y;obtain⟨c,g⟩:=D6 h;simp only[G0,j0,ab7,af,ae3,List.isEmpty_eq_false_iff] at c;obtain⟨A,rfl,K,_,d⟩:=Eg0 n.inv_s;have o:=Zu (C:=C) j n (show Pu H (.s (.sl z true (C.ti e).ks.length els))=some els from rfl);exact⟨_,_,_,g,KJ (C:=C) j D F a rfl o K d p c.1 c.2⟩
     ·cases h
    ·rename_i b;split at h
     ·rename_i v M O els I;split at h
      ·rename_i q;simp only[j0,ae3,ab7,af,ad2] at q;obtain⟨c,g⟩:=D6 h;simp only[G0,af] at c;exact⟨_,_,_,g,A78 (C:=C) j D F a I q.1 q.2.symm n p c⟩
      ·cases h
     ·cases h
    ·cases h
   ·cases h
  ·cases h
 ·cases h
end
section
variable {Γ : Ctx} {H : List Blk} {w : World} {R : Type} {r : R} {C : Cfg}
def YL{sh:Nat->Option Shp}(s:ByteArray):∀(l:List (List UInt8 × PV)) (c:List MapEntry) (n:Nat),MR Γ sh w l c->
  (Ao l s.data.toList=false/\ad3 .string (.string s) c n=some none/\SW l s.data.toList=l/\∀v V b,VP Γ sh w v V->MR Γ sh w (Dm l s.data.toList v) (c++[⟨.string s,V,b⟩]))\/
  (Ao l s.data.toList=true/\∃i E,ad3 .string (.string s) c n=some (some (n+i,E.val))/\c[i]? = some E/\E.key = .string s/\VP Γ sh w (Ac .bad l s.data.toList) E.val/\MR Γ sh w (SW l s.data.toList) (c.eraseIdx i)/\
   ∀v V,VP Γ sh w v V->MR Γ sh w (Dm l s.data.toList v) (c.modify i λe=>{ e with key:=.string s,val:=V }))
 | [],[],n,_=>.inl ⟨rfl,rfl,rfl,λv V b j=>⟨⟨⟨s,rfl,rfl⟩,j⟩,trivial⟩⟩
 | e::l,E::c,n,h=>by
  obtain⟨⟨⟨f,m,d⟩,j⟩,x⟩:=h;have g:Instr.sameNow .string (.string s) E.key=some (s==f):=by rw[m];rfl
  have heq:(s==f)=(s.data.toList==e.1):=by
   rw[<-d,aj5];simp only[ai5,beq_iff_eq];constructor
   ·rintro rfl;rfl
   ·intro h;have e:s.data=f.data:=Array.toList_inj.1 h;cases s;cases f;simp_all
  cases a:(s.data.toList==e.1) with
  | true=>
   rw[a] at heq;have A:e.1=s.data.toList:=(eq_of_beq a).symm;have y:s=f:=(ai5 s f).1 heq;subst y;refine .inr ⟨by simp only[Ao,a,aa],0,E,by simp[ad3,g,heq],rfl,m,by simpa only[Ac,a,aa] using j,by simpa only[SW,a,aa,List.eraseIdx_zero,List.tail_cons] using x,λv V k=>?_⟩;simp only[Dm,a,aa];exact⟨⟨⟨s,rfl,A.symm⟩,k⟩,x⟩
  | false=>
   rw[a] at heq;rcases YL s l c (n+1) x with⟨o,p,q,t⟩|⟨o,i,z,p,q,u,t,B,D⟩
   ·refine .inl ⟨by simp only[Ao,a,ab,o],by simp[ad3,g,heq,p],by simp only[SW,a,ab,q],λv V b k=>?_⟩;simp only[Dm,a,ab];exact⟨⟨⟨f,m,d⟩,j⟩,t v V b k⟩
   ·refine .inr ⟨by simp only[Ao,a,ab,o],i+1,z,by simp[ad3,g,heq,p];omega,by simpa using q,u,by simpa only[Ac,a,ab] using t,?_,λv V k=>?_⟩
    ·simp only[SW,a,ab,List.eraseIdx_cons_succ];exact⟨⟨⟨f,m,d⟩,j⟩,B⟩
    ·simp only[Dm,a,ab,List.modify_succ_cons];exact⟨⟨⟨f,m,d⟩,j⟩,D v V k⟩
 | [],_::_,_,h=>h.elim
 | _::_,[],_,h=>h.elim
def SY:∀(l:List (List UInt8 × PV)) (q:List UInt8),∀c∈(Ac .bad l q).nms,c∈D0 (l.map ac4)
 | [],q,c,a=>by simp[Ac,PV.nms] at a
 | e::l,q,c,a=>by
  simp only[Ac] at a;simp only[aa1,D0,k9];cases b:(q==e.1) with
  | true=>rw[b] at a;exact .inl a
  | false=>rw[b] at a;exact .inr (SY l q c a)
def TB(v:PV):∀(l:List (List UInt8 × PV)) (q:List UInt8),∀c∈D0 ((Dm l q v).map ac4),c∈D0 (l.map ac4)\/c∈v.nms
 | [],q,c,a=>by simp only[Dm,aa1,ak9,D0,ag1] at a;exact .inr a
 | e::l,q,c,a=>by
  simp only[Dm] at a;cases b:(q==e.1) with
  | true=>
   rw[b] at a;simp only[aa,aa1,D0,k9] at a ⊢;exact a.elim .inr (λh=>.inl (.inr h))
  | false=>
   rw[b] at a;simp only[ab,aa1,D0,k9] at a ⊢;rcases a with h|h
   ·exact .inl (.inl h)
   ·exact(TB v l q c h).elim (λh=>.inl (.inr h)) .inr
def HR.mp'(hH:HR Γ H w){b:Nat}{ents:List (List UInt8 × PV)}{X:Value}(hb:H[b]? = some (.mp ents))(hx:VP Γ (A3 H) w (.it b) X) :
  ∃g es ck,Γ.nm b=some g/\X = .map (some g)/\w.heap[g]? = some (.map es ck)/\MR Γ (A3 H) w ents es.toList/\∀c∈D0 (ents.map ac4),c<H.length:=by
 obtain⟨g,hg,rfl⟩:=Bd7 hb hx;obtain⟨hlt,hbe⟩:=j5.1 hb;have hB:=hH.blk b hlt;rw[hbe] at hB;obtain⟨g',es,ck,h1,h2,h3⟩:=hB;rw[hg] at h1;cases h1;exact⟨g,es,ck,hg,rfl,h2,h3,λc hc=>hH.nms b hlt c (by rw[hbe];exact hc)⟩
def Rk{t:Nat}{k:PV->List Blk->Option R}{sl:List PV}{tmps:Array Value}(b:HR Γ H w)(h:Mm C t H k=some r) :
  ∃v H',k v H'=some r/\WV C Γ H w sl tmps (ak4 t none) v sl H'/\∃V o,(ak4 t none).run C.P w = .ok V (w.alloc o):=by
 unfold Mm at h;split at h
 ·rename_i d e _;split at h
  ·have a:(w.alloc (.map #[] 0)).heap=w.heap.push (.map #[] 0):=rfl;cases c:(C.ti e).ks.all CK.scal with
   | true=>
    rw[c] at h;refine⟨_,_,h,Fq b (V:=.map (some w.heap.size)) (o:=.map #[] 0) (w':=w.alloc (.map #[] 0)) rfl a rfl rfl rfl ⟨w.heap.size,#[],0,by simp[Ctx.upd],I2 a,trivial⟩ (by simp[Blk.nms]) ?_ (by simp[PV.nms]),_,_,rfl⟩;exact .mpv _ _ (by rw[J4];rfl) (by simp[Ctx.upd])
   | false=>
    rw[c] at h;refine⟨_,_,h,Fq b (V:=.map (some w.heap.size)) (o:=.map #[] 0) (w':=w.alloc (.map #[] 0)) rfl a rfl rfl rfl ⟨w.heap.size,#[],0,by simp[Ctx.upd],I2 a,trivial⟩ (by simp[Blk.nms,D0]) ?_ (by simp[PV.nms]),_,_,rfl⟩;exact .mpv _ _ (by rw[J4];rfl) (by simp[Ctx.upd])
  ·cases h
 ·cases h
def Ct4{t:Nat}{v:PV}{V:Value}(h:okV (C.ti t) v=true)(z:VP Γ (A3 H) w v V):VP Γ (A3 H) w (asV (C.ti t) v) V/\∀c∈(asV (C.ti t) v).nms,c∈v.nms:=by
 simp only[okV,j0,beq_iff_eq] at h;obtain⟨n,o,x⟩:=h;have o:=ag6 o;have u:=Be4 x;have g:∀j (a:j<(Bd (C.ti t) v.cells 0).length),∃(b:j<v.cells.length) (q:j<(C.ti t).ks.length),(Bd (C.ti t) v.cells 0)[j]=(v.cells[j]).as ((C.ti t).ks[j])/\(v.cells[j]).has ((C.ti t).ks[j])=true:=λj a=>by
  have i:j<(C.ti t).ks.length:=by rw[S6] at a;exact a
  have b:=u j i;rw[w9] at b;have f:=ZY x j i;rw[w9,Al b] at f;exact⟨b,i,by simp[Bd,j4 b],f⟩
 have m:∀c∈D0 (Bd (C.ti t) v.cells 0),c∈v.nms:=λc d=>by
  obtain⟨j,a,d⟩:=C7.1 d;obtain⟨b,q,e,_⟩:=g j a;rw[e] at d;exact PV.cells_nms c (C7.2 ⟨j,b,PV.as_nms c d⟩)
 have k:(Bd (C.ti t) v.cells 0).length=v.cells.length:=by rw[S6,o]
 unfold asV;rw[MO];cases y:(C.ti t).agg with
 | true=>
  rw[y] at n;simp only[if_true];refine⟨?_,by simpa[PV.nms] using m⟩;cases v with
  | agg l=>
   obtain⟨A,rfl,hA,d⟩:=z.inv_agg;refine VP.mk_agg (by rw[k];exact hA) λj a=>?_
   obtain⟨b,q,e,f⟩:=g j a;obtain⟨U,B,F⟩:=d j b;exact⟨U,B,by rw[e];exact F.as f⟩
  | _=>cases n
 | false=>
  rw[y] at n;simp only[y5,if_false];split
  ·rename_i D;have a:0<(Bd (C.ti t) v.cells 0).length:=by rw[S6];omega
   rw[Al a];refine⟨?_,λc d=>m c (C7.2 ⟨0,a,d⟩)⟩;obtain⟨b,q,e,f⟩:=g 0 a;have p:v.cells[0]=v:=by
    cases v with
    | agg l=>cases n
    | bad=>exact absurd b (by simp[PV.cells])
    | _=>rfl
   rw[e];generalize (C.ti t).ks[0]=c at f ⊢;simp only[p] at f ⊢;exact z.as f
  ·exact⟨.bad V,by simp[PV.nms]⟩
def Dg5{sh:Nat->Option Shp}{t:Nat}(h:(C.ti t).ok=true)(b:Ah4 C t=true):∃i Z,C.P.info? t=some i/\i.zero=some Z/\VP Γ sh w (GH (C.ti t)) Z/\(GH (C.ti t)).nms=[]:=by
 obtain⟨i,z,g,l,o,a⟩:=Hk (Γ:=Γ) (sh:=sh) (w:=w) h;obtain⟨_,_,_,j⟩:=N2 h;have n:=Ry (C.ti t).ks;refine⟨i,z,g,l,?_⟩;simp only[Ah4,g,ac9,l] at b;unfold GH;cases f:(C.ti t).agg with
 | true=>
  rw[f] at b;simp only[if_true];refine⟨?_,by simpa[PV.nms] using n⟩;cases z with
  | agg A=>exact VP.mk_agg a.1 a.2
  | _=>cases b
 | false=>
  rw[f] at b;simp only[y5,if_false];split
  ·rename_i c m;rw[m] at a;obtain⟨U,e,k⟩:=a.2 0 (by simp);have d:z.cells[0]? = some z:=by
    cases z<;>first|rfl|(simp at b)
   rw[d] at e;cases e;refine⟨by simpa using k,?_⟩;cases c<;>rfl
  ·exact⟨.bad z,rfl⟩
section
variable {L Y : Type} (f : L -> Y)
def SZ:∀(l:List (List UInt8 × L)) (q:List UInt8),Ao (l.map λe=>(e.1,f e.2)) q=Ao l q
 | [],_=>rfl
 | e::l,q=>by simp only[aa1,Ao,SZ l q]
def SX(d:L):∀(l:List (List UInt8 × L)) (q:List UInt8),Ac (f d) (l.map λe=>(e.1,f e.2)) q=f (Ac d l q)
 | [],_=>rfl
 | e::l,q=>by simp only[aa1,Ac,SX d l q];cases q==e.1<;>rfl
def TA(v:L):∀(l:List (List UInt8 × L)) (q:List UInt8),Dm (l.map λe=>(e.1,f e.2)) q (f v)=(Dm l q v).map λe=>(e.1,f e.2)
 | [],_=>rfl
 | e::l,q=>by simp only[aa1,Dm,TA v l q];cases q==e.1<;>rfl
end
def MU{b:Type}(d a:b):∀(l:List (List UInt8 × b)) (q:List UInt8),Ao l q=true->Ac d l q=Ac a l q
 | [],_,h=>by cases h
 | e::l,q,h=>by
  simp only[Ao,Ac] at h ⊢;cases c:(q==e.1) with
  | true=>rfl
  | false=>rw[c] at h;exact MU d a l q h
def Cm1{t:TI}{l:List SV}(i:Dp4 t l=true)(o:t.ks.all CK.scal=true)(k:t.ok=true):okV t (svV t.agg l)=true/\asV t (svV t.agg l)=Ae4 t true l\/Ae4 t true l = .bad:=by
 have key:∀c,c.scal=true->∀x:SV,(PV.s x).as c=Du8 true x c:=λc b x=>by cases c<;>first|rfl|cases b
 have e:∀c,c.scal=true->∀x:SV,x.has c=true->(PV.s x).has c=true:=λc b x h=>by cases c<;>first|exact h|cases b
 simp only[Dp4,j0,o0] at i;have a:=ag6 i.1;have f:∀{c j},(c,j)∈t.ks.zipIdx->c.scal=true/\j<l.length:=fun {c j} h=>by
  have:=aa0.1 h;exact⟨o0.1 o c (List.mem_of_getElem? this),by rw[a];exact(j5.1 this).1⟩
 have d:∀j,j<l.length->(l.map PV.s).getD j .bad = .s (l.getD j .nilp):=λj v=>by simp[v]
 cases g:t.agg with
 | true=>
  left
  refine⟨?_,?_⟩
  ·simp only[okV,svV,aa,PV.isAgg,g,beq_self_eq_true,PV.cells,o6,j0,okP,k,o0,true_and];refine⟨i.1,λp n=>?_⟩;obtain⟨c,j⟩:=p;obtain⟨q,u⟩:=f n;have:=i.2 _ n;simp only[w9];rw[d j u];exact e c q _ this
  ·simp only[asV,Pz,g,if_true,svV,aa,PV.cells,Ae4]
   congr 1
   refine ah7 λp n=>?_
   obtain⟨c,j⟩:=p;obtain⟨q,u⟩:=f n;simp only[w9];rw[d j u];exact key c q _
 | false=>
  match l,a with
  | [],a=>
   right
   have:t.ks=[]:=o5.1 a.symm;simp[Ae4,g,this]
  | x::y::z,a=>
   right
   match h:t.ks,a with
   | [],a=>cases a
   | [c],a=>cases a
   | _::_::_,_=>simp[Ae4,g,h]
  | [x],a=>
   left
   obtain⟨c,b⟩:∃c,t.ks=[c]:=by
    match h:t.ks with
    | []=>rw[h] at a;cases a
    | [c]=>exact⟨c,rfl⟩
    | _::_::_=>rw[h] at a;cases a
   have m:c.scal=true:=by rw[b] at o;simpa using o
   have A:x.has c=true:=by
    have:=i.2 (c,0) (by rw[b];simp);simpa using this
   refine⟨?_,?_⟩
   ·simp only[okV,svV,ab,PV.isAgg,g,beq_self_eq_true,PV.cells,b,okP,k,j0,true_and];exact⟨rfl,by simpa using e c m x A⟩
   ·simp only[asV,Pz,g,y5,if_false,svV,ab,PV.cells,Ae4,b];exact key c m x
def Bp6{t:TI}{l:List SV}(b:t.ks.all CK.scal=true):Ae4 t false l=GH t:=by
 have key:∀c,c.scal=true->∀x:SV,Du8 false x c=Y5 c:=λc a x=>by cases c<;>first|rfl|cases a
 unfold Ae4 GH;split
 ·congr 1
  refine List.ext_getElem (by simp) λj d e=>?_
  simp only[o7,List.getElem_zipIdx];exact key _ (o0.1 b _ (p7 _)) _
 ·split
  ·rename_i c a;exact key c (o0.1 b c (by rw[a];simp)) _
  ·rfl
def C17{sh:Nat->Option Shp}{v:PV}{V:Value}(ok b:Bool)(h:VP Γ sh w v V):VP Γ sh w (FD ok v b) (if ok then .tuple #[V,.bool b] else V)/\∀c∈(FD ok v b).nms,c∈v.nms:=by
 cases ok with
 | true=>
  refine⟨VP.mk_tup rfl λj d=>?_,λc a=>by simpa[FD,PV.nms,D0] using a⟩
  match j,d with
  | 0,_=>exact⟨V,rfl,h⟩
  | 1,_=>exact⟨_,rfl,.s _ _ (.bool b)⟩
 | false=>exact⟨h,λc a=>a⟩
def HR.ms'(hH:HR Γ H w){b:Nat}{a:Bool}{ents:List (List UInt8 × List SV)}{X:Value}(hb:H[b]? = some (.ms a ents))(hx:VP Γ (A3 H) w (.it b) X) :
  ∃g es ck,Γ.nm b=some g/\X = .map (some g)/\w.heap[g]? = some (.map es ck)/\MR Γ (A3 H) w (msP a ents) es.toList:=by
 obtain⟨g,hg,rfl⟩:=Bd8 hb hx;obtain⟨hlt,hbe⟩:=j5.1 hb;have hB:=hH.blk b hlt;rw[hbe] at hB;obtain⟨g',es,ck,h1,h2,h3⟩:=hB;rw[hg] at h1;cases h1;exact⟨g,es,ck,hg,rfl,h2,h3⟩
def FE{sh:Nat->Option Shp}{t p e g l:Nat}{ok:Bool}{Z:Value}{d:Array MapEntry}{s:ByteArray}{a:List (List UInt8 × PV)}(o:C.P.underlying t=some (.map p e))(f:C.P.underlying p=some .string)(k:∀w':World,(zeroValue e).run C.P w' = .ok Z w')(m:w.heap[g]? = some (.map d l))(j:MR Γ sh w a d.toList) :
  (Ao a s.data.toList=false/\∀w':World,Ext w w'->(ab5 t (.map (some g)) (.string s) ok).run C.P w' = .ok (if ok then .tuple #[Z,.bool false] else Z) w')\/
  (Ao a s.data.toList=true/\∃V,VP Γ sh w (Ac .bad a s.data.toList) V/\∀w':World,Ext w w'->(ab5 t (.map (some g)) (.string s) ok).run C.P w' = .ok (if ok then .tuple #[V,.bool true] else V) w'):=by
 have b:∀w':World,Ext w w'->w'.heap[g]? = some (.map d l):=λw' c=>(c g (x5.1 m).1).trans m
 rcases YL s a d.toList 0 j with⟨h,i,_⟩|⟨h,n,E,i,u,v,q,_⟩
 ·refine .inl ⟨h,λw' c=>?_⟩;simp[ab5,run_underlying o,x7 (b w' c),aa8 (n:=9999) f (show ae9 .string (.string s) from trivial),ab1 f i,k]
 ·refine .inr ⟨h,E.val,q,λw' c=>?_⟩;simp[ab5,run_underlying o,x7 (b w' c),aa8 (n:=9999) f (show ae9 .string (.string s) from trivial),ab1 f i]
def PB{t:Nat}{x i:PV}{X I:Value}{ok:Bool}{k:PV->Option R}(hH:HR Γ H w)(h:Tm C t x i ok H k=some r)(T:VP Γ (A3 H) w x X)(hi:VP Γ (A3 H) w i I) :
  ∃v,k v=some r/\QV C.P Γ H w (ab5 t X I ok) v:=by
 unfold Tm at h;split at h
 case h_2=>cases h
 rename_i kt e q S;obtain⟨s,rfl,rfl⟩:=hi.inv_str;have P:=Rv S;split at h
 case h_2=>cases h
 rename_i O;have F:=Fc O;split at h
 case isFalse=>cases h
 rename_i m;simp only[j0] at m;obtain⟨ii,Z,N,hZ,U,W⟩:=Dg5 (Γ:=Γ) (sh:=A3 H) (w:=w) m.1 m.2;have z:∀w':World,(zeroValue e).run C.P w' = .ok Z w':=λw'=>by simp[zeroValue,typeInfo,N,hZ]
 have out:∀{Y:PV->Option R} {b:Bool} {v:PV} {V:Value},Y (FD ok v b)=some r->VP Γ (A3 H) w v V->(∀c∈v.nms,c<H.length)->(∀w':World,Ext w w'->(ab5 t X (.string s) ok).run C.P w' = .ok (if ok then .tuple #[V,.bool b] else V) w')->∃v,Y v=some r/\QV C.P Γ H w (ab5 t X (.string s) ok) v:=fun {Y} {b} {v} {V} f j h3 h4=>by
  obtain⟨l1,l2⟩:=C17 ok b j;exact⟨_,f,λc A=>h3 c (l2 c A),_,l1,h4⟩
 have y:∀c∈(GH (C.ti e)).nms,c<H.length:=by rw[W];simp
 split at h
 ·obtain rfl:=T.inv_nilm;refine out h U y λw' _=>?_
  simp[ab5,run_underlying P,aa8 (n:=9999) F (show ae9 .string (.string s) from trivial),ab1 (k:=.string s) (l:=[]) (a:=none) F rfl,z]
 ·rename_i b;split at h
  ·rename_i a d L;obtain⟨g,es,ck,hg,rfl,M,u⟩:=hH.ms' L T;split at h
   ·rename_i B;simp only[j0,beq_iff_eq] at B;obtain⟨B,rfl⟩:=B;obtain⟨D,p⟩:=D6 h;have e1:=SZ (svV (C.ti e).agg) d s.data.toList;rcases FE (ok:=ok) (s:=s) P F z M u with⟨f,j⟩|⟨f,V,G,j⟩
    ·rw[show Ao d s.data.toList=false from e1.symm.trans f] at p;rw[Bp6 B] at p;exact out p U y j
    ·have K:Ao d s.data.toList=true:=e1.symm.trans f;rw[K] at D p;simp only[ak0,Bool.false_or] at D;rw[MU .bad (svV (C.ti e).agg []) _ _ f,show Ac (svV (C.ti e).agg []) (msP (C.ti e).agg d) s.data.toList=svV (C.ti e).agg (Ac [] d s.data.toList) from SX _ _ _ _] at G;rcases Cm1 D B m.1 with⟨o1,o2⟩|o
     ·obtain⟨v1,J⟩:=Ct4 o1 G;rw[o2] at v1 J;exact out p v1 (λc A=>by have:=J c A;rw[Af7] at this;simp at this) j
     ·rw[o] at p;exact out p (.bad V) (by simp[PV.nms]) j
   ·cases h
  ·rename_i d L;obtain⟨g,es,ck,hg,rfl,M,u,Q⟩:=hH.mp' L T;rcases FE (ok:=ok) (s:=s) P F z M u with⟨f,j⟩|⟨f,V,G,j⟩
   ·rw[f] at h;exact out h U y j
   ·rw[f] at h;simp only[Gj,aa] at h;obtain⟨D,p⟩:=D6 h;obtain⟨v1,J⟩:=Ct4 D G;exact out p v1 (λc A=>Q c (SY _ _ c (J c A))) j
  ·cases h
 ·cases h
def As4{m:Sem Value}{b g D:Nat}{x y:Blk}{F e:Array MapEntry}{d:List (List UInt8 × PV)}{f:Nat}{V:Value}{v:PV}{sl:List PV}{n:Array Value}(t:HR Γ H w)(z:H[b]? = some x)(o:Γ.nm b=some g)(A:w.heap[g]? = some (.map F D))(j:y.shp=x.shp)
  (G:m.run C.P w = .ok V { w with heap:=w.heap.setIfInBounds g (.map e f) }) (p:MR Γ (A3 H) w d e.toList) (I:∀c∈y.nms,c<H.length) (K:y = .mp d\/∃a l,y = .ms a l/\d=msP a l) (J:∀sh w,VP Γ sh w v V) (hvn:v.nms=[]):WV C Γ H w sl n m v sl (H.set b y):=by
 obtain⟨q,B⟩:=MapKept.heap_set (o':=.map e f) A;have i:({ w with heap:=w.heap.setIfInBounds g (.map e f) }:World).shape? g=w.shape? g:=by simp only[aa9,q,A]
 have M:=Ff (w':={ w with heap:=w.heap.setIfInBounds g (.map e f) }) (y:=y) t z o j B i;have h:=p.imp (Γ':=Γ) λu _ U k=>k.mono M λ_ _=>trivial
 refine Ng t G z o j B i (by simp) rfl rfl rfl ?_ I (J _ _) (by simp[hvn]);rcases K with rfl|⟨a,l,rfl,rfl⟩
 ·exact⟨g,e,f,o,q,h⟩
 ·exact⟨g,e,f,o,q,h⟩
def Au6{sh:Nat->Option Shp}{t u e g d:Nat}{c:Array MapEntry}{s:ByteArray}{a:List (List UInt8 × PV)}{v:PV}{V:Value}(p:C.P.underlying t=some (.map u e))(j:C.P.underlying u=some .string)(i:w.heap[g]? = some (.map c d))(o:MR Γ sh w a c.toList)(q:VP Γ sh w v V) :
  ∃f k,(do ad8 t (.map (some g)) (.string s) V;pure undef:Sem Value).run C.P w = .ok undef { w with heap:=w.heap.setIfInBounds g (.map f k) }/\MR Γ sh w (Dm a s.data.toList v) f.toList:=by
 have b:ae9 .string (.string s):=trivial;rcases YL s a c.toList 0 o with⟨x,h,_,m⟩|⟨x,n,E,h,y,m,A,_,z⟩
 ·refine⟨c.push ⟨.string s,V,d⟩,d+1,?_,by simpa using m v V d q⟩;simp[ad8,run_underlying p,x7 i,aa8 (n:=9999) j b,ab1 j h,af9 _ i]
 ·rw[w9] at h;have l:c[n]? = some E:=by simpa using y
  refine⟨c.modify n λe=>{ e with key:=.string s,val:=V },d,?_,by simpa using z v V q⟩;simp[ad8,run_underlying p,x7 i,aa8 (n:=9999) j b,ab1 j h,l,m,MapKept.run_keyThatStays b,af9 _ i]
def PD{t:Nat}{m x v:PV}{M X V:Value}{k:List Blk->Option R}{sl:List PV}{tmps:Array Value}(y:HR Γ H w)(h:Tn C t m x v H k=some r)(O:VP Γ (A3 H) w m M)(Y:VP Γ (A3 H) w x X)(L:VP Γ (A3 H) w v V)(hvn:∀c∈v.nms,c<H.length) :
  ∃H',k H'=some r/\WV C Γ H w sl tmps (do ad8 t M X V;pure undef) (.tup []) sl H':=by
 unfold Tn at h;split at h
 case h_2=>cases h
 rename_i Z e b q K;obtain⟨s,rfl,rfl⟩:=Y.inv_str;have P:=Rv K;split at h
 ·rename_i a f n o;split at h
  ·rename_i l u;obtain⟨g,W,Q,F,rfl,p,i⟩:=y.ms' o O;have N:VP Γ (A3 H) w (svV a l) V:=by
    unfold plC at u;split at u
    ·rename_i vs;obtain⟨A,rfl,hA,D⟩:=L.inv_agg;obtain⟨S,T⟩:=T2 (As:=A.toList) u (by simpa using hA.symm) (λj G=>by obtain⟨U,e,k⟩:=D j G;exact⟨U,by simpa using e,k⟩);simp only[svV,aa];refine VP.mk_agg (by simpa using S.symm) λj G=>?_
     obtain⟨U,e,k⟩:=T j (by simpa using G);exact⟨U,by simpa using e,by rw[o7];exact .s _ _ k⟩
    ·cases u;exact L
    ·cases u
   obtain⟨B,z,J,d⟩:=Au6 (s:=s) P (Fc n) p i N;exact⟨_,h,As4 y o F p rfl J d (by simp[Blk.nms]) (.inr ⟨a,_,rfl,TA _ _ _ _⟩) (λ_ _=>Au) rfl⟩
  ·cases h
 ·rename_i f n o;obtain⟨g,W,Q,F,rfl,p,i,I⟩:=y.mp' o O;obtain⟨B,z,J,d⟩:=Au6 (s:=s) P (Fc n) p i L;exact⟨_,h,As4 y o F p rfl J d (λc D=>(TB v f _ c D).elim (I c) (hvn c)) (.inl rfl) (λ_ _=>Au) rfl⟩
 ·cases h
end
section
variable {W R : Type} {r : R} {C : Cfg} {I : W -> (Nat -> Prop) -> (Nat -> Prop) -> World -> Prop} {Y : Ctx} {Q : Nat -> Prop} {L : St W} {a : Act} {w : World} {Z : G1} {J : Yh W} {o : Oper} {k : St W -> Option R}
def SI.opnd(S:SI C I Y Q L a.tmps w)(x:Operand):VP Y (A3 L.hp) w (opnd C L.sl x) (a.eval x)/\∀c∈(opnd C L.sl x).nms,c<L.hp.length:=
 Be5 (ds:=a.defers) S.g S.sr x
def Dh3(C:Cfg)(I:W->(Nat->Prop)->(Nat->Prop)->World->Prop)(Y:Ctx)(Q:Nat->Prop)(L:St W)(a:Act)(w:World)(o:Oper)(k:St W->Option R)(r:R):Prop:=
 ∃V b,k b=some r/\(∀w':World,Ext w w'->(execOp a.eval o).run C.P w' = .ok (.value V) w')/\SI C I Y Q b (a.put o.dst V).tmps w/\Stp C Y L.hp w noΦ Y b.hp w noΦ
def SI.put(S:SI C I Y Q L a.tmps w){v:PV}{V:Value}(hv:VP Y (A3 L.hp) w v V)(hn:∀c∈v.nms,c<L.hp.length):SI C I Y Q { L with sl:=Db o.dst v L.sl } (a.put o.dst V).tmps w:=
 ⟨S.hr,S.sr.put (ds:=a.defers) o hv hn,S.g,S.inv,S.dis⟩
def QV.out{m:Sem Value}{v:PV}(S:SI C I Y Q L a.tmps w)(h:QV C.P Y L.hp w m v)(hk:k { L with sl:=Db o.dst v L.sl } = some r)(he:execOp a.eval o=(do pure (.value (<-m)))):Dh3 C I Y Q L a w o k r:=by obtain⟨hn,V,hv,hq⟩:=h;refine⟨V,_,hk,λw' hw=>?_,S.put hv hn,Stp.refl S.hr⟩;rw[he];simp[hq w' hw]
def QV0.out{m:Sem Value}{v:PV}(S:SI C I Y Q L a.tmps w)(h:QV0 C.P Y L.hp w m v)(hk:k { L with sl:=Db o.dst v L.sl } = some r)(he:execOp a.eval o=(do pure (.value (<-m)))) :
  ∃V st',k st'=some r/\(∀w':World,(execOp a.eval o).run C.P w' = .ok (.value V) w')/\SI C I Y Q st' (a.put o.dst V).tmps w/\Stp C Y L.hp w noΦ Y st'.hp w noΦ:=by
 obtain⟨hn,V,hv,hq⟩:=h;refine⟨V,_,hk,λw'=>?_,S.put hv hn,Stp.refl S.hr⟩;rw[he];simp[hq w']
def QV.pure{P:Program}{H:List Blk}{v:PV}{V:Value}(hv:VP Y (A3 H) w v V)(hn:∀c∈v.nms,c<H.length):QV P Y H w (pure V) v:=⟨hn,V,hv,λ_ _=>rfl⟩
def SI.ov(S:SI C I Y Q L a.tmps w)(x:Option Operand):OV Y (A3 L.hp) w (Rn (Go.Proofs.YteickfjoihhgkaaGreatDoor.E.opnd C L.sl) x) (x.map a.eval):=by
 cases x with
 | none=>trivial
 | some x=>exact(S.opnd x).1
def Fk{b c:Type}{f:b->c}{x:Option b}:(Rn f x).isSome=x.isSome:=by cases x<;>rfl
def SI.parts(S:SI C I Y Q L a.tmps w):∀(ps:List (Nat × Operand)),PR Y (A3 L.hp) w (ps.map λ(i,x)=>(i,Go.Proofs.YteickfjoihhgkaaGreatDoor.E.opnd C L.sl x)) (ps.map λ(i,x)=>(i,a.eval x))/\∀p∈(ps.map λ(i,x)=>(i,Go.Proofs.YteickfjoihhgkaaGreatDoor.E.opnd C L.sl x)),∀c∈p.2.nms,c<L.hp.length
 | []=>⟨trivial,by simp⟩
 | (i,x)::ps=>by
  obtain⟨h1,h2⟩:=S.parts ps;refine⟨⟨rfl,(S.opnd x).1,h1⟩,λp hp=>?_⟩;rcases ab0.1 hp with rfl|hp
  ·exact(S.opnd x).2
  grind
def SI.list(S:SI C I Y Q L a.tmps w)(xs:Array Operand):CR Y (A3 L.hp) w (xs.toList.map (Go.Proofs.YteickfjoihhgkaaGreatDoor.E.opnd C L.sl)) (xs.map a.eval)/\∀c∈D0 (xs.toList.map (Go.Proofs.YteickfjoihhgkaaGreatDoor.E.opnd C L.sl)),c<L.hp.length:=by
 refine⟨⟨by simp,λj hj=>?_⟩,λc hc=>?_⟩
 ·have hj':j<xs.size:=by simpa using hj
  exact⟨a.eval xs[j],by simp[hj'],by simpa using(S.opnd xs[j]).1⟩
 ·obtain⟨j,hj,hm⟩:=C7.1 hc;have hj':j<xs.size:=by simpa using hj
  exact(S.opnd xs[j]).2 c (by simpa using hm)
def Bd6{f:Nat}{x y:List PV}{A B:Array Value}{sh:Nat->Option Shp}(c:CR Y sh w x A)(d:CR Y sh w y B):VP Y sh w (C23 (.func f) x y) (.func (.func f) A B):=by
 unfold C23;split
 ·rename_i xs p m n;obtain⟨g,h⟩:=T2 (As:=A.toList) m (by simpa using c.1.symm) (λj b=>by obtain⟨U,e,k⟩:=c.2 j b;exact⟨U,by simpa using e,k⟩);obtain⟨i,l⟩:=T2 (As:=B.toList) n (by simpa using d.1.symm) (λj b=>by obtain⟨U,e,k⟩:=d.2 j b;exact⟨U,by simpa using e,k⟩);refine .s _ _ (.fn _ xs p A B (λj=>A.getD j undef) (λj=>B.getD j undef) (by simp) (by simpa using g.symm) (by simpa using i.symm) (λj b=>?_) (λj b=>?_) (λj b=>?_) (λj b=>?_))
  ·simp_all
  ·simp_all
  ·obtain⟨U,e,k⟩:=h j b;simp_all
  ·obtain⟨U,e,k⟩:=l j b;simp_all
 ·refine .fnr _ x y A B (λj=>A.getD j undef) (λj=>B.getD j undef) (by simp) c.1 d.1 (λj b=>?_) (λj b=>?_) (λj b=>?_) (λj b=>?_)
  ·obtain⟨U,e,_⟩:=c.2 j b;rw[x4,e];rfl
  ·obtain⟨U,e,_⟩:=d.2 j b;rw[x4,e];rfl
  ·obtain⟨U,e,k⟩:=c.2 j b;rw[x4,e];exact k
  ·obtain⟨U,e,k⟩:=d.2 j b;rw[x4,e];exact k
def C24{f:Fn}{x y:List PV}:∀c∈(C23 f x y).nms,c∈D0 x\/c∈D0 y:=by
 intro c b;unfold C23 at b;split at b
 ·simp[PV.nms] at b
 ·simpa[PV.nms] using b
def Ed8{c d:Type}{f:c->d}{xs:Array c}{x:d}(h:xs.toList.map f=[x]):∃b,xs = #[b]/\f b=x:=by obtain⟨l⟩:=xs;simp_all
def Ct3{e g:Type}{f:e->g}{xs:Array e}{x y:g}(h:xs.toList.map f=[x,y]):∃c d,xs = #[c,d]/\f c=x/\f d=y:=by
 obtain⟨l⟩:=xs
 match l,h with
 | [a,b],h=>exact⟨a,b,rfl,by simpa using h⟩
def Di{ρ:Operand->Value}{c:Call}{b:Builtin}(e:o.op = .call c)(d:c.callee = .builtin b) :
  ∃cs,execOp ρ o=builtin b c.argTypes o.type cs (c.args.map ρ):=by
 simp only[execOp,e,resolve,d,pure_bind,invoke];exact⟨_,rfl⟩
def SI.args_ints(S:SI C I Y Q L a.tmps w){xs:Array Operand}{kd:IntKind}{x y:Int}(h:xs.toList.map (Go.Proofs.YteickfjoihhgkaaGreatDoor.E.opnd C L.sl)=[.s (.int kd x),.s (.int kd y)]):xs.map a.eval = #[.int kd x,.int kd y]:=by obtain⟨x0,y0,rfl,e1,e2⟩:=Ct3 h;have h1:=(S.opnd x0).1;have h2:=(S.opnd y0).1;rw[e1] at h1;rw[e2] at h2;simp[h1.inv_int,h2.inv_int]
def DN(m:P7 C o.op=true)(h:opK C Z J o L k=some r)(S:SI C I Y Q L a.tmps w):Dh3 C I Y Q L a w o k r:=by
 unfold opK at h;dsimp only at h;split at h
 ·rename_i x d;exact(QV.pure (P:=C.P) (S.opnd x).1 (S.opnd x).2).out S h (by simp[execOp,d])
 ·rename_i x d;split at h
  ·rename_i q;have j:=(S.opnd x).1;rw[q] at j;refine⟨a.eval x,_,h,λw' hw=>by simp only[execOp,d,v7],⟨Be0 S.hr rfl (.inl ⟨rfl,rfl⟩),?_,S.g,S.inv,S.dis⟩,ZR S.hr⟩;refine SR.put (ds:=a.defers) (SR.grow (Yv _ S.hr) S.sr) o ?_ (by simp[PV.nms]);rw[j.inv_nsl];exact .flv _ _ _ (by rw[J4];rfl)
  ·exact(QV.pure (P:=C.P) (S.opnd x).1 (S.opnd x).2).out S h (by simp[execOp,d])
 ·rename_i c x y d;split at h
  ·rename_i t u;have j:=(S.opnd c).1;rw[u] at j;have hb:=j.inv_bool;have z:execOp a.eval o=(do Pure.pure (Next.value (if <-asBool (a.eval c) then a.eval x else a.eval y))):=by simp[execOp,d]
   cases t with
   | true=>
    simp only[Gj,aa] at h;refine⟨_,_,h,λw' hw=>?_,S.put (S.opnd x).1 (S.opnd x).2,Stp.refl S.hr⟩;rw[z,hb];simp[asBool]
   | false=>
    simp only[Gj,ab] at h;refine⟨_,_,h,λw' hw=>?_,S.put (S.opnd y).1 (S.opnd y).2,Stp.refl S.hr⟩;rw[z,hb];simp[asBool]
  ·cases h
 ·rename_i d;rw[d] at m;simp[P7] at m
 ·rename_i d;rw[d] at m;simp[P7] at m
 ·rename_i t parts d;obtain⟨M,N⟩:=S.parts parts.toList;obtain⟨v,l,j⟩:=Xr (ps:=parts.map λ(i,x)=>(i,a.eval x)) h (by rw[ad1];exact M) N;exact j.qv.out S l (by simp[execOp,d])
 ·rename_i d;rw[d] at m;simp[P7] at m
 ·rename_i t x d;obtain⟨v,l,j⟩:=FC S.hr h (S.opnd x).1;exact j.out S l (by simp[execOp,d])
 ·rename_i d;rw[d] at m;simp[P7] at m
 ·rename_i x d;split at h
  ·rename_i hn;have j:=(S.opnd x).1;refine⟨a.eval x,_,h,λw' hw=>?_,S.put j (S.opnd x).2,Stp.refl S.hr⟩;simp only[execOp,d];unfold Bd9 at hn;split at hn
   ·rename_i q;rw[q] at j;obtain⟨ad,e⟩:=j.inv_ptr;simp_all
   ·rename_i q;rw[q] at j;obtain⟨ad,e⟩:=j.inv_sp;simp_all
   ·rename_i q;rw[q] at j;obtain⟨A,B,e⟩:=j.inv_fn;simp_all
   ·rename_i q;rw[q] at j;obtain⟨A,B,e⟩:=j.inv_fnr;simp_all
   grind
  ·cases h
 ·rename_i op t x y _ d;obtain⟨v,l,j⟩:=KN (ox:=x) (oy:=y) h (S.opnd x).1 (S.opnd y).1;exact j.qv.out S l (by simp only[execOp,d])
 ·rename_i op t x d;obtain⟨v,l,j⟩:=Cn8 (P:=C.P) h (S.opnd x).1;exact j.out S l (by simp only[execOp,d])
 ·rename_i a7 a5 x d;split at h
  ·rename_i e G;rw[d] at m;simp[P7,G] at m
  ·obtain⟨v,l,j⟩:=Ao1 S.hr h (S.opnd x).1;exact j.out S l (by simp only[execOp,d])
 ·rename_i g x y d;obtain⟨M,N⟩:=S.list x;obtain⟨h3,h4⟩:=S.list y;exact(QV.pure (P:=C.P) (Bd6 M h3) (λc u=>(C24 c u).elim (N c) (h4 c))).out S h (by simp[execOp,d,Instr.makeFunc])
 ·rename_i d;rw[d] at m;simp[P7] at m
 ·rename_i t x lo hi mx d;have T:=S.ov lo;have O:=S.ov hi;have X:=S.ov mx;split at h
  ·rename_i n e b G q;split at h
   ·rename_i v e' sz a6 hb;split at h
    ·rename_i u;obtain⟨M,N⟩:=D6 h;simp only[af] at M;have j:=(S.opnd x).1;rw[q] at j;obtain⟨v,l,j⟩:=Qc S.hr N G u.1 u.2.1 hb M (by omega) (by simp only[maxLen];omega) j T O X;exact j.qv.out S l (by simp only[execOp,d])
    grind
   ·cases h
  ·split at h
   ·rename_i hm;obtain⟨v,l,j⟩:=Zv S.hr h (S.opnd x).1 (S.opnd x).2 T O X (by rw[Fk,Fk];intro h;simpa[h] using hm);exact j.qv.out S l (by simp only[execOp,d])
   ·cases h
 ·rename_i t x f d;obtain⟨v,l,j⟩:=Mc h (S.opnd x).1 (S.opnd x).2;exact j.qv.out S l (by simp only[execOp,d])
 ·rename_i t x i d;obtain⟨v,l,j⟩:=Mg S.hr h (S.opnd x).1 (S.opnd i).1 (S.opnd x).2;exact j.qv.out S l (by simp only[execOp,d])
 ·rename_i t x i d;obtain⟨v,l,j⟩:=ZB h (S.opnd x).1 (S.opnd i).1 (S.opnd x).2;exact j.out S l (by simp only[execOp,d])
 ·rename_i d;rw[d] at m;simp[P7] at m
 ·rename_i d;rw[d] at m;simp[P7] at m
 ·rename_i d;rw[d] at m;simp[P7] at m
 ·rename_i t x i ok d;obtain⟨v,l,j⟩:=PB S.hr h (S.opnd x).1 (S.opnd i).1;exact j.out S l (by simp only[execOp,d])
 ·rename_i d;rw[d] at m;simp[P7] at m
 ·rename_i t i d;split at h
  ·rename_i vs q;split at h
   ·rename_i v a3;have j:=(S.opnd t).1;have hn:=(S.opnd t).2;rw[q] at j hn;obtain⟨A,e,hA,u⟩:=j.inv_tup;obtain⟨V,a1⟩:=j5.1 a3;obtain⟨U,e1,k1⟩:=u i V;rw[a1] at k1;refine⟨U,_,h,λw' hw=>?_,S.put k1 (λc u=>hn c (by simp only[PV.nms];exact C7.2 ⟨i,V,by rw[a1];exact u⟩)),Stp.refl S.hr⟩;simp only[execOp,d,e,Instr.extract,e1];rfl
   ·cases h
  ·cases h
 ·rename_i c d;split at h
  ·rename_i b p;unfold Lk at h;dsimp only at h;split at h
   ·rename_i t D x a2 F;obtain⟨x0,a4,rfl⟩:=Ed8 F;obtain⟨v,l,j⟩:=Bc3 (ts:=D) (ty:=o.type) S.hr h (S.opnd x0).1;refine j.out S l ?_;obtain⟨cs,z⟩:=Di (ρ:=a.eval) d p;have a0:c.argTypes=(t::D).toArray:=by rw[<-a2]
    rw[z,a4,a0];simp[builtin]
   ·rw[d] at m;simp[P7,p] at m
   ·rw[d] at m;simp[P7,p] at m
   ·obtain⟨v,x,y,kd,l,K,j⟩:=Uz (P:=C.P) (Γ:=Y) (H:=L.hp) (w:=w) c.argTypes o.type h;refine j.out S l ?_;obtain⟨cs,z⟩:=Di (ρ:=a.eval) d p;rw[z,S.args_ints K];simp[builtin]
   ·obtain⟨v,x,y,kd,l,K,j⟩:=Uz (P:=C.P) (Γ:=Y) (H:=L.hp) (w:=w) c.argTypes o.type h;refine j.out S l ?_;obtain⟨cs,z⟩:=Di (ρ:=a.eval) d p;rw[z,S.args_ints K];simp[builtin]
   ·cases h
  ·rename_i p;rw[d] at m;simp[P7,p] at m
  ·cases h
 ·cases h
def B95{t q:Nat}{op:BinOp}{x y:Operand}(c:o.op = .binOp op t x y q)(h:opK C Z J o L k=some r)(S:SI C I Y Q L a.tmps w) :
  ∃V b,k b=some r/\(∀w':World,(execOp a.eval o).run C.P w' = .ok (.value V) w')/\SI C I Y Q b (a.put o.dst V).tmps w/\Stp C Y L.hp w noΦ Y b.hp w noΦ:=by
 simp only[opK,c] at h;obtain⟨v,d,e⟩:=KN (ox:=x) (oy:=y) h (S.opnd x).1 (S.opnd y).1;exact e.out S d (by simp only[execOp,c])
def Ap6{t f:Nat}{x:Operand}(c:o.op = .fieldAddr t x f)(h:opK C Z J o L k=some r)(S:SI C I Y Q L a.tmps w) :
  ∃V b,k b=some r/\(∀w':World,(execOp a.eval o).run C.P w' = .ok (.value V) w')/\SI C I Y Q b (a.put o.dst V).tmps w/\Stp C Y L.hp w noΦ Y b.hp w noΦ:=by
 simp only[opK,c] at h;obtain⟨v,d,e⟩:=Mc h (S.opnd x).1 (S.opnd x).2;exact e.out S d (by simp only[execOp,c])
def Al6{t:Nat}{parts:Array (Nat × Operand)}(c:o.op = .build t parts)(h:opK C Z J o L k=some r)(S:SI C I Y Q L a.tmps w) :
  ∃V b,k b=some r/\(∀w':World,(execOp a.eval o).run C.P w' = .ok (.value V) w')/\SI C I Y Q b (a.put o.dst V).tmps w/\Stp C Y L.hp w noΦ Y b.hp w noΦ:=by
 simp only[opK,c] at h;obtain⟨d,e⟩:=S.parts parts.toList;obtain⟨v,f,g⟩:=Xr (ps:=parts.map λ(i,x)=>(i,a.eval x)) h (by rw[ad1];exact d) e;exact g.out S f (by simp only[execOp,c])
def Ar4{t:Nat}{x i:Operand}(c:o.op = .indexAddr t x i)(h:opK C Z J o L k=some r)(S:SI C I Y Q L a.tmps w) :
  ∃V b,k b=some r/\(∀w':World,(execOp a.eval o).run C.P w' = .ok (.value V) w')/\SI C I Y Q b (a.put o.dst V).tmps w/\Stp C Y L.hp w noΦ Y b.hp w noΦ:=by
 simp only[opK,c] at h;obtain⟨v,d,e⟩:=Mg S.hr h (S.opnd x).1 (S.opnd i).1 (S.opnd x).2;exact e.out S d (by simp only[execOp,c])
def A14{t:Nat}{x:Operand}{y u z:Option Operand}(c:o.op = .slice t x y u z)(h:opK C Z J o L k=some r)(S:SI C I Y Q L a.tmps w) :
  ∃V d,k d=some r/\(∀w':World,(execOp a.eval o).run C.P w' = .ok (.value V) w')/\SI C I Y Q d (a.put o.dst V).tmps w/\Stp C Y L.hp w noΦ Y d.hp w noΦ:=by
 simp only[opK,c] at h;have i:=S.ov y;have g:=S.ov u;have j:=S.ov z;split at h
 ·rename_i n e b m G;split at h
  ·rename_i v H K A D;split at h
   ·rename_i q;obtain⟨p,B⟩:=D6 h;simp only[af] at p;have f:=(S.opnd x).1;rw[G] at f;obtain⟨v,l,f⟩:=Qc S.hr B m q.1 q.2.1 D p (by omega) (by simp only[maxLen];omega) f i g j;exact f.out S l (by simp only[execOp,c])
   ·cases h
  ·cases h
 ·split at h
  ·rename_i F;obtain⟨v,l,f⟩:=Zv S.hr h (S.opnd x).1 (S.opnd x).2 i g j (by rw[Fk,Fk];intro h;simpa[h] using F);exact f.out S l (by simp only[execOp,c])
  ·cases h
end
def CS:Op->Bool
 | .call c=>match c.callee with
  | .builtin _=>false
  | _=>true
 | _=>false
section
variable {W R : Type} {r : R} {C : Cfg} {I : W -> (Nat -> Prop) -> (Nat -> Prop) -> World -> Prop} {Q : Ctx} {Y : Nat -> Prop} {L : St W} {a : Act} {w : World} {U : G1} {J : Yh W} {o : Oper} {k : St W -> Option R}
def Dh0(C:Cfg)(I:W->(Nat->Prop)->(Nat->Prop)->World->Prop)(Q:Ctx)(Y:Nat->Prop)(L:St W)(a:Act)(w:World)(o:Oper)(k:St W->Option R)(r:R):Prop:=
 ∃V w' Γ' b,k b=some r/\((execOp a.eval o).run C.P w = .ok (.value V) w'\/(V=undef/\(execOp a.eval o).run C.P w = .ok .skip w'))/\SI C I Γ' Y b (a.put o.dst V).tmps w'/\Stp C Q L.hp w Y Γ' b.hp w' Y
def Stp.lift{Γ':Ctx}{H H':List Blk}{w':World}(h:Stp C Q H w noΦ Γ' H' w' noΦ)(Y:Nat->Prop):Stp C Q H w Y Γ' H' w' Y:=
 ⟨h.os,h.tape,h.output,h.size,h.sub,h.stnew,h.own,λ_ h=>.inl h,λg hg hn _=>h.frame g hg hn (λx=>x),h.yv,h.len,h.keep⟩
def Dh3.loud(h:Dh3 C I Q Y L a w o k r):Dh0 C I Q Y L a w o k r:=by obtain⟨V,st',h1,h2,h3,h4⟩:=h;exact⟨V,w,Q,st',h1,.inl (h2 w (Ext.refl w)),h3,h4.lift Y⟩
def SI.after(hI:HI I)(S:SI C I Q Y L a.tmps w){w':World}{Γ':Ctx}{H':List Blk}{sl':List PV}{v:PV}{V:Value}(h:Stp C Q L.hp w noΦ Γ' H' w' noΦ)(hr:HR Γ' H' w')(hs:SR Q L.hp w L.sl a.tmps->SR Γ' H' w' sl' a.tmps)(hv:VP Γ' (A3 H') w' v V)(hn:∀c∈v.nms,c<H'.length) :
  SI C I Γ' Y { sl:=Db o.dst v sl',hp:=H',s:=L.s } (a.put o.dst V).tmps w':=
 S.step hI (h.lift Y) (λg hg=>h.frame g (hI.foot _ _ _ _ S.inv g hg).1 (λb hb=>S.dis b g hb hg) (λx=>x)) hr ((hs S.sr).put (ds:=a.defers) o hv hn)
def WV.out{m:Sem Value}{v:PV}{sl':List PV}{H':List Blk}(hI:HI I)(S:SI C I Q Y L a.tmps w)(h:WV C Q L.hp w L.sl a.tmps m v sl' H')(hk:k { sl:=Db o.dst v sl',hp:=H',s:=L.s } = some r)(he:execOp a.eval o=(do pure (.value (<-m)))):Dh0 C I Q Y L a w o k r:=by obtain⟨V,w',Γ',h1,h2,h3,h4,h5,h6⟩:=h;refine⟨V,w',Γ',_,hk,.inl ?_,S.after hI h2 h3 h4 h5 h6,h2.lift Y⟩;simp_all
def WV.outU{m:Sem Unit}{v:PV}{sl':List PV}{H':List Blk}(hI:HI I)(S:SI C I Q Y L a.tmps w)(h:WV C Q L.hp w L.sl a.tmps (do m;pure undef) v sl' H')(hk:k { sl:=Db o.dst v sl',hp:=H',s:=L.s } = some r)(he:execOp a.eval o=(do m;pure .skip)):Dh0 C I Q Y L a w o k r:=by
 obtain⟨V,w',Γ',h1,h2,h3,h4,h5,h6⟩:=h;have key:V=undef/\m.run C.P w = .ok () w':=by
  simp only[p9] at h1;cases hm:m.run C.P w with
  | ok u w1=>rw[hm] at h1;simp at h1;exact⟨h1.1.symm,by rw[h1.2]⟩
  | halt x w1=>rw[hm] at h1;simp[ag9] at h1
 refine⟨V,w',Γ',_,hk,.inr ⟨key.1,?_⟩,S.after hI h2 h3 h4 h5 h6,h2.lift Y⟩;simp_all
def At2(B:HI I)(hq:CS o.op=false)(h:opK C U J o L k=some r)(S:SI C I Q Y L a.tmps w):Dh0 C I Q Y L a w o k r:=by
 by_cases g:P7 C o.op=true
 ·exact(DN g h S).loud
 have h0:=h;unfold opK at h;dsimp only at h;split at h
 ·rename_i f;exact absurd (by rw[f];rfl) g
 ·rename_i f;exact absurd (by rw[f];rfl) g
 ·rename_i f;exact absurd (by rw[f];rfl) g
 ·rename_i e f;by_cases D:(C.ti e).ok=true
  ·obtain⟨i,z,hi,hz,Z,P⟩:=Hk (Γ:=Q) (sh:=A3 L.hp) (w:=w) D;obtain⟨v,H',n,j⟩:=KP (V:=z) (sl:=L.sl) (tmps:=a.tmps) (m:=al4 e true (.tuple #[])) S.hr h P (by rw[Ry];simp) (by simp[al4,zeroValue,typeInfo,hi,hz,newVar,newRow]);exact j.out B S n (by simp only[execOp,f])
  ·simp[GI,D] at h
 ·rename_i e x f;split at h
  ·rename_i G;by_cases D:(C.ti e).ok=true
   ·obtain⟨i,hi,Z,a0⟩:=N2 D;have M:(opnd C L.sl x).cells≠[]:=by intro e;rw[e] at G;simp at G;omega
    obtain⟨v,H',n,j⟩:=KP (V:=a.eval x) (sl:=L.sl) (tmps:=a.tmps) (m:=Instr.box e (a.eval x)) S.hr h ((S.opnd x).1.cells' M) (λc hc=>(S.opnd x).2 c (PV.cells_nms c hc)) (by simp[Instr.box,newVar,newRow]);exact j.out B S n (by simp only[execOp,f])
   ·simp[GI,D] at h
  ·cases h
 ·rename_i f;exact absurd (by rw[f];rfl) g
 ·rename_i t len parts f;obtain⟨h1,h2⟩:=S.parts parts.toList;cases N:C.stab t with
  | true=>
   simp only[N,aa] at h;obtain⟨v,n,j,_⟩:=Lj (ps:=parts.map λ(i,x)=>(i,a.eval x)) (sl:=L.sl) (tmps:=a.tmps) S.hr h (by rw[ad1];exact h1);exact j.out B S n (by simp only[execOp,f])
  | false=>
  simp only[N,ab] at h;obtain⟨v,H',n,j,_⟩:=Jp (ps:=parts.map λ(i,x)=>(i,a.eval x)) (sl:=L.sl) (tmps:=a.tmps) S.hr h (by rw[ad1];exact h1);exact j.out B S n (by simp only[execOp,f])
 ·rename_i f;exact absurd (by rw[f];rfl) g
 ·rename_i t x y f;obtain⟨H',n,j⟩:=Af6 (sl:=L.sl) (tmps:=a.tmps) S.hr h (S.opnd x).1 (S.opnd y).1 (S.opnd y).2;exact j.outU B S n (by simp only[execOp,f])
 ·rename_i f;exact absurd (by rw[f];rfl) g
 ·rename_i f;exact absurd (by rw[f];rfl) g
 ·rename_i f;exact absurd (by rw[f];rfl) g
 ·rename_i a3 a1 x f;split at h
  ·obtain⟨v,n,j⟩:=XT (sl:=L.sl) (tmps:=a.tmps) S.hr h (S.opnd x).1;exact j.out B S n (by simp only[execOp,f])
  ·rename_i M;refine absurd ?_ g;rw[f];simp only[P7]
   done
 ·rename_i f;exact absurd (by rw[f];rfl) g
 ·rename_i t l c f;obtain⟨v,H',n,j⟩:=DK (sl:=L.sl) (tmps:=a.tmps) S.hr h (S.opnd l).1 (S.opnd c).1;exact j.out B S n (by simp only[execOp,f])
 ·rename_i f;exact absurd (by rw[f];rfl) g
 ·rename_i f;exact absurd (by rw[f];rfl) g
 ·rename_i f;exact absurd (by rw[f];rfl) g
 ·rename_i f;exact absurd (by rw[f];rfl) g
 ·rename_i t x f;split at h
  ·rename_i l hx;split at h
   ·rename_i X;have j:=(S.opnd x).1;rw[hx] at j;obtain⟨s,e,rfl⟩:=j.inv_str;have:=C40 (C:=C) (s:=s) (sl:=L.sl) (tmps:=a.tmps) S.hr (Fc X);exact this.out B S h (by simp only[execOp,f,e])
   ·cases h
  ·cases h
 ·rename_i it f;split at h
  ·rename_i b hx;have j:=(S.opnd it).1;rw[hx] at j;split at h
   ·rename_i l p hb;by_cases O:p<l.length
    ·simp only[O,decide_true,Gj,aa] at h;have:=Do9 (C:=C) (ty:=o.type) (sl:=L.sl) (tmps:=a.tmps) S.hr j hb O;exact this.out B S h (by simp only[execOp,f])
    ·simp only[O,decide_false,Gj,ab] at h;have:=As8 (C:=C) (ty:=o.type) S.hr j hb O;exact(this.out S h (by simp only[execOp,f])).loud
   ·cases h
  ·cases h
 ·rename_i t f;obtain⟨v,H',n,j,_⟩:=Rk (sl:=L.sl) (tmps:=a.tmps) S.hr h;exact j.out B S n (by simp only[execOp,f,Option.map_none])
 ·rename_i f;exact absurd (by rw[f];rfl) g
 ·rename_i t m x y f;obtain⟨H',n,j⟩:=PD (sl:=L.sl) (tmps:=a.tmps) S.hr h (S.opnd m).1 (S.opnd x).1 (S.opnd y).1 (S.opnd y).2;exact j.outU B S n (by simp only[execOp,f])
 ·rename_i f;exact absurd (by rw[f];rfl) g
 ·rename_i c f;split at h
  ·rename_i b A;unfold Lk at h;dsimp only at h;split at h
   ·exact absurd (by rw[f];simp[P7,A]) g
   ·rename_i t u s x H q;obtain⟨s0,x0,K,rfl,rfl⟩:=Ct3 q;have F:c.argTypes=[t,u].toArray:=by rw[<-H]
    split at h
    ·rename_i hu;obtain⟨v,a2,H',n,j⟩:=OT (ty:=o.type) (tmps:=a.tmps) S.hr hu h (S.opnd s0).1 (S.opnd x0).1;refine j.out B S n ?_;obtain⟨cs,T⟩:=Di (ρ:=a.eval) f A;rw[T,K,F];simp[builtin]
    grind
   ·rename_i t u d x H q;obtain⟨s0,x0,K,rfl,rfl⟩:=Ct3 q;have F:c.argTypes=[t,u].toArray:=by rw[<-H]
    obtain⟨v,H',n,j⟩:=Ao2 (u:=u) (ty:=o.type) (sl:=L.sl) (tmps:=a.tmps) S.hr h (S.opnd s0).1 (S.opnd x0).1;refine j.out B S n ?_;obtain⟨cs,T⟩:=Di (ρ:=a.eval) f A;rw[T,K,F];simp[builtin]
   ·exact absurd (by rw[f];simp[P7,A]) g
   ·exact absurd (by rw[f];simp[P7,A]) g
   ·cases h
  ·rename_i A;rw[f] at hq;simp[CS,A] at hq
  ·cases h
 ·cases h
end
def Oy(f:Nat->Nat)(l:List PV):rnL f l=l.map (PV.rn f):=by
 induction l with
 | nil=>rfl
 | cons v r a=>simp[rnL,a]
def Dx(H:List Blk)(l:List PV):Q3 H l=l.map (PV.snap H):=by
 induction l with
 | nil=>rfl
 | cons v r a=>simp[Q3,a]
def Ei{l:List PV}(h:Km l=true):∀v∈l,v.clean=true:=by
 induction l with
 | nil=>simp
 | cons a l b=>
  simp only[Km,j0] at h;grind
mutual
def PV.rn_nms(f:Nat->Nat):∀v:PV,(v.rn f).nms=v.nms.map f
 | .s _=>rfl
 | .nsl=>rfl
 | .fl b=>rfl
 | .vw b _ _=>rfl
 | .ptr b _ _=>rfl
 | .fnr _ x y=>by simp only[PV.rn,PV.nms,ag3,Gx f x,Gx f y]
 | .it b=>rfl
 | .yd=>rfl
 | .agg l=>by simp only[PV.rn,PV.nms,Gx f l]
 | .tup l=>by simp only[PV.rn,PV.nms,Gx f l]
 | .bad=>rfl
def Gx(f:Nat->Nat):∀l:List PV,D0 (rnL f l)=(D0 l).map f
 | []=>rfl
 | v::r=>by simp only[rnL,D0,ag3,PV.rn_nms f v,Gx f r]
end
def Blk.rn_nms(f:Nat->Nat)(x:Blk):(x.rn f).nms=x.nms.map f:=by
 have e:∀l:List PV,l.map (PV.rn f)=rnL f l:=λl=>(Oy f l).symm
 cases x<;>simp only[Blk.rn,Blk.nms,Gx,PE,ac7,ak9]
 rename_i ents;rw[<-Gx,<-e,ac7];rfl
def Blk.rn_shp(f:Nat->Nat)(x:Blk):(x.rn f).shp=x.shp:=by cases x<;>rfl
def VS.clean{St St':Nat->Prop}{w w':World}{v:SV}{V:Value}(h:VS St w v V)(hc:v.plain=true):VS St' w' v V:=by
 cases h with
 | bool=>exact .bool _
 | int=>exact .int _ _
 | str=>exact .str _
 | nilp=>exact .nilp
 | nilm=>exact .nilm
 | nilf=>exact .nilf
 | nil=>simp[SV.plain] at hc
 | emp=>simp[SV.plain] at hc
 | sl=>simp[SV.plain] at hc
 | sp=>simp[SV.plain] at hc
 | fn=>simp[SV.plain] at hc
def VP.rn{f:Nat->Nat}{Γ Γ':Ctx}{sh sh':Nat->Option Shp}{w:World}(hyv:Γ'.yv=Γ.yv){v:PV}{V:Value}(h:VP Γ sh w v V) :
  (v.clean=true\/∀g,Γ.St g->Γ'.St g)->(∀b∈v.nms,Γ'.nm (f b)=Γ.nm b/\sh' (f b)=sh b)->VP Γ' sh' w (v.rn f) V:=by
 induction h with
 | s v V h=>
  intro hc _;rcases hc with hc|hc
  ·refine .s _ _ (h.clean ?_);cases v<;>simp_all [PV.clean,SV.plain]
  ·exact .s _ _ (h.mono (λ_ _=>rfl) hc)
 | nsl=>intro _ _;exact .nsl
 | flv b e sz h=>intro _ hn;exact .flv _ e sz (by rw[(hn b (by simp[PV.nms])).2];exact h)
 | fl b g v e sz n cap h hv hg hcap hm hs=>
  intro _ hn;have o:=hn b (by simp[PV.nms]);exact .fl _ g v e sz n cap (by rw[o.2];exact h) hv (by rw[o.1];exact hg) hcap hm hs
 | vwv b e sz i h=>intro _ hn;exact .vwv _ e sz i (by rw[(hn b (by simp[PV.nms])).2];exact h)
 | vw b i n g a cap v e sz m h hv hg ha hi hcap hm=>
  intro _ hn;have o:=hn b (by simp[PV.nms]);exact .vw _ i n g a cap v e sz m (by rw[o.2];exact h) hv (by rw[o.1];exact hg) ha hi hcap hm
 | ptrA b i off g v e sz n h hg=>
  intro _ hn;have o:=hn b (by simp[PV.nms]);exact .ptrA _ i off g v e sz n (by rw[o.2];exact h) (by rw[o.1];exact hg)
 | ptrB b off g h hg=>
  intro _ hn;have o:=hn b (by simp[PV.nms]);exact .ptrB _ off g (by rw[o.2];exact h) (by rw[o.1];exact hg)
 | fnr g x y A B As Bs hf hA hB ha hb hx hy ihx ihy=>
  intro hc hn;simp only[PV.rn,Oy];refine .fnr g _ _ A B As Bs hf (by simpa using hA) (by simpa using hB) (λj h=>ha j (by simpa using h)) (λj h=>hb j (by simpa using h)) (λj h=>?_) (λj h=>?_)
  ·have hj:j<x.length:=by simpa using h
   rw[o7];refine ihx j hj (hc.imp (λe=>?_) id) (λb hb=>hn b (by simp only[PV.nms,k9];exact .inl (C7.2 ⟨j,hj,hb⟩)));simp only[PV.clean,j0] at e;exact Ei e.1 _ (p7 hj)
  ·have hj:j<y.length:=by simpa using h
   rw[o7];refine ihy j hj (hc.imp (λe=>?_) id) (λb hb=>hn b (by simp only[PV.nms,k9];exact .inr (C7.2 ⟨j,hj,hb⟩)));simp only[PV.clean,j0] at e;exact Ei e.2 _ (p7 hj)
 | it b g h hg=>
  intro _ hn;have o:=hn b (by simp[PV.nms]);exact .it _ g (by rw[o.2];exact h) (by rw[o.1];exact hg)
 | mpv b g h hg=>
  intro _ hn;have o:=hn b (by simp[PV.nms]);exact .mpv _ g (by rw[o.2];exact h) (by rw[o.1];exact hg)
 | yd=>intro _ _;rw[<-hyv];exact .yd
 | agg l A As hA ha hl ih=>
  intro hc hn;simp only[PV.rn,Oy];refine .agg _ A As (by simpa using hA) (λj h=>ha j (by simpa using h)) (λj h=>?_);have hj:j<l.length:=by simpa using h
  rw[o7];refine ih j hj (hc.imp (λe=>?_) id) (λb hb=>hn b (by simp only[PV.nms];exact C7.2 ⟨j,hj,hb⟩));simp only[PV.clean] at e;exact Ei e _ (p7 hj)
 | tup l A As hA ha hl ih=>
  intro hc hn;simp only[PV.rn,Oy];refine .tup _ A As (by simpa using hA) (λj h=>ha j (by simpa using h)) (λj h=>?_);have hj:j<l.length:=by simpa using h
  rw[o7];refine ih j hj (hc.imp (λe=>?_) id) (λb hb=>hn b (by simp only[PV.nms];exact C7.2 ⟨j,hj,hb⟩));simp only[PV.clean] at e;exact Ei e _ (p7 hj)
 | bad V=>intro _ _;exact .bad V
def D83(f:Nat->Nat)(a:Bool)(l:List SV):(svV a l).rn f=svV a l:=by
 cases a with
 | true=>simp only[svV,aa,PV.rn,Oy,ac7];rfl
 | false=>simp only[svV,ab];split<;>rfl
def Cn1{a:Bool}{l:List SV}(h:l.all SV.plain=true):(svV a l).clean=true:=by
 have key:∀x:SV,x.plain=true->(PV.s x).clean=true:=λx b=>by cases x<;>first|rfl|cases b
 cases a with
 | true=>
  simp only[svV,aa,PV.clean]
  induction l with
  | nil=>rfl
  | cons x l c=>
   simp only[ah9,j0] at h;simp only[aa1,Km,j0];exact⟨key x h.1,c h.2⟩
 | false=>
  simp only[svV,ab];split
  ·rename_i x;exact key x (by simpa using h)
  ·rfl
def BR.rn{f:Nat->Nat}{Γ Γ':Ctx}{sh sh':Nat->Option Shp}{w:World}(hyv:Γ'.yv=Γ.yv){b b':Nat}{x:Blk}(h:BR Γ sh w b x)(hc:x.clean=true\/∀g,Γ.St g->Γ'.St g)(hb:Γ'.nm b'=Γ.nm b)
  (hn:∀c∈x.nms,Γ'.nm (f c)=Γ.nm c/\sh' (f c)=sh c):BR Γ' sh' w b' (x.rn f):=by
 cases x with
 | arr v e sz els=>
  rcases h with h|⟨hn,g,cur,h1,h2,h3,h4,h5⟩
  ·exact .inl h
  ·refine .inr ⟨hn,g,cur,by rw[hb];exact h1,h2,h3,h4,λi hi j hj=>?_⟩;obtain⟨V,e1,e2⟩:=h5 i hi j hj;refine⟨V,e1,?_⟩;rcases hc with hc|hc
   ·simp only[Blk.clean,o0] at hc;exact e2.clean (hc _ (p7 hi) _ (p7 hj))
   ·exact e2.mono (λ_ _=>rfl) hc
 | box cells=>
  obtain⟨g,cur,e,h1,h2,h3,h4⟩:=h;simp only[Blk.rn,Oy];refine⟨g,cur,e,by rw[hb];exact h1,h2,by simpa using h3,λj hj=>?_⟩;have hj':j<cells.length:=by simpa using hj
  obtain⟨V,e1,e2⟩:=h4 j hj';rw[o7];refine⟨V,e1,e2.rn hyv (hc.imp (λe=>?_) id) (λc hc=>hn c (by simp only[Blk.nms];exact C7.2 ⟨j,hj',hc⟩))⟩;simp only[Blk.clean] at e;exact Ei e _ (p7 hj')
 | iter s p=>
  obtain⟨g,s',h1,h2,h3⟩:=h;exact⟨g,s',by rw[hb];exact h1,h2,h3⟩
 | mp ents=>
  obtain⟨g,es,ck,h1,h2,h3⟩:=h;exact⟨g,es,ck,by rw[hb];exact h1,h2,h3.map λv hv V k=>k.rn hyv (hc.imp (λe=>Ei e v hv) id) λc hc=>hn c (DL hv c hc)⟩
 | ms a ents=>
  obtain⟨g,es,ck,h1,h2,h3⟩:=h;refine⟨g,es,ck,by rw[hb];exact h1,h2,h3.imp λv hv V k=>?_⟩;obtain⟨e,he,rfl⟩:=GZ hv;have:=k.rn (f:=f) (sh':=sh') hyv (hc.imp (λq=>Cn1 (o0.1 q e he)) id) (λc hc=>by rw[Af7] at hc;simp at hc);rwa [D83] at this
 | dead=>trivial
def Bd5{l:List Nat}{b c:Nat}:c∈Gf l b↔c∈l\/c=b:=by
 unfold Gf;split
 ·rename_i h;have a:b∈l:=by simpa using h
  exact⟨.inl,λh=>h.elim id (λe=>e▸a)⟩
 ·simp
def Io:∀(xs a:List Nat) (c:Nat),c∈xs.foldl Gf a↔c∈a\/c∈xs
 | [],a,c=>by simp
 | x::xs,a,c=>by rw[aa7,Io xs,Bd5,ab0,or_assoc]
def XO{l:List Nat}{b:Nat}(h:l.Nodup):(Gf l b).Nodup:=by
 unfold Gf;split
 ·exact h
 ·rename_i a;rw[List.nodup_append];refine⟨h,by simp,λx d y c e=>?_⟩;simp at c;subst c;subst e;simp at a;exact a d
def Nl:∀(xs a:List Nat),a.Nodup->(xs.foldl Gf a).Nodup
 | [],a,h=>h
 | x::xs,a,h=>by rw[aa7];exact Nl xs _ (XO h)
def OH(H:List Blk):∀(l a:List Nat),a.Nodup->(l.foldl (λa b=>((H.getD b .dead).nms).foldl Gf a) a).Nodup
 | [],a,h=>h
 | x::l,a,h=>by rw[aa7];exact OH H l _ (Nl _ _ h)
def A23(H:List Blk):∀(l a:List Nat) c,c∈a->c∈l.foldl (λa b=>((H.getD b .dead).nms).foldl Gf a) a
 | [],a,c,h=>h
 | x::l,a,c,h=>by rw[aa7];exact A23 H l _ c ((Io _ _ _).2 (.inl h))
def A22(H:List Blk)(p:Nat->Prop)(f:∀b,p b->∀c∈(H.getD b .dead).nms,p c):∀(l a:List Nat),(∀c∈a,p c)->(∀c∈l,p c)->∀c∈l.foldl (λa b=>((H.getD b .dead).nms).foldl Gf a) a,p c
 | [],a,h,_=>h
 | x::l,a,h,e=>by
  rw[aa7];refine A22 H p f l _ (λc d=>?_) (λc d=>e c (by simp[d]));rcases(Io _ _ _).1 d with d|d
  ·exact h c d
  ·exact f x (e x (by simp)) c d
def Ou(H:List Blk)(p:List Nat->Prop)(a:∀l,p l->p (NM H l)):∀n l,p l->p (Ac2 H n l)
 | 0,l,h=>h
 | n+1,l,h=>by
  unfold Ac2;cases ad5 (NM H l).length l.length with
  | true=>exact h
  | false=>exact Ou H p a n _ (a l h)
def FK(H:List Blk)(l:List Nat):(Ee H l).Nodup:=
 Ou H List.Nodup (λ_ h=>OH H _ _ h) _ _ (Nl _ _ List.nodup_nil)
def TL(H:List Blk)(l:List Nat):∀c∈l,c∈Ee H l:=λc a=>
 Ou H (c∈·) (λ_ h=>A23 H _ _ c h) _ _ ((Io _ _ _).2 (.inr a))
def TK(H:List Blk)(l:List Nat)(p:Nat->Prop)(g:∀b,p b->∀c∈(H.getD b .dead).nms,p c)(f:∀c∈l,p c):∀c∈Ee H l,p c:=by
 have d:∀c∈l.foldl Gf [],p c:=λc e=>by
  rcases(Io _ _ _).1 e with h|h
  ·simp at h
  ·exact f c h
 have step:∀m,(∀c∈m,p c)->∀c∈NM H m,p c:=λm a=>A22 H p g m m a a
 exact Ou H (λm=>∀c∈m,p c) step _ _ d
def OW{H:List Blk}{a:List Nat}(h:Fr H a=true):∀b∈a,∀c∈(H.getD b .dead).nms,c∈a:=by intro b d c e;simp only[Fr,o0] at h;simpa using h b d c e
def Cg{c:List Nat}{b:Nat}(h:b∈c):∃a:J1 c b<c.length,c[J1 c b]=b:=by have a:c.idxOf b<c.length:=List.idxOf_lt_length_of_mem h;exact⟨a,List.getElem_idxOf a⟩
def Oc{Γ:Ctx}{sh:Nat->Option Shp}{w:World}:∀(a:List Nat) (sl:List PV),(N1 a sl).length=sl.length/\(∀c∈D0 (N1 a sl),c∉a/\c∈D0 sl)/\
  ∀i (h:i<(N1 a sl).length) (f:i<sl.length) V,VP Γ sh w (sl[i]) V->VP Γ sh w ((N1 a sl)[i]) V
 | [],sl=>⟨rfl,λc g=>⟨by simp,g⟩,λi h f V k=>k⟩
 | b::a,sl=>by
  obtain⟨n,o,p⟩:=Oc (Γ:=Γ) (sh:=sh) (w:=w) a (Ab b sl);have j:(Ab b sl).length=sl.length:=by rw[Dk];simp
  have e:N1 (b::a) sl=N1 a (Ab b sl):=rfl;refine⟨by rw[e,n,j],λc g=>?_,λi h f V k=>?_⟩
  ·rw[e] at g;obtain⟨q,l⟩:=o c g;refine⟨?_,Cs b sl c l⟩;rintro d;rcases ab0.1 d with rfl|d
   ·exact V2 c sl l
   ·exact q d
  ·simp only[e];refine p i (by rw[e] at h;exact h) (by rw[j];exact f) V ?_;have m:(Ab b sl)[i]'(by rw[j];exact f)=(sl[i]).kill b:=by simp[Dk]
   rw[m];exact k.kill b
def Rf{Γ:Ctx}{sh:Nat->Option Shp}{w:World}:∀(a:List Nat) (H:List Blk),(U1 a H).length=H.length/\(∀b,A3 (U1 a H) b=A3 H b)/\
  ∀i (h:i<(U1 a H).length) (g:i<H.length),(∀c∈((U1 a H)[i]).nms,c∉a/\c∈(H[i]).nms)/\∀b,BR Γ sh w b (H[i])->BR Γ sh w b ((U1 a H)[i])
 | [],H=>⟨rfl,λ_=>rfl,λi h g=>⟨λc f=>⟨by simp,f⟩,λb l=>l⟩⟩
 | k::a,H=>by
  obtain⟨p,q,r⟩:=Rf (Γ:=Γ) (sh:=sh) (w:=w) a (H.map (Blk.kill k));have n:(H.map (Blk.kill k)).length=H.length:=by simp
  have e:U1 (k::a) H=U1 a (H.map (Blk.kill k)):=rfl;refine⟨by rw[e,p,n],λb=>by rw[e,q,OA],λi h g=>?_⟩;have j:i<(H.map (Blk.kill k)).length:=by rw[n];exact g
  obtain⟨t,u⟩:=r i (by rw[e] at h;exact h) j;have m:(H.map (Blk.kill k))[i]=(H[i]).kill k:=by simp
  refine⟨λc f=>?_,λb l=>?_⟩
  ·simp only[e] at f;obtain⟨v,o⟩:=t c f;rw[m] at o;obtain⟨x,y⟩:=Blk.kill_nms' c o;refine⟨?_,y⟩;rintro d;rcases ab0.1 d with rfl|d
   ·exact x rfl
   ·exact v d
  ·simp only[e];exact u b (by rw[m];exact l.kill)
def Kb:∀(a:List Nat) (xs H:List Blk),a.Nodup->xs.length=a.length->(∀b∈a,b<H.length)->(Y4 H a xs).length=H.length/\
  ∀b,(Y4 H a xs)[b]? = if b∈a then xs[a.idxOf b]? else H[b]?
 | [],xs,H,_,f,_=>by cases xs<;>simp[Y4]
 | n::a,[],H,_,f,_=>by simp at f
 | n::a,x::xs,H,i,f,d=>by
  obtain⟨j,k⟩:=Kb a xs (H.set n x) (aj7.1 i).2 (by simpa using f) (λb c=>by simpa using d b (by simp[c]));have e:Y4 H (n::a) (x::xs)=Y4 (H.set n x) a xs:=rfl;refine⟨by rw[e,j];simp,λb=>?_⟩;rw[e,k];have l:n∉a:=(aj7.1 i).1;by_cases c:b∈a
  ·have g:n≠b:=by rintro rfl;exact l c
   rw[ac c,ac (by simp[c]),List.idxOf_cons];have:(n==b)=false:=by simpa using g
   simp[this]
  ·rw[ae c,ai4];by_cases e:n=b
   ·subst e;rw[ac rfl,ac (d n (by simp)),ac (by simp)];simp
   ·rw[ae e,ae (by simp only[ab0,not_or];exact⟨λh=>e h.symm,c⟩)]
end
end Go.Proofs.YteickfjoihhgkaaGreatDoor.E
