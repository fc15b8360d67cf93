/-
  Parts of the proof, merged by a program of the prover's own; no condition.
-/
import Derived.Test.YtcfingekgbbclaaGreatDoorKQ4
import Derived.BigQuiet
import Derived.Deep.QuietTactic
import Derived.Laws.Runes
import Derived.Lib.MapLaws
import Derived.Shelf.Abstract
import Derived.Test.YtcfingekgbbclaaGreatDoorProg
import Derived.WalkKit
import Derived.WideMake
open Go.Proofs.Tryz renaming prog->a8,underlying52->w8,underlying9->x3,func44->x6,ntmps44->aa9,underlying29->ac5,f101->ad3,f41->ae1,f55->ae2,f58->ae3,f60->ae4,f61->ae5,f75->ae6,f40->af5,f62->af6,f82->af7,func24->af8
open List renaming length->b8,getD->b9,length_cons->d7,length_append->d8,length_drop->d9,length_take->f7,length_singleton->f8,drop_of_length_le->g7,size_toArray->j2,getElem?_append_right->j4,toArray->j6,mem_of_mem_drop->j7,isPrefixOf->k9,getD_cons_zero->m6,takeWhile_cons->m7,getD_eq_getElem?_getD->m9,getElem?_eq_getElem->o5,getElem?_take_of_lt->o6,getElem?_cons_succ->o7,getElem?_cons_zero->o8,length_nil->p5,getElem?_toArray->p7,getElem?_append_left->s9,mem_cons->t7,getElem?_take->t8,mem_of_mem_take->x5,drop_left'->x8,contains_cons->y9,drop_zero->z7,take_left->aa0,getElem?_eq_some_iff->aa2,isEmpty_iff->aa5,length_eq_zero_iff->aa6,take_of_length_le->aa8,drop_drop->ab3,getD_cons_succ->ab7,getElem_mem->ac9,not_mem_nil->ad0,take_length->ad1,head?_cons->ad7,takeWhile->ae0,all_cons->ae9,any_cons->af0
open Eq renaming trans->c9
open Int renaming toNat_natCast->f0,eq_ofNat_of_zero_le->v7
open Bool renaming not_true->f6,not_false->f9,false_eq_true->j0,eq_iff_iff->j1,and_eq_true->j5,not_eq_true'->p9,true_and->x4,not_eq_true->ac7,or_eq_true->ad6,and_true->ae7,false_or->ae8
open Exists renaming intro->g6
open Go.Lib renaming indexByte->g8,decodeL->s7,indexAny->s8,cut->y6,indexByte_ge->ac8,size_eq->ad4
open Go.Value renaming int->g9
open Option.some renaming injEq->i6,inj->p6
open Nat renaming le_refl->j8,mul_one->p4,le_of_ble_eq_true->w9,zero_add->y7,add_lt_add_iff_right->aa3,ble_eq_true_of_le->ab2,add_zero->ac1,ble->ac2,sub_self->ac3
open Go.Utf8 renaming decode->j9,encode->v8
open Array renaming length_toList->m5,getElem?_append_left->y8,getElem?_eq_getElem->aa1,getElem?_eq_none->aa7,size_append->ab9,toList_push->ac0,toList_inj->ac6,size_push->ad5
open UInt8 renaming toNat_inj->o0,ofNat->x7
open Option renaming bind_some->o9,map_some->x9,getD_some->ad2,isSome->af2
open Go.MapKept renaming run_getObj_map->w6,run_findKey->y4,run_checkKey->ab4,IsKey->af1
open Go.Instr renaming lookup->y5,mapUpdate->ab1,findNow->ab8,checkKey->ad9
open Go.World renaming frozen?->aa4,shape?->ab0,cell?->ab6
open Go.Result renaming andThen->ab5
open Go.RowKit.Below renaming refl->ac4
open Ne renaming symm->ad8
open Prod.mk renaming injEq->af3
open List.Sublist renaming length_le->af4
namespace Go.Proofs.YtcfingekgbbclaaGreatDoor.E
set_option linter.all false
section
open Go Go.Proofs
set_option maxRecDepth 100000
section
def DY:List PV->Tr
 | [.s (.str s)]=>.ret (.s (.int .i64 (Q0 s))) []
 | _=>.fail
def Sr(args:List PV):Tr:=DY (C2 [[0]] args)
def DZ:List PV->Tr
 | [.s (.str s)]=>.ret (.s (.bool (L3 s))) []
 | _=>.fail
def ON(args:List PV):Tr:=DZ (C2 [[0]] args)
def OJ:List PV->Tr
 | [.agg [.s (.str a),.s (.str n),.s (.int .i64 j),.s (.str k),.s (.int .u32 v4),.s (.int .u16 b),.s (.int .u16 c),.s (.int .u16 d),.s (.int .u16 e),.s (.int .u16 f),.s (.int .u16 g),.s (.int .u16 h),.s (.int .u16 i),.s (.int .i64 l),.s (.str m)]]=>.ret (.s (.bool (Fu a))) []
 | _=>.fail
def Br5(args:List PV):Tr:=OJ (C2 [[0,0,0,0,0,0,0,0,0,0,0,0,0,0,0]] args)
def OM:List PV->Tr
 | [.s (.str s)]=>.need (A3 (b8 s)) (.ret (.s (.bool (V2 s))) [])
 | _=>.fail
def Br7(args:List PV):Tr:=OM (C2 [[0]] args)
def OK:List PV->Tr
 | [.s (.str s)]=>.need (A3 (b8 s)) (.ret (.tup [.s (.int .i64 (BE s)),.s (.bool (af2 (Ia ((-1):Int) s)))]) [])
 | _=>.fail
def Br6(args:List PV):Tr:=OK (C2 [[0]] args)
def Wy:List PV->Tr
 | [.agg [.s (.str c),.s (.str e),.s (.int .i64 n),.s (.str o),.s (.int .u32 v4),.s (.int .u16 f),.s (.int .u16 g),.s (.int .u16 h),.s (.int .u16 i),.s (.int .u16 j),.s (.int .u16 k),.s (.int .u16 l),.s (.int .u16 m),.s (.int .i64 d),.s (.str b)],.s (.str a)]=>.need (A3 (b8 c)) (.need (A3 (b8 b)) (.need (A3 (b8 a)) (.need (List.isEmpty e) (.need (d==((-1):Int)) (.ret (.tup [.agg [.s (.str (uS (G6 c b a))),.s (.str (uU (G6 c b a))),.s (.int .i64 (uK (G6 c b a))),.s (.str (uN (G6 c b a))),.s (.int .u32 (uV (G6 c b a))),.s (.int .u16 (uA (G6 c b a) 0)),.s (.int .u16 (uA (G6 c b a) 1)),.s (.int .u16 (uA (G6 c b a) 2)),.s (.int .u16 (uA (G6 c b a) 3)),.s (.int .u16 (uA (G6 c b a) 4)),.s (.int .u16 (uA (G6 c b a) 5)),.s (.int .u16 (uA (G6 c b a) 6)),.s (.int .u16 (uA (G6 c b a) 7)),.s (.int .i64 (uP (G6 c b a))),.s (.str (uR (G6 c b a)))],.s (.int .i64 (uE (G6 c b a)))]) [])))))
 | _=>.fail
def UD(args:List PV):Tr:=Wy (C2 [[0,0,0,0,0,0,0,0,0,0,0,0,0,0,0],[0]] args)
def OL:List PV->Tr
 | [.s (.str s)]=>.need (A3 (b8 s)) (.ret (.tup [.agg [.s (.str (uS (C3 s))),.s (.str (uU (C3 s))),.s (.int .i64 (uK (C3 s))),.s (.str (uN (C3 s))),.s (.int .u32 (uV (C3 s))),.s (.int .u16 (uA (C3 s) 0)),.s (.int .u16 (uA (C3 s) 1)),.s (.int .u16 (uA (C3 s) 2)),.s (.int .u16 (uA (C3 s) 3)),.s (.int .u16 (uA (C3 s) 4)),.s (.int .u16 (uA (C3 s) 5)),.s (.int .u16 (uA (C3 s) 6)),.s (.int .u16 (uA (C3 s) 7)),.s (.int .i64 (uP (C3 s))),.s (.str (uR (C3 s)))],.s (.int .i64 (uE (C3 s)))]) [])
 | _=>.fail
def Ad7(args:List PV):Tr:=OL (C2 [[0]] args)
def Wx:List PV->Tr
 | [.s (.str s)]=>.need (A3 (b8 s)) (.ret (.tup [.agg [.s (.str (uS (H8 s))),.s (.str (uU (H8 s))),.s (.int .i64 (uK (H8 s))),.s (.str (uN (H8 s))),.s (.int .u32 (uV (H8 s))),.s (.int .u16 (uA (H8 s) 0)),.s (.int .u16 (uA (H8 s) 1)),.s (.int .u16 (uA (H8 s) 2)),.s (.int .u16 (uA (H8 s) 3)),.s (.int .u16 (uA (H8 s) 4)),.s (.int .u16 (uA (H8 s) 5)),.s (.int .u16 (uA (H8 s) 6)),.s (.int .u16 (uA (H8 s) 7)),.s (.int .i64 (uP (H8 s))),.s (.str (uR (H8 s)))],.s (.int .i64 (uE (H8 s)))]) [])
 | _=>.fail
def Mn(args:List PV):Tr:=Wx (C2 [[0]] args)
def EA:List PV->Tr
 | [.agg [.s (.str l),.s (.str m),.s (.int .i64 n),.s (.str i),.s (.int .u32 v4),.s (.int .u16 a),.s (.int .u16 b),.s (.int .u16 c),.s (.int .u16 d),.s (.int .u16 e),.s (.int .u16 f),.s (.int .u16 g),.s (.int .u16 h),.s (.int .i64 j),.s (.str k)]]=>.need (smU l m i k) (.need (ltN v4 4294967296) (.need (ok8 a b c d e f g h) (.need (Po j) (.ret (.s (.str (Bp (mkU l m n i v4 (n8 a b c d e f g h) j k)))) []))))
 | _=>.fail
def OO(args:List PV):Tr:=EA (C2 [[0,0,0,0,0,0,0,0,0,0,0,0,0,0,0]] args)
def Qm:List PV->Tr
 | [.agg [.s (.str l),.s (.str m),.s (.int .i64 n),.s (.str i),.s (.int .u32 v4),.s (.int .u16 a),.s (.int .u16 b),.s (.int .u16 c),.s (.int .u16 d),.s (.int .u16 e),.s (.int .u16 f),.s (.int .u16 g),.s (.int .u16 h),.s (.int .i64 j),.s (.str k)]]=>.need (smU l m i k) (.need (ltN v4 4294967296) (.need (ok8 a b c d e f g h) (.need (Po j) (.ret (.s (.bool (Zh (mkU l m n i v4 (n8 a b c d e f g h) j k)))) []))))
 | _=>.fail
def JK(args:List PV):Tr:=Qm (C2 [[0,0,0,0,0,0,0,0,0,0,0,0,0,0,0]] args)
def OI:List PV->Tr
 | [.agg [.s (.str l),.s (.str m),.s (.int .i64 n),.s (.str i),.s (.int .u32 v4),.s (.int .u16 a),.s (.int .u16 b),.s (.int .u16 c),.s (.int .u16 d),.s (.int .u16 e),.s (.int .u16 f),.s (.int .u16 g),.s (.int .u16 h),.s (.int .i64 j),.s (.str k)]]=>.need (smU l m i k) (.need (ltN v4 4294967296) (.need (ok8 a b c d e f g h) (.need (Po j) (.ret (.s (.str (Cv2 (mkU l m n i v4 (n8 a b c d e f g h) j k)))) []))))
 | _=>.fail
def Ad6(args:List PV):Tr:=OI (C2 [[0,0,0,0,0,0,0,0,0,0,0,0,0,0,0]] args)
def Br8:List PV->Tr
 | [.agg [.s (.str a),.s (.str n),.s (.int .i64 j),.s (.str k),.s (.int .u32 v4),.s (.int .u16 b),.s (.int .u16 c),.s (.int .u16 d),.s (.int .u16 e),.s (.int .u16 f),.s (.int .u16 g),.s (.int .u16 h),.s (.int .u16 i),.s (.int .i64 l),.s (.str m)]]=>.ret (.agg [.s (.str (upS a)),.s (.str n),.s (.int .i64 j),.s (.str k),.s (.int .u32 v4),.s (.int .u16 b),.s (.int .u16 c),.s (.int .u16 d),.s (.int .u16 e),.s (.int .u16 f),.s (.int .u16 g),.s (.int .u16 h),.s (.int .u16 i),.s (.int .i64 (upP a l)),.s (.str m)]) []
 | _=>.fail
def A37(args:List PV):Tr:=Br8 (C2 [[0,0,0,0,0,0,0,0,0,0,0,0,0,0,0]] args)
def Ws:List PV->Tr
 | [.s (.str s)]=>.ret (.s (.bool (L3 s))) []
 | _=>.fail
def TY(args:List PV):Tr:=Ws (C2 [[0]] args)
def DR:List PV->Tr
 | [.s (.str s)]=>.ret (.s (.int .i64 (Q0 s))) []
 | _=>.fail
def A35(args:List PV):Tr:=DR (C2 [[0]] args)
def DO:List PV->Tr
 | [.s (.str s),.s (.str t)]=>.need (A3 (b8 s)) (.need (A3 (b8 t)) (.ret (.s (.int .i64 (↑(P9 s t):Int))) []))
 | _=>.fail
def A32(args:List PV):Tr:=DO (C2 [[0],[0]] args)
def DQ:List PV->Tr
 | [.s (.str s)]=>.need (A3 (b8 s)) (.ret (.tup [.s (.str ((Cl s)).1),.s (.str (((Cl s)).2).1),.s (.bool (((Cl s)).2).2)]) [])
 | _=>.fail
def A34(args:List PV):Tr:=DQ (C2 [[0]] args)
def DP:List PV->Tr
 | [.s (.str s)]=>.need (A3 (b8 s)) (.ret (.tup [.agg [.s (.str (uS (C3 s))),.s (.str (uU (C3 s))),.s (.int .i64 (uK (C3 s))),.s (.str (uN (C3 s))),.s (.int .u32 (uV (C3 s))),.s (.int .u16 (uA (C3 s) 0)),.s (.int .u16 (uA (C3 s) 1)),.s (.int .u16 (uA (C3 s) 2)),.s (.int .u16 (uA (C3 s) 3)),.s (.int .u16 (uA (C3 s) 4)),.s (.int .u16 (uA (C3 s) 5)),.s (.int .u16 (uA (C3 s) 6)),.s (.int .u16 (uA (C3 s) 7)),.s (.int .i64 (uP (C3 s))),.s (.str (uR (C3 s)))],.s (.int .i64 (uE (C3 s)))]) [])
 | _=>.fail
def A33(args:List PV):Tr:=DP (C2 [[0]] args)
def Qj:List PV->Tr
 | [.s (.str s)]=>.need (A3 (b8 s)) (.ret (.tup [.agg [.s (.str (uS (H8 s))),.s (.str (uU (H8 s))),.s (.int .i64 (uK (H8 s))),.s (.str (uN (H8 s))),.s (.int .u32 (uV (H8 s))),.s (.int .u16 (uA (H8 s) 0)),.s (.int .u16 (uA (H8 s) 1)),.s (.int .u16 (uA (H8 s) 2)),.s (.int .u16 (uA (H8 s) 3)),.s (.int .u16 (uA (H8 s) 4)),.s (.int .u16 (uA (H8 s) 5)),.s (.int .u16 (uA (H8 s) 6)),.s (.int .u16 (uA (H8 s) 7)),.s (.int .i64 (uP (H8 s))),.s (.str (uR (H8 s)))],.s (.int .i64 (uE (H8 s)))]) [])
 | _=>.fail
def Wr(args:List PV):Tr:=Qj (C2 [[0]] args)
def Cr3:List PV->Tr
 | [.s (.int .i64 n)]=>.need (ltN n 9223372036854775808) (.ret (.s (.str (Lib.decDigits (Int.toNat n)))) [])
 | _=>.fail
def CS:List PV->Tr
 | [.s (.int .i64 n)]=>.need (Po n) (.ret (.s (.str (Lv n))) [])
 | _=>.fail
def A19(args:List PV):Tr:=CS (C2 [[0]] args)
def DU:List PV->Tr
 | [.s (.str s),.s (.int .u8 c)]=>.need (A3 (b8 s)) (.need (inR c 256) (.ret (.s (.int .i64 (g8 s (u8n c)))) []))
 | _=>.fail
def Sp(args:List PV):Tr:=DU (C2 [[0],[0]] args)
def CY:List PV->Tr
 | [.s (.str s),.s (.str p)]=>.need (A3 (b8 s)) (.ret (.s (.str (Fl s p))) [])
 | _=>.fail
def A22(args:List PV):Tr:=CY (C2 [[0],[0]] args)
def OH:List PV->Tr
 | [.s (.str s),.s (.str p)]=>.need (A3 (b8 s)) (.ret (.s (.str (Fl s p))) [])
 | _=>.fail
def Br3(args:List PV):Tr:=OH (C2 [[0],[0]] args)
def TZ:List PV->Tr
 | [.s (.str s),.s (.str p)]=>.need (A3 (b8 s)) (.need (Yi p) (.ret (.s (.int .i64 (s8 s p))) []))
 | _=>.fail
def OD(args:List PV):Tr:=TZ (C2 [[0],[0]] args)
def Qd:List PV->Tr
 | []=>.ret (.s (.bool true)) []
 | _=>.fail
def Wg(args:List PV):Tr:=Qd (C2 [] args)
def BK:List PV->Tr
 | [.agg [.s (.str a),.s (.str n),.s (.int .i64 j),.s (.str k),.s (.int .u32 v4),.s (.int .u16 b),.s (.int .u16 c),.s (.int .u16 d),.s (.int .u16 e),.s (.int .u16 f),.s (.int .u16 g),.s (.int .u16 h),.s (.int .u16 i),.s (.int .i64 l),.s (.str m)]]=>.need (Fu a) (.ret (.agg [.s (.str (upS a)),.s (.str n),.s (.int .i64 j),.s (.str k),.s (.int .u32 v4),.s (.int .u16 b),.s (.int .u16 c),.s (.int .u16 d),.s (.int .u16 e),.s (.int .u16 f),.s (.int .u16 g),.s (.int .u16 h),.s (.int .u16 i),.s (.int .i64 (upP a l)),.s (.str m)]) [])
 | _=>.fail
def Br9(args:List PV):Tr:=BK (C2 [[0,0,0,0,0,0,0,0,0,0,0,0,0,0,0]] args)
def BL:List PV->Tr
 | [.agg [.s (.str a),.s (.str n),.s (.int .i64 j),.s (.str k),.s (.int .u32 v4),.s (.int .u16 b),.s (.int .u16 c),.s (.int .u16 d),.s (.int .u16 e),.s (.int .u16 f),.s (.int .u16 g),.s (.int .u16 h),.s (.int .u16 i),.s (.int .i64 l),.s (.str m)]]=>.need (not (Fu a)) (.ret (.agg [.s (.str a),.s (.str n),.s (.int .i64 j),.s (.str k),.s (.int .u32 v4),.s (.int .u16 b),.s (.int .u16 c),.s (.int .u16 d),.s (.int .u16 e),.s (.int .u16 f),.s (.int .u16 g),.s (.int .u16 h),.s (.int .u16 i),.s (.int .i64 l),.s (.str m)]) [])
 | _=>.fail
def Bs0(args:List PV):Tr:=BL (C2 [[0,0,0,0,0,0,0,0,0,0,0,0,0,0,0]] args)
def Of:List PV->Tr
 | [.s (.str s),.s (.str p)]=>.need (A3 (b8 s)) (.need (Yi p) (.need (ac2 9 (b8 s)) (.ret (.s (.int .i64 (s8 s p))) [])))
 | _=>.fail
def UA(args:List PV):Tr:=Of (C2 [[0],[0]] args)
def Og:List PV->Tr
 | [.s (.str s),.s (.str p)]=>.need (Yi p) (.need (ac2 (b8 s) 8) (.ret (.s (.int .i64 (s8 s p))) []))
 | _=>.fail
def UB(args:List PV):Tr:=Og (C2 [[0],[0]] args)
def Qk:List PV->Tr
 | [.s (.int .i64 n)]=>.ret (.s (.bool (ltI (8:Int) n))) []
 | _=>.fail
def Wu(args:List PV):Tr:=Qk (C2 [[0]] args)
def Wt:List PV->Tr
 | [.s (.str p),.s (.int .i32 r)]=>.need (Yi p) (.need (ltN r 1114112) (.ret (.s (.int .i64 (irn r))) []))
 | _=>.fail
def DV(args:List PV):Tr:=Wt (C2 [[0],[0]] args)
def JI:List PV->Tr
 | [.s (.str s)]=>.fail
 | _=>.fail
def Mm(args:List PV):Tr:=JI (C2 [[0]] args)
def Xa:List PV->Tr
 | [.s (.int .i32 r)]=>.ret (.s (.bool (IB r))) []
 | _=>.fail
def EB(args:List PV):Tr:=Xa (C2 [[0]] args)
end
section
variable {Z R : Type} (L : Nat) (Q : F6) (Y : Yh Z) (s : Z) (k : Out -> St Z -> Option R)
noncomputable def JX(L:Nat):Cfg:=B7 L [12] (A4 []) [(13,Mn),(28,A37),(15,Ad6)] (A4 [(4,[0]),(3,[1,0,0,0,1]),(2,[1,0,0,0]),(1,[1,0]),(0,[])]) [15] (A4 []) (some [0]) [] [] []
end
section
variable {Z R : Type} (L : Nat) (Q : F6) (Y : Yh Z) (s : Z) (k : Out -> St Z -> Option R)
noncomputable def PK(L:Nat):Cfg:=B7 L [112] (A4 []) [(79,NB)] (A4 [(3,[4]),(2,[4]),(1,[0,0,5]),(0,[0,0])]) [79] (A4 []) (some [4]) [] [] []
noncomputable def A65{R:Type}(L:Nat)(b a:By)(d:By->Option R):Option R:=cond (A3 b.length) (cond (k9 a b) (cond (I5 (a.length:Int) (b.length:Int) b.length) (vl (cut b (a.length:Int) (b.length:Int)) λc=>d c) none) (d b)) none
theorem Bx5(d:Nat)(s0 prefix1):evC (PK L) (d+1) Z Y 112 [pS s0,pS prefix1] [] s=A65 L s0 prefix1 (λa=>some (pS a,[],s)):=by refine(evE (fn:=Tryz.f112) (by kernel_rfl)).trans ?_;generalize evC (PK L) d=Q;unfold A65;kernel_rfl
noncomputable def Ag6(L:Nat):Cfg:=B7 L [83] (A4 []) [(112,A22)] (A4 [(1,[4]),(0,[0,0])]) [112] (A4 []) (some [4]) [] [] []
noncomputable def Cm0{R:Type}(L:Nat)(b a:By)(c:By->Option R):Option R:=cond (A3 b.length) (c (Fl b a)) none
theorem Cm1(d:Nat)(s0 prefix1):evC (Ag6 L) (d+1) Z Y 83 [pS s0,pS prefix1] [] s=Cm0 L s0 prefix1 (λa=>some (pS a,[],s)):=by refine(evE (fn:=Tryz.f83) (by kernel_rfl)).trans ?_;generalize evC (Ag6 L) d=Q;unfold Cm0;kernel_rfl
noncomputable def PT(L:Nat):Cfg:=B7 L [44] (A4 []) [] (A4 [(8,[2]),(4,[2]),(7,[2]),(6,[7]),(5,[3,3]),(3,[3,0]),(2,[3,0]),(1,[3]),(0,[0])]) [] (A4 [(0,[])]) (some [2]) [] [] []
noncomputable def A93{R:Type}(L:Nat)(a:By)(b:Int->Option R):Option R:=cond (a==[104,116,116,112]) (cond (a==[104,116,116,112]) (b 80) (cond (a==[104,116,116,112,115]) (cond (a==[104,116,116,112,115]) (b 443) (b (-1))) (cond (a==[119,115,115]) (b 443) (b (-1))))) (cond (a==[119,115]) (b 80) (cond (a==[104,116,116,112,115]) (cond (a==[104,116,116,112,115]) (b 443) (b (-1))) (cond (a==[119,115,115]) (b 443) (b (-1)))))
theorem B56(d:Nat)(scheme0):evC (PT L) (d+1) Z Y 44 [pS scheme0] [] s=A93 L scheme0 (λa=>some (pI a,[],s)):=by refine(evE (fn:=Tryz.f44) (by kernel_rfl)).trans ?_;generalize evC (PT L) d=Q;unfold A93;kernel_rfl
noncomputable def PU(L:Nat):Cfg:=B7 L [22] (A4 []) [(44,Sr)] (A4 [(1,[2]),(0,[0])]) [44] (A4 []) (some [2]) [] [] []
noncomputable def A94{R:Type}(L:Nat)(a:By)(b:Bool->Option R):Option R:=b (ltI 0 (Q0 a))
theorem B59(d:Nat)(scheme0):evC (PU L) (d+1) Z Y 22 [pS scheme0] [] s=A94 L scheme0 (λa=>some (pB a,[],s)):=by refine(evE (fn:=Tryz.f22) (by kernel_rfl)).trans ?_;generalize evC (PU L) d=Q;unfold A94;kernel_rfl
noncomputable def Ag8(L:Nat):Cfg:=B7 L [24] (A4 []) [(44,Sr)] (A4 [(1,[2]),(0,[1])]) [44] (A4 []) (some [2]) [] [] []
noncomputable def Cx8{R:Type}(L:Nat)(f h:By)(i:Int)(j:By)(l m n o u8 p a b c d:Int)(e:By)(g:Bool->(List Blk)->Option R):Option R:=g ((Q0 f)==80) [(bU f h i j l m n o u8 p a b c d e)]
theorem Cm6(d:Nat)(u0 u1 u2 u3 u4 u5 u6 u7 u8 u9 u10 u11 u12 u13 u14):evC (Ag8 L) (d+1) Z Y 24 [(gU u0 u1 u2 u3 u4 u5 u6 u7 u8 u9 u10 u11 u12 u13 u14)] [] s=Cx8 L u0 u1 u2 u3 u4 u5 u6 u7 u8 u9 u10 u11 u12 u13 u14 (λb a=>some (pB b,a,s)):=by refine(evE (fn:=Tryz.f24) (by kernel_rfl)).trans ?_;generalize evC (Ag8 L) d=Q;unfold Cx8;kernel_rfl
noncomputable abbrev Ms:Code:=C8 ae2
noncomputable def Y4(L:Nat):Cfg:=B7 L [55] (A4 [(2,[0,1,4,0])]) [(73,Sp)] (A4 [(9,[2]),(8,[0,6,0]),(7,[2]),(6,[0,6,0,29]),(5,[0,2,0,0,1,0]),(4,[0,2,0,2,0]),(3,[0,2,3,0]),(2,[0,6,0,0]),(1,[0,6,0]),(0,[0])]) [73] (A4 [(0,[0]),(1,[0,6,0])]) (some [2]) [] [] []
noncomputable def CG{R:Type}(d:By)(a c:Int)(b:By->Int->Int->Option R):Option R:=b d c a
abbrev Zf(b:Code):Prop:=∀(k:Out->St Z->Option R) a i1 b2 n3,A9 (Y4 L) Q Y b ⟨gp [(0,pS a),(2,pI i1),(0,p8 b2),(0,pB true),(1,pI n3),(0,pI i1)] 33,[],s⟩ k=CG a i1 n3 (λa c d=>k .normal ⟨gp [(0,pS a),(6,pI c),(0,pI d),(29,pB false)] 3,[],s⟩)
theorem Az6:Zf (R:=R) L Q Y s (cd [1,0,1,0,0,1,1,0,0,1,1,1] Ms):=by intro k d b a c;unfold CG;kernel_rfl
noncomputable def Em{R:Type}(h:By)(c d:Int)(a:Bool)(g:Int)(e:Unit->Option R)(f:By->Int->Int->Bool->Option R):Option R:=cond (not a) (cond (c==0) (e ()) (cond (inR d 256) (vl (g8 ([48,49,50,51,52,53,54,55,56,57,43,45,46]:List UInt8) (u8n d)) λb=>cond (ltI b 0) (e ()) (f h g c (ltI b 0))) none)) (f h g c false)
abbrev Zg(b:Code):Prop:=∀(k:Out->St Z->Option R) a i1 b2 letter3 n4,A9 (Y4 L) Q Y b ⟨gp [(0,pS a),(2,pI i1),(0,p8 b2),(0,pB letter3),(1,pI n4),(0,pI i1)] 33,[],s⟩ k=Em a i1 b2 letter3 n4 (λ_=>k .ret ⟨gp [(2,pB false)] 39,[],s⟩) (λa d e c=>k .normal ⟨gp [(0,pS a),(6,pI d),(0,pI e),(29,pB c)] 3,[],s⟩)
theorem Az7:Zg (R:=R) L Q Y s (cd [1,0,1,0,0,1,1,0,0,1,1,1] Ms):=by intro k e c b a d;unfold Em;kernel_rfl
noncomputable def M7{R:Type}(L n:Nat)(b:By)(e a:Int)(c:Unit->Option R)(d:By->Option R):Option R:=match n with|0=>none|n+1=>cond (ltI a e) (cond (inR a b.length) (cond (not (ltI (bAt b a) (97:Int))) (cond (not (ltI 122 (bAt b a))) (CG b a e (λx r t=>M7 L n x r (A1 (t+1)) c d)) (cond (not (ltI (bAt b a) (65:Int))) (Em b a (bAt b a) (not (ltI 90 (bAt b a))) e (λ_=>c ()) (λy u v D=>M7 L n y u (A1 (v+1)) c d)) (Em b a (bAt b a) false e (λ_=>c ()) (λz w f A=>vl (A1 (f+1)) λg=>M7 L n z w g c d)))) (cond (not (ltI (bAt b a) (65:Int))) (Em b a (bAt b a) (not (ltI 90 (bAt b a))) e (λ_=>c ()) (λp h i B=>vl (A1 (i+1)) λj=>M7 L n p h j c d)) (Em b a (bAt b a) false e (λ_=>c ()) (λq l m C=>vl (A1 (m+1)) λo=>M7 L n q l o c d)))) none) (d b)
theorem Az8(a:Code)(d:Zf (R:=R) L Q Y s a)(b:Zg (R:=R) L Q Y s a)(n:Nat)(c:By)(f e:Int):C9 0 ((Y4 L).keep 2) (bd (Y4 L) Q Y (cd [1,0,1,0,0] (G2 [1,0,1,0,0,1,1,0,0,1,1,1] a Ms))) n ⟨gp [(0,pS c),(6,pI f),(0,pI e)] 33,[],s⟩ k =
 M7 L n c f e (λ_=>k .ret ⟨gp [(2,pB false)] 39,[],s⟩) (λc=>k (.exit 0) ⟨gp [(0,pS c)] 41,[],s⟩):=by
 induction n generalizing c f e with
 | zero=>rfl
 | succ n h=>rw[M7];exact let g:=(E3 1 (E2 (Y4 L) Q Y (cd [1,0,1,0,0,1,1,1] Ms) (lpK 0 ((Y4 L).keep 2) (bd (Y4 L) Q Y (cd [1,0,1,0,0] (G2 [1,0,1,0,0,1,1,0,0,1,1,1] a Ms))) n k)));(c9 (by kernel_rfl) (A0 (A0 (A0 (A0 ((d g c e (bAt c e) f).trans (congr rfl (fx3 λx r t=>(c9 (by kernel_rfl) (h x r (A1 (t+1))))))) (A0 ((b g c e (bAt c e) (not (ltI 90 (bAt c e))) f).trans (congr (congr rfl (by kernel_rfl)) (fx4 λy u v H=>(c9 (by kernel_rfl) (h y u (A1 (v+1))))))) ((b g c e (bAt c e) false f).trans (congr (congr rfl (by kernel_rfl)) (fx4 λz w D A=>(c9 (by kernel_rfl) (A2 λi=>(h z w i)))))))) (A0 ((b g c e (bAt c e) (not (ltI 90 (bAt c e))) f).trans (congr (congr rfl (by kernel_rfl)) (fx4 λp j F B=>(c9 (by kernel_rfl) (A2 λl=>(h p j l)))))) ((b g c e (bAt c e) false f).trans (congr (congr rfl (by kernel_rfl)) (fx4 λq m G C=>(c9 (by kernel_rfl) (A2 λo=>(h q m o)))))))) rfl) rfl))
noncomputable def B58{R:Type}(L:Nat)(c:By)(b:Bool->Option R):Option R:=M7 L L c (c.length:Int) 0 (λ_=>b false) (λa=>b (not (a==[])))
theorem Cn3(a:Code)(b:Zf (R:=PV × List Blk × Z) L Q Y s a)(c:Zg (R:=PV × List Blk × Z) L Q Y s a)(d:By):A9 (Y4 L) Q Y (cd [] (G2 [1,0,1,0,0,1,1,0,0,1,1,1] a Ms)) ⟨[pS d]++tps 41,[],s⟩ (F5 (Y4 L) ae2)=B58 L d (λe=>some (pB e,[],s)):=by unfold B58;exact(c9 (by kernel_rfl) ((Az8 L Q Y s (E3 0 (E2 (Y4 L) Q Y (cd [1,1] Ms) (F5 (Y4 L) ae2))) a b c L d (d.length:Int) 0).trans (by kernel_rfl)))
theorem Cn4(d:Nat)(s0):evC (Y4 L) (d+1) Z Y 55 [pS s0] [] s=B58 L s0 (λa=>some (pB a,[],s)):=
 (evE (fn:=ae2) (by kernel_rfl)).trans (c9 (by kernel_rfl) (Cn3 L (evC (Y4 L) d) Y s (cd [1,0,1,0,0,1,1,0,0,1,1,1] Ms) (Az6 L (evC (Y4 L) d) Y s) (Az7 L (evC (Y4 L) d) Y s) s0))
noncomputable abbrev Bt0:Code:=C8 af7
noncomputable def Rf(L:Nat):Cfg:=B7 L [82] (A4 [(3,[0,1,0,0,2,0])]) [] (A4 [(9,[2,0]),(8,[0,3,2,0]),(7,[0,3,2,0]),(6,[2,0]),(5,[0,3,0,1,0,11]),(4,[0,3,0,1,0]),(3,[0,3,2,0,0]),(2,[0,3,2,0]),(1,[0,3]),(0,[0])]) [] (A4 [(0,[4]),(1,[0,3,2,0])]) (some [2,0]) [] [] []
noncomputable def Lh{R:Type}(L n:Nat)(b:By)(h j a:Int)(d:Unit->Option R)(i:Int->Option R):Option R:=match n with|0=>none|n+1=>cond (ltI a j) (cond (inR a b.length) (cond (ltI (bAt b a) (48:Int)) (d ()) (cond (inR a b.length) (cond (ltI 57 (bAt b a)) (d ()) (vl (A1 ((10:Int)*(if ((0:Int) > h) then (0:Int) else h))) λe=>cond (inR a b.length) (vl (wu8 ((bAt b a)-48)) λf=>vl (A1 (e+(A1 f))) λc=>vl (if ((65536:Int)<c) then (65536:Int) else c) λg=>Lh L n b g j (A1 (a+1)) d i) none)) none)) none) (i h)
theorem Az1(n s0 n1 n2 n3):C9 0 ((Rf L).keep 3) (bd (Rf L) Q Y (cd [1,1,0,1,0,0] Bt0)) n ⟨gp [(0,pS s0),(3,pI n1),(2,pI n2),(0,pI n3)] 26,[],s⟩ k =
 Lh L n s0 n1 n2 n3 (λ_=>k .ret ⟨gp [(2,pI (0:Int)),(0,pB false)] 31,[],s⟩) (λn0=>k (.exit 0) ⟨gp [(4,pI n0)] 30,[],s⟩):=by
 induction n generalizing s0 n1 n2 n3 with
 | zero=>rfl
 | succ n a=>rw[Lh];simp only[<-a];kernel_rfl
noncomputable def Cm8{R:Type}(L:Nat)(c:By)(b:Int->Bool->Option R):Option R:=Lh L L c (-1) (c.length:Int) 0 (λ_=>b 0 false) (λa=>b a (ltI a 65536))
theorem Cm9(d:Nat)(s0):evC (Rf L) (d+1) Z Y 82 [pS s0] [] s=Cm8 L s0 (λa b=>some (.tup [pI a,pB b],[],s)):=by refine(evE (fn:=af7) (by kernel_rfl)).trans ?_;generalize evC (Rf L) d=Q;unfold Cm8;exact(c9 (by kernel_rfl) ((Az1 L Q Y s (E3 0 (E2 (Rf L) Q Y (cd [1,1,1] Bt0) (F5 (Rf L) af7))) L s0 (-1) (s0.length:Int) 0).trans (by kernel_rfl)))
noncomputable abbrev Ax:Code:=C8 ae4
noncomputable def V7(L:Nat):Cfg:=B7 L [60] (A4 []) [(80,BI),(59,CO),(73,Sp),(81,TW),(83,Br3),(82,Br6),(44,Sr)] (A4 [(24,[4,0]),(23,[2,1]),(22,[2,1,8,71]),(21,[2,1,8]),(20,[4,0]),(19,[2,1,6,1,63]),(18,[2,1,6,1,0]),(17,[4,0]),(16,[2,1,3,2,0,54]),(15,[2,1,3,2,0]),(14,[4,0]),(13,[2,1,2,0,50]),(9,[2,1,2,0]),(8,[4,0]),(7,[1,0,1,4,23]),(6,[1,0,1,4]),(12,[2,1,2,0]),(11,[1,0,1,2,0,1,35]),(10,[1,0,1,2,0,1]),(5,[1,0,1,2,0,20]),(4,[1,0,1,2,0]),(3,[1,0,1]),(2,[1,0,1,1,11]),(1,[1,0,1,1]),(0,[1,0,1])]) [80,59,73,83,82,44] (A4 []) (some [4,0]) [] [] []
noncomputable def U4{R:Type}(d e g h:By)(q:Int)(u:By)(r n8 t i j l m n o f:Int)(c:By)(p:Int->Blk->By->By->Int->By->Int->Int->Int->Int->Int->Int->Int->Int->Int->Int->By->(List Blk)->Option R):Option R:=cond (A3 d.length) (vl (C5 d) λa=>cond ((↑(a).2:Int)!=0) (p (↑(a).2:Int) (bU g h q u r n8 t i j l m n o f c) ([]:List UInt8) ([]:List UInt8) 0 ([]:List UInt8) 0 0 0 0 0 0 0 0 0 0 ([]:List UInt8) [(bH (↑(B2.kind (a).1):Int) (B2.name (a).1) (↑(B2.v4 (a).1):Int) (↑(b9 (B2.v6 (a).1) 0 0):Int) (↑(b9 (B2.v6 (a).1) 1 0):Int) (↑(b9 (B2.v6 (a).1) 2 0):Int) (↑(b9 (B2.v6 (a).1) 3 0):Int) (↑(b9 (B2.v6 (a).1) 4 0):Int) (↑(b9 (B2.v6 (a).1) 5 0):Int) (↑(b9 (B2.v6 (a).1) 6 0):Int) (↑(b9 (B2.v6 (a).1) 7 0):Int))]) (cond (A3 e.length) (vl (Fl e ([58]:List UInt8)) λb=>cond (A3 b.length) (cond (not (af2 (Ia ((-1):Int) b))) (p 16 (bU g h q u r n8 t i j l m n o f c) ([]:List UInt8) ([]:List UInt8) 0 ([]:List UInt8) 0 0 0 0 0 0 0 0 0 0 ([]:List UInt8) [(bH (↑(B2.kind (a).1):Int) (B2.name (a).1) (↑(B2.v4 (a).1):Int) (↑(b9 (B2.v6 (a).1) 0 0):Int) (↑(b9 (B2.v6 (a).1) 1 0):Int) (↑(b9 (B2.v6 (a).1) 2 0):Int) (↑(b9 (B2.v6 (a).1) 3 0):Int) (↑(b9 (B2.v6 (a).1) 4 0):Int) (↑(b9 (B2.v6 (a).1) 5 0):Int) (↑(b9 (B2.v6 (a).1) 6 0):Int) (↑(b9 (B2.v6 (a).1) 7 0):Int))]) (cond ((BE b)!=(Q0 g)) (p 0 (bU g h (↑(B2.kind (a).1):Int) (B2.name (a).1) (↑(B2.v4 (a).1):Int) (↑(b9 (B2.v6 (a).1) 0 0):Int) (↑(b9 (B2.v6 (a).1) 1 0):Int) (↑(b9 (B2.v6 (a).1) 2 0):Int) (↑(b9 (B2.v6 (a).1) 3 0):Int) (↑(b9 (B2.v6 (a).1) 4 0):Int) (↑(b9 (B2.v6 (a).1) 5 0):Int) (↑(b9 (B2.v6 (a).1) 6 0):Int) (↑(b9 (B2.v6 (a).1) 7 0):Int) (BE b) c) g h (↑(B2.kind (a).1):Int) (B2.name (a).1) (↑(B2.v4 (a).1):Int) (↑(b9 (B2.v6 (a).1) 0 0):Int) (↑(b9 (B2.v6 (a).1) 1 0):Int) (↑(b9 (B2.v6 (a).1) 2 0):Int) (↑(b9 (B2.v6 (a).1) 3 0):Int) (↑(b9 (B2.v6 (a).1) 4 0):Int) (↑(b9 (B2.v6 (a).1) 5 0):Int) (↑(b9 (B2.v6 (a).1) 6 0):Int) (↑(b9 (B2.v6 (a).1) 7 0):Int) (BE b) c [(bH (↑(B2.kind (a).1):Int) (B2.name (a).1) (↑(B2.v4 (a).1):Int) (↑(b9 (B2.v6 (a).1) 0 0):Int) (↑(b9 (B2.v6 (a).1) 1 0):Int) (↑(b9 (B2.v6 (a).1) 2 0):Int) (↑(b9 (B2.v6 (a).1) 3 0):Int) (↑(b9 (B2.v6 (a).1) 4 0):Int) (↑(b9 (B2.v6 (a).1) 5 0):Int) (↑(b9 (B2.v6 (a).1) 6 0):Int) (↑(b9 (B2.v6 (a).1) 7 0):Int))]) (p 0 (bU g h (↑(B2.kind (a).1):Int) (B2.name (a).1) (↑(B2.v4 (a).1):Int) (↑(b9 (B2.v6 (a).1) 0 0):Int) (↑(b9 (B2.v6 (a).1) 1 0):Int) (↑(b9 (B2.v6 (a).1) 2 0):Int) (↑(b9 (B2.v6 (a).1) 3 0):Int) (↑(b9 (B2.v6 (a).1) 4 0):Int) (↑(b9 (B2.v6 (a).1) 5 0):Int) (↑(b9 (B2.v6 (a).1) 6 0):Int) (↑(b9 (B2.v6 (a).1) 7 0):Int) f c) g h (↑(B2.kind (a).1):Int) (B2.name (a).1) (↑(B2.v4 (a).1):Int) (↑(b9 (B2.v6 (a).1) 0 0):Int) (↑(b9 (B2.v6 (a).1) 1 0):Int) (↑(b9 (B2.v6 (a).1) 2 0):Int) (↑(b9 (B2.v6 (a).1) 3 0):Int) (↑(b9 (B2.v6 (a).1) 4 0):Int) (↑(b9 (B2.v6 (a).1) 5 0):Int) (↑(b9 (B2.v6 (a).1) 6 0):Int) (↑(b9 (B2.v6 (a).1) 7 0):Int) f c [(bH (↑(B2.kind (a).1):Int) (B2.name (a).1) (↑(B2.v4 (a).1):Int) (↑(b9 (B2.v6 (a).1) 0 0):Int) (↑(b9 (B2.v6 (a).1) 1 0):Int) (↑(b9 (B2.v6 (a).1) 2 0):Int) (↑(b9 (B2.v6 (a).1) 3 0):Int) (↑(b9 (B2.v6 (a).1) 4 0):Int) (↑(b9 (B2.v6 (a).1) 5 0):Int) (↑(b9 (B2.v6 (a).1) 6 0):Int) (↑(b9 (B2.v6 (a).1) 7 0):Int))]))) none) none)) none
abbrev Nu(b:Code):Prop:=∀(k:Out->St Z->Option R) name0 tail1 b2 j s4 n5 s6 h n8 i a c d e f g n16 s17,A9 (V7 L) Q Y b ⟨gp [(2,.ptr 0 0 0),(1,.ptr 1 0 0),(2,pS name0),(0,pS tail1),(50,pB b2)] 29,[(bU j s4 n5 s6 h n8 i a c d e f g n16 s17),bU0],s⟩ k=U4 name0 tail1 j s4 n5 s6 h n8 i a c d e f g n16 s17 (λn0 n q j o r p h n8 i a c d e f g m l=>k .ret ⟨gp [(4,.ptr 1 0 0),(0,pI n0)] 83,(n::(bU q j o r p h n8 i a c d e f g m)::l),s⟩)
theorem Vz:Nu (R:=R) L Q Y s (cd [1,1,1,1,1] Ax):=by intro k a b l p q m r n n8 o c d e f g h i j;unfold U4;kernel_rfl
noncomputable def P3{R:Type}(b a s2 s3:By)(n4:Int)(s5:By)(n6 n7 n8 n9 c d e f g h:Int)(i:By)(k0:Int->Blk->By->By->Int->By->Int->Int->Int->Int->Int->Int->Int->Int->Int->Int->By->(List Blk)->Option R):Option R:=cond (not (a==[])) (cond (inR 0 a.length) (cond ((bAt a (0:Int))!=58) (k0 4 (bU s2 s3 n4 s5 n6 n7 n8 n9 c d e f g h i) ([]:List UInt8) ([]:List UInt8) 0 ([]:List UInt8) 0 0 0 0 0 0 0 0 0 0 ([]:List UInt8) []) (U4 b a s2 s3 n4 s5 n6 n7 n8 n9 c d e f g h i (λo j P S p T q r t u v w x y z A U m=>k0 o j P S p T q r t u v w x y z A U m))) none) (U4 b a s2 s3 n4 s5 n6 n7 n8 n9 c d e f g h i (λB l V W C X D F G H I J K M N O a0 n=>k0 B l V W C X D F G H I J K M N O a0 n))
abbrev Nv(b:Code):Prop:=∀(k:Out->St Z->Option R) name0 tail1 n o i p j l n8 m a c d e f g h,A9 (V7 L) Q Y b ⟨gp [(2,.ptr 0 0 0),(1,.ptr 1 0 0),(2,pS name0),(0,pS tail1)] 80,[(bU n o i p j l n8 m a c d e f g h),bU0],s⟩ k=P3 name0 tail1 n o i p j l n8 m a c d e f g h (λn0 r n o i p j l n8 m a c d e f g h q=>k .ret ⟨gp [(4,.ptr 1 0 0),(0,pI n0)] 83,(r::(bU n o i p j l n8 m a c d e f g h)::q),s⟩)
theorem TF(b:Code)(a:Nu (R:=R) L Q Y s b):Nv (R:=R) L Q Y s (cd [1,1,1,1] (G2 [1,1,1,1,1] b Ax)):=by intro k d c q r m t n o n8 p e f g h i j l;unfold P3;exact(c9 (by kernel_rfl) (A0 (A0 (A0 rfl ((a k d c ((bAt c (0:Int))!=58) q r m t n o n8 p e f g h i j l).trans (by kernel_rfl))) rfl) ((a k d c false q r m t n o n8 p e f g h i j l).trans (by kernel_rfl))))
theorem TG:Nv (R:=R) L Q Y s (cd [1,1,1,1] Ax):=by intro k a b o p j q l m n8 n c d e f g h i;exact c9 (by kernel_rfl) (TF L Q Y s (cd [1,1,1,1,1] Ax) (Vz L Q Y s) k a b o p j q l m n8 n c d e f g h i)
noncomputable def Pk{R:Type}(a I J:By)(F:Int)(K:By)(G n8 H v w x y z A B:Int)(C:By)(D:Int->Blk->By->By->Int->By->Int->Int->Int->Int->Int->Int->Int->Int->Int->Int->By->(List Blk)->Option R):Option R:=U4 a ([]:List UInt8) I J F K G n8 H v w x y z A B C (λd b q r e t f g h i j l m n o p u c=>D d b q r e t f g h i j l m n o p u c)
abbrev Nw(b:Code):Prop:=∀(k:Out->St Z->Option R) authority0 kk1 b2 j s4 n5 s6 h n8 i a c d e f g n16 s17,A9 (V7 L) Q Y b ⟨gp [(1,pS authority0),(0,.ptr 0 0 0),(1,.ptr 1 0 0),(2,pS authority0),(0,pS ([]:List UInt8)),(1,pI kk1),(35,pB b2)] 42,[(bU j s4 n5 s6 h n8 i a c d e f g n16 s17),bU0],s⟩ k=Pk authority0 j s4 n5 s6 h n8 i a c d e f g n16 s17 (λn0 n q j o r p h n8 i a c d e f g m l=>k .ret ⟨gp [(4,.ptr 1 0 0),(0,pI n0)] 83,(n::(bU q j o r p h n8 i a c d e f g m)::l),s⟩)
theorem TH(c:Code)(a:Nu (R:=R) L Q Y s c):Nw (R:=R) L Q Y s (cd [1,1,1,1] (G2 [1,1,1,1,1] c Ax)):=by intro k b m u q r n t o n8 p d e f g h i j l;unfold Pk;exact(c9 (by kernel_rfl) ((a k b ([]:List UInt8) false q r n t o n8 p d e f g h i j l).trans (by kernel_rfl)))
theorem TJ:Nw (R:=R) L Q Y s (cd [1,1,1,1] Ax):=by intro k a b l p q m r n n8 o c d e f g h i j;exact c9 (by kernel_rfl) (TH L Q Y s (cd [1,1,1,1,1] Ax) (Vz L Q Y s) k a b l p q m r n n8 o c d e f g h i j)
noncomputable def Si{R:Type}(L:Nat)(u0 u1:By)(u2:Int)(u3:By)(u4 u5 u6 u7 u8 u9 e f g h:Int)(i a:By)(k0:By->By->Int->By->Int->Int->Int->Int->Int->Int->Int->Int->Int->Int->By->Int->(List Blk)->Option R):Option R:=cond (A3 a.length) (vl (K6 (u8n (64:Int)) a) λc5=>cond (not (ltI c5 0)) (cond (I5 0 c5 a.length) (vl (cut a 0 c5) λf2=>cond (I5 (A1 (c5+1)) (a.length:Int) a.length) (vl (cut a (A1 (c5+1)) (a.length:Int)) λb=>cond (A3 b.length) (cond (k9 ([91]:List UInt8) b) (cond (A3 b.length) (vl (g8 b (u8n (93:Int))) λJ=>cond (ltI J 0) (k0 ([]:List UInt8) ([]:List UInt8) 0 ([]:List UInt8) 0 0 0 0 0 0 0 0 0 0 ([]:List UInt8) 4 [(bU u0 f2 u2 u3 u4 u5 u6 u7 u8 u9 e f g h i),bU0]) (vl (A1 (J+1)) λf3=>cond (I5 0 f3 b.length) (vl (A1 (J+1)) λf4=>cond (I5 f4 (b.length:Int) b.length) (vl (cut b f4 (b.length:Int)) λl1=>P3 (cut b 0 f3) l1 u0 f2 u2 u3 u4 u5 u6 u7 u8 u9 e f g h i (λl0 k8 h6 h7 g1 h8 g2 g3 g4 g5 h0 h1 h2 h3 h4 h5 h9 i5=>k0 h6 h7 g1 h8 g2 g3 g4 g5 h0 h1 h2 h3 h4 h5 h9 l0 (k8::((bU h6 h7 g1 h8 g2 g3 g4 g5 h0 h1 h2 h3 h4 h5 h9)::i5)))) none) none)) none) (cond (A3 b.length) (vl (g8 b (u8n (58:Int))) λc=>cond (not (ltI c 0)) (cond (I5 0 c b.length) (cond (I5 c (b.length:Int) b.length) (vl (cut b c (b.length:Int)) λl2=>P3 (cut b 0 c) l2 u0 f2 u2 u3 u4 u5 u6 u7 u8 u9 e f g h i (λk3 i0 c6 c7 j c8 l m n o p q r t u v d0 i7=>k0 c6 c7 j c8 l m n o p q r t u v d0 k3 (i0::((bU c6 c7 j c8 l m n o p q r t u v d0)::i7)))) none) none) (Pk b u0 f2 u2 u3 u4 u5 u6 u7 u8 u9 e f g h i (λk4 i1 d1 d2 w d3 x y z A B C D F G H d4 i9=>k0 d1 d2 w d3 x y z A B C D F G H d4 k4 (i1::((bU d1 d2 w d3 x y z A B C D F G H d4)::i9))))) none)) none) none) none) (cond (A3 a.length) (cond (k9 ([91]:List UInt8) a) (cond (A3 a.length) (vl (g8 a (u8n (93:Int))) λc4=>cond (ltI c4 0) (k0 ([]:List UInt8) ([]:List UInt8) 0 ([]:List UInt8) 0 0 0 0 0 0 0 0 0 0 ([]:List UInt8) 4 [(bU u0 u1 u2 u3 u4 u5 u6 u7 u8 u9 e f g h i),bU0]) (vl (A1 (c4+1)) λf5=>cond (I5 0 f5 a.length) (vl (cut a 0 f5) λl3=>vl (A1 (c4+1)) λg0=>cond (I5 g0 (a.length:Int) a.length) (vl (cut a g0 (a.length:Int)) λl4=>P3 l3 l4 u0 u1 u2 u3 u4 u5 u6 u7 u8 u9 e f g h i (λk5 i2 d5 d6 I e1 K M N O P S T U V W e2 j3=>k0 d5 d6 I e1 K M N O P S T U V W e2 k5 (i2::((bU d5 d6 I e1 K M N O P S T U V W e2)::j3)))) none) none)) none) (cond (A3 a.length) (vl (g8 a (u8n (58:Int))) λd=>cond (not (ltI d 0)) (cond (I5 0 d a.length) (vl (cut a 0 d) λl5=>cond (I5 d (a.length:Int) a.length) (vl (cut a d (a.length:Int)) λl6=>P3 l5 l6 u0 u1 u2 u3 u4 u5 u6 u7 u8 u9 e f g h i (λk6 i3 e3 e4 X e5 a0 a1 a2 a3 a4 a5 a6 a7 a9 b0 e6 k1=>k0 e3 e4 X e5 a0 a1 a2 a3 a4 a5 a6 a7 a9 b0 e6 k6 (i3::((bU e3 e4 X e5 a0 a1 a2 a3 a4 a5 a6 a7 a9 b0 e6)::k1)))) none) none) (Pk a u0 u1 u2 u3 u4 u5 u6 u7 u8 u9 e f g h i (λk7 i4 e7 e8 b1 e9 b2 b3 b4 b5 b6 b7 c0 c1 c2 c3 f1 k2=>k0 e7 e8 b1 e9 b2 b3 b4 b5 b6 b7 c0 c1 c2 c3 f1 k7 (i4::((bU e7 e8 b1 e9 b2 b3 b4 b5 b6 b7 c0 c1 c2 c3 f1)::k2))))) none)) none)) none
theorem Bm6(d:Code)(a:Nv (R:=PV × List Blk × Z) L Q Y s d)(c:Nw (R:=PV × List Blk × Z) L Q Y s d)(m G:By)(n:Int)(o:By)(p q r t u8 u e f g h:Int)(i b:By):A9 (V7 L) Q Y (cd [] (G2 [1,1,1,1] d Ax)) ⟨[(gU m G n o p q r t u8 u e f g h i),pS b]++tps 87,[],s⟩ (F5 (V7 L) ae4)=Si L m G n o p q r t u8 u e f g h i b (λX r1 r2 r3 r4 r5 r6 r7 r8 r9 I J K M N O H=>some (.tup [(gU X r1 r2 r3 r4 r5 r6 r7 r8 r9 I J K M N),pI O],H,s)):=by unfold Si;exact let x:=(F5 (V7 L) ae4);(c9 (by kernel_rfl) (A0 (A2 λW=>(A0 (A0 (A2 λv=>(A0 (A2 λw=>(A0 (A0 (A0 (A2 λP=>(A0 rfl (A2 λy=>(A0 (A2 λS=>(A0 (A2 λz=>((a x (cut w 0 y) z m v n o p q r t u8 u e f g h i).trans (by kernel_rfl))) rfl)) rfl)))) rfl) (A0 (A2 λj=>(A0 (A0 (A0 (A2 λA=>((a x (cut w 0 j) A m v n o p q r t u8 u e f g h i).trans (by kernel_rfl))) rfl) rfl) ((c x w j (not (ltI j 0)) m v n o p q r t u8 u e f g h i).trans (by kernel_rfl)))) rfl)) rfl)) rfl)) rfl) (A0 (A0 (A0 (A2 λT=>(A0 rfl (A2 λU=>(A0 (A2 λB=>(A2 λV=>(A0 (A2 λC=>((a x B C m G n o p q r t u8 u e f g h i).trans (by kernel_rfl))) rfl))) rfl)))) rfl) (A0 (A2 λl=>(A0 (A0 (A2 λD=>(A0 (A2 λF=>((a x D F m G n o p q r t u8 u e f g h i).trans (by kernel_rfl))) rfl)) rfl) ((c x b l (not (ltI l 0)) m G n o p q r t u8 u e f g h i).trans (by kernel_rfl)))) rfl)) rfl))) rfl))
theorem Bm7(d:Nat)(u0 u1 u2 u3 u4 u5 u6 u7 u8 u9 u10 u11 u12 u13 u14 authority15):evC (V7 L) (d+1) Z Y 60 [(gU u0 u1 u2 u3 u4 u5 u6 u7 u8 u9 u10 u11 u12 u13 u14),pS authority15] [] s=Si L u0 u1 u2 u3 u4 u5 u6 u7 u8 u9 u10 u11 u12 u13 u14 authority15 (λi j l m n o p q r8 r b c e f g h a=>some (.tup [(gU i j l m n o p q r8 r b c e f g),pI h],a,s)):=
 (evE (fn:=ae4) (by kernel_rfl)).trans (c9 (by kernel_rfl) (Bm6 L (evC (V7 L) d) Y s (cd [1,1,1,1] Ax) (TG L (evC (V7 L) d) Y s) (TJ L (evC (V7 L) d) Y s) u0 u1 u2 u3 u4 u5 u6 u7 u8 u9 u10 u11 u12 u13 u14 authority15))
noncomputable abbrev Bt1:Code:=C8 af5
noncomputable def Rg(L:Nat):Cfg:=B7 L [40] (A4 [(2,[0,1,0,8,0])]) [(54,Ad4),(55,Br7),(56,Ac3),(22,ON),(57,Ab8),(58,OD),(59,CO),(60,UD)] (A4 [(23,[2,0]),(22,[2,5,0]),(21,[2,5,0,65]),(20,[2,5,0]),(19,[2,3,1,0]),(18,[2,3,1,0,0,52]),(17,[2,3,1,0,0]),(16,[2,3,1,0]),(15,[2,0]),(14,[2,3,1,48]),(13,[2,3,0,0]),(12,[2,0]),(11,[2,3,1,40]),(10,[2,3,1]),(9,[2,0]),(8,[2,2,0,33]),(7,[2,2,0,0]),(6,[0,1,9,0]),(5,[2,0]),(4,[0,1,9,0,11]),(3,[0,1,1,7,0]),(2,[0,1,9,0,0]),(1,[0,1,9,0]),(0,[0,1])]) [54,55,56,22,57,58,59] (A4 [(0,[0,1]),(1,[0,1,9,0])]) (some [2,0]) [] [] []
noncomputable def Hp{R:Type}(L n:Nat)(b:By)(e a:Int)(c:(List Blk)->Option R)(d:By->Option R):Option R:=match n with|0=>none|n+1=>cond (ltI a e) (cond (inR a b.length) (cond (not (ltI 32 (bAt b a))) (c []) (cond (inR a b.length) (cond ((bAt b a)==127) (c []) (Hp L n b e (A1 (a+1)) c d)) none)) none) (d b)
theorem Az5(n a n1 n2):C9 1 ((Rg L).keep 2) (bd (Rg L) Q Y (cd [1,0,1,0,0] Bt1)) n ⟨gp [(0,pS a),(1,.ptr 0 0 0),(9,pI n1),(0,pI n2)] 71,[bU0],s⟩ k =
 Hp L n a n1 n2 (λb=>k .ret ⟨gp [(2,.ptr 0 0 0),(0,pI (4:Int))] 81,(bU0::b),s⟩) (λa=>k (.exit 0) ⟨gp [(0,pS a),(1,.ptr 0 0 0)] 82,[bU0],s⟩):=by
 induction n generalizing a n1 n2 with
 | zero=>rfl
 | succ n c=>rw[Hp];simp only[<-c];kernel_rfl
noncomputable def JB{R:Type}(L:Nat)(q:By)(n:By->By->Int->By->Int->Int->Int->Int->Int->Int->Int->Int->Int->Int->By->Int->(List Blk)->Option R):Option R:=Hp L L q (q.length:Int) 0 (λp=>n ([]:List UInt8) ([]:List UInt8) 0 ([]:List UInt8) 0 0 0 0 0 0 0 0 0 0 ([]:List UInt8) 4 (bU0::p)) (λo=>cond (A3 o.length) (vl ((y6 o ([58]:List UInt8))).1 λf=>vl (((y6 o ([58]:List UInt8))).2).1 λj=>cond (not (((y6 o ([58]:List UInt8))).2).2) (n ([]:List UInt8) ([]:List UInt8) 0 ([]:List UInt8) 0 0 0 0 0 0 0 0 0 0 ([]:List UInt8) 15 [bU0]) (cond (A3 f.length) (cond (not (V2 f)) (n ([]:List UInt8) ([]:List UInt8) 0 ([]:List UInt8) 0 0 0 0 0 0 0 0 0 0 ([]:List UInt8) 15 [bU0]) (cond (A3 f.length) (cond (not (L3 (B5 f))) (n (B5 f) ([]:List UInt8) 0 ([]:List UInt8) 0 0 0 0 0 0 0 0 0 (-1) j 0 [(bU (B5 f) ([]:List UInt8) (0:Int) ([]:List UInt8) (0:Int) (0:Int) (0:Int) (0:Int) (0:Int) (0:Int) (0:Int) (0:Int) (0:Int) ((-1):Int) j),(bU (B5 f) ([]:List UInt8) (0:Int) ([]:List UInt8) (0:Int) (0:Int) (0:Int) (0:Int) (0:Int) (0:Int) (0:Int) (0:Int) (0:Int) ((-1):Int) j)]) (cond (A3 j.length) (vl (Fl j ([47,47]:List UInt8)) λe=>cond (not (k9 ([47,47]:List UInt8) j)) (n ([]:List UInt8) ([]:List UInt8) 0 ([]:List UInt8) 0 0 0 0 0 0 0 0 0 0 ([]:List UInt8) 4 [bU0,(bU (B5 f) ([]:List UInt8) (0:Int) ([]:List UInt8) (0:Int) (0:Int) (0:Int) (0:Int) (0:Int) (0:Int) (0:Int) (0:Int) (0:Int) ((-1):Int) j)]) (cond (A3 e.length) (cond (Yi ([47,63,35]:List UInt8)) (vl (s8 e ([47,63,35]:List UInt8)) λi=>cond (not (ltI i 0)) (cond (I5 0 i e.length) (cond (I5 (↑(b8 (cut e 0 i)):Int) (e.length:Int) e.length) (vl (cut e (↑(b8 (cut e 0 i)):Int) (e.length:Int)) λg=>cond (A3 g.length) (cond (not (k9 ([47]:List UInt8) g)) (cond (K8 1 g.length) (vl (([47]:List UInt8)++g) λl=>cond (A3 (b8 (B5 f))) (cond (A3 l.length) (cond (A3 (b8 (cut e 0 i))) (cond (((-1):Int)==((-1):Int)) (vl (G6 (B5 f) l (cut e 0 i)) λa=>n (uS a) (uU a) (uK a) (uN a) (uV a) (uA a 0) (uA a 1) (uA a 2) (uA a 3) (uA a 4) (uA a 5) (uA a 6) (uA a 7) (uP a) (uR a) (uE a) [(bQ a),(bU (B5 f) ([]:List UInt8) (0:Int) ([]:List UInt8) (0:Int) (0:Int) (0:Int) (0:Int) (0:Int) (0:Int) (0:Int) (0:Int) (0:Int) ((-1):Int) l)]) none) none) none) none) none) (cond (A3 (b8 (B5 f))) (cond (A3 g.length) (cond (A3 (b8 (cut e 0 i))) (cond (((-1):Int)==((-1):Int)) (vl (G6 (B5 f) g (cut e 0 i)) λb=>n (uS b) (uU b) (uK b) (uN b) (uV b) (uA b 0) (uA b 1) (uA b 2) (uA b 3) (uA b 4) (uA b 5) (uA b 6) (uA b 7) (uP b) (uR b) (uE b) [(bQ b),(bU (B5 f) ([]:List UInt8) (0:Int) ([]:List UInt8) (0:Int) (0:Int) (0:Int) (0:Int) (0:Int) (0:Int) (0:Int) (0:Int) (0:Int) ((-1):Int) g)]) none) none) none) none)) none) none) none) (cond (I5 (e.length:Int) (e.length:Int) e.length) (vl (cut e (e.length:Int) (e.length:Int)) λh=>cond (A3 h.length) (cond (not (k9 ([47]:List UInt8) h)) (cond (K8 1 h.length) (vl (([47]:List UInt8)++h) λm=>cond (A3 (b8 (B5 f))) (cond (A3 m.length) (cond (A3 e.length) (cond (((-1):Int)==((-1):Int)) (vl (G6 (B5 f) m e) λc=>n (uS c) (uU c) (uK c) (uN c) (uV c) (uA c 0) (uA c 1) (uA c 2) (uA c 3) (uA c 4) (uA c 5) (uA c 6) (uA c 7) (uP c) (uR c) (uE c) [(bQ c),(bU (B5 f) ([]:List UInt8) (0:Int) ([]:List UInt8) (0:Int) (0:Int) (0:Int) (0:Int) (0:Int) (0:Int) (0:Int) (0:Int) (0:Int) ((-1):Int) m)]) none) none) none) none) none) (cond (A3 (b8 (B5 f))) (cond (A3 h.length) (cond (A3 e.length) (cond (((-1):Int)==((-1):Int)) (vl (G6 (B5 f) h e) λd=>n (uS d) (uU d) (uK d) (uN d) (uV d) (uA d 0) (uA d 1) (uA d 2) (uA d 3) (uA d 4) (uA d 5) (uA d 6) (uA d 7) (uP d) (uR d) (uE d) [(bQ d),(bU (B5 f) ([]:List UInt8) (0:Int) ([]:List UInt8) (0:Int) (0:Int) (0:Int) (0:Int) (0:Int) (0:Int) (0:Int) (0:Int) (0:Int) ((-1):Int) h)]) none) none) none) none)) none) none)) none) none)) none)) none)) none)) none)
theorem Cn1(d:Nat)(s0):evC (Rg L) (d+1) Z Y 40 [pS s0] [] s=JB L s0 (λi j l m n o p q r8 r b c e f g h a=>some (.tup [(gU i j l m n o p q r8 r b c e f g),pI h],a,s)):=by refine(evE (fn:=af5) (by kernel_rfl)).trans ?_;generalize evC (Rg L) d=Q;unfold JB;exact(c9 (by kernel_rfl) ((Az5 L Q Y s (E3 0 (E2 (Rg L) Q Y (cd [1,1] Bt1) (F5 (Rg L) af5))) L s0 (s0.length:Int) 0).trans (by kernel_rfl)))
noncomputable def ER(L:Nat):Cfg:=B7 L [13] (A4 []) [(40,Ad7)] (A4 [(3,[2,0]),(2,[2,0]),(1,[0,1,3]),(0,[0,1])]) [] (A4 []) (some [2,0]) [] [] []
noncomputable def TE{R:Type}(L:Nat)(b:By)(c:By->By->Int->By->Int->Int->Int->Int->Int->Int->Int->Int->Int->Int->By->Int->(List Blk)->Option R):Option R:=cond (ltI 2048 (b.length:Int)) (c ([]:List UInt8) ([]:List UInt8) 0 ([]:List UInt8) 0 0 0 0 0 0 0 0 0 0 ([]:List UInt8) 3 [bU0]) (cond (A3 b.length) (vl (C3 b) λa=>c (uS a) (uU a) (uK a) (uN a) (uV a) (uA a 0) (uA a 1) (uA a 2) (uA a 3) (uA a 4) (uA a 5) (uA a 6) (uA a 7) (uP a) (uR a) (uE a) [(bQ a)]) none)
theorem Bm4(d:Nat)(s0):evC (ER L) (d+1) Z Y 13 [pS s0] [] s=TE L s0 (λi j l m n o p q r8 r b c e f g h a=>some (.tup [(gU i j l m n o p q r8 r b c e f g),pI h],a,s)):=by refine(evE (fn:=Tryz.f13) (by kernel_rfl)).trans ?_;generalize evC (ER L) d=Q;unfold TE;kernel_rfl
noncomputable def PW(L:Nat):Cfg:=B7 L [42] (A4 []) [(22,ON),(50,Bp9),(51,A19)] (A4 [(9,[2]),(8,[1,1]),(7,[1,1,28]),(6,[1,1]),(5,[1,1]),(4,[1,1,15]),(3,[1,1]),(2,[2]),(1,[1,5]),(0,[1])]) [22,50,51] (A4 []) (some [2]) [] [] []
noncomputable def Qb{R:Type}(L:Nat)(l t:By)(u:Int)(m:By)(n o p q u8 r e f g b:Int)(a:By)(v:By->(List Blk)->Option R):Option R:=cond (not (L3 l)) (cond (K8 l.length 1) (vl (l++[58]) λw=>cond (K8 w.length a.length) (v (w++a) [(bU l t u m n o p q u8 r e f g b a)]) none) none) (cond (K8 l.length 3) (vl (l++[58,47,47]) λc=>cond (not (t==[])) (cond (K8 t.length 1) (vl (t++[64]) λh=>cond (K8 c.length h.length) (cond (A3 m.length) (cond (ltN n 4294967296) (cond (ok8 o p q u8 r e f g) (vl (Pn (mkH u m n (n8 o p q u8 r e f g))) λj=>cond (K8 (b8 (c++h)) j.length) (cond (b !=((-1):Int)) (cond (Po b) (cond (K8 1 (b8 (Lv b))) (vl (([58]:List UInt8)++(Lv b)) λz=>cond (K8 (b8 ((c++h)++j)) z.length) (vl (((c++h)++j)++z) λA=>cond (K8 A.length a.length) (v (A++a) [(bU l t u m n o p q u8 r e f g b a)]) none) none) none) none) (cond (K8 (b8 ((c++h)++j)) a.length) (vl (((c++h)++j)++a) λx=>v x [(bU l t u m n o p q u8 r e f g b a)]) none)) none) none) none) none) none) none) (cond (A3 m.length) (cond (ltN n 4294967296) (cond (ok8 o p q u8 r e f g) (vl (Pn (mkH u m n (n8 o p q u8 r e f g))) λd=>cond (K8 c.length d.length) (cond (b !=((-1):Int)) (cond (Po b) (cond (K8 1 (b8 (Lv b))) (vl (([58]:List UInt8)++(Lv b)) λi=>cond (K8 (b8 (c++d)) i.length) (cond (K8 (b8 ((c++d)++i)) a.length) (vl (((c++d)++i)++a) λy=>v y [(bU l t u m n o p q u8 r e f g b a)]) none) none) none) none) (cond (K8 (b8 (c++d)) a.length) (v ((c++d)++a) [(bU l t u m n o p q u8 r e f g b a)]) none)) none) none) none) none)) none)
theorem B60(d:Nat)(u0 u1 u2 u3 u4 u5 u6 u7 u8 u9 u10 u11 u12 u13 u14):evC (PW L) (d+1) Z Y 42 [(gU u0 u1 u2 u3 u4 u5 u6 u7 u8 u9 u10 u11 u12 u13 u14)] [] s=Qb L u0 u1 u2 u3 u4 u5 u6 u7 u8 u9 u10 u11 u12 u13 u14 (λb a=>some (pS b,a,s)):=by refine(evE (fn:=Tryz.f42) (by kernel_rfl)).trans ?_;generalize evC (PW L) d=Q;unfold Qb;kernel_rfl
noncomputable def Xp(L:Nat):Cfg:=B7 L [16] (A4 []) [(42,OO),(40,Ad7)] (A4 [(2,[2]),(1,[1,1,0]),(0,[1])]) [42] (A4 []) (some [2]) [] [] []
noncomputable def CH{R:Type}(L:Nat)(h i:By)(q:Int)(j:By)(l m n o u8 p b c d e:Int)(f:By)(r:Bool->(List Blk)->Option R):Option R:=cond (smU h i j f) (cond (ltN l 4294967296) (cond (ok8 m n o u8 p b c d) (cond (Po e) (vl (Bp (mkU h i q j l (n8 m n o u8 p b c d) e f)) λg=>cond (A3 g.length) (vl (C3 g) λa=>cond ((uE a)==0) (r ((h==(uS a))&&((i==(uU a))&&((q==(uK a))&&((j==(uN a))&&((l==(uV a))&&((m==(uA a 0))&&((n==(uA a 1))&&((o==(uA a 2))&&((u8==(uA a 3))&&((p==(uA a 4))&&((b==(uA a 5))&&((c==(uA a 6))&&((d==(uA a 7))&&((e==(uP a))&&((f==(uR a))&&true))))))))))))))) [(bU h i q j l m n o u8 p b c d e f),(bQ a)]) (r false [(bU h i q j l m n o u8 p b c d e f),(bQ a)])) none) none) none) none) none
theorem A00(d:Nat)(u0 u1 u2 u3 u4 u5 u6 u7 u8 u9 u10 u11 u12 u13 u14):evC (Xp L) (d+1) Z Y 16 [(gU u0 u1 u2 u3 u4 u5 u6 u7 u8 u9 u10 u11 u12 u13 u14)] [] s=CH L u0 u1 u2 u3 u4 u5 u6 u7 u8 u9 u10 u11 u12 u13 u14 (λb a=>some (pB b,a,s)):=by refine(evE (fn:=Tryz.f16) (by kernel_rfl)).trans ?_;generalize evC (Xp L) d=Q;unfold CH;kernel_rfl
noncomputable def Ag7(L:Nat):Cfg:=B7 L [15] (A4 []) [(16,JK),(42,OO)] (A4 [(3,[2]),(2,[2]),(1,[1,3]),(0,[1])]) [16,42] (A4 []) (some [2]) [] [] []
noncomputable def Cm3{R:Type}(L:Nat)(f g:By)(o:Int)(h:By)(i j l m u8 n a b c d:Int)(e:By)(q:By->(List Blk)->Option R):Option R:=cond (smU f g h e) (cond (ltN i 4294967296) (cond (ok8 j l m u8 n a b c) (cond (Po d) (cond (not (Zh (mkU f g o h i (n8 j l m u8 n a b c) d e))) (q ([]:List UInt8) [(bU f g o h i j l m u8 n a b c d e)]) (cond (smU f g h e) (cond (ltN i 4294967296) (cond (ok8 j l m u8 n a b c) (cond (Po d) (vl (Bp (mkU f g o h i (n8 j l m u8 n a b c) d e)) λp=>q p [(bU f g o h i j l m u8 n a b c d e)]) none) none) none) none)) none) none) none) none
theorem Cm4(d:Nat)(u0 u1 u2 u3 u4 u5 u6 u7 u8 u9 u10 u11 u12 u13 u14):evC (Ag7 L) (d+1) Z Y 15 [(gU u0 u1 u2 u3 u4 u5 u6 u7 u8 u9 u10 u11 u12 u13 u14)] [] s=Cm3 L u0 u1 u2 u3 u4 u5 u6 u7 u8 u9 u10 u11 u12 u13 u14 (λb a=>some (pS b,a,s)):=by refine(evE (fn:=Tryz.f15) (by kernel_rfl)).trans ?_;generalize evC (Ag7 L) d=Q;unfold Cm3;kernel_rfl
end
section
variable {Z R : Type} (L : Nat) (Q : F6) (Y : Yh Z) (s : Z) (k : Out -> St Z -> Option R)
noncomputable def Xn(L:Nat):Cfg:=B7 L [76] (A4 []) [] (A4 [(1,[2]),(0,[0])]) [] (A4 []) (some [2]) [] [] []
noncomputable def SQ{R:Type}(L:Nat)(a:Int)(b:Bool->Option R):Option R:=b (ltI (8:Int) a)
theorem Ay3(d:Nat)(a:Int):evC (Xn L) (d+1) Z Y 76 [.s (.int .i64 a)] [] s=SQ L a (λb=>some (.s (.bool b),[],s)):=by refine(evE (fn:=Tryz.f76) (by kernel_rfl)).trans ?_;generalize evC (Xn L) d=Q;unfold SQ;kernel_rfl
noncomputable abbrev Sx:Code:=C8 ad3
noncomputable def Ay(L:Nat):Cfg:=B7 L [101] (A4 []) [] (A4 [(5,[2]),(2,[2]),(4,[2]),(3,[10]),(1,[0,2]),(0,[0])]) [] (A4 [(0,[])]) (some [2]) [] [] []
noncomputable def Jp{R:Type}(a:Int)(d:Bool)(b:Unit->Option R)(c:Bool->Option R):Option R:=cond d (b ()) (cond (ltI (57343:Int) a) (cond (not (ltI (1114111:Int) a)) (b ()) (c (not (ltI (1114111:Int) a)))) (c false))
abbrev AY(b:Code):Prop:=∀(k:Out->St Z->Option R) (c:Int) (a:Bool),A9 (Ay L) Q Y b ⟨gp [(0,.s (.int .i32 c)),(2,.s (.bool a))] 13,[],s⟩ k=Jp c a (λ_=>k .ret ⟨gp [(2,.s (.bool true))] 14,[],s⟩) (λd=>k .normal ⟨gp [(10,.s (.bool d))] 6,[],s⟩)
theorem TK:AY (R:=R) L Q Y s (cd [1,0,0,1] Sx):=by intro k b a;unfold Jp;kernel_rfl
noncomputable def HZ{R:Type}(L:Nat)(b:Int)(a:Bool->Option R):Option R:=cond (not (ltI b (0:Int))) (Jp b (ltI b (55296:Int)) (λ_=>a true) (λc=>a false)) (Jp b false (λ_=>a true) (λd=>a false))
theorem Bn2(b:Code)(a:AY (R:=PV × List Blk × Z) L Q Y s b)(c:Int):A9 (Ay L) Q Y (cd [] (G2 [1,0,0,1] b Sx)) ⟨[.s (.int .i32 c)]++tps 16,[],s⟩ (F5 (Ay L) ad3)=HZ L c (λc=>some (.s (.bool c),[],s)):=by unfold HZ;exact let d:=(E3 0 (E2 (Ay L) Q Y (cd [1,1] Sx) (F5 (Ay L) ad3)));(c9 (by kernel_rfl) (A0 ((a d c (ltI c (55296:Int))).trans (by kernel_rfl)) ((a d c false).trans (by kernel_rfl))))
theorem Bn3(d:Nat)(a:Int):evC (Ay L) (d+1) Z Y 101 [.s (.int .i32 a)] [] s=HZ L a (λa=>some (.s (.bool a),[],s)):=
 (evE (fn:=ad3) (by kernel_rfl)).trans (c9 (by kernel_rfl) (Bn2 L (evC (Ay L) d) Y s (cd [1,0,0,1] Sx) (TK L (evC (Ay L) d) Y s) a))
noncomputable abbrev Z1:Code:=C8 ae6
noncomputable def K5(L:Nat):Cfg:=B7 L [75] (A4 [(38,[4,170]),(29,[0,3,2,0,0,4,0,0]),(25,[0,3,2,0,0,4,0]),(12,[0,3,2,0,0,2]),(5,[0,3,2,0,0])]) [(73,Sp),(101,EB)] (A4 [(35,[4]),(42,[4]),(41,[4]),(40,[5,169,5]),(39,[5,0,168]),(38,[175,0,0]),(37,[175]),(44,[4]),(33,[4]),(22,[4]),(21,[8,0,3,94]),(20,[8,0,3]),(26,[0,6,0,0,4,0]),(32,[4]),(30,[0,6,0,0,4,0,0]),(31,[0,6,0,0,4,0,0,139]),(29,[0,6,0,0,4,0,0,126]),(28,[0,6,0,0,4,0,0]),(27,[0,6,0,0,4,0,123]),(25,[0,6,0,0,4,0,108]),(24,[0,6,0,0,4,0]),(23,[0,6,0,0,4]),(19,[4]),(18,[0,6,0,0,88]),(17,[0,6,0,0,0]),(16,[0,6,0,0,0]),(15,[4]),(13,[0,6,0,0,2]),(14,[0,6,0,0,2,51]),(12,[0,6,0,0,2,38]),(11,[0,6,0,0,2]),(10,[0,6,0,0]),(9,[4]),(8,[0,6,0,0,1,31]),(7,[0,6,0,0,1]),(6,[0,6,0,0,23]),(5,[0,6,0,0,16]),(4,[0,6,0,0]),(3,[0,6,0,0]),(2,[0,6,0]),(1,[0,6]),(43,[0,0,181]),(36,[0,0,169]),(34,[0,0,158]),(0,[0,0])]) [73,101] (A4 [(0,[4]),(9,[]),(10,[175]),(5,[]),(6,[0,6,0,0,4,0]),(7,[8,0]),(8,[0,6,0,0,4,0,0]),(1,[]),(2,[0,6,0,0]),(3,[8,0]),(4,[0,6,0,0,2])]) (some [4]) [] [] []
noncomputable def Cn{R:Type}(L n:Nat)(self:Nat->Option R)(a:Nat)(c:Int->Nat->Option R)(d:Nat->Option R):Option R:=cond (decide (a<3)) (vl ((j9 ⟨j6 (([47,63,35]:List UInt8))⟩ a)).1 λb=>cond (b==(65533:Int)) (c (↑a:Int) (a+((j9 ⟨j6 (([47,63,35]:List UInt8))⟩ a)).2)) (self (a+((j9 ⟨j6 (([47,63,35]:List UInt8))⟩ a)).2))) (d a)
noncomputable def X7{R:Type}(L n:Nat)(a:Nat)(b:Int->Nat->Option R)(c:Nat->Option R):Option R:=B03 (α:=Nat->Option R) (λ_=>none) (λn self a=>Cn L n self a b c) n a
theorem Dj{R:Type}(L n:Nat)(a:Nat)(b:Int->Nat->Option R)(c:Nat->Option R):X7 L (n+1) a b c=Cn L n (λa=>X7 L n a b c) a b c:=rfl
theorem SN(n:Nat)(a:Nat):C9 1 ((K5 L).keep 38) (bd (K5 L) Q Y (cd [1,0,1,1,1,0,0,1,0,0] Z1)) n ⟨gp [(175,.it 0)] 11,[.iter (([47,63,35]:List UInt8)) a],s⟩ k =
 X7 L n a (λn0 c=>k .ret ⟨gp [(4,.s (.int .i64 n0))] 182,[.iter (([47,63,35]:List UInt8)) c],s⟩) (λa=>k (.exit 9) ⟨gp [] 187,[.iter (([47,63,35]:List UInt8)) a],s⟩):=by
 induction n generalizing a with
 | zero=>rfl
 | succ n b=>rw[Dj];unfold Cn;exact(c9 (by kernel_rfl) (A0 (A2 λd=>(A0 rfl (b (a+((j9 ⟨j6 (([47,63,35]:List UInt8))⟩ a)).2)))) rfl))
noncomputable def Sg{R:Type}(L n:Nat)(self:By->Int->Int->Int->Option R)(b:By)(a f c:Int)(g:Int->Int->Option R):Option R:=cond (ltI c (↑(b8 b):Int)) (cond (inR (A1 (f-c)) 3) (vl (bAt (([47,63,35]:List UInt8)) (A1 (f-c))) λd=>cond (inR (A1 (a-c)) (b8 b)) (vl (bAt b (A1 (a-c))) λe=>cond (d !=e) (none) (self b a f (A1 (c+(1:Int))))) (none)) (none)) (g a f)
noncomputable def Jl{R:Type}(L n:Nat)(b:By)(a c d:Int)(e:Int->Int->Option R):Option R:=B03 (α:=By->Int->Int->Int->Option R) (λ_ _ _ _=>none) (λn self b a c d=>Sg L n self b a c d e) n b a c d
theorem ZL{R:Type}(L n:Nat)(b:By)(a c d:Int)(e:Int->Int->Option R):Jl L (n+1) b a c d e=Sg L n (λb a c d=>Jl L n b a c d e) b a c d e:=rfl
theorem Vn(n:Nat)(b:By)(a d e:Int):C9 0 ((K5 L).keep 12) (bd (K5 L) Q Y (cd [1,0,1,1,1,1,1,1,0,1,1,1,1,0,0,0,1,0,0,1,0,1,0,0] Z1)) n ⟨gp [(0,.s (.str (([47,63,35]:List UInt8)))),(6,.s (.str b)),(0,.s (.int .i64 a)),(0,.s (.int .i64 d)),(2,.s (.int .i64 e))] 174,[],s⟩ k =
 Jl L n b a d e (λc h=>k (.exit 3) ⟨gp [(8,.s (.int .i64 c)),(0,.s (.int .i64 h))] 177,[],s⟩):=by
 induction n generalizing b a d e with
 | zero=>rfl
 | succ n i=>rw[ZL];unfold Sg;exact(c9 (by kernel_rfl) (A0 (A0 (A2 λf=>(A0 (A2 λg=>(A0 rfl (i b a d (A1 (e+(1:Int)))))) rfl)) rfl) rfl))
noncomputable def Le{R:Type}(L n:Nat)(self:By->Int->Option R)(b:By)(a:Int)(m:Int->Option R)(o:Unit->Option R):Option R:=cond (ltI a (3:Int)) (cond (inR a 3) (vl (bAt (([47,63,35]:List UInt8)) a) λj=>cond (inR a (b8 b)) (cond (j !=(bAt b a)) (vl (A1 (a+(1:Int))) λe=>cond (I5 e (3:Int) 3) (vl (cut (([47,63,35]:List UInt8)) e (3:Int)) λg=>cond (inR a (b8 b)) (cond (A3 (b8 g)) (cond (inR (bAt b a) 256) (vl (g8 g (u8n (bAt b a))) λf=>cond (ltI f (0:Int)) (m (-1)) (vl (A1 (f+(1:Int))) λl=>Jl L L b a (A1 (a+l)) 1 (λc h=>m (A1 (h-c))))) (none)) (none)) (none)) (none)) (Jl L L b a a 1 (λd i=>m (A1 (i-d))))) (none)) (none)) (o ())
noncomputable def Fa{R:Type}(L n:Nat)(b:By)(a:Int)(c:Int->Option R)(d:Unit->Option R):Option R:=B03 (α:=By->Int->Option R) (λ_ _=>none) (λn self b a=>Le L n self b a c d) n b a
theorem AU{R:Type}(L n:Nat)(b:By)(a:Int)(c:Int->Option R)(d:Unit->Option R):Fa L (n+1) b a c d=Le L n (λb a=>Fa L n b a c d) b a c d:=rfl
theorem SO(n:Nat)(b:By)(a:Int):C9 0 ((K5 L).keep 5) (bd (K5 L) Q Y (cd [1,0,1,1,1,1,1,1,0,1,1,1,1,0,0,0] Z1)) n ⟨gp [(0,.s (.str (([47,63,35]:List UInt8)))),(6,.s (.str b)),(0,.s (.int .i64 a)),(0,.s (.int .i64 a))] 177,[],s⟩ k =
 Fa L n b a (λn0=>k .ret ⟨gp [(4,.s (.int .i64 n0))] 182,[],s⟩) (λ_=>k (.exit 1) ⟨gp [] 187,[],s⟩):=by
 induction n generalizing b a with
 | zero=>rfl
 | succ n i=>rw[AU];unfold Le;exact let d:=(E3 3 (E2 (K5 L) Q Y (cd [1,0,1,1,1,1,1,1,0,1,1,1,1,0,0,0,1,0,0,1,1] Z1) (E3 2 (lpK 0 ((K5 L).keep 5) (bd (K5 L) Q Y (cd [1,0,1,1,1,1,1,1,0,1,1,1,1,0,0,0] Z1)) n k))));(c9 (by kernel_rfl) (A0 (A0 (A2 λe=>(A0 (A0 (A2 λf=>(A0 (A2 λh=>(A0 (A0 (A0 (A2 λg=>(A0 rfl (A2 λc=>((Vn L Q Y s d L b a (A1 (a+c)) 1).trans (by kernel_rfl))))) rfl) rfl) rfl)) rfl)) ((Vn L Q Y s d L b a a 1).trans (by kernel_rfl))) rfl)) rfl) rfl))
noncomputable def Jk{R:Type}(L:Nat)(b:Int)(l:Bool)(d:Int->Option R)(j:Int->Nat->Option R):Option R:=cond l (cond (inR (wu8 b) 256) (vl (g8 (([47,63,35]:List UInt8)) (u8n (wu8 b))) λg=>d g) (none)) (cond (b==(65533:Int)) (X7 L L 0 (λi e=>j i e) (λf=>j (-1) f)) (cond (not (IB b)) (d (-1)) (vl (v8 b).data.toList λc=>vl (A1 ((↑(b8 c):Int)-(1:Int))) λh=>Fa L L c h (λa=>d a) (λ_=>d (-1)))))
abbrev AT(b:Code):Prop:=∀(k:Out->St Z->Option R) (c:Int) (a:Bool),A9 (K5 L) Q Y b ⟨gp [(0,.s (.str (([47,63,35]:List UInt8)))),(0,.s (.int .i32 c)),(158,.s (.bool a))] 26,[],s⟩ k=Jk L c a (λn0=>k .ret ⟨gp [(4,.s (.int .i64 n0))] 182,[],s⟩) (λn0 d=>k .ret ⟨gp [(4,.s (.int .i64 n0))] 182,[.iter (([47,63,35]:List UInt8)) d],s⟩)
theorem SM:AT (R:=R) L Q Y s (cd [1,0,1] Z1):=by intro k e d;unfold Jk;exact(c9 (by kernel_rfl) (A0 (A0 (A2 λc=>rfl) rfl) (A0 ((SN L Q Y s (E3 9 (E2 (K5 L) Q Y (cd [1,0,1,1,1,0,1] Z1) k)) L 0).trans (by kernel_rfl)) (A0 rfl (A2 λb=>(A2 λa=>((SO L Q Y s (E3 1 (E2 (K5 L) Q Y (cd [1,0,1,1,1,1,1,1,0,1,1,1,1,1] Z1) k)) L b a).trans (by kernel_rfl))))))))
noncomputable def HS{R:Type}(L:Nat)(r:Int)(g:Int->Option R)(h:Int->Nat->Option R):Option R:=cond (not (ltI r (0:Int))) (Jk L r (ltI r (128:Int)) (λc=>g c) (λd a=>h d a)) (Jk L r false (λe=>g e) (λf b=>h f b))
theorem Bk9(b:Code)(a:AT (R:=PV × List Blk × Z) L Q Y s b)(r:Int):A9 (K5 L) Q Y (cd [] (G2 [1,0,1] b Z1)) ⟨[.s (.str (([47,63,35]:List UInt8))),.s (.int .i32 r)]++tps 185,[],s⟩ (F5 (K5 L) ae6)=HS L r (λc=>some (.s (.int .i64 c),[],s)) (λc e=>some (.s (.int .i64 c),[.iter (([47,63,35]:List UInt8)) e],s)):=by unfold HS;exact let d:=(E3 0 (F5 (K5 L) ae6));(c9 (by kernel_rfl) (A0 ((a d r (ltI r (128:Int))).trans (by kernel_rfl)) ((a d r false).trans (by kernel_rfl))))
theorem Bl0(d:Nat)(r:Int):evC (K5 L) (d+1) Z Y 75 [.s (.str (([47,63,35]:List UInt8))),.s (.int .i32 r)] [] s=HS L r (λa=>some (.s (.int .i64 a),[],s)) (λa b=>some (.s (.int .i64 a),[.iter (([47,63,35]:List UInt8)) b],s)):=
 (evE (fn:=ae6) (by kernel_rfl)).trans (c9 (by kernel_rfl) (Bk9 L (evC (K5 L) d) Y s (cd [1,0,1] Z1) (SM L (evC (K5 L) d) Y s) r))
noncomputable abbrev UM:Code:=C8 ae3
noncomputable def Fg(L:Nat):Cfg:=B7 L [58] (A4 [(18,[1,2,40]),(12,[0,3,1,1])]) [(75,DV),(76,Wu),(77,Mm)] (A4 [(22,[4]),(21,[4]),(20,[1,7,35,7]),(19,[1,7,0,34]),(18,[1,43,0,0]),(17,[1,43]),(16,[4]),(13,[0,5,1]),(15,[4]),(14,[0,5,1,33]),(12,[0,5,1,27]),(11,[0,5,1]),(10,[0,0,4,25]),(9,[0,0,4,0]),(8,[0,0,24]),(7,[4]),(6,[0,4]),(5,[0,4,14]),(4,[0,4]),(3,[0,0,13]),(2,[4]),(1,[0,0,10]),(0,[0,0])]) [75,76] (A4 [(2,[]),(3,[1,43]),(0,[]),(1,[0,5,1])]) (some [4]) [] [] []
noncomputable def W5{R:Type}(L n:Nat)(self:By->Nat->Option R)(b:By)(a:Nat)(d:Int->(List Blk)->Option R)(e:By->Nat->Option R):Option R:=cond (decide (a<(b8 b))) (vl ((j9 ⟨j6 b⟩ a)).1 λc=>cond (Yi (([47,63,35]:List UInt8))) (cond (ltN c 1114112) (cond (not (ltI (irn c) (0:Int))) (d (↑a:Int) [(Blk.iter b (a+((j9 ⟨j6 b⟩ a)).2))]) (self b (a+((j9 ⟨j6 b⟩ a)).2))) (none)) (none)) (e b a)
noncomputable def Jj{R:Type}(L n:Nat)(b:By)(a:Nat)(c:Int->(List Blk)->Option R)(d:By->Nat->Option R):Option R:=B03 (α:=By->Nat->Option R) (λ_ _=>none) (λn self b a=>W5 L n self b a c d) n b a
theorem Ap{R:Type}(L n:Nat)(b:By)(a:Nat)(c:Int->(List Blk)->Option R)(d:By->Nat->Option R):Jj L (n+1) b a c d=W5 L n (λb a=>Jj L n b a c d) b a c d:=rfl
theorem SL(n:Nat)(b:By)(a:Nat):C9 1 ((Fg L).keep 18) (bd (Fg L) Q Y (cd [1,1,1,1,0,1,0,0] UM)) n ⟨gp [(1,.s (.str (([47,63,35]:List UInt8)))),(43,.it 0)] 9,[.iter b a],s⟩ k =
 Jj L n b a (λn0 c=>k .ret ⟨gp [(4,.s (.int .i64 n0))] 50,c,s⟩) (λb a=>k (.exit 2) ⟨gp [] 55,[.iter b a],s⟩):=by
 induction n generalizing b a with
 | zero=>rfl
 | succ n d=>rw[Ap];unfold W5;exact(c9 (by kernel_rfl) (A0 (A2 λe=>(A0 (A0 (A0 rfl (d b (a+((j9 ⟨j6 b⟩ a)).2))) rfl) rfl)) rfl))
noncomputable def SK{R:Type}(L:Nat)(t:By)(e:Int->(List Blk)->Option R):Option R:=cond (ltI (8:Int) (↑(b8 t):Int)) (none) (Jj L L t 0 (λc a=>e c a) (λd b=>e (-1) [(Blk.iter d b)]))
theorem Bk7(d:Nat)(t:By):evC (Fg L) (d+1) Z Y 58 [.s (.str t),.s (.str (([47,63,35]:List UInt8)))] [] s=SK L t (λb a=>some (.s (.int .i64 b),a,s)):=by refine(evE (fn:=ae3) (by kernel_rfl)).trans ?_;generalize evC (Fg L) d=Q;unfold SK;exact(c9 (by kernel_rfl) (A0 rfl ((SL L Q Y s (E3 2 (E2 (Fg L) Q Y (cd [1,1,1,1,1] UM) (F5 (Fg L) ae3))) L t 0).trans (by kernel_rfl))))
end
end
section
open Go
theorem Ol{c:UInt8}{s:By}(h:c∉s):y6 s [c]=(s,[],false):=by unfold y6;rw[Rk h,if_neg (by decide)]
theorem Z2{c:UInt8}{p r:By}(h:c∉p):y6 (p++c::r) [c]=(p,r,true):=by unfold y6;rw[Yf h,R7,f0,aa0,f8];rw[show p++c::r=(p++[c])++r by simp,x8 (by simp)]
def Uh:Int->By->Option Int
 | n,[]=>some n
 | n,b::r=>if 48<=b.toNat/\b.toNat<=57 then Uh (min (10*max n 0+((b.toNat-48:Nat):Int)) 65536) r else none
theorem QX:∀(s:By) (n:Int),Ia n s=(Uh n s).bind λm=>if m<65536 then some m else none
 | [],n=>rfl
 | b::r,n=>by
  rw[Ia,Uh];split
  ·exact QX r _
  ·rfl
theorem GL:∀(s:By) (n p:Int),-1<=n->Ia n s=some p->-1<=p/\p<65536
 | [],n,p,a,h=>by
  rw[Ia] at h;split at h
  ·rename_i c;obtain rfl:=p6 h;exact⟨a,c⟩
  ·cases h
 | b::r,n,p,a,h=>by
  rw[Ia] at h;split at h
  ·exact GL r _ p (by omega) h
  ·cases h
def Nj(s:By):Prop:=∀b∈s,ctl b=false
def C43(s:By):Prop:=∀b∈s,U8 b=false
structure CU (u:Y9):Prop where
 ns:L3 u.sch=false->V2 u.sch=true/\B5 u.sch=u.sch/\u.user=[]/\u.host=J8/\u.port=-1/\Nj u.rest
 sp:L3 u.sch=true->Nj u.user/\C43 u.user/\Mc u.host/\Y7 u.host=true/\(u.port=-1\/(0<=u.port/\u.port<=65535/\u.port≠Q0 u.sch))/\(∃r,u.rest=47::r)/\Nj u.rest
theorem Ca8{s:By}:s.any ctl=false↔Nj s:=by unfold Nj;rw[List.any_eq_false];exact⟨λh b a=>by simpa using h b a,λh b a=>by simp[h b a]⟩
theorem Zz{e user c a:By}(h:(T6 e user c a).2=0):∃f b,(T6 e user c a).1=⟨e,user,f,b,c⟩/\Mc f/\Y7 f=true/\(b=-1\/(0<=b/\b<=65535/\b≠Q0 e)):=by
 unfold T6 at h ⊢;cases i:Iy a with
 | none=>rw[i] at h;simp at h
 | some q=>
  obtain⟨name,tail⟩:=q;rw[i] at h;simp only at h ⊢;by_cases g:tail≠[]/\tail.head?≠some 58
  ·rw[if_pos g] at h;simp at h
  ·rw[if_neg g] at h ⊢;by_cases d:(C5 name).2≠0
   ·rw[if_pos d] at h;exact absurd h d
   ·rw[if_neg d] at h ⊢;cases j:Ia (-1) (tail.drop 1) with
    | none=>rw[j] at h;simp at h
    | some p=>
     have o:=GL _ _ _ (by omega) j;obtain⟨m,n⟩:=Bf9 name;refine⟨_,_,rfl,m,n (by simpa using d),?_⟩;split
     ·exact .inl rfl
     ·rename_i l;by_cases k:p=-1
      ·exact .inl k
      ·exact .inr ⟨by omega,by omega,l⟩
theorem Tu{c user b a:By}(h:(T6 c user b a).2≠0):(T6 c user b a).1=Bn:=by
 unfold T6 at h ⊢;split
 ·rfl
 ·rename_i name tail f;rw[f] at h;simp only at h ⊢;split
  ·rfl
  ·rename_i d;rw[if_neg d] at h;split
   ·rfl
   ·rename_i e;rw[if_neg e] at h;split
    ·rfl
    ·rename_i p g;rw[g] at h;exact absurd rfl h
theorem Al7(s:By):B5 (B5 s)=B5 s:=by
 unfold B5;rw[List.map_map];apply List.map_congr_left;intro b _;show Bd (Bd b)=Bd b;rcases T1 b with⟨_,e⟩|⟨_,e⟩|⟨c,d,e⟩
 ·rw[e,e]
 ·rw[e,e]
 ·rcases T1 (Bd b) with⟨_,a⟩|⟨_,a⟩|⟨f,g,_⟩
  ·exact a
  ·exact a
  ·omega
theorem Al4(b:UInt8):O6 (Bd b)=O6 b:=by
 rw[j1,T0,T0];rcases T1 b with⟨_,e⟩|⟨_,e⟩|⟨a,c,e⟩
 ·rw[e]
 ·rw[e]
 ·omega
theorem QQ{b c:UInt8}(f:c.toNat<65):Bd b=c↔b=c:=by
 rcases T1 b with⟨_,e⟩|⟨_,e⟩|⟨a,d,e⟩
 ·rw[e]
 ·rw[e]
 ·constructor
  ·intro h;rw[h] at e;omega
  ·intro h;subst h;omega
theorem ZD(b:UInt8):N5 (Bd b)=N5 b:=by
 rw[j1,Hk,Hk,QQ (by decide),QQ (by decide),QQ (by decide)];rcases T1 b with⟨_,e⟩|⟨_,e⟩|⟨a,c,e⟩
 ·rw[e]
 ·rw[e]
 ·constructor
  ·rintro(h|h|h|h)<;>first|omega|exact .inr (.inr (.inr h))
  ·rintro(h|h|h|h)<;>first|omega|exact .inr (.inr (.inr h))
theorem ZF(s:By):V2 (B5 s)=V2 s:=by
 cases s with
 | nil=>rfl
 | cons b r=>
  show(O6 (Bd b)&&(r.map Bd).all N5)=(O6 b&&r.all N5)
  rw[Al4,List.all_map]
  congr 1
  apply List.all_congr rfl;intro b;exact ZD b
theorem SP(r:By):∃t,V3 r=47::t:=by
 unfold V3;split
 ·rename_i h;cases r with
  | nil=>cases h
  | cons b t=>
   obtain rfl:=p6 h;exact⟨t,rfl⟩
 ·exact⟨r,rfl⟩
theorem ZM{r:By}(h:Nj r):Nj (V3 r):=by
 unfold V3;split
 ·exact h
 ·intro b a;rcases t7.1 a with rfl|a
  ·decide
  ·exact h b a
theorem Bg5{j c a:By}(p:L3 j=true)(q:Nj a)(i:C43 a)(o:Nj c)(f:∃r,c=47::r)(h:(G6 j c a).2=0):CU (G6 j c a).1:=by
 unfold G6 at h ⊢;by_cases n:0<=K6 64 a
 ·rw[if_pos n] at h ⊢;obtain⟨t,g,e,k,l,m⟩:=Zz h;rw[e];exact⟨λh=>(by rw[p] at h;cases h),λ_=>⟨λb d=>q b (x5 d),λb d=>i b (x5 d),k,l,m,f,o⟩⟩
 ·rw[if_neg n] at h ⊢;obtain⟨t,g,e,k,l,m⟩:=Zz h;rw[e];exact⟨λh=>(by rw[p] at h;cases h),λ_=>⟨λb d=>(by cases d),λb d=>(by cases d),k,l,m,f,o⟩⟩
theorem Bz0{s:By}(h:(C3 s).2=0):CU (C3 s).1:=by
 unfold C3 at h ⊢;cases f:s.any ctl with
 | true=>rw[f] at h;simp at h
 | false=>
  rw[f] at h;have j:=Ca8.1 f;simp only[j0,if_false] at h ⊢;rcases S7 58 s with c|⟨p,r,rfl,c⟩
  ·rw[Ol c] at h;simp at h
  ·rw[Z2 c] at h ⊢;have k:Nj p:=λb d=>j b (by simp[d])
   have g:Nj r:=λb d=>j b (by simp[d])
   cases a:V2 p with
   | false=>rw[a] at h;simp at h
   | true=>
    rw[a] at h;simp only[f6,Bool.or_self,j0,if_false] at h ⊢;cases e:L3 (B5 p) with
    | false=>
     simp only[f9,if_true];exact⟨λ_=>⟨by rw[ZF];exact a,Al7 p,rfl,rfl,rfl,g⟩,λh=>(by simp only at h;rw[e] at h;cases h)⟩
    | true=>
     rw[e] at h;simp only[f6,j0,if_false] at h ⊢;cases i:([47,47]:By).isPrefixOf r with
     | false=>rw[i] at h;simp at h
     | true=>
      rw[i] at h;simp only[f6,j0,if_false] at h ⊢;exact Bg5 e (λb d=>g b (j7 (x5 d))) (Ax8 _) (ZM λb d=>g b (j7 (j7 d))) (SP _) h
theorem Ao7{d b a:By}(h:(G6 d b a).2≠0):(G6 d b a).1=Bn:=by
 unfold G6 at h ⊢;split
 ·rename_i c;rw[if_pos c] at h;exact Tu h
 ·rename_i c;rw[if_neg c] at h;exact Tu h
theorem Bg0{s:By}(h:(C3 s).2≠0):(C3 s).1=Bn:=by
 unfold C3 at h ⊢;split
 ·rfl
 ·rename_i b;rw[if_neg b] at h;split
  ·rfl
  ·rename_i c;rw[if_neg c] at h;split
   ·rename_i a;rw[if_pos a] at h;exact absurd rfl h
   ·rename_i a;rw[if_neg a] at h;split
    ·rfl
    ·rename_i d;rw[if_neg d] at h;exact Ao7 h
structure Bp4 (u:Y9):Prop where
 host:Mc u.host
 port:-1<=u.port/\u.port<65536
theorem LB:Mc J8:=⟨by decide,Ba5,by decide⟩
theorem CU.ok{u:Y9}(h:CU u):Bp4 u:=by
 cases hs:L3 u.sch with
 | false=>
  obtain⟨_,_,_,a4,a5,_⟩:=h.ns hs;exact⟨by rw[a4];exact LB,by omega⟩
 | true=>
  obtain⟨_,_,a3,_,a5,_⟩:=h.sp hs;exact⟨a3,by omega⟩
theorem Bz1(s:By):Bp4 (C3 s).1:=by
 by_cases h:(C3 s).2=0
 ·exact(Bz0 h).ok
 ·rw[Bg0 h];exact⟨LB,by decide,by decide⟩
theorem WJ{s:By}(h:Fu s=true):s=Lp\/s=bWs:=by simpa[Fu] using h
theorem Cn0{s:By}(h:Fu s=false)(a:Int):upS s=s/\upP s a=a:=by
 have e:(s==Lp)=false/\(s==bWs)=false:=by simpa[Fu] using h
 unfold upS upP;rw[e.1,e.2,h];simp
theorem WF{n:Int}:Po n=true↔-9223372036854775808<=n/\n<9223372036854775808:=by unfold Po;rw[E6];constructor<;>rintro⟨a,b⟩<;>constructor<;>omega
theorem Hy(c:UInt8):∀s:By,g8 s c=match Fs c s with|some k=>(k:Int)|none=>-1
 | []=>rfl
 | b::r=>by
  have a:=Hy c r;unfold g8 Fs;by_cases h:b=c
  ·rw[if_pos h,if_pos (by simpa using h)];rfl
  ·rw[if_neg h,if_neg (by simpa using h),a];cases Fs c r with
   | none=>rfl
   | some k=>
    have e:((k:Int)==-1)=false:=by rw[beq_eq_false_iff_ne];omega
    simp only[x9,e,j0,if_false];rfl
theorem Bl2(b:UInt8):isl.contains b=U8 b:=by rw[j1];simp[isl,U8,or_assoc]
theorem Gl(b:UInt8)(r:By):J3 (b::r)=if U8 b then 0 else J3 r+1:=by unfold J3;rw[m7];cases h:U8 b<;>simp
theorem Vq:∀s:By,J3 s<=s.length
 | []=>j8 _
 | b::r=>by
  have:=Vq r;rw[Gl,d7];split<;>omega
theorem Hx:∀s:By,s8 s isl=if J3 s<s.length then (J3 s:Int) else -1
 | []=>rfl
 | b::r=>by
  have c:=Hx r;have d:=Vq r;rw[s8,Bl2,Gl,d7,c];cases U8 b with
  | true=>simp
  | false=>
   simp only[j0,if_false];by_cases h:J3 r<r.length
   ·have e:((J3 r:Int)==-1)=false:=by rw[beq_eq_false_iff_ne];omega
    have a:J3 r+1<r.length+1:=by omega
    simp only[if_pos h,if_pos a,e,j0,if_false];rfl
   ·have a:¬J3 r+1<r.length+1:=by omega
    simp only[if_neg h,if_neg a];rfl
theorem Cu4(b:UInt8)(t:By)(g:128<=b.toNat):128<=(s7 (b::t)).1/\(s7 (b::t)).1<1114112/\1<=(s7 (b::t)).2/\(s7 (b::t)).2<=t.length+1/\∀i,i<(s7 (b::t)).2->128<=((b::t).getD i 0).toNat:=by
 have d:=Lib.decodeL_le (b::t) (by simp);have l:=Lib.decodeL_width (b::t);have n:=Lib.decodeL_rune (b::t);rw[d7] at d;refine⟨?_,by omega,l,d,?_⟩;all_goals
  clear d l n;rw[Lib.decodeL_N];rcases Lib.decodeN_shape (b::t).length ((b::t).getD 0 0).toNat ((b::t).getD 1 0).toNat ((b::t).getD 2 0).toNat ((b::t).getD 3 0).toNat with⟨c,e⟩|⟨h,j,k,f,e⟩|⟨h,j,k,m,f,p,e⟩|⟨h,j,k,m,o,f,q,e⟩|e
  all_goals rw[e]
 ·exact absurd g (by simp at c;omega)
 ·exact f
 ·simp only;omega
 ·simp only;omega
 ·simp only;omega
 ·exact absurd g (by simp at c;omega)
 ·intro i a;have:i=0\/i=1:=by simp only at a;omega
  rcases this with rfl|rfl<;>omega
 ·intro i a;have:i=0\/i=1\/i=2:=by simp only at a;omega
  rcases this with rfl|rfl|rfl<;>omega
 ·intro i a;have:i=0\/i=1\/i=2\/i=3:=by simp only at a;omega
  rcases this with rfl|rfl|rfl|rfl<;>omega
 ·intro i a;have:i=0:=by simp only at a;omega
  subst this;exact g
theorem B35{b:UInt8}(h:128<=b.toNat):U8 b=false:=by
 unfold U8;have n:∀c:UInt8,c.toNat<128->(b==c)=false:=λc a=>by
  rw[beq_eq_false_iff_ne];rintro rfl;omega
 rw[n 47 (by decide),n 63 (by decide),n 35 (by decide)];rfl
theorem Bw5{r:Int}(h:128<=r):irn r=-1:=by unfold irn;rw[F8,F8,F8]
theorem Cv8(b:UInt8):ltI (irn (b.toNat:Int)) 0 = !U8 b:=by
 have e:∀c:UInt8,((b.toNat:Int)=(c.toNat:Int))=(b=c):=λc=>propext ⟨λh=>o0.1 (by omega),λh=>by rw[h]⟩
 have g:((b.toNat:Int)=47)=(b=47):=e 47;have i:((b.toNat:Int)=63)=(b=63):=e 63;have j:((b.toNat:Int)=35)=(b=35):=e 35;unfold irn U8;simp only[g,i,j];by_cases a:b=47
 ·subst a;rfl
 ·by_cases d:b=63
  ·subst d;rfl
  ·by_cases f:b=35
   ·subst f;rfl
   ·have n:∀c,b≠c->(b==c)=false:=λc h=>by rwa [beq_eq_false_iff_ne]
    rw[if_neg a,if_neg d,if_neg f,n _ a,n _ d,n _ f];rfl
end
section
open Go Go.Proofs
set_option maxRecDepth 100000
theorem Am1{R:Type}{b:By->Option R}(s p:By)(a:A3 s.length=true):A65 LF s p b=b (Fl s p):=by
 have:=L6 a;unfold A65 Fl;rw[a];cases h:p.isPrefixOf s with
 | false=>simp
 | true=>
  have:p.length<=s.length:=by rw[Dq] at h;simp at h;exact h.1
  simp (disch:=omega)
theorem Bm0{R:Type}{a:By->Option R}(s p:By)(b:A3 s.length=true):Cm0 LF s p a=a (Fl s p):=by unfold Cm0;rw[b];rfl
theorem Az4{R:Type}{e:Int->Option R}(s:By):A93 LF s e=e (Q0 s):=by unfold A93 Q0 Lp bWs Ju OU;generalize (s==([104,116,116,112]:List UInt8))=a;generalize (s==([119,115]:List UInt8))=b;generalize (s==([104,116,116,112,115]:List UInt8))=c;generalize (s==([119,115,115]:List UInt8))=d;cases a<;>cases b<;>cases c<;>cases d<;>rfl
theorem Bc0(s:By):((Q0 s)==(80:Int))=Fu s:=by
 unfold Q0 Fu;cases (s==Lp||s==bWs) with
 | true=>rfl
 | false=>cases (s==Ju||s==OU)<;>rfl
theorem Az9{R:Type}{a:Bool->Option R}(s:By):A94 LF s a=a (L3 s):=by unfold A94;rw[Rm,II]
theorem Cm7(a p:By)(k:Int)(l:By)(v4 c d e f g h i j m:Int)(o:By) :
  ∃r H,Cx8 LF a p k l v4 c d e f g h i j m o (λn b=>rv (.s (.bool n)) b)=rv r H/\r.stab [] H = .s (.bool (Fu a)):=
 ⟨_,_,rfl,by rw[<-Bc0];rfl⟩
def QW:By:=[48,49,50,51,52,53,54,55,56,57,43,45,46]
theorem Kh(c:UInt8):∀l:By,ltI (g8 l c) 0 = !l.contains c
 | []=>rfl
 | b::r=>by
  have f:=Kh c r;have g:=ac8 r c;unfold g8;by_cases h:b=c
  ·subst h;simp[E1]
  ·have e:(b==c)=false:=by simpa using h
   have d:(c==b)=false:=by simpa using ad8 h
   rw[y9,d,ae8,<-f,e];simp only[j0,if_false];by_cases a:g8 r c=-1
   ·rw[a];rfl
   ·have:(g8 r c==-1)=false:=by simpa using a
    rw[this,if_neg (by simp),A6,A6]
theorem ZE:∀b:UInt8,N5 b=(O6 b||QW.contains b):=by
 have:∀n:Fin 256,N5 (x7 n.val)=(O6 (x7 n.val)||QW.contains (x7 n.val)):=by decide +kernel
 intro b;have h:=this ⟨b.toNat,b.toNat_lt⟩;simpa using h
theorem Aa1{R:Type}{c:Unit->Option R}{d:By->Int->Int->Bool->Option R}(s:By)(i:Nat)(b:UInt8)(l:Bool)(n:Int):Em s (i:Int) (b.toNat:Int) l n c d=if l then d s n i false else if i=0 then c () else if QW.contains b then d s n i false else c ():=by
 unfold Em;cases l with
 | true=>rfl
 | false=>
  rw[f9,cond_true,if_neg (by simp)];by_cases a:i=0
  ·subst a;rfl
  ·have f:=b.toNat_lt;rw[show((i:Int)==0)=false by simpa using a,cond_false,E4,cond_true,if_neg a];simp only[vl];rw[Ho];have e:=Kh b QW;rw[show([48,49,50,51,52,53,54,55,56,57,43,45,46]:List UInt8)=QW from rfl,e];cases QW.contains b<;>rfl
theorem HY{R:Type}{a:Unit->Option R}{c:By->Option R}(s:By)(r:s.length<=1000000000)(n i:Nat)(p:i<s.length) :
  M7 LF (n+1) s (s.length:Int) (i:Int) a c=if O6 (s.getD i 0) then M7 LF n s s.length ((i+1:Nat):Int) a c else if i=0 then a () else if QW.contains (s.getD i 0) then M7 LF n s s.length ((i+1:Nat):Int) a c else a ():=by
 have k:A1 ((i:Int)+1)=((i+1:Nat):Int):=by rw[A7];rfl
 rw[M7,A8,E4,D0];simp only[cond_true];generalize s.getD i 0=b;have go:∀l,Em s (i:Int) (b.toNat:Int) l (s.length:Int) (λ_=>a ()) (λj g h m=>M7 LF n j g (A1 (h+(1:Int))) a c)=if l then M7 LF n s s.length ((i+1:Nat):Int) a c else if i=0 then a () else if QW.contains b then M7 LF n s s.length ((i+1:Nat):Int) a c else a ():=λl=>by
  rw[Aa1,k]
 have q:O6 b=((ac2 97 b.toNat&&ac2 b.toNat 122)||(ac2 65 b.toNat&&ac2 b.toNat 90)):=rfl;by_cases f:97<=b.toNat
 ·rw[A6,f9,cond_true];by_cases d:b.toNat<=122
  ·rw[A6,f9,cond_true,if_pos (T0.2 (.inl ⟨f,d⟩))];unfold CG;simp only[k]
  ·rw[A8,f6,cond_false,A6,f9,cond_true,A8,f6];have e:O6 b=false:=by
    rw[<-ac7,T0];omega
   rw[e];exact go false
 ·rw[A8,f6,cond_false];by_cases o:65<=b.toNat
  ·rw[A6,f9,cond_true];have e:O6 b = !ltI 90 (b.toNat:Int):=by
    rw[j1,T0,p9,Ni];omega
   rw[e];exact go _
  ·rw[A8,f6,cond_false];have e:O6 b=false:=by
    rw[<-ac7,T0];omega
   rw[e];exact go false
theorem Bn0{R:Type}{k0:Unit->Option R}{k1:By->Option R}(s:By)(d:s.length<=1000000000):∀(r i n:Nat),i+r=s.length->r<n->0<i->
  M7 LF n s (s.length:Int) (i:Int) k0 k1=if (s.drop i).all N5 then k1 s else k0 ():=by
 intro r
 induction r with
 | zero=>
  intro i n b c a;obtain⟨n,rfl⟩:∃m,n=m+1:=⟨n-1,by omega⟩
  rw[M7];rw[A6,g7 (by omega)];rfl
 | succ r e=>
  intro i n b c a;obtain⟨n,rfl⟩:∃m,n=m+1:=⟨n-1,by omega⟩
  rw[HY s d n i (by omega),e (i+1) n (by omega) (by omega) (by omega),D1 s i (by omega),ae9,ZE,if_neg (by omega:¬i=0)];cases O6 (s.getD i 0) with
  | true=>simp
  | false=>
   cases QW.contains (s.getD i 0)<;>simp
theorem Bn1{R:Type}{k0:Bool->Option R}(s:By)(f:A3 s.length=true):B58 LF s k0=k0 (V2 s):=by
 have c:=L6 f;have g:=C1;unfold B58;obtain⟨n,d⟩:∃m,LF=m+1:=⟨LF-1,by omega⟩
 cases s with
 | nil=>
  rw[show @M7 R LF LF = @M7 R LF (n+1) by rw[<-d]];rfl
 | cons b t=>
  rw[show @M7 R LF LF = @M7 R LF (n+1) by rw[<-d]];refine c9 (HY (b::t) c n 0 (by simp)) ?_;have e:=Bn0 (k0:=λ_=>k0 false) (k1:=λa=>k0 (not (a==([]:List UInt8)))) (b::t) c t.length 1 n (by simp;omega) (by simp at c;omega) (by omega);rw[m6];simp only[y7,if_true];rw[show(((0+1:Nat):Int))=((1:Nat):Int) from rfl,e];rw[show(b::t).drop 1=t from rfl,show V2 (b::t)=(O6 b&&t.all N5) from rfl];cases O6 b with
  | false=>rfl
  | true=>cases t.all N5<;>rfl
theorem QY:∀(s:By) (n:Int),BE.go n s=(Uh n s).getD 0
 | [],n=>rfl
 | b::r,n=>by
  unfold BE.go Uh;split
  ·exact QY r _
  ·rfl
theorem Bm2{R:Type}{a:Unit->Option R}{c:Int->Option R}(s:By)(y:s.length<=1000000000):∀(r i n:Nat) (v:Int),i+r=s.length->r<n->-1<=v->v<=65536->
  Lh LF n s v (s.length:Int) (i:Int) a c=match Uh v (s.drop i) with|some m=>c m|none=>a ():=by
 intro r
 induction r with
 | zero=>
  intro i n v p q j k;obtain⟨n,rfl⟩:∃m,n=m+1:=⟨n-1,by omega⟩
  rw[Lh];rw[A6,g7 (by omega)];rfl
 | succ r t=>
  intro i n v p q j k;obtain⟨n,rfl⟩:∃m,n=m+1:=⟨n-1,by omega⟩
  have d:A1 ((i:Int)+1)=((i+1:Nat):Int):=by rw[A7];rfl
  rw[Lh];rw[A8,E4,D0,D1 s i (by omega),d];have x:=(s.getD i 0).toNat_lt;generalize s.getD i 0=b at *;unfold Uh;simp only[cond_true,vl];by_cases l:b.toNat<48
  ·rw[A8,cond_true,F8]
  ·rw[A6,cond_false];by_cases o:57<b.toNat
   ·rw[A8,cond_true,F8]
   ·rw[A6,cond_false,if_pos (show 48<=b.toNat/\b.toNat<=57 by omega)];have u:(if (0:Int) > v then (0:Int) else v)=max v 0:=by omega
    have e:A1 (10*max v 0)=10*max v 0:=A7;have f:wu8 ((b.toNat:Int)-48)=((b.toNat-48:Nat):Int):=by rw[L0];omega
    have g:A1 ((b.toNat-48:Nat):Int)=((b.toNat-48:Nat):Int):=A7;have h:A1 (10*max v 0+((b.toNat-48:Nat):Int))=10*max v 0+((b.toNat-48:Nat):Int):=A7;rw[u,e,f,g,h];have w:(if (65536:Int)<10*max v 0+((b.toNat-48:Nat):Int) then (65536:Int) else 10*max v 0+((b.toNat-48:Nat):Int))=min (10*max v 0+((b.toNat-48:Nat):Int)) 65536:=by omega
    rw[w];exact t (i+1) n _ (by omega) (by omega) (by omega) (by omega)
theorem Bm3{R:Type}{a:Int->Bool->Option R}(s:By)(b:A3 s.length=true):Cm8 LF s a=a (BE s) (Ia (-1) s).isSome:=by
 have d:=L6 b;have c:=C1;unfold Cm8;refine c9 (Bm2 s d s.length 0 LF (-1) (by omega) (by omega) (by omega) (by omega)) ?_;rw[z7,QX,show BE s=BE.go (-1) s from rfl,QY];cases Uh (-1) s with
 | none=>rfl
 | some m=>
  simp only[ad2,o9];rw[Rm];by_cases h:m<65536
  ·rw[decide_eq_true h,if_pos h];rfl
  ·rw[decide_eq_false h,if_neg h];rfl
theorem By4{s:By}{p:Int}(h:Ia (-1) s=some p):BE s=p:=by
 rw[QX] at h;rw[show BE s=BE.go (-1) s from rfl,QY];cases a:Uh (-1) s with
 | none=>rw[a] at h;cases h
 | some m=>
  rw[a] at h;simp only[o9] at h;split at h
  ·exact p6 h
  ·cases h
def hpT(name tail b user a:By):Y9 × Nat:=
 if (C5 name).2≠0 then (Bn,(C5 name).2)
 else match Ia (-1) (tail.drop 1) with
  | none=>(Bn,16)
  | some p=>(⟨b,user,(C5 name).1,if p=Q0 b then -1 else p,a⟩,0)
def hpC(name tail b user a:By):Y9 × Nat:=if tail≠[]/\tail.head?≠some 58 then (Bn,4) else hpT name tail b user a
theorem Tv(c user b a:By):T6 c user b a=match Iy a with|none=>(Bn,4)|some (name,tail)=>hpC name tail c user b:=by
 unfold T6;cases Iy a with
 | none=>rfl
 | some q=>
  obtain⟨name,tail⟩:=q;rfl
theorem Rh{t:By}(h:t=[]\/t.head? = some 58):Fl t [58]=t.drop 1:=by
 rcases h with rfl|h
 ·rfl
 ·cases t with
  | nil=>cases h
  | cons b r=>
   simp only[ad7,i6] at h;subst h;simp[Fl]
theorem Wa(name tail:By)(f:name.length<=1000000000)(j:tail.length<=1000000000)(h:tail=[]\/tail.head? = some 58)(d u:By)(v:Int)(y:By)(w n8 x k l m n o r:Int)(c:By) :
  ∃B H,∀(R:Type) (a:Int->Blk->By->By->Int->By->Int->Int->Int->Int->Int->Int->Int->Int->Int->Int->By->List Blk->Option R),U4 name tail d u v y w n8 x k l m n o r (-1) c a=(λq=>a (uE q) B (uS q) (uU q) (uK q) (uN q) (uV q) (uA q 0) (uA q 1) (uA q 2) (uA q 3) (uA q 4) (uA q 5) (uA q 6) (uA q 7) (uP q) (uR q) H) (hpT name tail d u c):=by
 have i:(tail.drop 1).length<=1000000000:=by rw[d9];omega
 by_cases b:(C5 name).2=0
 ·cases g:Ia (-1) (tail.drop 1) with
  | none=>
   apply g6;apply g6;intro R a;unfold U4 hpT;rw[D9 f,cond_true,Rh h,D9 j];simp only[vl,cond_true];rw[b,D9 i,g];rfl
  | some p=>
   have t:=By4 g;by_cases e:p=Q0 d
   ·apply g6;apply g6;intro R a;unfold U4 hpT;rw[D9 f,cond_true,Rh h,D9 j];simp only[vl,cond_true];rw[b,D9 i,g,t,show(p !=Q0 d)=false by simpa using e];simp only[e,if_true];rfl
   ·apply g6;apply g6;intro R a;unfold U4 hpT;rw[D9 f,cond_true,Rh h,D9 j];simp only[vl,cond_true];rw[b,D9 i,g,t,show(p !=Q0 d)=true by simpa using e];simp only[e,if_false];rfl
 ·apply g6;apply g6;intro R a;unfold U4 hpT;rw[D9 f,cond_true];simp only[vl];rw[show(((C5 name).2:Int)!=0)=true by simpa using b,cond_true,if_pos b];rfl
theorem Li(name tail:By)(w:name.length<=1000000000)(x:tail.length<=1000000000)(l m:By)(p:Int)(v:By)(t n8 u d f g i j k:Int)(a:By) :
  ∃B H,∀(R:Type) (c:Int->Blk->By->By->Int->By->Int->Int->Int->Int->Int->Int->Int->Int->Int->Int->By->List Blk->Option R),P3 name tail l m p v t n8 u d f g i j k (-1) a c=(λq=>c (uE q) B (uS q) (uU q) (uK q) (uN q) (uV q) (uA q 0) (uA q 1) (uA q 2) (uA q 3) (uA q 4) (uA q 5) (uA q 6) (uA q 7) (uP q) (uR q) H) (hpC name tail l m a):=by
 cases tail with
 | nil=>
  obtain⟨B,H,e⟩:=Wa name [] w x (.inl rfl) l m p v t n8 u d f g i j k a;refine⟨B,H,λR c=>?_⟩;unfold P3 hpC;exact e R c
 | cons b r=>
  by_cases n:b=58
  ·subst n;obtain⟨B,H,e⟩:=Wa name (58::r) w x (.inr rfl) l m p v t n8 u d f g i j k a;refine⟨B,H,λR c=>?_⟩;unfold P3 hpC;rw[L5 (by omega) (by simp),if_neg (by simp)];exact e R c
  ·apply g6;apply g6;intro R c;unfold P3 hpC;have o:(((b.toNat:Int))!=(58:Int))=true:=by
    rw[bne_iff_ne];intro h;have y:b.toNat=58:=by omega
    exact n (o0.1 y)
   rw[L5 (by omega) (by simp),if_pos (by simpa using n),Z0,m6,o];rfl
theorem A57{c:UInt8}{s:By}(h:Fs c s=none):g8 s c=-1:=by rw[Hy,h]
theorem QJ{c:UInt8}{s:By}{k:Nat}(h:Fs c s=some k):g8 s c=(k:Int)/\k<s.length:=by obtain⟨p,r,rfl,_,rfl⟩:=Ou h;exact⟨by rw[Hy,h],by simp⟩
theorem Cw7(c:UInt8)(s:By):([c]:By).isPrefixOf s=(s.head? == some c):=by
 cases s with
 | nil=>rfl
 | cons b r=>
  grind
abbrev KU(R:Type):=By->By->Int->By->Int->Int->Int->Int->Int->Int->Int->Int->Int->Int->By->Int->List Blk->Option R
abbrev EW{R:Type}(a:KU R)(q:Y9 × Nat)(H:List Blk):Option R:=a (uS q) (uU q) (uK q) (uN q) (uV q) (uA q 0) (uA q 1) (uA q 2) (uA q 3) (uA q 4) (uA q 5) (uA q 6) (uA q 7) (uP q) (uR q) (uE q) H
theorem Az2(u:By)(J:Int)(O:By)(v4 y z A C D F G I:Int)(t a:By)(h2:A3 a.length=true) :
  ∃H,∀(R:Type) (o:KU R),Si LF u [] J O v4 y z A C D F G I (-1) t a o=EW o (G6 u t a) H:=by
 have ha:=L6 h2;have ge:=FZ 64 a;have key:∀(x b:By),b.length<=1000000000->∃H,∀(R:Type) (o:KU R),(cond (A3 (b8 b)) (cond (k9 (([91]:List UInt8)) b)
   (cond (A3 (b8 b))
    (vl (g8 b (u8n (93:Int))) λc=>
    cond (ltI c (0:Int))
     (o ([]:List UInt8) ([]:List UInt8) 0 ([]:List UInt8) 0 0 0 0 0 0 0 0 0 0 ([]:List UInt8) 4 [(bU u x J O v4 y z A C D F G I (-1) t),bU0])
     (cond (I5 (0:Int) (A1 (c+(1:Int))) (b8 b))
      (cond (I5 (A1 (c+(1:Int))) (↑(b8 b):Int) (b8 b))
       (P3 (cut b (0:Int) (A1 (c+(1:Int)))) (cut b (A1 (c+(1:Int))) (↑(b8 b):Int)) u x J O v4 y z A C D F G I (-1) t (λn0 T P Q K S L M n8 N f g i j l m n q=>o P Q K S L M n8 N f g i j l m n n0 (T::((bU P Q K S L M n8 N f g i j l m n)::q))))
       (none))
      (none)))
    (none))
   (cond (A3 (b8 b))
    (vl (g8 b (u8n (58:Int))) λd=>
    cond (not (ltI d (0:Int)))
     (cond (I5 (0:Int) d (b8 b))
      (cond (I5 d (↑(b8 b):Int) (b8 b))
       (P3 (cut b (0:Int) d) (cut b d (↑(b8 b):Int)) u x J O v4 y z A C D F G I (-1) t (λn0 T P Q K S L M n8 N f g i j l m n q=>o P Q K S L M n8 N f g i j l m n n0 (T::((bU P Q K S L M n8 N f g i j l m n)::q))))
      (none))
     (none))
     (P3 b ([]:List UInt8) u x J O v4 y z A C D F G I (-1) t (λn0 T P Q K S L M n8 N f g i j l m n q=>o P Q K S L M n8 N f g i j l m n n0 (T::((bU P Q K S L M n8 N f g i j l m n)::q)))))
    (none))) none)=EW o (T6 u x t b) H:=by
  intro x b hb;rw[Tv];unfold Iy;have w:A3 b.length=true:=D9 hb;have W:u8n (93:Int)=93:=rfl;have U:u8n (58:Int)=58:=rfl;by_cases v:b.head? = some 91
  ·rw[if_pos v];have Z:([91]:By).isPrefixOf b=true:=by rw[Cw7,v];rfl
   cases Y:Fs 93 b with
   | none=>
    apply g6;intro R o;rw[w,Z,W,A57 Y];rfl
   | some k=>
    obtain⟨e,hk⟩:=QJ Y;have e1:A1 ((k:Int)+1)=((k+1:Nat):Int):=by rw[A7];rfl
    obtain⟨B,H,X⟩:=Li (b.take (k+1)) (b.drop (k+1)) (by rw[f7];omega) (by rw[d9];omega) u x J O v4 y z A C D F G I t;apply g6;intro R o;rw[w,Z,W,e];simp only[vl,cond_true];rw[A6,cond_false,e1,H9,H9,cond_true,cond_true,J5,P8,f0,X]
  ·rw[if_neg v];have Z:([91]:By).isPrefixOf b=false:=by rw[Cw7];simpa using v
   cases Y:Fs 58 b with
   | none=>
    obtain⟨B,H,X⟩:=Li b [] hb (by simp) u x J O v4 y z A C D F G I t;apply g6;intro R o;rw[w,Z,U,A57 Y];simp only[vl,cond_true,cond_false];rw[A8,f6,cond_false,X]
   | some k=>
    obtain⟨e,hk⟩:=QJ Y;obtain⟨B,H,X⟩:=Li (b.take k) (b.drop k) (by rw[f7];omega) (by rw[d9];omega) u x J O v4 y z A C D F G I t;apply g6;intro R o;rw[w,Z,U,e];simp only[vl,cond_true,cond_false];rw[A6,f9,cond_true,H9,H9,cond_true,cond_true,J5,P8,f0,X]
 have V:u8n (64:Int)=64:=rfl;unfold G6;by_cases h:0<=K6 64 a
 ·obtain⟨p,r,rfl,_,hl⟩:=GB h;rw[if_pos h,hl,f0];rw[d8,d7] at ha;obtain⟨H,e⟩:=key ((p++64::r).take p.length) ((p++64::r).drop (p.length+1)) (by rw[d9,d8,d7];omega);refine⟨H,λR o=>?_⟩;refine c9 ?_ (e R o);have e1:A1 ((p.length:Int)+1)=((p.length+1:Nat):Int):=by rw[A7];rfl
  have ln:(p++64::r).length=p.length+r.length+1:=by rw[d8,d7];omega
  unfold Si;rw[h2,V,hl];simp only[vl,cond_true];rw[A6,f9,cond_true,e1,H9,H9,cond_true,cond_true,J5,P8,f0,f0];rfl
 ·rw[if_neg h];obtain⟨H,e⟩:=key [] a ha;refine⟨H,λR o=>?_⟩;refine c9 ?_ (e R o);unfold Si;rw[h2,V];simp only[vl,cond_true];rw[A8,f6,cond_false];rfl
def Tru(x:Option (PV × List Blk × Unit)):Prop:=∃H,x=some (.s (.bool true),H,())
theorem eq8{v6:List Nat}(h:v6.length=8):∃a b c d e f g i,v6=[a,b,c,d,e,f,g,i]:=by
 match v6,h with
 | [a,b,c,d,e,f,g,i],_=>exact⟨a,b,c,d,e,f,g,i,rfl⟩
theorem Aa6{h:B2}(a:Y7 h=true):h.name.length<=253:=by
 unfold Y7 at a;split at a
 ·simp only[j5] at a;exact(IA.1 a.1.1).le
 ·split at a
  ·simp only[j5,aa5] at a;rw[a.1];simp
  ·split at a
   ·simp only[j5,aa5] at a;rw[a.1];simp
   ·cases a
theorem VQ{h:B2}(ok:Mc h):(Pn h).length<=300:=by
 cases a:Y7 h with
 | false=>rw[FN a];simp
 | true=>
  have d:=Aa6 a;have c:=B65 _ ok.v6.1 ok.v6.2;have b:=Cy1 _ ok.v4;unfold Pn;rw[if_pos a];split
  ·omega
  ·split
   ·omega
   ·simp only[d7,d8,p5];omega
theorem Cc7(n:Int):(n==n)=true:=beq_self_eq_true n
theorem Bu8(n:By):(n==n)=true:=beq_self_eq_true n
theorem A55{h0 b c d e f g i j a:Int}{h1:By}(k:ltN b 4294967296=true)(l:ok8 c d e f g i j a=true):Mc (mkH h0 h1 b (n8 c d e f g i j a)):=by
 have⟨m,n⟩:=E6.1 k;refine⟨by show b.toNat<_;omega,Ct0 l,?_⟩;show(if ltN h0 4 then h0.toNat else 0)<4;split
 ·rename_i h;have:=E6.1 h;omega
 ·omega
theorem Bm8(c z:By)(x:Int)(y:By)(v4 m n o p t u v w k:Int)(b a:By)(O:A3 c.length=true)(P:A3 b.length=true)(A:A3 a.length=true)(B:z.isEmpty=true)(C:(k==-1)=true) :
  ∃r H,Si LF c z x y v4 m n o p t u v w k b a (λL M D N F G I J n8 K f g h i l j d=>rv (.tup [gU L M D N F G I J n8 K f g h i l,.s (.int .i64 j)]) d)=rv r H/\
   r.stab [0,0] H=(λq=>.tup [gU (uS q) (uU q) (uK q) (uN q) (uV q) (uA q 0) (uA q 1) (uA q 2) (uA q 3) (uA q 4) (uA q 5) (uA q 6) (uA q 7) (uP q) (uR q),.s (.int .i64 (uE q))]) (G6 c b a):=by
 obtain rfl:=aa5.1 B;obtain rfl:k=-1:=by simpa using C
 obtain⟨H,e⟩:=Az2 c x y v4 m n o p t u v w b a A;exact⟨_,_,e _ _,rfl⟩
theorem A47(b:UInt8):ctl b=(!ltI 32 (b.toNat:Int)||((b.toNat:Int)==127)):=by rw[j1,Cb6,ad6,p9,Ni,beq_iff_eq];omega
theorem Bm9{R:Type}{a:List Blk->Option R}{b:By->Option R}(s:By)(g:s.length<=1000000000):∀(r i n:Nat),i+r=s.length->r<n->
  Hp LF n s (s.length:Int) (i:Int) a b=if (s.drop i).any ctl then a [] else b s:=by
 intro r
 induction r with
 | zero=>
  intro i n d e;obtain⟨n,rfl⟩:∃m,n=m+1:=⟨n-1,by omega⟩
  rw[Hp];rw[A6,g7 (by omega)];rfl
 | succ r f=>
  intro i n d e;obtain⟨n,rfl⟩:∃m,n=m+1:=⟨n-1,by omega⟩
  have c:A1 ((i:Int)+1)=((i+1:Nat):Int):=by rw[A7];rfl
  rw[Hp];rw[A8,E4,D0,D1 s i (by omega),c,af0,A47];simp only[cond_true];rw[f (i+1) n (by omega) (by omega)];cases ltI 32 ((s.getD i 0).toNat:Int) with
  | false=>rfl
  | true=>cases (((s.getD i 0).toNat:Int)==127)<;>rfl
theorem B57(s:By)(i:A3 s.length=true):∃H,∀(R:Type) (a:KU R),JB LF s a=EW a (C3 s) H:=by
 have y:=L6 i;have v:=C1;have L:∀{R:Type} (a:List Blk->Option R) (l:By->Option R),Hp LF LF s (s.length:Int) 0 a l=if s.any ctl then a [] else l s:=λa l=>Bm9 s y s.length 0 LF (by omega) (by omega)
 unfold C3;by_cases h:s.any ctl=true
 ·rw[if_pos h];apply g6;intro R a;unfold JB;rw[L,if_pos h];rfl
 rw[if_neg h];rcases S7 58 s with b|⟨p,r,rfl,b⟩
 ·apply g6;intro R a;unfold JB;rw[L,if_neg h,i,Ol b];rfl
 have B:(p++58::r).length=p.length+r.length+1:=by rw[d8,d7];omega
 have sp:A3 p.length=true:=N6;have o:A3 r.length=true:=N6;rw[Z2 b];simp only[f6,ae8];cases c:V2 p with
 | false=>
  apply g6;intro R a;unfold JB;rw[L,if_neg h,i,Z2 b];simp only[vl,cond_true,f6,cond_false];rw[sp,c];rfl
 | true=>
 rw[if_neg (by simp)];cases f:L3 (B5 p) with
 | false=>
  apply g6;intro R a;unfold JB;rw[L,if_neg h,i,Z2 b];simp only[vl,cond_true,f6,cond_false];rw[sp,c,f];rfl
 | true=>
 rw[if_neg (by simp)];cases Rj:([47,47]:By).isPrefixOf r with
 | false=>
  apply g6;intro R a;unfold JB;rw[L,if_neg h,i,Z2 b];simp only[vl,cond_true,f6,cond_false];rw[sp,c,f,o,Rj];rfl
 | true=>
 rw[if_neg (by simp)];have j:Fl r [47,47]=r.drop 2:=by unfold Fl;rw[Rj,if_pos rfl];rfl
 generalize m:r.drop 2=t;rw[m] at j;have lt:t.length<=r.length:=by rw[<-m,d9];omega
 have u:A3 t.length=true:=N6;have z:=Vq t;have sl:A3 (B5 p).length=true:=by rw[Ev];exact sp
 have tail:∀(R:Type) (a:KU R) (X d:By),X.length<=t.length->d.length<=t.length->
   (cond (A3 (b8 X))
    (cond (not (k9 (([47]:List UInt8)) X))
     (cond (K8 1 (b8 X))
     (cond (A3 (b8 (B5 p)))
      (cond (A3 (b8 (([47]:List UInt8)++X)))
       (cond (A3 (b8 d))
       (cond (((-1):Int)==((-1):Int))
        (EW a (G6 (B5 p) (([47]:List UInt8)++X) d) ((λq=>[bU (uS q) (uU q) (uK q) (uN q) (uV q) (uA q 0) (uA q 1) (uA q 2) (uA q 3) (uA q 4) (uA q 5) (uA q 6) (uA q 7) (uP q) (uR q),bU (B5 p) [] 0 [] 0 0 0 0 0 0 0 0 0 (-1) (([47]:List UInt8)++X)]) (G6 (B5 p) (([47]:List UInt8)++X) d)))
        (none))
       (none))
       (none))
      (none))
     (none))
     (cond (A3 (b8 (B5 p)))
     (cond (A3 (b8 X))
      (cond (A3 (b8 d))
      (cond (((-1):Int)==((-1):Int))
       (EW a (G6 (B5 p) X d) ((λq=>[bU (uS q) (uU q) (uK q) (uN q) (uV q) (uA q 0) (uA q 1) (uA q 2) (uA q 3) (uA q 4) (uA q 5) (uA q 6) (uA q 7) (uP q) (uR q),bU (B5 p) [] 0 [] 0 0 0 0 0 0 0 0 0 (-1) X]) (G6 (B5 p) X d)))
       (none))
      (none))
      (none))
     (none)))
    none)=EW a (G6 (B5 p) (V3 X) d) ((λq=>[bU (uS q) (uU q) (uK q) (uN q) (uV q) (uA q 0) (uA q 1) (uA q 2) (uA q 3) (uA q 4) (uA q 5) (uA q 6) (uA q 7) (uP q) (uR q),bU (B5 p) [] 0 [] 0 0 0 0 0 0 0 0 0 (-1) (V3 X)]) (G6 (B5 p) (V3 X) d)):=by
  intro R a X d A w;rw[N6,sl,Cw7,D9 (n:=d.length) (by omega)];unfold V3;by_cases g:X.head? = some 47
  ·rw[if_pos g,g];rfl
  ·have e:(X.head? == some 47)=false:=by simpa using g
   rw[if_neg g,e,N3 (by omega),D9 (by simp;omega)];rfl
 refine⟨(λX=>(λq=>[bU (uS q) (uU q) (uK q) (uN q) (uV q) (uA q 0) (uA q 1) (uA q 2) (uA q 3) (uA q 4) (uA q 5) (uA q 6) (uA q 7) (uP q) (uR q),bU (B5 p) [] 0 [] 0 0 0 0 0 0 0 0 0 (-1) (V3 X)]) (G6 (B5 p) (V3 X) (t.take (J3 t)))) (t.drop (J3 t)),λR a=>?_⟩;refine c9 ?_ (tail R a (t.drop (J3 t)) (t.take (J3 t)) (by rw[d9];omega) (by rw[f7];omega));unfold JB;rw[L,if_neg h,i,Z2 b];simp only[vl,cond_true,f6,cond_false];rw[sp,c,f,o,Rj,j,u];rw[show Yi ([47,63,35]:List UInt8)=true from rfl,show([47,63,35]:List UInt8)=isl from rfl,Hx];simp only[cond_true,f6,cond_false];by_cases k:J3 t<t.length
 ·rw[if_pos k,A6,f9,cond_true,J5,f0,f7,Nat.min_eq_left (by omega),H9,H9,P8,f0];rfl
 ·have x:J3 t=t.length:=by omega
  rw[if_neg k,A8,f6,cond_false,H9,P8,f0,x,ad1,u];rfl
abbrev rvU(n o:By)(h:Int)(p:By)(i j k l n8 m b c d e:Int)(g:By)(f:Int)(a:List Blk):=rv (.tup [gU n o h p i j k l n8 m b c d e g,.s (.int .i64 f)]) a
abbrev pvU(q:Y9 × Nat):PV:=.tup [gU (uS q) (uU q) (uK q) (uN q) (uV q) (uA q 0) (uA q 1) (uA q 2) (uA q 3) (uA q 4) (uA q 5) (uA q 6) (uA q 7) (uP q) (uR q),.s (.int .i64 (uE q))]
theorem Cn2(s:By)(a:A3 s.length=true):∃r H,JB LF s rvU=rv r H/\r.stab [0,0] H=pvU (C3 s):=by obtain⟨H,e⟩:=B57 s a;exact⟨_,_,e _ _,rfl⟩
theorem Bm5(s:By)(a:A3 s.length=true):∃r H,TE LF s rvU=rv r H/\r.stab [0,0] H=pvU (H8 s):=by
 unfold TE H8;by_cases h:2048<s.length
 ·rw[A8,if_pos h];exact⟨_,_,rfl,rfl⟩
 ·rw[A6,if_neg h,a];exact⟨_,_,rfl,rfl⟩
theorem KR{p:Int}(h:Po p=true):(Lv p).length<=20:=by
 obtain⟨a,b⟩:=WF.1 h;unfold Lv;split
 ·have:=Ir 19 (-p).toNat (by omega) (by omega);rw[d7];omega
 ·have:=Ir 19 p.toNat (by omega) (by omega);omega
theorem VO(b:Int)(c:By)(v4:Int)(a:List Nat):Pn (mkH b c v4 a)=Pn (Cg7 b c v4 a):=by
 unfold mkH Cg7;cases h:ltN b 4 with
 | true=>rfl
 | false=>
  rw[if_neg (by simp),if_neg (by simp),FN (by rfl),FN (by rfl)]
theorem A89{c d a b:By}(h:smU c d a b=true):c.length<=100000000/\d.length<=100000000/\a.length<=100000000/\b.length<=100000000:=by simp only[smU,j5,Nat.ble_eq,and_assoc] at h;exact h
theorem Bl8{l m:By}{kd:Int}{a:By}{v4 b c d e f g h i j:Int}{k:By}(h0:smU l m a k=true)(h1:ltN v4 4294967296=true)(n:ok8 b c d e f g h i=true)(o:Po j=true) :
  (Bp (mkU l m kd a v4 (n8 b c d e f g h i) j k)).length<=400000000:=by
 obtain⟨r,t,u,v⟩:=A89 h0;have p:=VQ (A55 (h0:=kd) (h1:=a) h1 n);rw[VO] at p;have q:=KR o;unfold Bp mkU JQ;simp only;split
 ·split<;>split<;>simp only[d8,d7,p5]<;>omega
 ·simp only[d8,d7];omega
theorem B61(c n:By)(m:Int)(a:By)(v4 e f g h i j k l b:Int)(d:By)(h0:smU c n a d=true)(h1:ltN v4 4294967296=true)(t:ok8 e f g h i j k l=true)(x:Po b=true) :
  ∃r H,Qb LF c n m a v4 e f g h i j k l b d (λu q=>rv (.s (.str u)) q)=rv r H/\r.stab [] H = .s (.str (Bp (mkU c n m a v4 (n8 e f g h i j k l) b d))):=by
 obtain⟨D,F,G,I⟩:=A89 h0;have A:=VQ (A55 (h0:=m) (h1:=a) h1 t);have C:=KR x;have key:∀T:By,Qb LF c n m a v4 e f g h i j k l b d (λu q=>rv (.s (.str u)) q)=rv (.s (.str T)) [bU c n m a v4 e f g h i j k l b d]->T=Bp (mkU c n m a v4 (n8 e f g h i j k l) b d)->∃r H,Qb LF c n m a v4 e f g h i j k l b d (λu q=>rv (.s (.str u)) q)=rv r H/\r.stab [] H = .s (.str (Bp (mkU c n m a v4 (n8 e f g h i j k l) b d))):=λT y z=>⟨_,_,y,by rw[<-z];rfl⟩
 have w:A3 a.length=true:=N6;cases o:L3 c with
 | false=>
  refine key (c++[58]++d) ?_ ?_
  ·unfold Qb;rw[o,N3 (by omega)];simp only[vl,cond_true,f9];rw[N3 (by simp;omega)];rfl
  ·unfold Bp mkU;simp only[o];simp
 | true=>
  have B:=A;by_cases v:n=[]
  ·subst v;have e0:(([]:By)==([]:List UInt8))=true:=rfl;by_cases p:b=-1
   ·subst p;refine key (((c++[58,47,47])++Pn (mkH m a v4 (n8 e f g h i j k l)))++d) ?_ ?_
    ·unfold Qb;rw[o,w,h1,t,e0];simp only[vl,cond_true,cond_false,f6,show((-1:Int)!=-1)=false from rfl]
     repeat rw[N3 (by first|omega|(simp only[d8,d7,p5];omega))]
     rfl
    ·unfold Bp mkU JQ;simp[o,VO]
   ·refine key (((c++[58,47,47])++Pn (mkH m a v4 (n8 e f g h i j k l)))++([58]++Lv b)++d) ?_ ?_
    ·unfold Qb;rw[o,w,h1,t,x,e0];simp only[vl,cond_true,cond_false,f6,show(b !=-1)=true by simpa using p]
     repeat rw[N3 (by first|omega|(simp only[d8,d7,p5];omega))]
     rfl
    ·unfold Bp mkU JQ;simp[o,VO,p]
  ·have e0:(n==([]:List UInt8))=false:=by simpa using v
   by_cases p:b=-1
   ·subst p;refine key (((c++[58,47,47])++(n++[64])++Pn (mkH m a v4 (n8 e f g h i j k l)))++d) ?_ ?_
    ·unfold Qb;rw[o,w,h1,t,e0];simp only[vl,cond_true,cond_false,f6,f9,show((-1:Int)!=-1)=false from rfl]
     repeat rw[N3 (by first|omega|(simp only[d8,d7,p5];omega))]
     rfl
    ·unfold Bp mkU JQ;simp[o,VO,v]
   ·refine key (((c++[58,47,47])++(n++[64])++Pn (mkH m a v4 (n8 e f g h i j k l)))++([58]++Lv b)++d) ?_ ?_
    ·unfold Qb;rw[o,w,h1,t,x,e0];simp only[vl,cond_true,cond_false,f6,f9,show(b !=-1)=true by simpa using p]
     repeat rw[N3 (by first|omega|(simp only[d8,d7,p5];omega))]
     rfl
    ·unfold Bp mkU JQ;simp[o,VO,p,v]
theorem Cf2{a:Int}{k:Nat}(d:k<4):(a==(k:Int))=(k==(if ltN a 4 then a.toNat else 4)):=by
 rw[j1,beq_iff_eq,beq_iff_eq];cases h:ltN a 4 with
 | true=>
  obtain⟨b,c⟩:=E6.1 h;rw[if_pos rfl];omega
 | false=>
  rw[if_neg (by simp)];have:¬(0<=a/\a<4):=λq=>by
   have:=E6.2 q;rw[h] at this;cases this
  omega
theorem OZ(a b:By):(a==b)=(b==a):=by rw[j1,beq_iff_eq,beq_iff_eq];exact eq_comm
theorem Cf0(a b:Int):(a==b)=(b==a):=by rw[j1,beq_iff_eq,beq_iff_eq];exact eq_comm
theorem Ec(a b:Nat):((a:Int)==(b:Int))=(b==a):=by rw[j1,beq_iff_eq,beq_iff_eq];omega
theorem Bb0{F G:By}{Q:Int}{B:By}{v4 a b c d f g h i C:Int}{D:By}{p:Y9 × Nat}(R:ltN v4 4294967296=true)(S:ok8 a b c d f g h i=true)(V:Bp4 p.1) :
  ((F==(uS p))&&((G==(uU p))&&((Q==(uK p))&&((B==(uN p))&&((v4==(uV p))&&((a==(uA p 0))&&((b==(uA p 1))&&((c==(uA p 2))&&((d==(uA p 3))&&((f==(uA p 4))&&((g==(uA p 5))&&((h==(uA p 6))&&((i==(uA p 7))&&((C==(uP p))&&((D==(uR p))&&true)))))))))))))))=eqU p.1 (mkU F G Q B v4 (n8 a b c d f g h i) C D):=by
 obtain⟨⟨s,u,⟨k,n,v,l⟩,q,t⟩,e⟩:=p;obtain⟨P,_⟩:=V;obtain⟨H,I,J,K,L,M,N,O,rfl⟩:=eq8 P.v6.1;obtain⟨j,m,o,r,x,y,z,A,rfl,rfl,rfl,rfl,rfl,rfl,rfl,rfl,_⟩:=Uj S;obtain⟨w,rfl⟩:=v7 (E6.1 R).1;have T:k<4:=P.kd;have U:(([H,I,J,K,L,M,N,O]:List Nat)==[j,m,o,r,x,y,z,A])=((H==j)&&((I==m)&&((J==o)&&((K==r)&&((L==x)&&((M==y)&&((N==z)&&((O==A)&&true)))))))):=rfl;simp only[eqU,eqH,mkU,Cg7,n8,f0,U,m6,ab7];rw[Cf2 T,OZ F,OZ G,OZ B,OZ D,Cf0 C,Ec w,Ec j,Ec m,Ec o,Ec r,Ec x,Ec y,Ec z,Ec A];simp only[Bool.and_assoc,ae7];rfl
theorem A01(m n:By)(kd:Int)(j:By)(v4 a b c d f g h i k:Int)(l:By)(u:smU m n j l=true)(o:ltN v4 4294967296=true)(q:ok8 a b c d f g h i=true)(v:Po k=true) :
  ∃r H,CH LF m n kd j v4 a b c d f g h i k l (λz w=>rv (.s (.bool z)) w)=rv r H/\r.stab [] H = .s (.bool (Zh (mkU m n kd j v4 (n8 a b c d f g h i) k l))):=by
 have A:=Bl8 (kd:=kd) u o q v;unfold CH Zh;rw[u,o,q,v];simp only[vl,cond_true];rw[N6,cond_true];have x:=Bz1 (Bp (mkU m n kd j v4 (n8 a b c d f g h i) k l));rw[Bb0 o q x];generalize C3 (Bp (mkU m n kd j v4 (n8 a b c d f g h i) k l))=p;obtain⟨y,e⟩:=p;by_cases t:e=0
 ·subst t;exact⟨_,_,rfl,rfl⟩
 ·rw[show(uE (y,e)==(0:Int))=false by simpa using t,show(e==0)=false by simpa using t];exact⟨_,_,rfl,rfl⟩
theorem Cm5(l m:By)(n:Int)(i:By)(v4 a b c d e f g h j:Int)(k:By)(p:smU l m i k=true)(q:ltN v4 4294967296=true)(t:ok8 a b c d e f g h=true)(u:Po j=true) :
  ∃r H,Cm3 LF l m n i v4 a b c d e f g h j k (λv o=>rv (.s (.str v)) o)=rv r H/\r.stab [] H = .s (.str (Cv2 (mkU l m n i v4 (n8 a b c d e f g h) j k))):=by
 unfold Cm3 Cv2;rw[p,q,t,u];cases Zh (mkU l m n i v4 (n8 a b c d e f g h) j k) with
 | false=>exact⟨_,_,rfl,rfl⟩
 | true=>exact⟨_,_,rfl,rfl⟩
theorem Bc2(p q:Y9 × Nat)(h:p.1=q.1)(r:Bool):Cu9 p q r=r:=by obtain⟨u,e⟩:=p;obtain⟨v,f⟩:=q;obtain rfl:u=v:=h;simp only[Cu9,beq_self_eq_true,x4]
section
variable {Z R : Type} (L : Nat) (Q : F6) (Y : Yh Z) (s : Z) (k : Out -> St Z -> Option R)
noncomputable def UR(L:Nat):Cfg:=B7 L [3] (A4 []) [(12,Wg),(13,Mn),(14,Wr)] (A4 [(5,[2]),(4,[3,0,0,0]),(3,[0,2,0]),(2,[2]),(1,[0,8]),(0,[0])]) [12] (A4 []) (some [2]) [] [] []
noncomputable def lup{R:Type}(L:Nat)(c:By)(d:Bool->(List Blk)->Option R):Option R:=cond (ltI 2200 (c.length:Int)) (d true []) (cond (A3 c.length) (vl (H8 c) λa=>cond (A3 c.length) (vl (H8 c) λb=>cond (((uS a)==(uS b))&&(((uU a)==(uU b))&&(Cu9 a b ((((uP a)==(uP b))&&(((uR a)==(uR b))&&true)))))) (cond ((uE a)==(uE b)) (d true [(bQ a),(bQ b)]) (d false [(bQ a),(bQ b)])) (d false [(bQ a),(bQ b)])) none) none)
theorem Cw0(d:Nat)(s0):evC (UR L) (d+1) Z Y 3 [pS s0] [] s=lup L s0 (λb a=>some (pB b,a,s)):=by refine(evE (fn:=Tryz.f3) (by kernel_rfl)).trans ?_;generalize evC (UR L) d=Q;unfold lup;kernel_rfl
end
theorem Bx7(s:By):Tru (evC (UR LF) 1 Unit noY 3 [.s (.str s)] [] ()):=by
 refine Eq.subst (motive:=Tru) (Cw0 (Z:=Unit) LF noY () 0 s).symm ?_;unfold lup;by_cases a:(2200:Int)<s.length
 ·rw[B4 a];exact⟨_,rfl⟩
 rw[A6,cond_false,N6];simp only[vl,cond_true];rw[Bc2 _ _ rfl];simp only[beq_self_eq_true,Cc7,Bu8,ae7,x4,cond_true];exact⟨_,rfl⟩
theorem Cg4(args:List PV)(h:Jq a8 [9] args):∃d a,evC (UR LF) d Unit noY 3 args [] ()=some (.s (.bool true),a,()):=by obtain⟨v1,c,rfl,b,rfl⟩:=h;obtain⟨s,rfl,_⟩:=Cb0 b (by kernel_rfl) (by kernel_rfl);obtain⟨H,e⟩:=Bx7 s;exact⟨1,H,e⟩
section
theorem MF:B0 a8 GX 165 Ik:=λargs ret a h=>by
 have:K7 (Ik args)=none:=by unfold Ik CJ;split<;>rfl
 rw[this] at h;cases h
theorem A09:B0 a8 GX 79 NB:=xf [] (Ag0 LF) NC rfl trivial rfl (by kernel_rfl) follows λargs=>by
 unfold NC;split
 ·rename_i s p;exact λa=>⟨rfl,rfl,rfl,_,_,(Cg1 LF noY () 0 s p).trans (Be9 s p a),rfl⟩
 ·trivial
theorem TO:B0 a8 GX 59 CO:=xf [] (Af8 LF) MT rfl ⟨A09,trivial⟩ rfl (by kernel_rfl) follows λargs=>by
 unfold MT;split
 ·rename_i s p;exact λa=>⟨rfl,rfl,rfl,_,_,(Ce6 LF noY () 0 s p).trans (Bd2 s p a),rfl⟩
 ·trivial
theorem C01:B0 a8 GX 93 Bq2:=xf [] (Ag1 LF) NE rfl trivial rfl (by kernel_rfl) follows λargs=>by
 unfold NE;split
 ·rename_i s p;exact λa=>⟨rfl,rfl,rfl,_,_,(Cg3 LF noY () 0 s p).trans (Bf0 s p a),rfl⟩
 ·trivial
theorem Cp4:B0 a8 GX 137 A23:=xf [] (PL LF) CZ rfl ⟨C01,trivial⟩ rfl (by kernel_rfl) follows λargs=>by
 unfold CZ;split
 ·rename_i s p;exact λa=>⟨rfl,rfl,rfl,_,_,(Bx6 LF noY () 0 s p).trans (Am2 s p a),rfl⟩
 ·trivial
theorem Cq8:B0 a8 GX 107 A36:=xf [] (PS LF) DX rfl ⟨Cp4,trivial⟩ rfl (by kernel_rfl) follows λargs=>by
 unfold DX;split
 ·rename_i s p;exact λa=>⟨rfl,rfl,rfl,_,_,(B50 LF noY () 0 s p).trans (Ay7 s p a),rfl⟩
 ·trivial
theorem Cp0:B0 a8 GX 74 A20:=xf [0,0] (PI LF) CV rfl ⟨A09,trivial⟩ rfl (by kernel_rfl) follows λargs=>by
 unfold CV;split
 ·rename_i s p;exact λa=>⟨rfl,rfl,rfl,_,_,(Bx1 LF noY () 0 s p).trans (Al1 s p a),rfl⟩
 ·trivial
theorem B72:B0 a8 GX 57 Ab8:=xf [0,0] (Af4 LF) MI rfl ⟨Cp0,trivial⟩ rfl (by kernel_rfl) follows λargs=>by
 unfold MI;split
 ·rename_i s p;exact λa=>⟨rfl,rfl,rfl,_,_,(Cb5 LF noY () 0 s p).trans (Bb2 s p a),rfl⟩
 ·trivial
theorem B73:B0 a8 GX 138 TV:=xf [1] (Cx LF) Wh rfl ⟨MF,B87,A11,trivial⟩ rfl (by kernel_rfl) follows λargs=>by
 unfold Wh;split
 ·rename_i s p v n;exact λa=>λb=>λc=>λd=>(let⟨r,H,e,q⟩:=VY s p v n a b c d;⟨rfl,rfl,rfl,r,H,(KL LF noY () 0 s p v n).trans e,q⟩)
 ·trivial
theorem IE:B0 a8 GX 109 Sq:=xf [1] (EQ LF) Wv rfl ⟨B73,trivial⟩ rfl (by kernel_rfl) follows λargs=>by
 unfold Wv;split
 ·rename_i s p;exact λa=>λb=>⟨rfl,rfl,rfl,_,_,(Bl5 LF noY () 0 s p).trans (ZT s p a b),rfl⟩
 ·trivial
theorem B78:B0 a8 GX 56 Ac3:=xf [] (Qy LF) NA rfl trivial rfl (by kernel_rfl) follows λargs=>by
 unfold NA;split
 ·rename_i s;exact λa=>⟨rfl,rfl,rfl,_,_,(Cf9 LF noY () 0 s).trans (Be7 s a),rfl⟩
 ·trivial
theorem B74:B0 a8 GX 122 Ac0:=xf [] (Af6 LF) MR rfl ⟨TO,trivial⟩ rfl (by kernel_rfl) follows λargs=>by
 unfold MR;split
 ·rename_i s;exact λa=>⟨rfl,rfl,rfl,_,_,(Ce2 LF noY () 0 s).trans (Bc9 s a),rfl⟩
 ·trivial
theorem A07:B0 a8 GX 124 MJ:=xf [0,0] (U6 LF) MK rfl trivial rfl (by kernel_rfl) follows λargs=>by
 unfold MK;split
 ·rename_i s base;exact λa=>λb=>⟨rfl,rfl,rfl,_,_,(Cc3 LF noY () 0 s base).trans (Bb7 s base a b),rfl⟩
 ·trivial
theorem Ct3:B0 a8 GX 123 Bq3:=xf [0,0] (Bt6 LF) Ac4 rfl ⟨B74,A07,trivial⟩ rfl (by kernel_rfl) follows λargs=>by
 unfold Ac4;split
 ·rename_i s;exact λa=>⟨rfl,rfl,rfl,_,_,(Cw3 LF noY () 0 s).trans (By5 s a),rfl⟩
 ·trivial
theorem Ba0:B0 a8 GX 121 NI:=xf [1] (PM LF) DA rfl ⟨IE,trivial⟩ rfl (by kernel_rfl) follows λargs=>by
 unfold DA;split
 ·rename_i s;exact λa=>⟨rfl,rfl,rfl,_,_,(Bz2 LF noY () 0 s).trans (An5 s a),rfl⟩
 ·trivial
theorem MG:B0 a8 GX 90 Od:=xf [] (Xk LF) Qf rfl ⟨Ba0,B74,Ct3,A07,trivial⟩ rfl (by kernel_rfl) follows λargs=>by
 unfold Qf;split
 ·rename_i s;exact λa=>⟨rfl,rfl,rfl,_,_,(An0 LF noY () 0 s).trans (RA s a),rfl⟩
 ·trivial
theorem C04:B0 a8 GX 108 Bq5:=xf [0,0] (Ra LF) NM rfl ⟨Ba0,Ct3,trivial⟩ rfl (by kernel_rfl) follows λargs=>by
 unfold NM;split
 ·rename_i s;exact λa=>⟨rfl,rfl,rfl,_,_,(Ci1 LF noY () 0 s).trans (Bg7 s a),rfl⟩
 ·trivial
theorem C57:B0 a8 GX 180 Cr7:=xf [0,0] (ET LF) Ad9 rfl ⟨IE,A07,B77,trivial⟩ rfl (by kernel_rfl) follows λargs=>by
 unfold Ad9;split
 ·rename_i s;exact λa=>⟨rfl,rfl,rfl,_,_,(Cy3 LF noY () 0 s).trans (B64 s a),rfl⟩
 ·trivial
theorem C56:B0 a8 GX 67 Cr6:=xf [] (ES LF) Ad8 rfl ⟨B77,trivial⟩ rfl (by kernel_rfl) follows λargs=>by
 unfold Ad8;split
 ·rename_i v;exact λa=>⟨rfl,rfl,rfl,_,_,(Cy2 LF noY () 0 v).trans (B62 v a),rfl⟩
 ·trivial
theorem Bo4:B0 a8 GX 117 JF:=xf [] (Bu LF) Qg rfl trivial rfl (by kernel_rfl) follows λargs=>by
 unfold Qg;split
 ·rename_i s;exact λa=>⟨rfl,rfl,rfl,_,_,(Aq1 LF noY () 0 s).trans (RP s a),rfl⟩
 ·trivial
theorem B83:B0 a8 GX 17 Ad0:=xf [] (Rc LF) NT rfl trivial rfl (by kernel_rfl) follows λargs=>by
 unfold NT;split
 ·rename_i s;exact λa=>⟨rfl,rfl,rfl,_,_,(Cj9 LF noY () 0 s).trans (Bi8 s a),rfl⟩
 ·trivial
theorem Wd:B0 a8 GX 88 Ml:=xf [1] (Ff LF) Wq rfl trivial rfl (by kernel_rfl) follows λargs=>by
 unfold Wq;split
 ·rename_i s c;exact λa=>λb=>(let⟨r,H,e,q⟩:=YE s c a b;⟨rfl,rfl,rfl,r,H,(Bj8 LF noY () 0 s c).trans e,q⟩)
 ·trivial
theorem C07:B0 a8 GX 147 Bq7:=xf [] (Hs LF) NQ rfl trivial rfl (by kernel_rfl) follows λargs=>by
 unfold NQ;split
 ·rename_i b;exact λa=>⟨rfl,rfl,rfl,_,_,(Cj1 LF noY () 0 b).trans (Bh8 b a),rfl⟩
 ·trivial
theorem B84:B0 a8 GX 118 Ad1:=xf [0,0] (O2 LF) NU rfl ⟨C07,trivial⟩ rfl (by kernel_rfl) follows λargs=>by
 unfold NU;split
 ·rename_i s;exact λa=>⟨rfl,rfl,rfl,_,_,(Ck1 LF noY () 0 s).trans (Bi9 s a),rfl⟩
 ·trivial
theorem Ab3:B0 a8 GX 116 DK:=xf [1] (EN LF) Wo rfl ⟨Wd,trivial⟩ rfl (by kernel_rfl) follows λargs=>by
 unfold Wo;split
 ·rename_i s;exact λa=>⟨rfl,rfl,rfl,_,_,(Bj2 LF noY () 0 s).trans (XU s a),rfl⟩
 ·trivial
theorem A10:B0 a8 GX 86 DJ:=xf [] (Rd LF) Mj rfl ⟨Ab3,Bo4,B84,trivial⟩ rfl (by kernel_rfl) follows λargs=>by
 unfold Mj;split
 ·rename_i s;exact λa=>⟨rfl,rfl,rfl,_,_,(XT LF noY () 0 s).trans (IX s a),rfl⟩
 ·trivial
theorem Cq1:B0 a8 GX 87 A30:=xf [0,0] (Kb LF) DM rfl ⟨Ab3,B84,trivial⟩ rfl (by kernel_rfl) follows λargs=>by
 unfold DM;split
 ·rename_i s;exact λa=>⟨rfl,rfl,rfl,_,_,(B19 LF noY () 0 s).trans (Au6 s a),rfl⟩
 ·trivial
theorem C06:B0 a8 GX 173 Bq6:=xf [0,0] (Rb LF) NP rfl ⟨Bo2,trivial⟩ rfl (by kernel_rfl) follows λargs=>by
 unfold NP;split
 ·rename_i s;exact λa=>⟨rfl,rfl,rfl,_,_,(Ci9 LF noY () 0 s).trans (Bh7 s a),rfl⟩
 ·trivial
theorem C10:B0 a8 GX 145 Br0:=xf [0,0] (Re LF) NX rfl ⟨Wd,C06,trivial⟩ rfl (by kernel_rfl) follows λargs=>by
 unfold NX;split
 ·rename_i s;exact λa=>⟨rfl,rfl,rfl,_,_,(Cl0 LF noY () 0 s).trans (Bk4 s a),rfl⟩
 ·trivial
theorem Bo3:B0 a8 GX 138 Wi:=by
 refine B0.fix (pf:=Qe) _ (Bk (C₀:=Cx LF) (L1.ok (l:=[(165,Ik),(166,Ad3),(154,DT)]) rfl ⟨MF,B87,A11,trivial⟩) (H7 rfl (by kernel_rfl)) follows ?_);intro args ret f h;unfold Qe at h;split at h
 ·rename_i s p v n;obtain⟨a,h⟩:=B8 h;obtain⟨b,h⟩:=B8 h;obtain⟨c,h⟩:=B8 h;obtain⟨d,h⟩:=B8 h;obtain⟨rfl,rfl⟩:=I7 h;have e:=(KL LF noY () 0 s p v n).trans (FR s p v n a b c d);exact⟨rfl,1,_,[],e,rfl,rfl⟩
 ·cases h
theorem Bo9:B0 a8 GX 109 JJ:=by
 refine B0.fix (pf:=Ql) _ (Bk (C₀:=Xo LF) (L1.ok (l:=[(138,Wi)]) rfl ⟨Bo3,trivial⟩) (H7 rfl (by kernel_rfl)) follows ?_);intro args ret c h;unfold Ql at h;split at h
 ·rename_i s p;obtain⟨a,h⟩:=B8 h;obtain⟨b,h⟩:=B8 h;obtain⟨rfl,rfl⟩:=I7 h;have e:=(Ay4 LF noY () 0 s p).trans (SW s p a b);exact⟨rfl,1,_,[],e,rfl,rfl⟩
 ·cases h
end
section
theorem Cz5:B0 a8 GX 179 Bp6:=xf [0,0] (Y0 LF) MO rfl trivial rfl (by kernel_rfl) follows λargs=>by
 unfold MO;split
 ·rename_i s;exact λa=>⟨rfl,rfl,rfl,_,_,(Cd6 LF noY () 0 s).trans (Bc6 s a),rfl⟩
 ·trivial
theorem Co5:B0 a8 GX 164 A17:=xf [1,0] (Jx LF) CM rfl ⟨IE,Cz5,C57,trivial⟩ rfl (by kernel_rfl) follows λargs=>by
 unfold CM;split
 ·rename_i s last;exact λa=>(let⟨r,H,e,q⟩:=Aj8 s last a;⟨rfl,rfl,rfl,r,H,(Bv7 LF noY () 0 s last).trans e,q⟩)
 ·trivial
theorem C60:B0 a8 GX 135 Cs0:=xf [0,0] (Zp LF) Ae2 rfl ⟨B88,Co5,trivial⟩ rfl (by kernel_rfl) follows λargs=>by
 unfold Ae2;split
 ·rename_i s;exact λa=>(let⟨r,H,e,q⟩:=Cz1 s a;⟨rfl,rfl,rfl,r,H,(Cz0 LF noY () 0 s).trans e,q⟩)
 ·trivial
theorem Cq9:B0 a8 GX 95 A38:=xf [0,0] (W8 LF) EC rfl trivial rfl (by kernel_rfl) follows λargs=>by
 unfold EC;split
 ·rename_i a b c d e f g h;exact λi=>⟨rfl,rfl,rfl,_,_,(B99 LF noY () 0 a b c d e f g h).trans (A15 a b c d e f g h i),rfl⟩
 ·trivial
theorem C59:B0 a8 GX 96 Cr9:=xf [] (EU LF) Ae1 rfl ⟨Cz4,Ba1,trivial⟩ rfl (by kernel_rfl) follows λargs=>by
 unfold Ae1;split
 ·rename_i b a l;exact λc=>λd=>(let⟨r,H,e,q⟩:=Cy8 b a l c d;⟨rfl,rfl,rfl,r,H,(Cy7 LF noY () 0 b a l).trans e,q⟩)
 ·trivial
theorem C58:B0 a8 GX 68 Cr8:=xf [] (Bt7 LF) Ae0 rfl ⟨Cq9,C59,trivial⟩ rfl (by kernel_rfl) follows λargs=>by
 unfold Ae0;split
 ·rename_i a b c d f g h i;exact λj=>(let⟨r,H,e,q⟩:=Cy6 a b c d f g h i j;⟨rfl,rfl,rfl,r,H,(Cy5 LF noY () 0 a b c d f g h i).trans e,q⟩)
 ·trivial
theorem C08:B0 a8 GX 146 Bq8:=xf [0,0] (Y2 LF) NS rfl trivial rfl (by kernel_rfl) follows λargs=>by
 unfold NS;split
 ·rename_i s;exact λa=>⟨rfl,rfl,rfl,_,_,(Cj7 LF noY () 0 s).trans (Bi2 s a),rfl⟩
 ·trivial
theorem Cp6:B0 a8 GX 114 A25:=xf [1,0] (Q5 LF) DF rfl ⟨Wd,C10,C08,trivial⟩ rfl (by kernel_rfl) follows λargs=>by
 unfold DF;split
 ·rename_i s last;exact λa=>(let⟨r,H,e,q⟩:=As1 s last a;⟨rfl,rfl,rfl,r,H,(B09 LF noY () 0 s last).trans e,q⟩)
 ·trivial
theorem Bo5:B0 a8 GX 113 JG:=xf [] (Bv LF) Qh rfl trivial rfl (by kernel_rfl) follows λargs=>by
 unfold Qh;split
 ·rename_i s;exact λa=>⟨rfl,rfl,rfl,_,_,(Aq2 LF noY () 0 s).trans (RR s a),rfl⟩
 ·trivial
theorem C11:B0 a8 GX 84 Br1:=xf [0,0] (Y3 LF) NY rfl ⟨Bo5,Cp6,trivial⟩ rfl (by kernel_rfl) follows λargs=>by
 unfold NY;split
 ·rename_i s;exact λa=>(let⟨r,H,e,q⟩:=Cl2 s a;⟨rfl,rfl,rfl,r,H,(Cl1 LF noY () 0 s).trans e,q⟩)
 ·trivial
theorem Ab1:B0 a8 GX 168 Mi:=xf [] (EM LF) Wm rfl trivial rfl (by kernel_rfl) follows λargs=>by
 unfold Wm;split
 ·rename_i n;exact⟨rfl,rfl,rfl,_,_,(Bg9 LF noY () 0 n).trans (XD n ),rfl⟩
 ·trivial
theorem Ab0:B0 a8 GX 170 Mh:=xf [] (V5 LF) Wl rfl trivial rfl (by kernel_rfl) follows λargs=>by
 unfold Wl;split
 ·rename_i d c f;exact λa=>λb=>λe=>⟨rfl,rfl,rfl,_,_,(Bf6 LF noY () 0 d c f).trans (WZ d c f a b e),rfl⟩
 ·trivial
theorem C03:B0 a8 GX 183 Ac5:=xf [] (Ag2 LF) NK rfl trivial rfl (by kernel_rfl) follows λargs=>by
 unfold NK;split
 ·rename_i d;exact λa=>⟨rfl,rfl,rfl,_,_,(Ch6 LF noY () 0 d).trans (Bg4 d a),rfl⟩
 ·trivial
theorem C05:B0 a8 GX 189 Ac7:=xf [] (Hr LF) NO rfl trivial rfl (by kernel_rfl) follows λargs=>by
 unfold NO;split
 ·rename_i b;exact λa=>⟨rfl,rfl,rfl,_,_,(Ci7 LF noY () 0 b).trans (Bh2 b a),rfl⟩
 ·trivial
end
section
theorem B81:B0 a8 GX 182 DB:=by
 refine B0.fix (pf:=NN) _ (Bk (C₀:=Ag3 LF) (L1.ok (l:=[]) rfl trivial) (H7 rfl (by kernel_rfl)) follows ?_);intro args ret a h;unfold NN at h;split at h
 ·rename_i b;obtain⟨rfl,rfl⟩:=I7 h;have e:=(Ci4 LF noY () 0 b).trans (Bh0 b );exact⟨rfl,1,_,[],e,rfl,rfl⟩
 ·cases h
theorem Ba4:Zl a8 GX 188 Oe:=by
 refine Eo (C₀:=PN LF) (L1.ok (l:=[]) rfl trivial) (H7 rfl (by kernel_rfl)) follows ?_;intro args H ret f h;unfold Oe at h;split at h
 ·rename_i k b;obtain⟨a,h⟩:=B8 h;obtain⟨c,h⟩:=B8 h;obtain⟨rfl,rfl⟩:=I7 h;refine⟨rfl,rfl,λZ d s=>?_⟩;have e:=(Bz6 LF d s 0 k b).trans (Ao8 k b a c);exact⟨1,_,e,rfl⟩
 ·cases h
theorem C22:Zl a8 GX 169 NH:=by
 refine Eo (C₀:=Xl LF) (Sl (lx:=[(182,DB),(183,Ac5)]) (ly:=[(188,Oe)]) (ls:=[]) rfl rfl rfl ⟨B81,C03,trivial⟩ ⟨Ba4,trivial⟩ trivial) (H7 rfl (by kernel_rfl)) follows ?_;intro args H ret f h;unfold NH at h;split at h
 ·rename_i q b z l;obtain⟨a,h⟩:=B8 h;obtain⟨c,h⟩:=B8 h;obtain⟨d,h⟩:=B8 h;obtain⟨rfl,rfl⟩:=I7 h;obtain⟨g,i,e0⟩:=Bf8 q b z l a c d;exact⟨rfl,rfl,λZ e s=>⟨1,_,(Ch2 LF e s 0 q b z l).trans (e0 _ _),rfl⟩⟩
 ·cases h
theorem B80:B0 a8 GX 141 Ac6:=by
 refine B0.fix (pf:=NL) _ (I4 [0,0] (C₀:=P5 LF) (Sl (lx:=[(168,Mi),(170,Mh)]) (ly:=[(169,NH)]) (ls:=[]) rfl rfl rfl ⟨Ab1,Ab0,trivial⟩ ⟨C22,trivial⟩ trivial) (H7 rfl (by kernel_rfl)) follows ?_);intro args ret f h;unfold NL at h;split at h
 ·rename_i b a p;obtain⟨c,h⟩:=B8 h;obtain⟨rfl,rfl⟩:=I7 h;obtain⟨r,H,e,d⟩:=Ch8 b a p c;exact⟨rfl,rfl,rfl,1,r,H,(Ch7 LF noY () 0 b a p).trans e,d⟩
 ·cases h
end
section
theorem C21:Zl a8 GX 186 ML:=by
 refine Eo (C₀:=Xi LF) (Sl (lx:=[(182,DB),(189,Ac7)]) (ly:=[(188,Oe)]) (ls:=[]) rfl rfl rfl ⟨B81,C05,trivial⟩ ⟨Ba4,trivial⟩ trivial) (H7 rfl (by kernel_rfl)) follows ?_;intro args H ret j h;unfold ML at h;split at h
 ·rename_i a n i b c z l;obtain⟨d,h⟩:=B8 h;obtain⟨e,h⟩:=B8 h;obtain⟨f,h⟩:=B8 h;obtain⟨rfl,rfl⟩:=I7 h;obtain⟨k,e0⟩:=Bb9 a n i b c z l d e f;exact⟨rfl,rfl,λZ g s=>⟨1,_,(Cc4 LF g s 0 a n i b c z l).trans (e0 _ _),rfl⟩⟩
 ·cases h
theorem B76:B0 a8 GX 104 TX:=xf [] (Fe LF) Wk rfl trivial rfl (by kernel_rfl) follows λargs=>by
 unfold Wk;split
 ·rename_i s c;exact λa=>λb=>⟨rfl,rfl,rfl,_,_,(Bd7 LF noY () 0 s c).trans (WI s c a b),rfl⟩
 ·trivial
theorem A99:B0 a8 GX 80 BI:=xf [] (PH LF) CT rfl ⟨B76,trivial⟩ rfl (by kernel_rfl) follows λargs=>by
 unfold CT;split
 ·rename_i s c;exact λa=>λb=>⟨rfl,rfl,rfl,_,_,(Bx0 LF noY () 0 s c).trans (Ak8 s c a b),rfl⟩
 ·trivial
end
end
section
open Go Go.Proofs Go.Sort
set_option maxRecDepth 100000
theorem HQ{C:Cfg}{Z:Type}{I:Z->(Nat->Prop)->(Nat->Prop)->World->Prop}(J:HI I){f:Ctx}{u:Nat->Prop}{w w':World}{z v1:Bool}{E o r:Nat}{l l' m:LL}{s:Z}(g cap:Nat)(H:List Value)(i:Array Value)
  (P:Na C E=false) (j:HR f [.arr z E 1 l,.arr v1 o r m] w) (K:I s f.St u w) (M:∀b g,f.nm b=some g->¬u g)
  (d:f.nm 0=some g\/g=w.heap.size) (O:g<w'.heap.size) (e:∀k,k<w.heap.size->f.nm 0≠some k->w'.heap[k]? = w.heap[k]?) (p:w.heap.size<=w'.heap.size) (R:w'.os=w.os) (S:w'.tape=w.tape) (T:w'.output=w.output)
  (n:w'.heap[g]? = some (.cells i E (0,0))) (X:Els f.St w' 1 l' H) (D:l'≠[]) (t:∀q,q<H.length->i[q]? = H[q]?) (Y:H.length<=i.size) (B:l'.length<=cap) (hm:cap<=maxLen) (L:i.size=cap) :
  Cw C I f [.arr z E 1 l,.arr v1 o r m] w u (.fl 0) [.arr z E 1 l',.arr v1 o r m] s (.slice (some ⟨g,0,none⟩) l'.length cap) w':=by
 have x:0<[Blk.arr z E 1 l,.arr v1 o r m].length:=by simp
 have G:(f.re 0 (some g)).nm 0=some g:=by simp[Ctx.re]
 have F:¬Ke C (A5 [Blk.arr z E 1 l,.arr v1 o r m] 0):=by simp[A5,Blk.shp,Ke,P]
 have a:([Blk.arr z E 1 l,.arr v1 o r m].map (Blk.kill 0)).set 0 (.arr z E 1 l')=[.arr z E 1 l',.arr v1 o r m]:=rfl;have N:¬f.St g:=by
  rcases d with h|h
  ·exact(j.lt 0 g h).2.2
  ·intro hs;have:=j.stlt g hs;omega
 obtain⟨U,V,q3⟩:=RT (C:=C) (y:=.arr z E 1 l') (ng:=some g) (w':=w') j x F (λk a=>by
   simp only[i6] at a;subst a;refine⟨O,N,λc t A=>?_⟩;rcases d with h|h
   ·exact t (j.inj c 0 _ A h)
   ·have:=(j.lt c _ A).2.1;omega)
  (λk a=>by
   simp only[i6] at a;subst a;rcases d with h|h
   ·exact .inl h
   ·exact .inr (by omega)) e p R S T
  (BR.els G n X (by rintro⟨_,h⟩;exact D h) t Y) rfl
 rw[a] at U V;refine⟨_,u,U.lift u,V,?_,λc t=>?_,?_,λb W v=>?_⟩
 ·refine .fl 0 g z E 1 l'.length cap rfl (λ_ h=>D (aa6.1 h)) G B hm ?_;simp only[ab0,n,L,p4]
 ·simp only[PV.nms,List.mem_singleton] at t;subst t;simp
 ·refine J.mono s f.St u w f.St w' K (λ_ h=>h) (λk a Q=>(J.foot _ _ _ _ K k Q).2 a) (λk a=>Nat.lt_of_lt_of_le (j.stlt k a) p) (λk a=>?_) p R S T;rcases a with a|a
  ·exact e k (j.stlt k a) (λh=>(j.lt 0 k h).2.2 a)
  ·exact e k (J.foot _ _ _ _ K k a).1 (λh=>M 0 k h a)
 ·simp only[Ctx.re] at v;split at v
  ·simp only[i6] at v;subst v;rcases d with h|h
   ·exact M 0 _ h
   ·intro Q;have:=(J.foot _ _ _ _ K _ Q).1;omega
  ·exact M b W v
theorem Bj{w:World}{g o e:Nat}{vs:List Value}{a:Array Value}(c:w.heap[g]? = some (.cells a e (0,0)))(f:o+vs.length<=a.size)(l:∀v∈vs,v.oneCell'=true) :
  (w.setCells g o vs).heap[g]? = some (.cells (F3 a.toList o vs).toArray e (0,0))/\(∀k,k≠g->(w.setCells g o vs).heap[k]? = w.heap[k]?)/\(w.setCells g o vs).heap.size=w.heap.size/\(w.setCells g o vs).os=w.os/\(w.setCells g o vs).tape=w.tape/\(w.setCells g o vs).output=w.output:=by
 obtain⟨w',i,m,n,p,q,t,u,_⟩:=M3 (P:=a8) (o:=o) c f l;have b:∀j,j<vs.length->∃v,w.cell? ⟨g,o+0+j,none⟩=some v:=λj d=>by
  refine⟨a[o+j]'(by omega),?_⟩;simp[ab6,c,aa1 (show o+j<a.size by omega)]
 have r:=run_storeCells_cells (P:=a8) g o vs 0 w (λj d=>by obtain⟨v,h⟩:=b j d;rw[h];rfl) (λj d=>by simp[aa4,c]) l;rw[r] at i;simp only[ac1,Result.ok.injEq,true_and] at i;rw[i];exact⟨m,n,p,q,t,u⟩
theorem FU{St:Nat->Prop}{w:World}{l:LL}{d:List Value}{i:Nat}{n:Int}(h:Els St w 1 l d)(q:i<=l.length):Els St w 1 (Ki l i n) (d.take i++g9 .i64 n::d.drop i):=by
 have c:=h.1;rw[p4] at c;have m:Els St w 1 (l.take i) (d.take i):=by
  refine⟨by rw[f7,f7,c,p4],λj f=>?_⟩;rw[f7] at f;rw[List.getElem_take];obtain⟨a,b⟩:=h.2 j (by omega);refine⟨a,λk g=>?_⟩;obtain⟨U,e,v⟩:=b k g;exact⟨U,by rw[o6 (by omega)];exact e,v⟩
 have o:Els St w 1 [[SV.int .i64 n]] [g9 .i64 n]:=by
  refine⟨rfl,λj f=>?_⟩;have:j=0:=by simpa using f
  subst this;refine⟨rfl,λk g=>?_⟩;have:k=0:=by simpa using g
  subst this;exact⟨_,rfl,.int _ _⟩
 have p:Els St w 1 (l.drop i) (d.drop i):=by
  refine⟨by rw[d9,d9,c,p4],λj f=>?_⟩;rw[d9] at f;rw[List.getElem_drop];obtain⟨a,b⟩:=h.2 (i+j) (by omega);refine⟨a,λk g=>?_⟩;obtain⟨U,e,v⟩:=b k g;exact⟨U,by rw[List.getElem?_drop];rw[show i+(j*1+k)=(i+j)*1+k by omega];exact e,v⟩
 have:=(m.append o).append p;unfold Ki;simpa using this
theorem FW(l:LL)(i:Nat)(n:Int)(h:i<=l.length):(Ki l i n).length=l.length+1:=by unfold Ki;rw[d8,d7,f7,d9];omega
theorem QN(l:LL)(i:Nat)(n:Int):Ki l i n≠[]:=by unfold Ki;simp
theorem C23:Zl a8 GX 187 OE:=by
 intro C hP hG Z I yh yv hI hy args H s ret Hc G Γ Φ w Vs h8 hH hg hi hd hc hn;unfold OE at G;split at G
 ·rename_i i z l d;obtain⟨h0,G⟩:=B8 G;obtain⟨h1,G⟩:=B8 G;obtain⟨rfl,rfl⟩:=I7 G;obtain⟨i0,i1⟩:=E6.1 h0;obtain⟨i,rfl⟩:=v7 i0;have hl:=w9 h1;have X:i<=l.length:=by
   have:(i:Int)<((l.length+1:Nat):Int):=i1;omega
  obtain⟨S,X0,V,rfl,hs,hx,hv⟩:=hc.arr3;obtain rfl:=hx.inv_int;have c0:Na C 3=false:=by
   unfold Na Cfg.sh;rw[hP];kernel_rfl
  obtain⟨g1,d0,n1,n2,n3,n4,n5⟩:=hH.arr' (b:=1) rfl (by simp);have g4:∃cap,V = .slice (some ⟨g1,0,none⟩) 1 cap:=by
   cases hv with
   | flv _ e sz h=>simp[A5,Blk.shp] at h
   | fl _ g v e sz n cap h f2 y R hm e9=>
    rw[n1] at y;simp only[i6] at y;subst y;simp only[A5,o7,o8,x9,Blk.shp,i6,Shp.arr.injEq] at h;obtain⟨_,_,_,h4⟩:=h;subst h4;exact⟨cap,rfl⟩
  obtain⟨A,rfl⟩:=g4;obtain⟨V1,p1,p2⟩:=n5 0 (by simp) 0 (by simp);have p3:V1 = .int .i64 d:=by cases p2;rfl
  subst p3;have t:∀j v,[g9 .i64 d][j]? = some v->w.cell? ⟨g1,0+j,none⟩=some v:=by
   intro j v x;have:j=0:=by
    have:=(aa2.1 x).1;simpa using this
   subst this;simp only[o8,i6] at x;subst x;simpa[ab6,n2] using p1
  have M:∀v∈[g9 .i64 d],v.oneCell'=true:=by simp[Value.oneCell']
  rw[f0];refine Qa (fn:=Tryz.f187) (by kernel_rfl) (by kernel_rfl) (by kernel_rfl) ?_;have B:∀(base:Option Addr) (c:Nat) (f:List Value),l.length<=c->c<l.length+1->f.length=l.length->(base=none->l.length=0)->(∀a,base=some a->∀j v,f[j]? = some v->w.cell? (a.add j)=some v)->Els Γ.St w 1 l f->
    Calls a8 187 #[.slice base l.length c,.int .i64 (l.length:Int),.slice (some ⟨g1,0,none⟩) 1 A] w λe w'=>∃V,e = .returned V/\Cw C I Γ [.arr z 3 1 l,.arr false 3 1 [[SV.int .i64 d]]] w Φ (.fl 0) [.arr z 3 1 (Ki l l.length d),.arr false 3 1 [[SV.int .i64 d]]] s V w':=by
   intro base c f a1 a2 a3 a4 a5 a6;refine(Any2.slices_Insert_int_end_grow Tryz.lays2_21 base l.length c g1 0 1 A f [.int .i64 d] w (by omega) a1 a2 (by omega) a3 rfl a4 a5 t M).mono ?_;rintro e w' ⟨rfl,rfl⟩;refine⟨_,rfl,?_⟩;obtain⟨T,b7⟩:=Gz (w:=w) (need:=l.length+1) (cap:=c) (e:=3) (by omega);have hE:=FU (n:=d) a6 (j8 l.length);have e4:f.take l.length++g9 .i64 d::f.drop l.length=f++[g9 .i64 d]:=by
    rw[aa8 (by omega),g7 (by omega)]
   rw[e4] at hE;have r:=FW l l.length d (j8 _);obtain⟨r1,r2⟩:=Xz (olds:=f) (Vs:=[g9 .i64 d]) (z:=(g9 .i64 0).cells) (k:=grownCap w (l.length+1) c 3) (n:=l.length) (m:=1) (size:=1) rfl (by omega) rfl T;have c7:(f.toArray++[g9 .i64 d].toArray)=(f++[g9 .i64 d]).toArray:=by simp
   rw[c7] at r1 r2;have key:∀(row:Array Value) (O:Nat),row.size=O->(∀q,q<(f++[g9 .i64 d]).length->row[q]? = (f++[g9 .i64 d])[q]?)->l.length+1<=O->O<=maxLen->
     Cw C I Γ [.arr z 3 1 l,.arr false 3 1 [[SV.int .i64 d]]] w Φ (.fl 0) [.arr z 3 1 (Ki l l.length d),.arr false 3 1 [[SV.int .i64 d]]] s (.slice (some ⟨w.heap.size,0,none⟩) (l.length+1) O) (w.drew.alloc (.cells row 3)):=by
    intro row O b1 b2 b3 b4;have D:(w.drew.alloc (.cells row 3)).heap=w.heap.push (.cells row 3):=rfl;have:=HQ (C:=C) (w':=w.drew.alloc (.cells row 3)) (l':=Ki l l.length d) hI w.heap.size O (f++[g9 .i64 d]) row c0 hH hi hd (.inr rfl) (by rw[D];simp) (λk N _=>H4 D N) (by rw[D];simp) rfl rfl rfl (H3 D) (hE.mono (λg hg=>H4 D (hH.stlt g hg)) (λ_ h=>h)) (QN _ _ _) b2 (by rw[b1,d8,f8];omega) (by rw[r];exact b3) b4 b1;rw[r] at this;exact this
   exact key _ _ (r1.trans (p4 _)) r2 T b7
  have h6:∀(row:Array Value) (f:List Value),f.length=l.length->i<l.length->l.length+1<=row.size->(∀q,q<i->row[q]? = f[q]?)->
    ∀q,q<(f.take i++g9 .i64 d::f.drop i).length->(F3 (F3 row.toList i [g9 .i64 d]) (i+1) (f.drop i)).toArray[q]? = (f.take i++g9 .i64 d::f.drop i)[q]?:=by
   intro row f a1 a2 a3 a4 q hq;have g2:q<l.length+1:=by
    rw[d8,d7,f7,d9] at hq;omega
   have ht:(f.take i).length=i:=by rw[f7];omega
   have Y:row.toList.length=row.size:=m5;simp only[p7];rw[M0 _ _ _ (by rw[D3,d9,Y];omega),M0 _ _ _ (by rw[f8,Y];omega)];by_cases h1:q<i
   ·rw[F8,F8,s9 (by omega),o6 h1];simpa using a4 q h1
   ·by_cases h2:q=i
    ·subst h2;rw[F8,if_pos (by rw[f8];omega),j4 (by omega),ht,ac3];rfl
    ·rw[if_pos (by rw[d9];omega),j4 (by omega),ht,show q-i=(q-(i+1))+1 by omega,o7]
  have P:∀(g c:Nat) (f:List Value),i<l.length->l.length<=c->c<l.length+1->f.length=l.length->(∀j v,f[j]? = some v->w.cell? ⟨g,0+j,none⟩=some v)->(∀v∈f,v.oneCell'=true)->Els Γ.St w 1 l f->
    Calls a8 187 #[.slice (some ⟨g,0,none⟩) l.length c,.int .i64 (i:Int),.slice (some ⟨g1,0,none⟩) 1 A] w λe w'=>∃V,e = .returned V/\Cw C I Γ [.arr z 3 1 l,.arr false 3 1 [[SV.int .i64 d]]] w Φ (.fl 0) [.arr z 3 1 (Ki l i d),.arr false 3 1 [[SV.int .i64 d]]] s V w':=by
   intro g c f W a1 a2 a3 a4 a5 a6;refine(Any2.slices_Insert_int_grow Tryz.lays2_21 g 0 l.length c i g1 0 1 A f [.int .i64 d] w W (by omega) a1 a2 (by omega) a3 rfl a4 t a5 M).mono ?_;rintro e w' ⟨rfl,rfl⟩;refine⟨_,rfl,?_⟩;obtain⟨T,b7⟩:=Gz (w:=w) (need:=l.length+1) (cap:=c) (e:=3) (by omega);have hE:=FU (n:=d) a6 X;have r:=FW l i d X;have key:∀(row:Array Value) (O:Nat),row.size=O->(∀q,q<i->row[q]? = f[q]?)->l.length+1<=O->O<=maxLen->
     Cw C I Γ [.arr z 3 1 l,.arr false 3 1 [[SV.int .i64 d]]] w Φ (.fl 0) [.arr z 3 1 (Ki l i d),.arr false 3 1 [[SV.int .i64 d]]] s (.slice (some ⟨w.heap.size,0,none⟩) (l.length+1) O) (((w.alloc (.cells row 3)).drew.setCells w.heap.size i [g9 .i64 d]).drew.setCells w.heap.size (i+1) (f.drop i)):=by
    intro row O b1 b2 b3 b4;have D:(w.alloc (.cells row 3)).drew.heap=w.heap.push (.cells row 3):=rfl;obtain⟨c1,c2,c3,c4,c5,c6⟩:=Bj (w:=(w.alloc (.cells row 3)).drew) (o:=i) (vs:=[g9 .i64 d]) (H3 D) (by rw[f8];omega) M;generalize g5:(w.alloc (.cells row 3)).drew.setCells w.heap.size i [g9 .i64 d]=w1 at *;have Q:(F3 row.toList i [g9 .i64 d]).toArray.size=O:=by rw[j2,D3];simpa using b1
    obtain⟨d1,d2,d3,d4,d5,d6⟩:=Bj (w:=w1.drew) (o:=i+1) (vs:=f.drop i) c1 (by rw[Q,d9];omega) (λv hv=>a5 v (j7 hv));have b0:∀k,k<w.heap.size->(w1.drew.setCells w.heap.size (i+1) (f.drop i)).heap[k]? = w.heap[k]?:=λk N=>by
     rw[d2 k (by omega)];exact(c2 k (by omega)).trans (H4 D N)
    have f1:(w1.drew.setCells w.heap.size (i+1) (f.drop i)).heap.size=w.heap.size+1:=by
     rw[d3];show w1.heap.size=_;rw[c3,D];simp
    have:=HQ (C:=C) (w':=w1.drew.setCells w.heap.size (i+1) (f.drop i)) (l':=Ki l i d) hI w.heap.size O (f.take i++g9 .i64 d::f.drop i) _ c0 hH hi hd (.inr rfl) (by rw[f1];omega) (λk N _=>b0 k N) (by rw[f1];omega) (d4.trans c4) (d5.trans c5) (d6.trans c6) d1 (hE.mono (λg hg=>b0 g (hH.stlt g hg)) (λ_ h=>h)) (QN _ _ _) (h6 row f a3 W (by omega) b2) (by rw[j2,D3,d8,d7,f7,d9];simp only[j2,D3] at Q ⊢;omega) (by rw[r];exact b3) b4 (by rw[j2,D3];simpa using Q);rw[r] at this;exact this
   have h3:(g9 .i64 0).cells.size=1:=rfl;have ht:(f.take i).length=i:=by rw[f7];omega
   refine key _ _ ?_ (λq hq=>?_) T b7
   ·simp only[ab9,j2,size_zeroCells,h3,p4,ht];have:l.length+1<=grownCap w (l.length+1) c 3:=T;show i+(l.length+1-i)+(grownCap w (l.length+1) c 3-(l.length+1))=grownCap w (l.length+1) c 3;omega
   ·rw[y8 (by simp only[ab9,j2,ht];omega),y8 (by simp only[j2,ht];omega),p7,o6 hq]
  have f3:∀(row:Array Value) (f:List Value),f.length=l.length->i<l.length->l.length+1<=row.size->(∀q,q<i->row[q]? = f[q]?)->
    ∀q,q<(f.take i++g9 .i64 d::f.drop i).length->(F3 (F3 row.toList (i+1) (f.drop i)) i [g9 .i64 d]).toArray[q]? = (f.take i++g9 .i64 d::f.drop i)[q]?:=by
   intro row f a1 a2 a3 a4 q hq;have g2:q<l.length+1:=by
    rw[d8,d7,f7,d9] at hq;omega
   have ht:(f.take i).length=i:=by rw[f7];omega
   have Y:row.toList.length=row.size:=m5;simp only[p7];rw[M0 _ _ _ (by rw[D3,f8,Y];omega),M0 _ _ _ (by rw[d9,Y];omega)];by_cases h1:q<i
   ·rw[F8,F8,s9 (by omega),o6 h1];simpa using a4 q h1
   ·by_cases h2:q=i
    ·subst h2;rw[if_pos (by rw[f8];omega),j4 (by omega),ht,ac3];rfl
    ·rw[if_neg (by rw[f8];omega),if_pos (by rw[d9];omega),j4 (by omega),ht,show q-i=(q-(i+1))+1 by omega,o7]
  cases hs with
  | flv _ e2 h5 h'=>
   simp only[A5,o8,x9,Blk.shp,i6,Shp.arr.injEq] at h';obtain⟨q1,q2,q3,h4⟩:=h';obtain rfl:=aa6.1 h4;obtain rfl:i=0:=by simpa using X
   exact B none 0 [] (by simp) (by simp) rfl (λ_=>rfl) (λa h=>by cases h) ⟨rfl,λj x=>by simp at x⟩
  | fl _ g z' e2 h5 n' cap h' f2 y R hm e9=>
   simp only[A5,o8,x9,Blk.shp,i6,Shp.arr.injEq] at h';obtain⟨rfl,rfl,rfl,rfl⟩:=h';have g0:¬(z=true/\l=[]):=by rintro⟨q1,q2⟩;exact f2 q1 (by rw[q2];rfl)
   obtain⟨g',p,e6,hh,c8,K,e5⟩:=hH.arr' (b:=0) rfl g0;obtain rfl:g=g':=by
    rw[y] at e6;exact p6 e6
   have e3:p.size=cap:=by
    have:=e9;simp only[ab0,hh,i6,af3,true_and,p4] at this;exact this
   rw[p4] at c8;have hO:Els Γ.St w 1 l (p.toList.take l.length):=by
    refine⟨by rw[f7,m5 (xs:=p)];omega,λj x=>⟨K j x,λk N=>?_⟩⟩;obtain⟨U,e1,u⟩:=e5 j x k N;refine⟨U,?_,u⟩;have h7:k<1:=by rw[<-K j x];exact N
    rw[t8,R7];simpa using e1
   have F:(p.toList.take l.length).length=l.length:=by rw[f7,m5 (xs:=p)];omega
   have J:∀j v,(p.toList.take l.length)[j]? = some v->w.cell? ⟨g,0+j,none⟩=some v:=by
    intro j v x;have a7:j<l.length:=by
     have:=(aa2.1 x).1;omega
    rw[t8,if_pos a7] at x;simpa[ab6,hh] using x
   have b5:∀v∈p.toList.take l.length,v.oneCell'=true:=by
    intro v hv;obtain⟨j,x,rfl⟩:=List.getElem_of_mem hv;have a7:j<l.length:=by omega
    obtain⟨_,u⟩:=hO.2 j a7;obtain⟨U,e1,u2⟩:=u 0 (by rw[K j a7];exact Nat.one_pos);rw[p4,ac1,o5 x] at e1;cases e1;exact u2.oneCell
   have r:=FW l i d X;have hE:=FU (n:=d) hO X;have a0:∀j,j<cap->(w.cell? ⟨g,j,none⟩).isSome=true:=by
    intro j x;simp only[ab6,hh];rw[aa1 (by omega)];rfl
   have a9:∀j,w.frozen? ⟨g,j,none⟩=false:=λj=>by simp[aa4,hh]
   have e8:g1≠g:=λe=>by
    have:=hH.inj 1 0 g (by rw[<-e];exact n1) y;omega
   have e7:cap<=9223372036854775807:=by
    simp only[maxLen] at hm;omega
   by_cases L:l.length+1<=cap
   ·have key:∀(w':World) (row:List Value),w'.heap[g]? = some (.cells row.toArray 3 (0,0))->(∀k,k≠g->w'.heap[k]? = w.heap[k]?)->w'.heap.size=w.heap.size->w'.os=w.os->w'.tape=w.tape->w'.output=w.output->row.length=cap->
      (∀q,q<((p.toList.take l.length).take i++g9 .i64 d::(p.toList.take l.length).drop i).length->row.toArray[q]? = ((p.toList.take l.length).take i++g9 .i64 d::(p.toList.take l.length).drop i)[q]?)->
      Cw C I Γ [.arr z 3 1 l,.arr false 3 1 [[SV.int .i64 d]]] w Φ (.fl 0) [.arr z 3 1 (Ki l i d),.arr false 3 1 [[SV.int .i64 d]]] s (.slice (some ⟨g,0,none⟩) (l.length+1) cap) w':=by
     intro w' row k1 k2 k3 k4 k5 k6 k7 k8;have f4:¬ Γ.St g:=(hH.lt 0 g y).2.2;have:=HQ (C:=C) (w':=w') (l':=Ki l i d) hI g cap ((p.toList.take l.length).take i++g9 .i64 d::(p.toList.take l.length).drop i) row.toArray c0 hH hi hd (.inl y) (by rw[k3];exact(hH.lt 0 g y).2.1) (λk N f5=>k2 k (λe=>f5 (e▸y))) (by omega) k4 k5 k6 k1
      (hE.mono (λk N=>k2 k (λe=>f4 (e▸N))) (λ_ h=>h)) (QN _ _ _) k8
      (by rw[j2,k7,d8,d7,f7,d9,F];omega) (by rw[r];exact L) hm (by rw[j2,k7])
     rw[r] at this;exact this
    by_cases b6:i=l.length
    ·subst b6;refine(Any2.slices_Insert_int_end_room Tryz.lays2_21 g 0 l.length cap g1 0 1 A [.int .i64 d] w (by omega) L e7 rfl (λj x=>a0 _ (by omega)) (λj x=>a9 _) t M).mono ?_;rintro e w' ⟨rfl,rfl⟩;refine⟨_,rfl,?_⟩;obtain⟨c1,c2,c3,c4,c5,c6⟩:=Bj (w:=w) (o:=0+l.length) (vs:=[g9 .i64 d]) hh (by rw[f8];omega) M;refine key _ _ c1 c2 c3 c4 c5 c6 (by rw[D3];simpa using e3) (λq hq=>?_);rw[aa8 (by omega),g7 (by omega)] at hq ⊢;rw[d8,F,f8] at hq;simp only[p7];rw[M0 _ _ _ (by rw[f8,m5 (xs:=p)];omega)];by_cases g3:q<l.length
     ·rw[F8,s9 (by omega),t8,if_pos g3]
     ·obtain rfl:q=l.length:=by omega
      rw[if_pos (by rw[f8];omega),j4 (by omega),F];simp
    ·have W:i<l.length:=by omega
     refine(Any2.slices_Insert_int_shift Tryz.lays2_21 g 0 l.length cap i g1 0 1 A (p.toList.take l.length) [.int .i64 d] w W (by omega) L e7 e8 F rfl J (λj x=>a0 _ (by omega)) (λj x=>a9 _) t b5 M 3 3 d0.size p.size (by simp[ab0,n2]) (by simp[ab0,hh]) (by omega) (by simp[aa4,n2]) (by simp[aa4,n2])).mono ?_;rintro e w' ⟨rfl,rfl⟩;refine⟨_,rfl,?_⟩;obtain⟨c1,c2,c3,c4,c5,c6⟩:=Bj (w:=w.drew) (o:=0+(i+1)) (vs:=(p.toList.take l.length).drop i) hh (by rw[d9,F];omega) (λv hv=>b5 v (j7 hv));generalize g5:w.drew.setCells g (0+(i+1)) ((p.toList.take l.length).drop i)=w1 at *;have Q:(F3 p.toList (0+(i+1)) ((p.toList.take l.length).drop i)).toArray.size=cap:=by rw[j2,D3];simpa using e3
     obtain⟨d1,d2,d3,d4,d5,d6⟩:=Bj (w:=w1) (o:=0+i) (vs:=[g9 .i64 d]) c1 (by rw[Q,f8];omega) M;refine key _ _ d1 (λk N=>(d2 k N).trans (c2 k N)) (d3.trans c3) (d4.trans c4) (d5.trans c5) (d6.trans c6) (by rw[D3];simpa using Q) ?_;rw[y7,y7];exact f3 p _ F W (by omega) (λq hq=>by rw[t8,R7];simp)
   ·by_cases b6:i=l.length
    ·subst b6;exact B (some ⟨g,0,none⟩) cap (p.toList.take l.length) R (by omega) F (λh=>by cases h) (λa h j v x=>by
      obtain rfl:=p6 h;rw[L4];exact J j v x) hO
    ·exact P g cap _ (by omega) R (by omega) F J b5 hO
 ·cases G
end
section
open Go Go.Proofs
set_option maxRecDepth 100000
section
theorem Cr0:Zl a8 GX 175 BH:=by
 refine Eo (C₀:=PC LF) (Sl (lx:=[(170,Mh),(168,Mi)]) (ly:=[(186,ML),(187,OE)]) (ls:=[]) rfl rfl rfl ⟨Ab0,Ab1,trivial⟩ ⟨C21,C23,trivial⟩ trivial) (H7 rfl (by kernel_rfl)) follows ?_;intro args H ret o h;unfold BH at h;split at h
 ·rename_i a n i b c z l;obtain⟨d,h⟩:=B8 h;obtain⟨f,h⟩:=B8 h;obtain⟨g,h⟩:=B8 h;obtain⟨j,h⟩:=B8 h;obtain⟨k,h⟩:=B8 h;obtain⟨rfl,rfl⟩:=I7 h;refine⟨rfl,rfl,λZ m s=>?_⟩;have e:=(Bu5 LF m s 0 a n i b c z l).trans (Ai2 a n i b c z l d f g j k);exact⟨1,_,e,rfl⟩
 ·cases h
theorem C02:B0 a8 GX 155 Bq4:=by
 refine B0.fix (pf:=NJ) _ (I4 [1,0] (C₀:=Y1 LF) (Sl (lx:=[(80,BI)]) (ly:=[(175,BH)]) (ls:=[]) rfl rfl rfl ⟨A99,trivial⟩ ⟨Cr0,trivial⟩ trivial) (H7 rfl (by kernel_rfl)) follows ?_);intro args ret c h;unfold NJ at h;split at h
 ·rename_i s;obtain⟨a,h⟩:=B8 h;obtain⟨rfl,rfl⟩:=I7 h;obtain⟨r,H,e,b⟩:=Ch4 s a;exact⟨rfl,rfl,rfl,1,r,H,(Ch3 LF noY () 0 s).trans e,b⟩
 ·cases h
end
end
section
open Go Go.Proofs Go.Sort
set_option maxRecDepth 100000
theorem B96:B0 a8 GX 139 UE:=by
 refine B0.fix (pf:=Wz) _ (I2 (fn:=Tryz.f139) (by kernel_rfl) (by kernel_rfl) (by kernel_rfl) ?_);intro args ret l h;unfold Wz at h;split at h
 ·rename_i s;obtain⟨b,h⟩:=B8 h;obtain⟨rfl,rfl⟩:=I7 h;refine⟨rfl,rfl,λC n a o w m c g f=>?_⟩;obtain⟨U,rfl,j⟩:=f.arr1;obtain⟨k,rfl,rfl⟩:=j.inv_str;have i:=L6 b;refine(Any.utf8_ValidString Tryz.lays196 k w (by simp at i;omega) (Cd4 c a)).mono ?_;rintro e w' ⟨rfl,d⟩;rw[<-A04];exact⟨_,rfl,d,VP.mk_bool _⟩
 ·cases h
theorem B93:B0 a8 GX 140 UC:=by
 refine B0.fix (pf:=Ww) _ (I2 (fn:=Tryz.f140) (by kernel_rfl) (by kernel_rfl) (by kernel_rfl) ?_);intro args ret j h;unfold Ww at h;split at h
 ·rename_i s;obtain⟨a,h⟩:=B8 h;obtain⟨rfl,rfl⟩:=I7 h;refine⟨rfl,rfl,λC m b n w k l d c=>?_⟩;obtain⟨U,rfl,g⟩:=c.arr1;obtain⟨i,rfl,rfl⟩:=g.inv_str;have f:=L6 a;refine(Any.utf8_RuneCountInString Tryz.lays195 i w (by simp at f;omega)).mono ?_;rintro e w' ⟨rfl,pos,rfl⟩;rw[Lib.runeCountL_eq];exact⟨_,rfl,Ae9 _ _ _,VP.mk_int _ _⟩
 ·cases h
theorem Co3:B0 a8 GX 153 Sn:=λargs ret a h=>by
 have:K7 (Sn args)=none:=by unfold Sn TU;split<;>rfl
 rw[this] at h;cases h
theorem Cr1:A16 a8 GX 152 BJ:=by
 refine ZH (C₀:=Z7 LF) ((L1.ok (l:=[(153,Sn),(154,DT)]) rfl ⟨Co3,A11,trivial⟩)) (H7 rfl (by kernel_rfl)) follows ?_;intro args H L h Z a s d c;unfold BJ at h;split at h
 ·rename_i p t n;simp only[i6,af3] at h;obtain⟨b,rfl⟩:=h;obtain⟨e,f⟩:=Ay2 (R:=PV × List Blk × Z) a p t n s d b c;exact⟨1,_,(B37 LF a 0 p t n s).trans (f _)⟩
 ·cases h
end
section
open Go Go.Proofs
set_option maxRecDepth 100000
section
theorem Cp1:B0 a8 GX 126 A21:=xf [] (Jy LF) CW rfl ⟨C02,B80,trivial⟩ rfl (by kernel_rfl) follows λargs=>by
 unfold CW;split
 ·rename_i s;exact λa=>⟨rfl,rfl,rfl,_,_,(Bx2 LF noY () 0 s).trans (Al9 s a),rfl⟩
 ·trivial
theorem B79:B0 a8 GX 92 NF:=xf [] (Qz LF) NG rfl ⟨B72,Cp1,trivial⟩ rfl (by kernel_rfl) follows λargs=>by
 unfold NG;split
 ·rename_i s;exact λa=>⟨rfl,rfl,rfl,_,_,(Cg6 LF noY () 0 s).trans (Bf3 s a),rfl⟩
 ·trivial
theorem C00:B0 a8 GX 110 Bq1:=xf [0,0] (Mv LF) MZ rfl ⟨B96,B93,B78,B80,B79,trivial⟩ rfl (by kernel_rfl) follows λargs=>by
 unfold MZ;split
 ·rename_i s;exact λa=>(let⟨r,H,e,q⟩:=Cf5 s a;⟨rfl,rfl,rfl,r,H,(Cf4 LF noY () 0 s).trans e,q⟩)
 ·trivial
theorem Cz7:B0 a8 GX 136 Bp8:=xf [] (Hq LF) MQ rfl trivial rfl (by kernel_rfl) follows λargs=>by
 unfold MQ;split
 ·rename_i b;exact λa=>⟨rfl,rfl,rfl,_,_,(Ce0 LF noY () 0 b).trans (Bc8 b a),rfl⟩
 ·trivial
theorem Cz6:B0 a8 GX 106 Bp7:=xf [0,0] (Qx LF) MP rfl ⟨Cz7,trivial⟩ rfl (by kernel_rfl) follows λargs=>by
 unfold MP;split
 ·rename_i s;exact λa=>(let⟨r,H,e,q⟩:=Cd8 s a;⟨rfl,rfl,rfl,r,H,(Cd7 LF noY () 0 s).trans e,q⟩)
 ·trivial
theorem Co6:B0 a8 GX 105 A18:=xf [0,0] (PD LF) CN rfl ⟨C60,trivial⟩ rfl (by kernel_rfl) follows λargs=>by
 unfold CN;split
 ·rename_i s;exact λa=>λb=>(let⟨r,H,e,q⟩:=Bv9 s a b;⟨rfl,rfl,rfl,r,H,(Bv8 LF noY () 0 s).trans e,q⟩)
 ·trivial
theorem B75:B0 a8 GX 81 TW:=xf [0,0] (Fd LF) Wj rfl ⟨TO,Co6,Cz6,Cq8,MG,C04,Bo9,C00,Ba1,trivial⟩ rfl (by kernel_rfl) follows λargs=>by
 unfold Wj;split
 ·rename_i s;exact λa=>(let⟨r,H,e,q⟩:=Bd1 s a;⟨rfl,rfl,rfl,r,H,(Bd0 LF noY () 0 s).trans e,q⟩)
 ·trivial
theorem Cp2:B0 a8 GX 125 ND:=by
 refine B0.fix (pf:=CX) _ (Bk (C₀:=PJ LF) (L1.ok (l:=[]) rfl trivial) (H7 rfl (by kernel_rfl)) follows ?_);intro args ret a h;unfold CX at h;split at h
 ·rename_i t p n;obtain⟨rfl,rfl⟩:=I7 h;have e:=(Bx4 LF noY () 0 t p n).trans (Am0 t p n );exact⟨rfl,1,_,[],e,rfl,rfl⟩
 ·cases h
theorem C13:B0 a8 GX 91 Ad5:=by
 refine B0.fix (pf:=OG) _ (Bk (C₀:=Ag5 LF) (L1.ok (l:=[(125,ND)]) rfl ⟨Cp2,trivial⟩) (H7 rfl (by kernel_rfl)) follows ?_);intro args ret a h;unfold OG at h;split at h
 ·rename_i t p;obtain⟨rfl,rfl⟩:=I7 h;have e:=(Cl6 LF noY () 0 t p).trans (Bl4 t p );exact⟨rfl,1,_,[],e,rfl,rfl⟩
 ·cases h
theorem C53:B0 a8 GX 64 Cr4:=by
 refine B0.fix (pf:=Ac1) _ (I4 [] (C₀:=Mu LF) (Sl (lx:=[(90,Od),(91,Ad5),(92,NF)]) (ly:=[]) (ls:=[(152,BJ)]) rfl rfl rfl ⟨MG,C13,B79,trivial⟩ trivial ⟨Cr1,trivial⟩) (H7 rfl (by kernel_rfl)) follows ?_);intro args ret c h;unfold Ac1 at h;split at h
 ·rename_i s;obtain⟨a,h⟩:=B8 h;obtain⟨rfl,rfl⟩:=I7 h;obtain⟨r,H,e,b⟩:=Cv5 s a;exact⟨rfl,rfl,rfl,1,r,H,(Cv4 LF noY () 0 s).trans e,b⟩
 ·cases h
theorem Cz9:B0 a8 GX 46 Bq0:=xf [] (Af9 LF) MU rfl ⟨C53,trivial⟩ rfl (by kernel_rfl) follows λargs=>by
 unfold MU;split
 ·rename_i j k v4 a b c d f g h i;exact λl=>λm=>λn=>(let⟨r,H,e,q⟩:=Ce8 j k v4 a b c d f g h i l m n;⟨rfl,rfl,rfl,r,H,(Ce7 LF noY () 0 j k v4 a b c d f g h i).trans e,q⟩)
 ·trivial
theorem Cz8:B0 a8 GX 50 Bp9:=xf [] (Af7 LF) MS rfl ⟨Cz9,C56,C58,trivial⟩ rfl (by kernel_rfl) follows λargs=>by
 unfold MS;split
 ·rename_i j k v4 a b c d f g h i;exact λl=>λm=>λn=>(let⟨r,H,e,q⟩:=Ce5 j k v4 a b c d f g h i l m n;⟨rfl,rfl,rfl,r,H,(Ce4 LF noY () 0 j k v4 a b c d f g h i).trans e,q⟩)
 ·trivial
end
end
section
open Go Go.Proofs Go.Sort
set_option maxRecDepth 100000
theorem TP:B0 a8 GX 73 Sp:=by
 refine B0.fix (pf:=DU) _ (I2 (fn:=Tryz.f73) (by kernel_rfl) (by kernel_rfl) (by kernel_rfl) ?_);intro args ret j h;unfold DU at h;split at h
 ·rename_i s c;obtain⟨l,h⟩:=B8 h;obtain⟨m,h⟩:=B8 h;obtain⟨rfl,rfl⟩:=I7 h;refine⟨rfl,rfl,λC o a p w k n d b=>?_⟩;obtain⟨U,V,rfl,f,g⟩:=b.arr2;obtain⟨i,rfl,rfl⟩:=f.inv_str;obtain rfl:=g.inv_int;refine(Any.strings_IndexByte Tryz.lays137 i c w).mono ?_;rintro e w' ⟨rfl,rfl⟩;exact⟨_,rfl,ac4 _ _,VP.mk_int _ _⟩
 ·cases h
theorem Co9:B0 a8 GX 51 A19:=by
 refine B0.fix (pf:=CS) _ (I2 (fn:=Tryz.f51) (by kernel_rfl) (by kernel_rfl) (by kernel_rfl) ?_);intro args ret l h;unfold CS at h;split at h
 ·rename_i n;obtain⟨b,h⟩:=B8 h;obtain⟨rfl,rfl⟩:=I7 h;refine⟨rfl,rfl,λC o a p w m c i g=>?_⟩;obtain⟨U,rfl,j⟩:=g.arr1;obtain rfl:=j.inv_int;obtain⟨d,f⟩:=WF.1 b;refine(Any.strconv_Itoa Tryz.laysM171 n (by omega) (by omega) w (Bv3 c a)).mono ?_;rintro e w' ⟨rfl,k,os,rfl⟩;refine⟨_,rfl,(Mt w k).trans (show RowKit.Below w.heap.size _ _ from EJ (w.drewN k) os),?_⟩;have:Lib.itoa n=Lv n:=by
   unfold Lib.itoa Lv;split
   ·rw[show n.natAbs=(-n).toNat by omega]
   ·rfl
  rw[this];exact VP.mk_str _
 ·cases h
theorem B89:B0 a8 GX 58 UA:=by
 refine B0.fix (pf:=Of) _ (I2 (fn:=ae3) (by kernel_rfl) (by kernel_rfl) (by kernel_rfl) ?_);intro args ret A h;unfold Of at h;split at h
 ·rename_i s p;obtain⟨i,h⟩:=B8 h;obtain⟨k,h⟩:=B8 h;obtain⟨l,h⟩:=B8 h;obtain⟨rfl,rfl⟩:=I7 h;refine⟨rfl,rfl,λC G m I w B F r q=>?_⟩;obtain⟨U,V,rfl,y,z⟩:=q.arr2;obtain⟨g,rfl,rfl⟩:=y.inv_str;obtain⟨d,rfl,a⟩:=z.inv_str;have H:=L6 i;have c:p=isl:=by simpa[Yi] using k
  have D:=w9 l;have f:=zero_of_info (P:=a8) (t:=Tryz.lays153_ren.t 116) (v:=.agg (Array.replicate 256 (.bool false))) (n:=256) (by kernel_rfl);subst c;have u:d.size=3:=by have:=ad4 d;rw[a] at this;exact this
  have x:=ad4 g;refine(Any.strings_IndexAny_long Tryz.lays153 f.1 f.2 g d w (by omega) (by omega) (by omega) (by omega) ?_).mono ?_
  ·rw[a];intro j b o;have:b∈isl:=List.mem_of_getElem? o
   revert b
   simp only[isl,t7,ad0,or_false];rintro b _ (rfl|rfl|rfl)<;>decide
  ·rintro e w' ⟨rfl,rfl⟩;rw[a];exact⟨_,rfl,((ac4 _ _).alloc (j8 _) _).alloc (by simp) _,VP.mk_int _ _⟩
 ·cases h
end
section
open Go Go.Proofs
set_option maxRecDepth 100000
theorem ST{R:Type}{a:Bool->Option R}(n:Int):SQ LF n a=a (ltI 8 n):=rfl
theorem Aa2{R:Type}{a:Bool->Option R}(r:Int):HZ LF r a=a (IB r):=by
 have b:ltN r 55296=(!ltI r 0&&ltI r 55296):=by
  rw[j1,E6,j5,p9,Ni,Km];omega
 have c:(ltI 57343 r&&ltN r 1114112)=(ltI 57343 r&&!ltI 1114111 r):=by
  rw[j1,j5,j5,E6,p9,Ni,Km];omega
 unfold HZ Jp IB;rw[b,c];cases ltI r 0<;>cases ltI r 55296<;>cases ltI 57343 r<;>cases ltI 1114111 r<;>rfl
theorem Cv7(b:UInt8):g8 isl b=irn (b.toNat:Int):=by
 by_cases a:b=47
 ·subst a;rfl
 ·by_cases d:b=63
  ·subst d;rfl
  ·by_cases f:b=35
   ·subst f;rfl
   ·have n:∀c:UInt8,b≠c->(c==b)=false:=λc h=>by rw[beq_eq_false_iff_ne];exact ad8 h
    have e:∀c:UInt8,b≠c->¬(b.toNat:Int)=(c.toNat:Int):=λc h q=>h (o0.1 (by omega))
    have g:¬(b.toNat:Int)=47:=e 47 a;have i:¬(b.toNat:Int)=63:=e 63 d;have j:¬(b.toNat:Int)=35:=e 35 f;unfold irn;rw[if_neg g,if_neg i,if_neg j];simp[isl,g8,n _ a,n _ d,n _ f]
theorem C39{l:By}{x:UInt8}(h:∀b∈l,b.toNat<128)(d:128<=x.toNat):g8 l x=-1:=by
 have e:=Kh x l;have c:l.contains x=false:=by
  rw[Bool.eq_false_iff];intro a;have:=h x (by simpa using a);omega
 rw[c,f9,Km] at e;have:=ac8 l x;omega
theorem Bu7{r:Int}(g:IB r=true)(h:128<=r):2<=(v8 r).data.toList.length/\(v8 r).data.toList.length<=4/\128<=((v8 r).data.toList.getD ((v8 r).data.toList.length-1) 0).toNat:=by
 have a:Utf8.valid r=true:=by
  rw[validRune_eq];unfold validRune;simp only[IB,ad6,j5,E6,Km] at g;exact decide_eq_true (by omega)
 obtain⟨b,c,d⟩:=encode_facts r a h;have f:=ad4 (v8 r);rw[<-f];refine⟨b,c,?_⟩;have e:=d (by omega);rw[m9,o5 (by omega),ad2];exact e
theorem Bl1(r:Int)(h:ltN r 1114112=true):∃v H,HS LF r (λk=>rv (.s (.int .i64 k)) []) (λk I=>rv (.s (.int .i64 k)) [.iter [47,63,35] I])=rv v H/\v.stab [] H = .s (.int .i64 (irn r)):=by
 obtain⟨A,M⟩:=E6.1 h;have B:=C1;unfold HS;rw[A6,f9,cond_true];unfold Jk;by_cases p:r<128
 ·obtain⟨n,rfl⟩:=v7 A;have e:wu8 (n:Int)=(n:Int):=L0;have f:u8n (n:Int)=x7 n:=by unfold u8n;simp
  have g:(((x7 n).toNat:Nat):Int)=(n:Int):=by simp;omega
  rw[A8,cond_true,e,E4,f];have o:=Cv7 (x7 n);rw[g] at o;rw[<-o];exact⟨_,_,rfl,rfl⟩
 ·rw[A6,cond_false,Bw5 (by omega)];by_cases t:r=65533
  ·subst t;obtain⟨m,i⟩:∃m,LF=m+1+1+1+1:=⟨LF-4,by omega⟩
   have w:j9 ⟨j6 ([47,63,35]:List UInt8)⟩ 0=(47,1):=rfl;have x:j9 ⟨j6 ([47,63,35]:List UInt8)⟩ 1=(63,1):=rfl;have y:j9 ⟨j6 ([47,63,35]:List UInt8)⟩ 2=(35,1):=rfl;have go:∀(R:Type) (c:Int->Nat->Option R) (a:Nat->Option R),X7 LF LF 0 c a=a 3:=λR c a=>by
    have L:X7 LF (m+1) 3 c a=a 3:=by rw[Dj];rfl
    have K:X7 LF (m+1+1) 2 c a=a 3:=by rw[Dj];unfold Cn;rw[y];exact L
    have J:X7 LF (m+1+1+1) 1 c a=a 3:=by rw[Dj];unfold Cn;rw[x];exact K
    have d:X7 LF (m+1+1+1+1) 0 c a=a 3:=by rw[Dj];unfold Cn;rw[w];exact J
    rw[<-i] at d;exact d
   rw[go];exact⟨_,_,rfl,rfl⟩
  ·rw[show(r==(65533:Int))=false by simpa using t,cond_false];cases F:IB r with
   | false=>exact⟨_,_,rfl,rfl⟩
   | true=>
    obtain⟨O,P,G⟩:=Bu7 F (by omega);simp only[vl,f6,cond_false];generalize (v8 r).data.toList=l at *;obtain⟨m,i⟩:∃m,LF=m+1:=⟨LF-1,by omega⟩
    have z:A1 ((l.length:Int)-1)=((l.length-1:Nat):Int):=by rw[A7];omega
    have go:∀(R:Type) (c:Int->Option R) (a:Unit->Option R),a ()=c (-1)->Fa LF LF l ((l.length-1:Nat):Int) c a=c (-1):=λR c a C=>by
     have d:Fa LF (m+1) l ((l.length-1:Nat):Int) c a=c (-1):=by
      rw[AU];unfold Le;by_cases N:l.length=4
      ·rw[A6];exact C
      ·rw[A8,E4,E4,D0,D0];simp only[vl,cond_true];have D:(([47,63,35]:List UInt8).getD (l.length-1) 0).toNat<128:=by
        have:l.length=2\/l.length=3:=by omega
        rcases this with q|q<;>rw[q]<;>decide
       have j:((((([47,63,35]:List UInt8).getD (l.length-1) 0).toNat:Nat):Int)!=(((l.getD (l.length-1) 0).toNat:Nat):Int))=true:=by
        rw[bne_iff_ne];omega
       have f:A1 (((l.length-1:Nat):Int)+1)=((l.length:Nat):Int):=by rw[A7];omega
       have g:cut ([47,63,35]:List UInt8) ((l.length:Nat):Int) 3=([47,63,35]:List UInt8).drop l.length:=by
        rw[show(3:Int)=((3:Nat):Int) from rfl,Gv];rfl
       have u:=(l.getD (l.length-1) 0).toNat_lt;rw[j,cond_true,f,H9,cond_true,g,D9 (by simp;omega),cond_true,E4,cond_true,Ho,C39 (λb u=>?_) G]
       ·rfl
       ·have:=j7 u;simp only[t7,ad0,or_false] at this;rcases this with rfl|rfl|rfl<;>decide
     rw[<-i] at d;exact d
    rw[z,go _ _ _ rfl];exact⟨_,_,rfl,rfl⟩
theorem Bo8:B0 a8 GX 76 Wu:=by
 refine B0.fix (pf:=Qk) _ (I4 [] (C₀:=Xn LF) (L1.ok (l:=[]) rfl trivial) (H7 rfl (by kernel_rfl)) follows ?_);intro args ret a h;unfold Qk at h;split at h
 ·rename_i n;obtain⟨rfl,rfl⟩:=I7 h;have e:=(Ay3 LF noY () 0 n).trans (ST n);exact⟨rfl,rfl,rfl,1,_,_,e,rfl⟩
 ·cases h
theorem B97:B0 a8 GX 101 EB:=by
 refine B0.fix (pf:=Xa) _ (I4 [] (C₀:=Ay LF) (L1.ok (l:=[]) rfl trivial) (H7 rfl (by kernel_rfl)) follows ?_);intro args ret a h;unfold Xa at h;split at h
 ·rename_i n;obtain⟨rfl,rfl⟩:=I7 h;have e:=(Bn3 LF noY () 0 n).trans (Aa2 n);exact⟨rfl,rfl,rfl,1,_,_,e,rfl⟩
 ·cases h
theorem B92:B0 a8 GX 77 Mm:=λargs ret a h=>by
 have:K7 (Mm args)=none:=by unfold Mm JI;split<;>rfl
 rw[this] at h;cases h
theorem B91:B0 a8 GX 75 DV:=by
 refine B0.fix (pf:=Wt) _ (I4 [] (C₀:=K5 LF) (L1.ok (l:=[(73,Sp),(101,EB)]) rfl ⟨TP,B97,trivial⟩) (H7 rfl (by kernel_rfl)) follows ?_);intro args ret f h;unfold Wt at h;split at h
 ·rename_i p r;obtain⟨a,h⟩:=B8 h;obtain⟨b,h⟩:=B8 h;obtain⟨rfl,rfl⟩:=I7 h;obtain rfl:p=isl:=by simpa[Yi] using a
  obtain⟨d,H,e,c⟩:=Bl1 r b;exact⟨rfl,rfl,rfl,1,d,H,(Bl0 LF noY () 0 r).trans e,c⟩
 ·cases h
theorem HU:∀(w:Nat) (l:By),w<=l.length->(∀i,i<w->U8 (l.getD i 0)=false)->J3 l=w+J3 (l.drop w)
 | 0,l,_,_=>by simp
 | w+1,[],h,_=>by simp at h
 | w+1,b::l,h,hb=>by
  have a:=hb 0 (by omega);rw[m6] at a;have d:=HU w l (by simpa using h) (λi c=>by have:=hb (i+1) (by omega);rwa [ab7] at this);rw[Gl,a,List.drop_succ_cons];simp only[j0,if_false];omega
theorem ZK(s:By)(O:s.length<=8):∀(f m n:Nat),s.length-m<=f->m<=s.length->f<n->∃H t,∀(R:Type) (j:Int->List Blk->Option R) (k:By->Nat->Option R),
  Jj LF n s m j k=if J3 (s.drop m)<(s.drop m).length then j ((m+J3 (s.drop m):Nat):Int) H else k s t:=by
 intro f
 induction f with
 | zero=>
  intro m n G K L;obtain⟨n,rfl⟩:∃q,n=q+1:=⟨n-1,by omega⟩
  refine⟨[],m,λR j k=>?_⟩;rw[Ap];unfold W5;rw[decide_eq_false (by omega),cond_false,g7 (by omega),if_neg (by simp)]
 | succ f z=>
  intro m n G K L;obtain⟨n,rfl⟩:∃q,n=q+1:=⟨n-1,by omega⟩
  by_cases a:m<s.length
  ·have F:=Lib.decodeL_drop ⟨s.toArray⟩ m;have h:j9 ⟨j6 s⟩ m=s7 (s.drop m):=by rw[<-F]
   have p:=D1 s m a;have N:(s.drop m).length=s.length-m:=d9;generalize M:s.getD m 0=b at p;by_cases o:b.toNat<128
   ·have y:s7 (s.drop m)=(b.toNat,1):=by rw[p];exact Lib.decodeL_ascii b _ o
    have l:=Cv8 b;cases g:U8 b with
    | true=>
     rw[g,f6] at l;have u:J3 (s.drop m)=0:=by rw[p,Gl,g];rfl
     refine⟨[Blk.iter s (m+1)],m,λR j k=>?_⟩;rw[Ap];unfold W5;rw[decide_eq_true a,h,y,u,R7];simp only[vl,cond_true];rw[show Yi ([47,63,35]:List UInt8)=true from rfl,cond_true,E6.2 ⟨by omega,by omega⟩,cond_true,l];rfl
    | false=>
     rw[g,f9] at l;have u:J3 (s.drop m)=J3 (s.drop (m+1))+1:=by rw[p,Gl,g];rfl
     have v:(s.drop (m+1)).length=s.length-(m+1):=d9;obtain⟨H,t,e⟩:=z (m+1) n (by omega) (by omega) (by omega);refine⟨H,t,λR j k=>?_⟩;rw[Ap];unfold W5;rw[decide_eq_true a,h,y];simp only[vl,cond_true];rw[show Yi ([47,63,35]:List UInt8)=true from rfl,cond_true,E6.2 ⟨by omega,by omega⟩,cond_true,l,f6,cond_false,e,u];by_cases q:J3 (s.drop (m+1))<(s.drop (m+1)).length
     ·rw[if_pos q,R7,show m+1+J3 (s.drop (m+1))=m+(J3 (s.drop (m+1))+1) by omega]
     ·rw[if_neg q,F8]
   ·obtain⟨A,B,C,D,x⟩:=Cu4 b (s.drop (m+1)) (by omega);rw[<-p] at A B C D x;have v:(s.drop (m+1)).length=s.length-(m+1):=d9;generalize s7 (s.drop m)=d at *;obtain⟨c,w⟩:=d;simp only at A B C D x;have r:=HU w (s.drop m) (by omega) (λi I=>B35 (x i I));rw[ab3] at r;have J:(s.drop (m+w)).length=s.length-(m+w):=d9;have l:ltI (irn (c:Int)) 0=true:=by rw[Bw5 (by omega)];rfl
    obtain⟨H,t,e⟩:=z (m+w) n (by omega) (by omega) (by omega);refine⟨H,t,λR j k=>?_⟩;rw[Ap];unfold W5;rw[decide_eq_true a,h];simp only[vl,cond_true];rw[show Yi ([47,63,35]:List UInt8)=true from rfl,cond_true,E6.2 ⟨by omega,by omega⟩,cond_true,l,f6,cond_false,e,r];by_cases q:J3 (s.drop (m+w))<(s.drop (m+w)).length
    ·rw[if_pos q,R7,show m+w+J3 (s.drop (m+w))=m+(w+J3 (s.drop (m+w))) by omega]
    ·rw[if_neg q,F8]
  ·refine⟨[],m,λR j k=>?_⟩;rw[Ap];unfold W5;rw[decide_eq_false a,cond_false,g7 (by omega),if_neg (by simp)]
theorem Bk8(s:By)(h:s.length<=8):∃r H,SK LF s (λc a=>rv (.s (.int .i64 c)) a)=rv r H/\r.stab [] H = .s (.int .i64 (s8 s isl)):=by
 have b:=C1;obtain⟨H,d,e⟩:=ZK s h s.length 0 LF (by omega) (by omega) (by omega);unfold SK;rw[A6,cond_false,e,Hx,z7,y7];by_cases q:J3 s<s.length
 ·rw[if_pos q,if_pos q];exact⟨_,_,rfl,rfl⟩
 ·rw[if_neg q,if_neg q];exact⟨_,_,rfl,rfl⟩
theorem B90:B0 a8 GX 58 UB:=by
 refine B0.fix (pf:=Og) _ (I4 [] (C₀:=Fg LF) (L1.ok (l:=[(75,DV),(76,Wu),(77,Mm)]) rfl ⟨B91,Bo8,B92,trivial⟩) (H7 rfl (by kernel_rfl)) follows ?_);intro args ret f h;unfold Og at h;split at h
 ·rename_i s p;obtain⟨a,h⟩:=B8 h;obtain⟨b,h⟩:=B8 h;obtain⟨rfl,rfl⟩:=I7 h;obtain rfl:p=isl:=by simpa[Yi] using a
  obtain⟨d,H,e,c⟩:=Bk8 s (w9 b);exact⟨rfl,rfl,rfl,1,d,H,(Bk7 LF noY () 0 s).trans e,c⟩
 ·cases h
theorem Co{c:Bool}{t:Tr}(h:c=true):K7 (.need c t)=K7 t:=by subst h;rfl
theorem Cq7:B0 a8 GX 58 OD:=λargs ret c h=>by
 have a:=B89 args ret c;have b:=B90 args ret c;unfold OD at h;unfold UA at a;unfold UB at b;generalize C2 [[0],[0]] args=l at h a b;unfold TZ at h;split at h
 ·rename_i s p;obtain⟨e,h⟩:=B8 h;obtain⟨d,h⟩:=B8 h;by_cases f:s.length<=8
  ·refine b ?_;unfold Og;rw[Co d,Co (ab2 f)];exact h
  ·refine a ?_;unfold Of;rw[Co e,Co d,Co (ab2 (by omega))];exact h
 ·cases h
section
theorem Cp3:B0 a8 GX 112 A22:=xf [] (PK LF) CY rfl ⟨A09,trivial⟩ rfl (by kernel_rfl) follows λargs=>by
 unfold CY;split
 ·rename_i s p;exact λa=>⟨rfl,rfl,rfl,_,_,(Bx5 LF noY () 0 s p).trans (Am1 s p a),rfl⟩
 ·trivial
theorem C14:B0 a8 GX 83 Br3:=xf [] (Ag6 LF) OH rfl ⟨Cp3,trivial⟩ rfl (by kernel_rfl) follows λargs=>by
 unfold OH;split
 ·rename_i s p;exact λa=>⟨rfl,rfl,rfl,_,_,(Cm1 LF noY () 0 s p).trans (Bm0 s p a),rfl⟩
 ·trivial
theorem CI:B0 a8 GX 44 Sr:=xf [] (PT LF) DY rfl trivial rfl (by kernel_rfl) follows λargs=>by
 unfold DY;split
 ·rename_i s;exact⟨rfl,rfl,rfl,_,_,(B56 LF noY () 0 s).trans (Az4 s ),rfl⟩
 ·trivial
theorem Ba2:B0 a8 GX 22 ON:=xf [] (PU LF) DZ rfl ⟨CI,trivial⟩ rfl (by kernel_rfl) follows λargs=>by
 unfold DZ;split
 ·rename_i s;exact⟨rfl,rfl,rfl,_,_,(B59 LF noY () 0 s).trans (Az9 s ),rfl⟩
 ·trivial
theorem C16:B0 a8 GX 24 Br5:=xf [] (Ag8 LF) OJ rfl ⟨CI,trivial⟩ rfl (by kernel_rfl) follows λargs=>by
 unfold OJ;split
 ·rename_i n o j k v4 a b c d f g h i l m;exact(let⟨r,H,e,q⟩:=Cm7 n o j k v4 a b c d f g h i l m ; ⟨rfl,rfl,rfl,r,H,(Cm6 LF noY () 0 n o j k v4 a b c d f g h i l m).trans e,q⟩)
 ·trivial
theorem C18:B0 a8 GX 55 Br7:=xf [] (Y4 LF) OM rfl ⟨TP,trivial⟩ rfl (by kernel_rfl) follows λargs=>by
 unfold OM;split
 ·rename_i s;exact λa=>⟨rfl,rfl,rfl,_,_,(Cn4 LF noY () 0 s).trans (Bn1 s a),rfl⟩
 ·trivial
theorem C17:B0 a8 GX 82 Br6:=xf [0,0] (Rf LF) OK rfl trivial rfl (by kernel_rfl) follows λargs=>by
 unfold OK;split
 ·rename_i s;exact λa=>⟨rfl,rfl,rfl,_,_,(Cm9 LF noY () 0 s).trans (Bm3 s a),rfl⟩
 ·trivial
theorem B94:B0 a8 GX 60 UD:=xf [0,0] (V7 LF) Wy rfl ⟨A99,TO,TP,B75,C14,C17,CI,trivial⟩ rfl (by kernel_rfl) follows λargs=>by
 unfold Wy;split
 ·rename_i o p k l v4 b c d f g h i j m n a;exact λt=>λu=>λv=>λw=>λx=>(let⟨r,H,e,q⟩:=Bm8 o p k l v4 b c d f g h i j m n a t u v w x;⟨rfl,rfl,rfl,r,H,(Bm7 LF noY () 0 o p k l v4 b c d f g h i j m n a).trans e,q⟩)
 ·trivial
theorem B95:B0 a8 GX 40 Ad7:=xf [0,0] (Rg LF) OL rfl ⟨B88,C18,B78,Ba2,B72,Cq7,TO,B94,trivial⟩ rfl (by kernel_rfl) follows λargs=>by
 unfold OL;split
 ·rename_i s;exact λa=>(let⟨r,H,e,q⟩:=Cn2 s a;⟨rfl,rfl,rfl,r,H,(Cn1 LF noY () 0 s).trans e,q⟩)
 ·trivial
theorem Ab4:B0 a8 GX 13 Mn:=xf [0,0] (ER LF) Wx rfl ⟨B95,trivial⟩ rfl (by kernel_rfl) follows λargs=>by
 unfold Wx;split
 ·rename_i s;exact λa=>(let⟨r,H,e,q⟩:=Bm5 s a;⟨rfl,rfl,rfl,r,H,(Bm4 LF noY () 0 s).trans e,q⟩)
 ·trivial
theorem Ba3:B0 a8 GX 42 OO:=xf [] (PW LF) EA rfl ⟨Ba2,Cz8,Co9,trivial⟩ rfl (by kernel_rfl) follows λargs=>by
 unfold EA;split
 ·rename_i n o j k v4 a b c d f g h i l m;exact λp=>λt=>λu=>λv=>(let⟨r,H,e,q⟩:=B61 n o j k v4 a b c d f g h i l m p t u v;⟨rfl,rfl,rfl,r,H,(B60 LF noY () 0 n o j k v4 a b c d f g h i l m).trans e,q⟩)
 ·trivial
theorem Bp0:B0 a8 GX 16 JK:=xf [] (Xp LF) Qm rfl ⟨Ba3,B95,trivial⟩ rfl (by kernel_rfl) follows λargs=>by
 unfold Qm;split
 ·rename_i n o j k v4 a b c d f g h i l m;exact λp=>λt=>λu=>λv=>(let⟨r,H,e,q⟩:=A01 n o j k v4 a b c d f g h i l m p t u v;⟨rfl,rfl,rfl,r,H,(A00 LF noY () 0 n o j k v4 a b c d f g h i l m).trans e,q⟩)
 ·trivial
theorem C15:B0 a8 GX 15 Ad6:=xf [] (Ag7 LF) OI rfl ⟨Bp0,Ba3,trivial⟩ rfl (by kernel_rfl) follows λargs=>by
 unfold OI;split
 ·rename_i n o j k v4 a b c d f g h i l m;exact λp=>λt=>λu=>λv=>(let⟨r,H,e,q⟩:=Cm5 n o j k v4 a b c d f g h i l m p t u v;⟨rfl,rfl,rfl,r,H,(Cm4 LF noY () 0 n o j k v4 a b c d f g h i l m).trans e,q⟩)
 ·trivial
end
end
section
open Go Go.Proofs Go.RowKit
set_option maxRecDepth 100000
abbrev Nt(m n:ByteArray)(i:Int)(j:ByteArray)(v4 a b c d e f g h k:Int)(l:ByteArray):Array Value:=#[.string m,.string n,.int .i64 i,.string j,.int .u32 v4,.int .u16 a,.int .u16 b,.int .u16 c,.int .u16 d,.int .u16 e,.int .u16 f,.int .u16 g,.int .u16 h,.int .i64 k,.string l]
abbrev Vk:ByteArray:=⟨#[104,116,116,112]⟩
abbrev Nr:ByteArray:=⟨#[104,116,116,112,115]⟩
abbrev sWs:ByteArray:=⟨#[119,115]⟩
abbrev Ax6:ByteArray:=⟨#[119,115,115]⟩
abbrev It:MapEntry:={ key:=.string Vk,val:=.string Nr,born:=0 }
abbrev Xt:MapEntry:={ key:=.string sWs,val:=.string Ax6,born:=1 }
theorem Su(w:World)(o:Obj):(w.alloc o).heap[w.heap.size]? = some o:=(MapKept.heap_alloc w o).1
theorem JO(w:World)(o p:Obj):({ (w.alloc o) with heap:=(w.alloc o).heap.setIfInBounds w.heap.size p }:World)=w.alloc p:=by
 have e:(w.heap.push o).setIfInBounds w.heap.size p=w.heap.push p:=by
  apply ac6.1;rw[Array.toList_setIfInBounds,ac0,ac0,<-m5,List.set_append_right _ _ (j8 _),ac3];rfl
 show({ w with heap:=(w.heap.push o).setIfInBounds w.heap.size p }:World) = { w with heap:=w.heap.push p }
 rw[e]
theorem Cw1{P:Program}{t k e:TypeId}(b:P.underlying t=some (.map k e))(a:P.underlying k=some .string)(w:World):(ab1 t (.map (some w.heap.size)) (.string Vk) (.string Nr)).run P (w.alloc (.map #[] 0)) = .ok () (w.alloc (.map #[It] 1)):=by rw[run_mapUpdate_first (w:=w.alloc (.map #[] 0)) t k e w.heap.size 0 Vk (.string Nr) b a (Su w _),JO]
theorem Cw2{P:Program}{t k e:TypeId}(f:P.underlying t=some (.map k e))(b:P.underlying k=some .string)(w:World):(ab1 t (.map (some w.heap.size)) (.string sWs) (.string Ax6)).run P (w.alloc (.map #[It] 1)) = .ok () (w.alloc (.map #[It,Xt] 2)):=by have a:=Su w (.map #[It] 1);have d:ab8 .string (.string sWs) (#[It]:Array MapEntry).toList 0=some none:=rfl;have c:(ad9 false 10000 k (.string sWs)).run P (w.alloc (.map #[It] 1)) = .ok () (w.alloc (.map #[It] 1)):=ab4 (k:=.string sWs) b (by simp[af1]) false 9999;simp only[ab1,Sem.run_bind,run_underlying f,w6 a,c,y4 b d,MapKept.run_setObj_map _ a,ab5];exact congrArg (Result.ok ()) (JO w (.map #[It] 1) (.map #[It,Xt] 2))
theorem Bx8{P:Program}{t k e:TypeId}(g:P.underlying t=some (.map k e))(c:P.underlying k=some .string)(w:World):(y5 t (.map (some w.heap.size)) (.string Vk) false).run P (w.alloc (.map #[It,Xt] 2)) = .ok (.string Nr) (w.alloc (.map #[It,Xt] 2))/\(y5 t (.map (some w.heap.size)) (.string sWs) false).run P (w.alloc (.map #[It,Xt] 2)) = .ok (.string Ax6) (w.alloc (.map #[It,Xt] 2)):=by
 have d:=Su w (.map #[It,Xt] 2);have h:ab8 .string (.string Vk) (#[It,Xt]:Array MapEntry).toList 0=some (some (0,.string Nr)):=rfl;have a:ab8 .string (.string sWs) (#[It,Xt]:Array MapEntry).toList 0=some (some (1,.string Ax6)):=rfl;have f:∀s b,(ad9 b 10000 k (.string s)).run P (w.alloc (.map #[It,Xt] 2)) = .ok () (w.alloc (.map #[It,Xt] 2)):=λs b=>ab4 (k:=.string s) c (by simp[af1]) b 9999
 constructor
 ·simp[y5,run_underlying g,w6 d,f,y4 c h,ab5]
 ·simp[y5,run_underlying g,w6 d,f,y4 c a,ab5]
theorem size_alloc(w:World)(o:Obj):(w.alloc o).heap.size=w.heap.size+1:=ad5 ..
theorem VZ(w:World)(A B C D:Obj):((((w.alloc A).alloc B).alloc C).alloc D).heap[w.heap.size+1]? = some B:=by
 have e:∀(w:World) (o:Obj) (i:Nat),i<w.heap.size->(w.alloc o).heap[i]? = w.heap[i]?:=λw o i h=>by
  show(w.heap.push o)[i]? = w.heap[i]?;rw[Array.getElem?_push,if_neg (Nat.ne_of_lt h)]
 rw[e _ _ _ (by simp only[size_alloc];omega),e _ _ _ (by simp only[size_alloc];omega),<-size_alloc w A];exact Su (w.alloc A) B
theorem VC(w:World)(o:Obj)(n:Nat):(w.alloc o).drewN n=(w.drewN n).alloc o:=rfl
theorem Bg8(w:World):Calls a8 44 #[.string Vk] w λe w'=>e = .returned (.int .i64 80)/\w'=w:=by
 go_enter x6,aa9
 go_wp2
 go_ret
 exact⟨rfl,rfl⟩
theorem Ap0(w:World):Calls a8 44 #[.string Nr] w λe w'=>e = .returned (.int .i64 443)/\w'=w:=by
 go_enter x6,aa9
 go_wp2
 go_ret
 exact⟨rfl,rfl⟩
theorem Ci2(w:World):Calls a8 44 #[.string sWs] w λe w'=>e = .returned (.int .i64 80)/\w'=w:=by
 go_enter x6,aa9
 go_wp2
 go_ret
 exact⟨rfl,rfl⟩
theorem Bz7(w:World):Calls a8 44 #[.string Ax6] w λe w'=>e = .returned (.int .i64 443)/\w'=w:=by
 go_enter x6,aa9
 go_wp2
 go_ret
 exact⟨rfl,rfl⟩
theorem Bw4(a o l n:ByteArray)(k v4 b c d f g h i j m:Int)(q:∀w,Calls a8 44 #[.string a] w λe w'=>e = .returned (.int .i64 80)/\w'=w)(w:World):Calls a8 24 #[.agg (Nt a o k l v4 b c d f g h i j m n)] w λe w'=>e = .returned (.bool true)/\w'=w.alloc (.cells (Nt a o k l v4 b c d f g h i j m n) 29):=by
 have p:∀args w,(callFunc 44 args).run a8 w = .ok (.enter 44 args) w:=enters_of x6 (by kernel_rfl) rfl
 go_enter af8,Tryz.ntmps24
 go_wp2_with (go_at_fn 44;refine(q _).mono ?_;rintro e w' ⟨rfl,r⟩;rw[r])
 go_ret
 exact⟨rfl,rfl⟩
theorem A92(x g y u v:ByteArray)(t v4 i j k l m n o p c f:Int)(L:c=443->f=-1)(M:¬c=443->f=c)
  (b:∀w,Calls a8 24 #[.agg (Nt x y t u v4 i j k l m n o p c v)] w λe w'=>e = .returned (.bool true)/\w'=w.alloc (.cells (Nt x y t u v4 i j k l m n o p c v) 29))
  (J:∀w:World,(y5 52 (.map (some w.heap.size)) (.string x) false).run a8 (w.alloc (.map #[It,Xt] 2)) = .ok (.string g) (w.alloc (.map #[It,Xt] 2)))
  (d:∀w,Calls a8 44 #[.string g] w λe w'=>e = .returned (.int .i64 443)/\w'=w) (w:World) :
  Calls a8 28 #[.agg (Nt x y t u v4 i j k l m n o p c v)] w λe w'=>e = .returned (.agg (Nt g y t u v4 i j k l m n o p f v))/\Below w.heap.size w w':=by
 have z:∀args w,(callFunc 24 args).run a8 w = .ok (.enter 24 args) w:=enters_of af8 (by kernel_rfl) rfl;have K:∀args w,(callFunc 44 args).run a8 w = .ok (.enter 44 args) w:=enters_of x6 (by kernel_rfl) rfl;have H:=@run_makeMap a8;have q:∀(w:World) A B C,(((w.alloc A).alloc B).alloc C).heap.size=w.heap.size+1+1+1:=λw A B C=>by simp only[World.alloc,ad5]
 have D:∀(w:World) A B C,_:=λw A B C=>q w A B C▸Cw1 (P:=a8) w8 x3 (((w.alloc A).alloc B).alloc C)
 have F:∀(w:World) A B C,_:=λw A B C=>q w A B C▸Cw2 (P:=a8) w8 x3 (((w.alloc A).alloc B).alloc C)
 have G:∀(w:World) A B C,_:=λw A B C=>q w A B C▸J (((w.alloc A).alloc B).alloc C)
 clear J
 go_enter Tryz.func28,Tryz.ntmps28
 go_wp2_with (go_at_fn 24;refine(b _).mono ?_;rintro e w' ⟨rfl,N⟩;rw[N])
 clear b H z
 go_quiet (first|(go_at_call 44;exact Calls.quiet_of_same (d _)))
 obtain⟨h,a⟩:∃h,h=w.drewN nq:=⟨_,rfl⟩
 have r:w.heap.size=h.heap.size:=by rw[a];rfl
 have I:Below h.heap.size w h:=by rw[<-r,a];exact⟨rfl,rfl,rfl,j8 _,λ_ _=>rfl⟩
 simp only[VC,<-a,r];clear D F G q a
 go_wp2
 all_goals (try simp only[Exit.inBlock,Exit.then])
 ·have e:=L (by first|rfl|simpa using ‹(c==443)=true›);subst e;refine bodyPost_ret (results_cell_row rfl _ _ (h.heap.size+1) 29 _ _ _ rfl (VZ _ _ _ _ _) ac5 rfl (by kernel_rfl)) rfl ⟨rfl,?_⟩;rw[r];exact(((I.alloc (j8 _) _).alloc (by simp only[size_alloc];omega) _).alloc (by simp only[size_alloc];omega) _).alloc (by simp only[size_alloc];omega) _
 ·have e:=M (by first|assumption|simpa using ‹(c==443)=false›);subst e;refine bodyPost_ret (results_cell_row rfl _ _ (h.heap.size+1) 29 _ _ _ rfl (VZ _ _ _ _ _) ac5 rfl (by kernel_rfl)) rfl ⟨rfl,?_⟩;rw[r];exact(((I.alloc (j8 _) _).alloc (by simp only[size_alloc];omega) _).alloc (by simp only[size_alloc];omega) _).alloc (by simp only[size_alloc];omega) _
end
section
open Go Go.Proofs
set_option maxRecDepth 100000
section
variable {Z R : Type} (L : Nat) (Q : F6) (Y : Yh Z) (s : Z) (k : Out -> St Z -> Option R)
noncomputable def Ag9(L:Nat):Cfg:=B7 L [28] (A4 []) [(24,Br5),(44,Sr)] (A4 [(6,[2]),(5,[1,0]),(4,[1,0,15]),(3,[1,0]),(2,[2]),(1,[1,0,2]),(0,[1,0])]) [24,44] (A4 []) (some [2]) [] [] []
noncomputable def Cn5{R:Type}(L:Nat)(f g:By)(h:Int)(i:By)(j l m n u8 o a b c d:Int)(e:By)(p:By->By->Int->By->Int->Int->Int->Int->Int->Int->Int->Int->Int->Int->By->(List Blk)->Option R):Option R:=cond (not (Fu f)) (p f g h i j l m n u8 o a b c d e [(bU f g h i j l m n u8 o a b c d e),(bU f g h i j l m n u8 o a b c d e)]) none
theorem Cn6(d:Nat)(u0 u1 u2 u3 u4 u5 u6 u7 u8 u9 u10 u11 u12 u13 u14):evC (Ag9 L) (d+1) Z Y 28 [(gU u0 u1 u2 u3 u4 u5 u6 u7 u8 u9 u10 u11 u12 u13 u14)] [] s=Cn5 L u0 u1 u2 u3 u4 u5 u6 u7 u8 u9 u10 u11 u12 u13 u14 (λh i j l m n o p r8 q b c e f g a=>some ((gU h i j l m n o p r8 q b c e f g),a,s)):=by refine(evE (fn:=Tryz.f28) (by kernel_rfl)).trans ?_;generalize evC (Ag9 L) d=Q;unfold Cn5;kernel_rfl
end
end
section
open Go Go.Proofs Go.RowKit
set_option maxRecDepth 100000
theorem Cv6{Γ:Ctx}{sh:Nat->Option Shp}{w:World}{V:Value}{I J:By}{D:Int}{F:By}{v4 t u v x y z B C G:Int}{H:By}(h:VP Γ sh w (gU I J D F v4 t u v x y z B C G H) V) :
  ∃d e b c:ByteArray,I=d.data.toList/\J=e.data.toList/\F=b.data.toList/\H=c.data.toList/\V = .agg (Nt d e D b v4 t u v x y z B C G c):=by
 obtain⟨A,rfl,hA,a⟩:=h.inv_agg;have hs:A.size=15:=hA;obtain⟨_,e0,T⟩:=a 0 (show 0<15 by omega);obtain⟨_,K,U⟩:=a 1 (show 1<15 by omega);obtain⟨_,L,W⟩:=a 2 (show 2<15 by omega);obtain⟨_,M,X⟩:=a 3 (show 3<15 by omega);obtain⟨_,N,Y⟩:=a 4 (show 4<15 by omega);obtain⟨_,O,Z⟩:=a 5 (show 5<15 by omega);obtain⟨_,P,q6⟩:=a 6 (show 6<15 by omega);obtain⟨_,Q,q7⟩:=a 7 (show 7<15 by omega);obtain⟨_,R,q8⟩:=a 8 (show 8<15 by omega);obtain⟨_,S,q9⟩:=a 9 (show 9<15 by omega);obtain⟨_,f,m⟩:=a 10 (show 10<15 by omega);obtain⟨_,g,o⟩:=a 11 (show 11<15 by omega);obtain⟨_,j,p⟩:=a 12 (show 12<15 by omega);obtain⟨_,k,q⟩:=a 13 (show 13<15 by omega);obtain⟨_,l,r⟩:=a 14 (show 14<15 by omega);obtain⟨d,rfl,rfl⟩:=VP.inv_str T;obtain⟨e,rfl,rfl⟩:=VP.inv_str U;obtain rfl:=VP.inv_int W;obtain⟨b,rfl,rfl⟩:=VP.inv_str X;obtain rfl:=VP.inv_int Y;obtain rfl:=VP.inv_int Z;obtain rfl:=VP.inv_int q6;obtain rfl:=VP.inv_int q7;obtain rfl:=VP.inv_int q8;obtain rfl:=VP.inv_int q9;obtain rfl:=VP.inv_int m;obtain rfl:=VP.inv_int o;obtain rfl:=VP.inv_int p;obtain rfl:=VP.inv_int q;obtain⟨c,rfl,rfl⟩:=VP.inv_str r;refine⟨d,e,b,c,rfl,rfl,rfl,rfl,?_⟩
 congr 1
 apply Array.ext_getElem?;intro i
 match i with
 | 0=>exact e0
 | 1=>exact K
 | 2=>exact L
 | 3=>exact M
 | 4=>exact N
 | 5=>exact O
 | 6=>exact P
 | 7=>exact Q
 | 8=>exact R
 | 9=>exact S
 | 10=>exact f
 | 11=>exact g
 | 12=>exact j
 | 13=>exact k
 | 14=>exact l
 | n+15=>rw[aa7 (by omega),aa7 (by simp)]
theorem Cs9{t:Ctx}{sh:Nat->Option Shp}{w:World}(c d:ByteArray)(p:Int)(a:ByteArray)(v4 e f g i k l m o q:Int)(b:ByteArray) :
  VP t sh w (gU c.data.toList d.data.toList p a.data.toList v4 e f g i k l m o q b.data.toList) (.agg (Nt c d p a v4 e f g i k l m o q b)):=by
 refine VP.mk_agg rfl λj r=>?_
 match j,r with
 | 0,_=>exact⟨_,rfl,VP.mk_str c.data.toList⟩
 | 1,_=>exact⟨_,rfl,VP.mk_str d.data.toList⟩
 | 2,_=>exact⟨_,rfl,VP.mk_int _ _⟩
 | 3,_=>exact⟨_,rfl,VP.mk_str a.data.toList⟩
 | 4,_=>exact⟨_,rfl,VP.mk_int _ _⟩
 | 5,_=>exact⟨_,rfl,VP.mk_int _ _⟩
 | 6,_=>exact⟨_,rfl,VP.mk_int _ _⟩
 | 7,_=>exact⟨_,rfl,VP.mk_int _ _⟩
 | 8,_=>exact⟨_,rfl,VP.mk_int _ _⟩
 | 9,_=>exact⟨_,rfl,VP.mk_int _ _⟩
 | 10,_=>exact⟨_,rfl,VP.mk_int _ _⟩
 | 11,_=>exact⟨_,rfl,VP.mk_int _ _⟩
 | 12,_=>exact⟨_,rfl,VP.mk_int _ _⟩
 | 13,_=>exact⟨_,rfl,VP.mk_int _ _⟩
 | 14,_=>exact⟨_,rfl,VP.mk_str b.data.toList⟩
 | n+15,h=>exact absurd h (by simp)
theorem UQ{s t:ByteArray}(h:s.data.toList=t.data.toList):s=t:=by
 cases s with
 | mk a=>cases t with
  | mk b=>congr 1;exact ac6.1 h
theorem Cx9{s:By}{a:Int}(h:Fu s=true):upP s a=if a=443 then -1 else a:=by
 unfold upP;rw[h,x4];by_cases q:a=443
 ·rw[if_pos q,q];rfl
 ·rw[if_neg q,show(a==443)=false by simpa using q];rfl
theorem C19:B0 a8 GX 28 Br9:=by
 refine B0.fix (pf:=BK) _ (I2 (fn:=Tryz.f28) (by kernel_rfl) (by kernel_rfl) (by kernel_rfl) ?_);intro args ret B h;unfold BK at h;split at h
 ·rename_i J K p H v4 g i j k l m n o d I;obtain⟨v,h⟩:=B8 h;obtain⟨rfl,rfl⟩:=I7 h;refine⟨rfl,rfl,λC G x L w D F z y=>?_⟩;obtain⟨U,rfl,A⟩:=y.arr1;obtain⟨f,c,a,b,rfl,rfl,rfl,rfl,rfl⟩:=Cv6 A;rw[Cx9 v];rcases WJ v with u|u
  ·obtain rfl:f=Vk:=UQ (t:=Vk) u;have W:=A92 Vk Nr c a b p v4 g i j k l m n o d (if d=443 then -1 else d) (λq=>if_pos q) (λq=>if_neg q) (λw=>Bw4 _ _ _ _ _ _ _ _ _ _ _ _ _ _ _ Bg8 w) (λw=>(Bx8 w8 x3 w).1) Ap0 w;refine W.mono ?_;rintro e w' ⟨rfl,r⟩;exact⟨_,rfl,r,Cs9 Nr c p a v4 g i j k l m n o _ b⟩
  ·obtain rfl:f=sWs:=UQ (t:=sWs) u;have W:=A92 sWs Ax6 c a b p v4 g i j k l m n o d (if d=443 then -1 else d) (λq=>if_pos q) (λq=>if_neg q) (λw=>Bw4 _ _ _ _ _ _ _ _ _ _ _ _ _ _ _ Ci2 w) (λw=>(Bx8 w8 x3 w).2) Bz7 w;refine W.mono ?_;rintro e w' ⟨rfl,r⟩;exact⟨_,rfl,r,Cs9 Ax6 c p a v4 g i j k l m n o _ b⟩
 ·cases h
theorem Cn7(g v:By)(p:Int)(q:By)(v4 h i j k l m n o t:Int)(u:By)(w:(not (Fu g))=true) :
  ∃r H,Cn5 LF g v p q v4 h i j k l m n o t u (λD F x G y z A B n8 C b c d e f a=>rv (gU D F x G y z A B n8 C b c d e f) a)=rv r H/\r.stab [] H=gU g v p q v4 h i j k l m n o t u:=by
 unfold Cn5;rw[w];exact⟨_,_,rfl,rfl⟩
end
section
open Go Go.Proofs
set_option maxRecDepth 100000
section
theorem C20:B0 a8 GX 28 Bs0:=xf [] (Ag9 LF) BL rfl ⟨C16,CI,trivial⟩ rfl (by kernel_rfl) follows λargs=>by
 unfold BL;split
 ·rename_i n o j k v4 a b c d f g h i l m;exact λp=>(let⟨r,H,e,q⟩:=Cn7 n o j k v4 a b c d f g h i l m p;⟨rfl,rfl,rfl,r,H,(Cn6 LF noY () 0 n o j k v4 a b c d f g h i l m).trans e,q⟩)
 ·trivial
end
end
section
open Go Go.Proofs Go.RowKit
set_option maxRecDepth 100000
theorem C55:B0 a8 GX 28 A37:=λargs ret d h=>by
 have a:=C19 args ret d;have b:=C20 args ret d;unfold A37 at h;unfold Br9 at a;unfold Bs0 at b;generalize C2 _ args=l at h a b;unfold Br8 at h;split at h
 ·rename_i i w t u v4 j k m n o p q r g v;cases c:Fu i with
  | true=>
   refine a ?_;unfold BK;rw[Co c];exact h
  | false=>
   refine b ?_;unfold BL;rw[Co (by rw[c];rfl)];obtain⟨e,f⟩:=Cn0 c g;rw[e,f] at h;exact h
 ·cases h
end
section
open Go Go.Proofs
set_option maxRecDepth 100000
section
theorem UH:CA (evC (JX LF) 1 Unit noY 12 [] [] ())=true:=by kernel_rfl
theorem Bo1:B0 a8 GX 12 Wg:=
 B0.fix (pf:=Qd) _ (by
  have h:=A12 (C₀:=JX LF) (L1.ok (l:=[(13,Mn),(28,A37),(15,Ad6)]) rfl ⟨Ab4,C55,C15,trivial⟩) (H7 rfl (by kernel_rfl)) follows UH;have e:(λargs:List PV=>match args with|[]=>Tr.ret (.s (.bool true)) []|_=>.fail)=Qd:=by
   funext args
   cases args<;>rfl
  rw[<-e];exact h)
end
end
section
open Go
abbrev hK(p:B2 × Nat):Int:=(p.1.kind:Int)
abbrev hN(p:B2 × Nat):By:=p.1.name
abbrev hV(p:B2 × Nat):Int:=(p.1.v4:Int)
abbrev hA(p:B2 × Nat)(i:Nat):Int:=(p.1.v6.getD i 0:Int)
abbrev e0:By:=[]
end
section
open Go Go.Proofs
set_option maxRecDepth 100000
section
variable {Z R : Type} (L : Nat) (Q : F6) (Y : Yh Z) (s : Z) (k : Out -> St Z -> Option R)
noncomputable def EP(L:Nat):Cfg:=B7 L [23] (A4 []) [] (A4 [(1,[2]),(0,[0])]) [] (A4 []) (some [2]) [] [] []
noncomputable def SD{R:Type}(L:Nat)(b:By)(a:Bool->Option R):Option R:=cond (b==[104,116,116,112]) (a true) (cond (b==[104,116,116,112,115]) (a true) (cond (b==[119,115]) (a true) (a (b==[119,115,115]))))
theorem Bk2(d:Nat)(s0):evC (EP L) (d+1) Z Y 23 [pS s0] [] s=SD L s0 (λa=>some (pB a,[],s)):=by refine(evE (fn:=Tryz.f23) (by kernel_rfl)).trans ?_;generalize evC (EP L) d=Q;unfold SD;kernel_rfl
noncomputable def PQ(L:Nat):Cfg:=B7 L [45] (A4 []) [] (A4 [(8,[2]),(4,[2]),(7,[2]),(6,[7]),(5,[3,3]),(3,[3,0]),(2,[3,0]),(1,[3]),(0,[0])]) [] (A4 [(0,[])]) (some [2]) [] [] []
noncomputable def A87{R:Type}(L:Nat)(b:By)(a:Int->Option R):Option R:=cond (b==[104,116,116,112]) (cond (b==[104,116,116,112]) (a 80) (cond (b==[104,116,116,112,115]) (cond (b==[104,116,116,112,115]) (a 443) (a (-1))) (cond (b==[119,115,115]) (a 443) (a (-1))))) (cond (b==[119,115]) (a 80) (cond (b==[104,116,116,112,115]) (cond (b==[104,116,116,112,115]) (a 443) (a (-1))) (cond (b==[119,115,115]) (a 443) (a (-1)))))
theorem B30(d:Nat)(s0):evC (PQ L) (d+1) Z Y 45 [pS s0] [] s=A87 L s0 (λa=>some (pI a,[],s)):=by refine(evE (fn:=Tryz.f45) (by kernel_rfl)).trans ?_;generalize evC (PQ L) d=Q;unfold A87;kernel_rfl
noncomputable abbrev Sv:Code:=C8 af6
noncomputable def Z6(L:Nat):Cfg:=B7 L [62] (A4 [(5,[0,0,2,0,0]),(2,[0,0,2,0])]) [] (A4 [(9,[4]),(3,[0,0,3]),(6,[0,0,3,0]),(8,[4]),(7,[0,0,3,0,18]),(5,[0,0,3,0,9]),(4,[0,0,3,0]),(2,[0,0,3,4]),(1,[0,0,3]),(0,[0,0])]) [] (A4 [(0,[0]),(1,[0,0,3]),(2,[0,0,3]),(3,[0,0,3,0])]) (some [4]) [] [] []
noncomputable def Gb{R:Type}(L n:Nat)(d a:By)(c b:Int)(e:Int->Option R)(f:By->By->Int->Option R):Option R:=match n with|0=>none|n+1=>cond (ltI b (a.length:Int)) (cond (inR c d.length) (cond (inR b a.length) (cond ((bAt d c)==(bAt a b)) (e c) (Gb L n d a c (A1 (b+1)) e f)) none) none) (f d a c)
theorem YF(n c a b kk3):C9 0 ((Z6 L).keep 5) (bd (Z6 L) Q Y (cd [1,0,1,0,0,1,0,0,1,0,0] Sv)) n ⟨gp [(0,pS c),(0,pS a),(3,pI b),(0,pI kk3)] 22,[],s⟩ k =
 Gb L n c a b kk3 (λn0=>k .ret ⟨gp [(4,pI n0)] 24,[],s⟩) (λc a b=>k (.exit 2) ⟨gp [(0,pS c),(0,pS a),(3,pI b)] 23,[],s⟩):=by
 induction n generalizing c a b kk3 with
 | zero=>rfl
 | succ n d=>rw[Gb];simp only[<-d];kernel_rfl
noncomputable def Gc{R:Type}(L n:Nat)(e b:By)(f:Int)(g:Int->Option R)(h:By->Option R):Option R:=match n with|0=>none|n+1=>cond (ltI f (e.length:Int)) (Gb L L e b f 0 g (λd a c=>Gc L n d a (A1 (c+1)) g h)) (h e)
theorem YG(n b set1 i2):C9 0 ((Z6 L).keep 2) (bd (Z6 L) Q Y (cd [1,0,1,0,0] Sv)) n ⟨gp [(0,pS b),(0,pS set1),(3,pI i2)] 23,[],s⟩ k =
 Gc L n b set1 i2 (λn0=>k .ret ⟨gp [(4,pI n0)] 24,[],s⟩) (λb=>k (.exit 0) ⟨gp [(0,pS b)] 28,[],s⟩):=by
 induction n generalizing b set1 i2 with
 | zero=>rfl
 | succ n e=>rw[Gc];exact(c9 (by kernel_rfl) (A0 ((YF L Q Y s (E3 2 (E3 1 (E2 (Z6 L) Q Y (cd [1,0,1,0,0,1,1] Sv) (lpK 0 ((Z6 L).keep 2) (bd (Z6 L) Q Y (cd [1,0,1,0,0] Sv)) n k)))) L b set1 i2 0).trans (congr (congr rfl (by kernel_rfl)) (fx3 λd a c=>(c9 (by kernel_rfl) (e d a (A1 (c+1))))))) rfl))
noncomputable def B21{R:Type}(L:Nat)(e a:By)(d:Int->Option R):Option R:=Gc L L e a 0 d (λc=>vl (c.length:Int) λb=>d b)
theorem B22(d:Nat)(s0 set1):evC (Z6 L) (d+1) Z Y 62 [pS s0,pS set1] [] s=B21 L s0 set1 (λa=>some (pI a,[],s)):=by refine(evE (fn:=af6) (by kernel_rfl)).trans ?_;generalize evC (Z6 L) d=Q;unfold B21;exact(c9 (by kernel_rfl) ((YG L Q Y s (E3 0 (E2 (Z6 L) Q Y (cd [1,1] Sv) (F5 (Z6 L) af6))) L s0 set1 0).trans (by kernel_rfl)))
noncomputable abbrev M4:Code:=C8 ae5
noncomputable def K4(L:Nat):Cfg:=B7 L [61] (A4 [(2,[0,1,0,0,0])]) [(17,Ad0)] (A4 [(11,[2,0,0]),(3,[0,4]),(10,[2,0,0]),(9,[0,4,67]),(8,[0,4,1,0]),(7,[0,4,0,0]),(6,[2,0,0]),(5,[0,4,0,16]),(4,[0,4,0]),(2,[0,4,6]),(1,[0,4]),(0,[0])]) [17] (A4 [(0,[]),(1,[0,4])]) (some [2,0,0]) [] [] []
noncomputable def Jf{R:Type}(a:By)(b f:Int)(e:Bool)(g:By->By->Option R)(h:By->Int->Int->Bool->Option R):Option R:=cond e (cond (I5 0 b a.length) (cond (A3 (b8 (cut a 0 b))) (vl (B5 (cut a 0 b)) λc=>cond (I5 (A1 (b+1)) (a.length:Int) a.length) (vl (cut a (A1 (b+1)) (a.length:Int)) λd=>g c d) none) none) none) (h a b f e)
abbrev Sb(b:Code):Prop:=∀(k:Out->St Z->Option R) a e c d,A9 (K4 L) Q Y b ⟨gp [(0,pS a),(4,pI e),(0,p8 c),(16,pB d)] 50,[],s⟩ k=Jf a e c d (λa f=>k .ret ⟨gp [(2,pS a),(0,pS f),(0,pB true)] 69,[],s⟩) (λa e c d=>k .normal ⟨gp [(0,pS a),(4,pI e),(0,p8 c),(16,pB d)] 50,[],s⟩)
theorem YS:Sb (R:=R) L Q Y s (cd [1,0,1,0,0,1,0,0,1,0,1] M4):=by intro k d c a b;unfold Jf;kernel_rfl
noncomputable def Jg{R:Type}(c:By)(a:Int)(b:By->Int->Option R):Option R:=b c a
abbrev Sc(b:Code):Prop:=∀(k:Out->St Z->Option R) c a,A9 (K4 L) Q Y b ⟨gp [(0,pS c),(4,pI a),(1,pB true),(0,pB true)] 65,[],s⟩ k=Jg c a (λc a=>k .normal ⟨gp [(0,pS c),(4,pI a),(67,pB false)] 0,[],s⟩)
theorem AQ:Sc (R:=R) L Q Y s (cd [1,0,1,0,0,1,0,0,1,1,1,1] M4):=by intro k b a;unfold Jg;kernel_rfl
noncomputable def Gg{R:Type}(c:By)(a:Int)(b:By->Int->Option R):Option R:=b c a
abbrev Sd(b:Code):Prop:=∀(k:Out->St Z->Option R) c a other2,A9 (K4 L) Q Y b ⟨gp [(0,pS c),(4,pI a),(1,pB true),(0,pB other2)] 65,[],s⟩ k=Gg c a (λc a=>k .normal ⟨gp [(0,pS c),(4,pI a),(67,pB false)] 0,[],s⟩)
theorem AR:Sd (R:=R) L Q Y s (cd [1,0,1,0,0,1,0,0,1,1,1,1] M4):=by intro k c b a;unfold Gg;kernel_rfl
noncomputable def Vh{R:Type}(c:By)(a d:Int)(b:By->Int->Option R):Option R:=cond (not (ltI d 48)) (cond (not (ltI 57 d)) (Jg c a b) (cond (d==43) (Jg c a b) (cond (d==45) (Jg c a b) (Gg c a b)))) (cond (d==43) (Gg c a b) (cond (d==45) (Gg c a b) (Gg c a b)))
abbrev Se(b:Code):Prop:=∀(k:Out->St Z->Option R) c a b2,A9 (K4 L) Q Y b ⟨gp [(0,pS c),(4,pI a),(0,p8 b2),(0,pB true)] 66,[],s⟩ k=Vh c a b2 (λc a=>k .normal ⟨gp [(0,pS c),(4,pI a),(67,pB false)] 0,[],s⟩)
theorem YT(a:Code)(c:Sc (R:=R) L Q Y s a)(b:Sd (R:=R) L Q Y s a):Se (R:=R) L Q Y s (cd [1,0,1,0,0,1,0,0,1,1,1] (G2 [1,0,1,0,0,1,0,0,1,1,1,1] a M4)):=by intro k e d f;unfold Vh;exact(c9 (by kernel_rfl) (A0 (A0 ((c k e d).trans (by kernel_rfl)) (A0 ((c k e d).trans (by kernel_rfl)) (A0 ((c k e d).trans (by kernel_rfl)) ((b k e d (f==46)).trans (by kernel_rfl))))) (A0 ((b k e d true).trans (by kernel_rfl)) (A0 ((b k e d true).trans (by kernel_rfl)) ((b k e d (f==46)).trans (by kernel_rfl))))))
theorem YU:Se (R:=R) L Q Y s (cd [1,0,1,0,0,1,0,0,1,1,1] M4):=by intro k c b a;exact c9 (by kernel_rfl) (YT L Q Y s (cd [1,0,1,0,0,1,0,0,1,1,1,1] M4) (AQ L Q Y s) (AR L Q Y s) k c b a)
noncomputable def Jh{R:Type}(d:By)(b:Int)(a:Bool)(e:Unit->Option R)(c:By->Int->Bool->Option R):Option R:=cond (not a) (cond (b==0) (e ()) (c d b (b==0))) (c d b false)
abbrev HL(b:Code):Prop:=∀(k:Out->St Z->Option R) c a letter2,A9 (K4 L) Q Y b ⟨gp [(0,pS c),(4,pI a),(1,pB letter2),(0,pB true)] 65,[],s⟩ k=Jh c a letter2 (λ_=>k .ret ⟨gp [(2,pS e0),(0,pS e0),(0,pB false)] 69,[],s⟩) (λc a d=>k .normal ⟨gp [(0,pS c),(4,pI a),(67,pB d)] 0,[],s⟩)
theorem YV:HL (R:=R) L Q Y s (cd [1,0,1,0,0,1,0,0,1,1,1,1] M4):=by intro k c b a;unfold Jh;kernel_rfl
noncomputable def Gh{R:Type}(f:By)(c:Int)(a b:Bool)(d:Unit->Option R)(e:By->Int->Bool->Option R):Option R:=cond (not a) (cond (not b) (d ()) (cond (c==0) (d ()) (e f c (c==0)))) (e f c false)
abbrev HM(b:Code):Prop:=∀(k:Out->St Z->Option R) c a letter2 other3,A9 (K4 L) Q Y b ⟨gp [(0,pS c),(4,pI a),(1,pB letter2),(0,pB other3)] 65,[],s⟩ k=Gh c a letter2 other3 (λ_=>k .ret ⟨gp [(2,pS e0),(0,pS e0),(0,pB false)] 69,[],s⟩) (λc a d=>k .normal ⟨gp [(0,pS c),(4,pI a),(67,pB d)] 0,[],s⟩)
theorem YW:HM (R:=R) L Q Y s (cd [1,0,1,0,0,1,0,0,1,1,1,1] M4):=by intro k d c a b;unfold Gh;kernel_rfl
noncomputable def Gi{R:Type}(f:By)(c b:Int)(a:Bool)(d:Unit->Option R)(e:By->Int->Bool->Option R):Option R:=cond (not (ltI b 48)) (cond (not (ltI 57 b)) (Jh f c a (λ_=>d ()) e) (cond (b==43) (Jh f c a (λ_=>d ()) e) (cond (b==45) (Jh f c a (λ_=>d ()) e) (Gh f c a (b==46) (λ_=>d ()) e)))) (cond (b==43) (Gh f c a true (λ_=>d ()) e) (cond (b==45) (Gh f c a true (λ_=>d ()) e) (Gh f c a (b==46) (λ_=>d ()) e)))
abbrev Sf(b:Code):Prop:=∀(k:Out->St Z->Option R) d c a letter3,A9 (K4 L) Q Y b ⟨gp [(0,pS d),(4,pI c),(0,p8 a),(0,pB letter3)] 66,[],s⟩ k=Gi d c a letter3 (λ_=>k .ret ⟨gp [(2,pS e0),(0,pS e0),(0,pB false)] 69,[],s⟩) (λd c a=>k .normal ⟨gp [(0,pS d),(4,pI c),(67,pB a)] 0,[],s⟩)
theorem YX(a:Code)(d:Sc (R:=R) L Q Y s a)(e:Sd (R:=R) L Q Y s a)(b:HL (R:=R) L Q Y s a)(c:HM (R:=R) L Q Y s a):Sf (R:=R) L Q Y s (cd [1,0,1,0,0,1,0,0,1,1,1] (G2 [1,0,1,0,0,1,0,0,1,1,1,1] a M4)):=by intro k i h g f;unfold Gi;simp only[<-b k,<-c k];kernel_rfl
theorem YY:Sf (R:=R) L Q Y s (cd [1,0,1,0,0,1,0,0,1,1,1] M4):=by intro k d c b a;exact c9 (by kernel_rfl) (YX L Q Y s (cd [1,0,1,0,0,1,0,0,1,1,1,1] M4) (AQ L Q Y s) (AR L Q Y s) (YV L Q Y s) (YW L Q Y s) k d c b a)
noncomputable def Z5{R:Type}(f:By)(c a:Int)(d:By->Int->Bool->Option R)(g:Unit->Option R):Option R:=cond (not (ltI a 97)) (cond (not (ltI 122 a)) (Vh f c a (λe b=>d e b false)) (cond (not (ltI a 65)) (Gi f c a (not (ltI 90 a)) (λ_=>g ()) d) (Gi f c a false (λ_=>g ()) d))) (cond (not (ltI a 65)) (Gi f c a (not (ltI 90 a)) (λ_=>g ()) d) (Gi f c a false (λ_=>g ()) d))
abbrev Kz(b:Code):Prop:=∀(k:Out->St Z->Option R) d c a b3,A9 (K4 L) Q Y b ⟨gp [(0,pS d),(4,pI c),(0,p8 a),(16,pB b3)] 50,[],s⟩ k=Z5 d c a (λd c a=>k .normal ⟨gp [(0,pS d),(4,pI c),(67,pB a)] 0,[],s⟩) (λ_=>k .ret ⟨gp [(2,pS e0),(0,pS e0),(0,pB false)] 69,[],s⟩)
theorem YZ(a:Code)(b:Se (R:=R) L Q Y s a)(c:Sf (R:=R) L Q Y s a):Kz (R:=R) L Q Y s (cd [1,0,1,0,0,1,0,0,1,1] (G2 [1,0,1,0,0,1,0,0,1,1,1] a M4)):=by intro k g f d e;unfold Z5;simp only[<-b k,<-c k];kernel_rfl
theorem ZA:Kz (R:=R) L Q Y s (cd [1,0,1,0,0,1,0,0,1,1] M4):=by intro k d c a b;exact c9 (by kernel_rfl) (YZ L Q Y s (cd [1,0,1,0,0,1,0,0,1,1,1] M4) (YU L Q Y s) (YY L Q Y s) k d c a b)
noncomputable def N1{R:Type}(L n:Nat)(b:By)(a:Int)(c:By->By->Bool->Option R)(t:Unit->Option R):Option R:=match n with|0=>none|n+1=>cond (ltI a (b.length:Int)) (cond (inR a b.length) (cond ((bAt b a)==58) (Jf b a (bAt b a) (ltI 0 a) (λu v=>c u v true) (λw r q A=>Z5 w r q (λj e x=>vl (A1 (e+1)) λh=>N1 L n j h c t) (λ_=>c e0 e0 false))) (Jf b a (bAt b a) false (λl m=>c l m true) (λo f d y=>Z5 o f d (λp g z=>vl (A1 (g+1)) λi=>N1 L n p i c t) (λ_=>c e0 e0 false)))) none) (t ())
theorem ZB(b:Code)(c:Sb (R:=R) L Q Y s b)(a:Code)(d:Kz (R:=R) L Q Y s a)(n:Nat)(e:By)(f:Int):C9 0 ((K4 L).keep 2) (bd (K4 L) Q Y (cd [1,0,1,0,0] (G2 [1,0,1,0,0,1,0,0,1,1] a (G2 [1,0,1,0,0,1,0,0,1,0,1] b M4)))) n ⟨gp [(0,pS e),(4,pI f)] 68,[],s⟩ k =
 N1 L n e f (λe D C=>k .ret ⟨gp [(2,pS e),(0,pS D),(0,pB C)] 69,[],s⟩) (λ_=>k (.exit 0) ⟨gp [] 74,[],s⟩):=by
 induction n generalizing e f with
 | zero=>rfl
 | succ n B=>rw[N1];exact let q:=(E3 1 (E2 (K4 L) Q Y (cd [1,0,1,0,0,1,1] M4) (lpK 0 ((K4 L).keep 2) (bd (K4 L) Q Y (cd [1,0,1,0,0] (G2 [1,0,1,0,0,1,0,0,1,1] a (G2 [1,0,1,0,0,1,0,0,1,0,1] b M4)))) n k)));let w:=(E2 (K4 L) Q Y a q);(c9 (by kernel_rfl) (A0 (A0 (A0 ((c w e f (bAt e f) (ltI 0 f)).trans (congr (congr rfl (by kernel_rfl)) (fx4 λv u r t=>(c9 (by kernel_rfl) ((d q v u r t).trans (congr (congr rfl (fx3 λm z x=>(c9 (by kernel_rfl) (A2 λj=>(B m j))))) (by kernel_rfl))))))) ((c w e f (bAt e f) false).trans (congr (congr rfl (by kernel_rfl)) (fx4 λo i g h=>(c9 (by kernel_rfl) ((d q o i g h).trans (congr (congr rfl (fx3 λp A y=>(c9 (by kernel_rfl) (A2 λl=>(B p l))))) (by kernel_rfl)))))))) rfl) rfl))
noncomputable def YR{R:Type}(L:Nat)(b:By)(a:By->By->Bool->Option R):Option R:=N1 L L b 0 a (λ_=>a e0 e0 false)
theorem B28(a:Code)(c:Sb (R:=PV × List Blk × Z) L Q Y s a)(b:Code)(d:Kz (R:=PV × List Blk × Z) L Q Y s b)(e:By):A9 (K4 L) Q Y (cd [] (G2 [1,0,1,0,0,1,0,0,1,1] b (G2 [1,0,1,0,0,1,0,0,1,0,1] a M4))) ⟨[pS e]++tps 73,[],s⟩ (F5 (K4 L) ae5)=YR L e (λf g h=>some (.tup [pS f,pS g,pB h],[],s)):=by unfold YR;exact(c9 (by kernel_rfl) ((ZB L Q Y s (E3 0 (E2 (K4 L) Q Y (cd [1,1] M4) (F5 (K4 L) ae5))) a c b d L e 0).trans (by kernel_rfl)))
theorem B29(d:Nat)(s0):evC (K4 L) (d+1) Z Y 61 [pS s0] [] s=YR L s0 (λa b c=>some (.tup [pS a,pS b,pB c],[],s)):=
 (evE (fn:=ae5) (by kernel_rfl)).trans (c9 (by kernel_rfl) (B28 L (evC (K4 L) d) Y s (cd [1,0,1,0,0,1,0,0,1,0,1] M4) (YS L (evC (K4 L) d) Y s) (cd [1,0,1,0,0,1,0,0,1,1] M4) (ZA L (evC (K4 L) d) Y s) s0))
noncomputable abbrev K3:Code:=C8 ae1
noncomputable def I8(L:Nat):Cfg:=B7 L [41] (A4 [(36,[2,0,1,3,0,4,0]),(20,[2,0,1,3,0,0]),(2,[0,1,0,0])]) [(61,A34),(23,TY),(62,A32),(63,JH),(45,A35)] (A4 [(46,[2,0]),(45,[2,7]),(44,[2,7,173]),(43,[2,2,4]),(42,[2,0]),(41,[2,2,4,4,160]),(37,[2,2,3,0,4,0]),(40,[2,2,3,0,4,0]),(39,[2,0]),(38,[2,2,3,0,4,0,147]),(36,[2,2,3,0,4,0,135]),(35,[2,2,3,0,4,0]),(34,[2,2,3,0,1,2]),(33,[2,2,3,0,1,133]),(32,[2,2,3,0,1]),(31,[2,0]),(30,[2,2,3,0,1,0,0,122]),(29,[2,2,3,0,1,0,0]),(28,[2,0]),(27,[2,2,3,0,1,114]),(26,[2,2,3,0,1]),(25,[2,2,3,0,1,95]),(24,[2,2,3,0,1]),(21,[2,2,3,0,0]),(23,[2,2,3,0]),(22,[2,2,3,0,0,79]),(20,[2,2,3,0,0,73]),(19,[2,2,3,0,0]),(18,[2,2,3,0]),(17,[2,2,0,2,0,66]),(16,[2,2,0,2,0]),(15,[2,2,0,2]),(14,[2,2,0,1]),(13,[2,2,0]),(12,[2,0]),(11,[2,2,0,49]),(10,[2,0]),(9,[2,2,0,38]),(8,[2,0]),(7,[2,2,0,34]),(6,[2,2,0,0]),(3,[0,1,1]),(5,[2,0]),(4,[0,1,1,27]),(2,[0,1,1,15]),(1,[0,1,1]),(0,[0,1])]) [61,23,62,45] (A4 [(4,[2,2,4,4]),(5,[2,2,3,0,4,0]),(2,[2,2,3,0]),(3,[2,2,3,0,0]),(0,[0,1]),(1,[0,1,1])]) (some [2,0]) [] [] []
noncomputable def Dh{R:Type}(L n:Nat)(a:By)(b:Int)(c:(List Blk)->Option R)(d:By->Option R):Option R:=match n with|0=>none|n+1=>cond (ltI b (a.length:Int)) (cond (inR b a.length) (cond (not (ltI 32 (bAt a b))) (c []) (cond (inR b a.length) (cond ((bAt a b)==127) (c []) (Dh L n a (A1 (b+1)) c d)) none)) none) (d a)
theorem YM(n a i1):C9 1 ((I8 L).keep 2) (bd (I8 L) Q Y (cd [1,0,1,0,0] K3)) n ⟨gp [(0,pS a),(1,.ptr 0 0 0),(1,pI i1)] 182,[bU0],s⟩ k =
 Dh L n a i1 (λb=>k .ret ⟨gp [(2,.ptr 0 0 0),(0,pI (4:Int))] 183,(bU0::b),s⟩) (λa=>k (.exit 0) ⟨gp [(0,pS a),(1,.ptr 0 0 0)] 184,[bU0],s⟩):=by
 induction n generalizing a i1 with
 | zero=>rfl
 | succ n c=>rw[Dh];simp only[<-c];kernel_rfl
noncomputable def W4{R:Type}(L n:Nat)(b a:By)(c:Int)(g:By)(f:By->By->By->By->Option R):Option R:=match n with|0=>none|n+1=>cond (not (ltI c 0)) (cond (inR c a.length) (cond ((bAt a c)==64) (cond (I5 0 c a.length) (vl (cut a 0 c) λd=>cond (I5 (A1 (c+1)) (a.length:Int) a.length) (vl (cut a (A1 (c+1)) (a.length:Int)) λe=>f b e d g) none) none) (W4 L n b a (A1 (c-1)) g f)) none) (f b a e0 g)
theorem AO(n b a i2 c):C9 2 ((I8 L).keep 20) (bd (I8 L) Q Y (cd [1,1,1,1,1,1,1,1,1,1,1,0,1,0,0] K3)) n ⟨gp [(2,.ptr 0 0 0),(2,pS b),(3,pS a),(0,.ptr 1 0 0),(0,pI i2)] 175,[bU0,(bU b [] 0 [] 0 0 0 0 0 0 0 0 0 (-1) c)],s⟩ k =
 W4 L n b a i2 c (λb a e c=>k (.exit 2) ⟨gp [(2,.ptr 0 0 0),(2,pS b),(3,pS a),(0,.ptr 1 0 0)] 176,[bU0,(bU b e 0 [] 0 0 0 0 0 0 0 0 0 (-1) c)],s⟩):=by
 induction n generalizing b a i2 c with
 | zero=>rfl
 | succ n d=>rw[W4];simp only[<-d];kernel_rfl
noncomputable def Bi{R:Type}(c a:By)(d:Int)(h:Bool)(f g:By)(i:(List Blk)->Option R)(j:By->By->Int->Bool->By->By->Option R)(l:By->By->Int->Bool->By->By->Option R):Option R:=cond h (cond (A3 a.length) (vl (↑(P9 a ([93]:List UInt8)):Int) λe=>vl (A1 (e+1)) λb=>cond (ltI (a.length:Int) b) (i [(bU c f 0 [] 0 0 0 0 0 0 0 0 0 (-1) g)]) (cond (ltI b (a.length:Int)) (cond (inR b a.length) (cond ((bAt a b)!=58) (i [(bU c f 0 [] 0 0 0 0 0 0 0 0 0 (-1) g)]) (j c a b ((bAt a b)!=58) f g)) none) (j c a b false f g))) none) (l c a d h f g)
abbrev Rw(b:Code):Prop:=∀(k:Out->St Z->Option R) c a d e f g,A9 (I8 L) Q Y b ⟨gp [(2,.ptr 0 0 0),(2,pS c),(3,pS a),(0,.ptr 1 0 0),(1,pI d),(95,pB e)] 78,[bU0,(bU c f 0 [] 0 0 0 0 0 0 0 0 0 (-1) g)],s⟩ k=Bi c a d e f g (λh=>k .ret ⟨gp [(2,.ptr 0 0 0),(0,pI (4:Int))] 183,(bU0::h),s⟩) (λc a d e f g=>k .normal ⟨gp [(2,.ptr 0 0 0),(2,pS c),(3,pS a),(0,.ptr 1 0 0),(1,pI d),(114,pB e)] 59,[bU0,(bU c f 0 [] 0 0 0 0 0 0 0 0 0 (-1) g)],s⟩) (λc a d e f g=>k .normal ⟨gp [(2,.ptr 0 0 0),(2,pS c),(3,pS a),(0,.ptr 1 0 0),(1,pI d),(95,pB e)] 78,[bU0,(bU c f 0 [] 0 0 0 0 0 0 0 0 0 (-1) g)],s⟩)
theorem AL:Rw (R:=R) L Q Y s (cd [1,1,1,1,1,1,1,1,1,1,1,1,1,0,1] K3):=by intro k b a c d e f;unfold Bi;kernel_rfl
noncomputable def Di{R:Type}(L n:Nat)(b a:By)(x j:Int)(u:By)(m:Int)(q:By)(o n8 p c d e f g h:Int)(i:By)(v:(List Blk)->Option R)(w:By->Int->By->Int->By->Int->Int->Int->Int->Int->Int->Int->Int->Int->By->Option R):Option R:=match n with|0=>none|n+1=>cond (ltI j (a.length:Int)) (cond (inR j a.length) (cond (ltI (bAt a j) (48:Int)) (v [(bU b u m q o n8 p c d e f g h (-1) i),(bH m q o n8 p c d e f g h)]) (cond (inR j a.length) (cond (ltI 57 (bAt a j)) (v [(bU b u m q o n8 p c d e f g h (-1) i),(bH m q o n8 p c d e f g h)]) (cond (inR j a.length) (vl (wu8 ((bAt a j)-48)) λr=>vl (A1 ((A1 (x*10))+(A1 r))) λl=>vl (if ((1048576:Int)<l) then (1048576:Int) else l) λt=>Di L n b a t (A1 (j+1)) u m q o n8 p c d e f g h i v w) none)) none)) none) (w b x u m q o n8 p c d e f g h i)
theorem AP(n a authority1 n2 i3 i f s6 g n8 h b c d e n14 n15 s16):C9 3 ((I8 L).keep 36) (bd (I8 L) Q Y (cd [1,1,1,1,1,1,1,1,1,1,1,1,1,1,1,1,1,0,1,0,1,0,1,0,0] K3)) n ⟨gp [(2,.ptr 0 0 0),(2,pS a),(3,pS authority1),(0,.ptr 1 0 0),(4,pI n2),(0,pI i3)] 170,[bU0,(bU a i f s6 g n8 h b c d e n14 n15 (-1) s16),(bH f s6 g n8 h b c d e n14 n15)],s⟩ k =
 Di L n a authority1 n2 i3 i f s6 g n8 h b c d e n14 n15 s16 (λo=>k .ret ⟨gp [(2,.ptr 0 0 0),(0,pI (16:Int))] 183,(bU0::o),s⟩) (λa q r l i f m g n8 h b c d e j=>k (.exit 4) ⟨gp [(2,.ptr 0 0 0),(2,pS a),(4,.ptr 1 0 0),(4,pI q)] 171,[bU0,(bU a r l i f m g n8 h b c d e (-1) j),(bH l i f m g n8 h b c d e)],s⟩):=by
 induction n generalizing a authority1 n2 i3 i f s6 g n8 h b c d e n14 n15 s16 with
 | zero=>rfl
 | succ n p=>rw[Di];simp only[<-p];kernel_rfl
noncomputable def Q8{R:Type}(L:Nat)(d b:By)(t:Int)(x y:By)(w:Int->By->By->Int->By->Int->Int->Int->Int->Int->Int->Int->Int->Int->Int->By->(List Blk)->Option R):Option R:=cond (I5 0 t b.length) (vl (cut b 0 t) λv=>cond (A3 v.length) (vl (C5 v) λa=>cond ((↑(a).2:Int)!=0) (w (↑(a).2:Int) e0 e0 0 e0 0 0 0 0 0 0 0 0 0 0 e0 [(bU d x 0 [] 0 0 0 0 0 0 0 0 0 (-1) y),(bH (hK a) (hN a) (hV a) (hA a 0) (hA a 1) (hA a 2) (hA a 3) (hA a 4) (hA a 5) (hA a 6) (hA a 7))]) (vl (A1 (t+1)) λA=>cond (ltI A (b.length:Int)) (vl (A1 (t+1)) λB=>Di L L d b 0 B x (hK a) (hN a) (hV a) (hA a 0) (hA a 1) (hA a 2) (hA a 3) (hA a 4) (hA a 5) (hA a 6) (hA a 7) y (λz=>w 16 e0 e0 0 e0 0 0 0 0 0 0 0 0 0 0 e0 z) (λc u q e p f g h i j l m n o r=>cond (ltI 65535 u) (w 16 e0 e0 0 e0 0 0 0 0 0 0 0 0 0 0 e0 [(bU c q e p f g h i j l m n o (-1) r),(bH e p f g h i j l m n o)]) (cond (u==(Q0 c)) (w 0 c q e p f g h i j l m n o (-1) r [(bU c q e p f g h i j l m n o (-1) r),(bH e p f g h i j l m n o)]) (w 0 c q e p f g h i j l m n o u r [(bU c q e p f g h i j l m n o u r),(bH e p f g h i j l m n o)])))) (cond (((-1):Int)==(Q0 d)) (w 0 d x (hK a) (hN a) (hV a) (hA a 0) (hA a 1) (hA a 2) (hA a 3) (hA a 4) (hA a 5) (hA a 6) (hA a 7) (-1) y [(bU d x (hK a) (hN a) (hV a) (hA a 0) (hA a 1) (hA a 2) (hA a 3) (hA a 4) (hA a 5) (hA a 6) (hA a 7) (-1) y),(bH (hK a) (hN a) (hV a) (hA a 0) (hA a 1) (hA a 2) (hA a 3) (hA a 4) (hA a 5) (hA a 6) (hA a 7))]) (w 0 d x (hK a) (hN a) (hV a) (hA a 0) (hA a 1) (hA a 2) (hA a 3) (hA a 4) (hA a 5) (hA a 6) (hA a 7) (-1) y [(bU d x (hK a) (hN a) (hV a) (hA a 0) (hA a 1) (hA a 2) (hA a 3) (hA a 4) (hA a 5) (hA a 6) (hA a 7) (-1) y),(bH (hK a) (hN a) (hV a) (hA a 0) (hA a 1) (hA a 2) (hA a 3) (hA a 4) (hA a 5) (hA a 6) (hA a 7))])))) none) none
abbrev Rx(b:Code):Prop:=∀(k:Out->St Z->Option R) name0 authority1 end2 b3 a s5,A9 (I8 L) Q Y b ⟨gp [(2,.ptr 0 0 0),(2,pS name0),(3,pS authority1),(0,.ptr 1 0 0),(1,pI end2),(114,pB b3)] 59,[bU0,(bU name0 a 0 [] 0 0 0 0 0 0 0 0 0 (-1) s5)],s⟩ k=Q8 L name0 authority1 end2 a s5 (λn0 p q j a l m n n8 o d e f g h i c=>k .ret ⟨gp [(2,.ptr 0 0 0),(0,pI n0)] 183,((bU p q j a l m n n8 o d e f g h i)::c),s⟩)
theorem AM:Rx (R:=R) L Q Y s (cd [1,1,1,1,1,1,1,1,1,1,1,1,1,1] K3):=by intro k c b e j h i;unfold Q8;exact(c9 (by kernel_rfl) (A0 (A2 λg=>(A0 (A2 λa=>(A0 rfl (A2 λf=>(A0 (A2 λd=>((AP L Q Y s (E3 4 (E2 (I8 L) Q Y (cd [1,1,1,1,1,1,1,1,1,1,1,1,1,1,1,1,1,0,1,0,1,1] K3) (E2 (I8 L) Q Y (cd [1,1,1,1,1,1,1,1,1,1,1,1,1,1,1,1,1,1] K3) k))) L c b 0 d h (hK a) (hN a) (hV a) (hA a 0) (hA a 1) (hA a 2) (hA a 3) (hA a 4) (hA a 5) (hA a 6) (hA a 7) i).trans (by kernel_rfl))) (A0 rfl rfl))))) rfl)) rfl))
noncomputable def Je{R:Type}(L:Nat)(p c:By)(u:Int)(A B:By)(x:Int->By->By->Int->By->Int->Int->Int->Int->Int->Int->Int->Int->Int->Int->By->(List Blk)->Option R):Option R:=cond (I5 0 u c.length) (vl (cut c 0 u) λv=>cond (A3 v.length) (vl (C5 v) λa=>cond ((↑(a).2:Int)!=0) (x (↑(a).2:Int) e0 e0 0 e0 0 0 0 0 0 0 0 0 0 0 e0 [(bU p A 0 [] 0 0 0 0 0 0 0 0 0 (-1) B),(bH (hK a) (hN a) (hV a) (hA a 0) (hA a 1) (hA a 2) (hA a 3) (hA a 4) (hA a 5) (hA a 6) (hA a 7))]) (vl (A1 (u+1)) λy=>cond (ltI y (c.length:Int)) (vl (A1 (u+1)) λz=>Di L L p c 0 z A (hK a) (hN a) (hV a) (hA a 0) (hA a 1) (hA a 2) (hA a 3) (hA a 4) (hA a 5) (hA a 6) (hA a 7) B (λw=>x 16 e0 e0 0 e0 0 0 0 0 0 0 0 0 0 0 e0 w) (λb t q d o e f g h i j l m n r=>cond (ltI 65535 t) (x 16 e0 e0 0 e0 0 0 0 0 0 0 0 0 0 0 e0 [(bU b q d o e f g h i j l m n (-1) r),(bH d o e f g h i j l m n)]) (cond (t==(Q0 b)) (x 0 b q d o e f g h i j l m n (-1) r [(bU b q d o e f g h i j l m n (-1) r),(bH d o e f g h i j l m n)]) (x 0 b q d o e f g h i j l m n t r [(bU b q d o e f g h i j l m n t r),(bH d o e f g h i j l m n)])))) (cond (((-1):Int)==(Q0 p)) (x 0 p A (hK a) (hN a) (hV a) (hA a 0) (hA a 1) (hA a 2) (hA a 3) (hA a 4) (hA a 5) (hA a 6) (hA a 7) (-1) B [(bU p A (hK a) (hN a) (hV a) (hA a 0) (hA a 1) (hA a 2) (hA a 3) (hA a 4) (hA a 5) (hA a 6) (hA a 7) (-1) B),(bH (hK a) (hN a) (hV a) (hA a 0) (hA a 1) (hA a 2) (hA a 3) (hA a 4) (hA a 5) (hA a 6) (hA a 7))]) (x 0 p A (hK a) (hN a) (hV a) (hA a 0) (hA a 1) (hA a 2) (hA a 3) (hA a 4) (hA a 5) (hA a 6) (hA a 7) (-1) B [(bU p A (hK a) (hN a) (hV a) (hA a 0) (hA a 1) (hA a 2) (hA a 3) (hA a 4) (hA a 5) (hA a 6) (hA a 7) (-1) B),(bH (hK a) (hN a) (hV a) (hA a 0) (hA a 1) (hA a 2) (hA a 3) (hA a 4) (hA a 5) (hA a 6) (hA a 7))])))) none) none
abbrev Ry(b:Code):Prop:=∀(k:Out->St Z->Option R) name0 authority1 end2 b3 a s5,A9 (I8 L) Q Y b ⟨gp [(2,.ptr 0 0 0),(2,pS name0),(3,pS authority1),(0,.ptr 1 0 0),(1,pI end2),(95,pB b3)] 78,[bU0,(bU name0 a 0 [] 0 0 0 0 0 0 0 0 0 (-1) s5)],s⟩ k=Je L name0 authority1 end2 a s5 (λn0 p q j a l m n n8 o d e f g h i c=>k .ret ⟨gp [(2,.ptr 0 0 0),(0,pI n0)] 183,((bU p q j a l m n n8 o d e f g h i)::c),s⟩)
theorem AN:Ry (R:=R) L Q Y s (cd [1,1,1,1,1,1,1,1,1,1,1,1,1,1] K3):=by intro k d b f j h i;unfold Je;exact(c9 (by kernel_rfl) (A0 (A2 λg=>(A0 (A2 λa=>(A0 rfl (A2 λe=>(A0 (A2 λc=>((AP L Q Y s (E3 4 (E2 (I8 L) Q Y (cd [1,1,1,1,1,1,1,1,1,1,1,1,1,1,1,1,1,0,1,0,1,1] K3) (E2 (I8 L) Q Y (cd [1,1,1,1,1,1,1,1,1,1,1,1,1,1,1,1,1,1] K3) k))) L d b 0 c h (hK a) (hN a) (hV a) (hA a 0) (hA a 1) (hA a 2) (hA a 3) (hA a 4) (hA a 5) (hA a 6) (hA a 7) i).trans (by kernel_rfl))) (A0 rfl rfl))))) rfl)) rfl))
noncomputable def Gf{R:Type}(L:Nat)(v b O:By)(A:Int->By->By->Int->By->Int->Int->Int->Int->Int->Int->Int->Int->Int->Int->By->(List Blk)->Option R):Option R:=vl (A1 ((b.length:Int)-1)) λC=>W4 L L v b C O (λg a r t=>cond (A3 a.length) (vl (↑(P9 a ([58]:List UInt8)):Int) λq=>cond (not (a==e0)) (cond (inR 0 a.length) (vl (bAt a (0:Int)) λD=>Bi g a q (D==91) r t (λB=>A 4 e0 e0 0 e0 0 0 0 0 0 0 0 0 0 0 e0 B) (λm e o M F G=>Q8 L m e o F G A) (λn f p N H I=>Je L n f p H I A)) none) (Bi g a q false r t (λu=>A 4 e0 e0 0 e0 0 0 0 0 0 0 0 0 0 0 e0 u) (λh c j J w x=>Q8 L h c j w x A) (λi d l K y z=>Je L i d l y z A))) none)
abbrev Rz(b:Code):Prop:=∀(k:Out->St Z->Option R) name0 authority1 a,A9 (I8 L) Q Y b ⟨gp [(2,.ptr 0 0 0),(2,pS name0),(3,pS authority1),(0,.ptr 1 0 0)] 176,[bU0,(bU name0 [] 0 [] 0 0 0 0 0 0 0 0 0 (-1) a)],s⟩ k=Gf L name0 authority1 a (λn0 p a j q l m n n8 o d e f g h i c=>k .ret ⟨gp [(2,.ptr 0 0 0),(0,pI n0)] 183,((bU p a j q l m n n8 o d e f g h i)::c),s⟩)
theorem YH(b:Code)(d:Rw (R:=R) L Q Y s b)(a:Code)(e:Rx (R:=R) L Q Y s a)(f:Ry (R:=R) L Q Y s a):Rz (R:=R) L Q Y s (cd [1,1,1,1,1,1,1,1,1,1,1] (G2 [1,1,1,1,1,1,1,1,1,1,1,1,1,1] a (G2 [1,1,1,1,1,1,1,1,1,1,1,1,1,0,1] b K3))):=by intro k B l T;unfold Gf;exact let S:=(E2 (I8 L) Q Y a k);(c9 (by kernel_rfl) (A2 λJ=>((AO L Q Y s (E3 2 (E2 (I8 L) Q Y (cd [1,1,1,1,1,1,1,1,1,1,1,1] (G2 [1,1,1,1,1,1,1,1,1,1,1,1,1,1] a (G2 [1,1,1,1,1,1,1,1,1,1,1,1,1,0,1] b K3))) k)) L B l J T).trans (congr rfl (fx4 λm c x y=>(c9 (by kernel_rfl) (A0 (A2 λw=>(A0 (A0 (A2 λK=>((d S m c w (K==91) x y).trans (congr (congr (congr rfl (by kernel_rfl)) (fx6 λr i u H M N=>(c9 (by kernel_rfl) ((e k r i u H M N).trans (by kernel_rfl))))) (fx6 λt j v I O P=>(c9 (by kernel_rfl) ((f k t j v I O P).trans (by kernel_rfl))))))) rfl) ((d S m c w false x y).trans (congr (congr (congr rfl (by kernel_rfl)) (fx6 λn g p z C D=>(c9 (by kernel_rfl) ((e k n g p z C D).trans (by kernel_rfl))))) (fx6 λo h q A F G=>(c9 (by kernel_rfl) ((f k o h q A F G).trans (by kernel_rfl)))))))) rfl)))))))
theorem YI:Rz (R:=R) L Q Y s (cd [1,1,1,1,1,1,1,1,1,1,1] K3):=by intro k b a c;exact c9 (by kernel_rfl) (YH L Q Y s (cd [1,1,1,1,1,1,1,1,1,1,1,1,1,0,1] K3) (AL L Q Y s) (cd [1,1,1,1,1,1,1,1,1,1,1,1,1,1] K3) (AM L Q Y s) (AN L Q Y s) k b a c)
noncomputable def HK{R:Type}(L:Nat)(y z b:By)(J:Int->By->By->Int->By->Int->Int->Int->Int->Int->Int->Int->Int->Int->Int->By->(List Blk)->Option R):Option R:=vl (A1 ((b.length:Int)-1)) λw=>W4 L L y b w z (λg a r t=>cond (A3 a.length) (vl (↑(P9 a ([58]:List UInt8)):Int) λq=>cond (not (a==e0)) (cond (inR 0 a.length) (vl (bAt a (0:Int)) λx=>Bi g a q (x==91) r t (λu=>J 4 e0 e0 0 e0 0 0 0 0 0 0 0 0 0 0 e0 u) (λh c m K A B=>Q8 L h c m A B J) (λi d n M C D=>Je L i d n C D J)) none) (Bi g a q false r t (λv=>J 4 e0 e0 0 e0 0 0 0 0 0 0 0 0 0 0 e0 v) (λj e o N F G=>Q8 L j e o F G J) (λl f p O H I=>Je L l f p H I J))) none)
abbrev Sa(b:Code):Prop:=∀(k:Out->St Z->Option R) name0 rest1 authority2 b3,A9 (I8 L) Q Y b ⟨gp [(2,.ptr 0 0 0),(2,pS name0),(0,pS rest1),(2,pS authority2),(0,.ptr 1 0 0),(66,pB b3)] 109,[bU0,(bU name0 [] 0 [] 0 0 0 0 0 0 0 0 0 (-1) rest1)],s⟩ k=HK L name0 rest1 authority2 (λn0 o p i q j l m n8 n c d e f g h a=>k .ret ⟨gp [(2,.ptr 0 0 0),(0,pI n0)] 183,((bU o p i q j l m n8 n c d e f g h)::a),s⟩)
theorem YK(b:Code)(d:Rw (R:=R) L Q Y s b)(a:Code)(e:Rx (R:=R) L Q Y s a)(f:Ry (R:=R) L Q Y s a):Sa (R:=R) L Q Y s (cd [1,1,1,1,1,1,1,1,1,1,1] (G2 [1,1,1,1,1,1,1,1,1,1,1,1,1,1] a (G2 [1,1,1,1,1,1,1,1,1,1,1,1,1,0,1] b K3))):=by intro k G H m U;unfold HK;exact let T:=(E2 (I8 L) Q Y a k);(c9 (by kernel_rfl) (A2 λD=>((AO L Q Y s (E3 2 (E2 (I8 L) Q Y (cd [1,1,1,1,1,1,1,1,1,1,1,1] (G2 [1,1,1,1,1,1,1,1,1,1,1,1,1,1] a (G2 [1,1,1,1,1,1,1,1,1,1,1,1,1,0,1] b K3))) k)) L G m D H).trans (congr rfl (fx4 λl c x y=>(c9 (by kernel_rfl) (A0 (A2 λw=>(A0 (A0 (A2 λF=>((d T l c w (F==91) x y).trans (congr (congr (congr rfl (by kernel_rfl)) (fx6 λn g r z I J=>(c9 (by kernel_rfl) ((e k n g r z I J).trans (by kernel_rfl))))) (fx6 λo h t A K M=>(c9 (by kernel_rfl) ((f k o h t A K M).trans (by kernel_rfl))))))) rfl) ((d T l c w false x y).trans (congr (congr (congr rfl (by kernel_rfl)) (fx6 λp i u B N O=>(c9 (by kernel_rfl) ((e k p i u B N O).trans (by kernel_rfl))))) (fx6 λq j v C P S=>(c9 (by kernel_rfl) ((f k q j v C P S).trans (by kernel_rfl)))))))) rfl)))))))
theorem YL:Sa (R:=R) L Q Y s (cd [1,1,1,1,1,1,1,1,1,1,1] K3):=by intro k b c a d;exact c9 (by kernel_rfl) (YK L Q Y s (cd [1,1,1,1,1,1,1,1,1,1,1,1,1,0,1] K3) (AL L Q Y s) (cd [1,1,1,1,1,1,1,1,1,1,1,1,1,1] K3) (AM L Q Y s) (AN L Q Y s) k b c a d)
noncomputable def Nq{R:Type}(L:Nat)(s0:By)(k0:By->By->Int->By->Int->Int->Int->Int->Int->Int->Int->Int->Int->Int->By->Int->(List Blk)->Option R):Option R:=Dh L L s0 0 (λb4=>k0 e0 e0 0 e0 0 0 0 0 0 0 0 0 0 0 e0 4 (bU0::b4)) (λa=>cond (A3 a.length) (cond (not (((Cl a)).2).2) (k0 e0 e0 0 e0 0 0 0 0 0 0 0 0 0 0 e0 15 [bU0]) (cond (not (L3 ((Cl a)).1)) (k0 ((Cl a)).1 e0 0 e0 0 0 0 0 0 0 0 0 0 (-1) (((Cl a)).2).1 0 [(bU (((Cl a)).1) e0 (0:Int) e0 (0:Int) (0:Int) (0:Int) (0:Int) (0:Int) (0:Int) (0:Int) (0:Int) (0:Int) ((-1):Int) ((((Cl a)).2).1))]) (cond (ltI (↑(b8 (((Cl a)).2).1):Int) (2:Int)) (k0 e0 e0 0 e0 0 0 0 0 0 0 0 0 0 0 e0 4 [bU0]) (cond (I5 0 (2:Int) (b8 (((Cl a)).2).1)) (vl (cut (((Cl a)).2).1 (0:Int) (2:Int)) λb5=>cond (not (b5==[47,47])) (k0 e0 e0 0 e0 0 0 0 0 0 0 0 0 0 0 e0 4 [bU0]) (cond (I5 2 (↑(b8 (((Cl a)).2).1):Int) (b8 (((Cl a)).2).1)) (vl (cut (((Cl a)).2).1 (2:Int) (↑(b8 (((Cl a)).2).1):Int)) λb=>cond (A3 b.length) (vl (↑(P9 b ([47,63,35]:List UInt8)):Int) λd=>cond (I5 0 d b.length) (cond (I5 d (b.length:Int) b.length) (vl (cut b d (b.length:Int)) λc=>cond (c==e0) (cond (K8 1 c.length) (vl (([47]:List UInt8)++c) λb2=>Gf L ((Cl a)).1 (cut b 0 d) b2 (λa9 P S e T f g h i j l m n o p U a5=>k0 P S e T f g h i j l m n o p U a9 ((bU P S e T f g h i j l m n o p U)::a5))) none) (cond (inR 0 c.length) (cond ((bAt c (0:Int))!=47) (cond (K8 1 c.length) (vl (([47]:List UInt8)++c) λb3=>Gf L ((Cl a)).1 (cut b 0 d) b3 (λb0 V W q X r t u v w x y z A B a0 a6=>k0 V W q X r t u v w x y z A B a0 b0 ((bU V W q X r t u v w x y z A B a0)::a6))) none) (HK L ((Cl a)).1 c (cut b 0 d) (λb1 a1 a2 C a3 D F G H I J K M N O a4 a7=>k0 a1 a2 C a3 D F G H I J K M N O a4 b1 ((bU a1 a2 C a3 D F G H I J K M N O a4)::a7)))) none)) none) none) none) none)) none)))) none)
theorem B25(a:Code)(b:Rz (R:=PV × List Blk × Z) L Q Y s a)(c:Sa (R:=PV × List Blk × Z) L Q Y s a)(t:By):A9 (I8 L) Q Y (cd [] (G2 [1,1,1,1,1,1,1,1,1,1,1] a K3)) ⟨[pS t]++tps 186,[],s⟩ (F5 (I8 L) ae1)=Nq L t (λu v w x y z A B r8 C m n o p q r l=>some (.tup [(gU u v w x y z A B r8 C m n o p q),pI r],l,s)):=by unfold Nq;exact let j:=(F5 (I8 L) ae1);(c9 (by kernel_rfl) ((YM L Q Y s (E3 0 (E2 (I8 L) Q Y (cd [1,1] (G2 [1,1,1,1,1,1,1,1,1,1,1] a K3)) j)) L t 0).trans (congr (congr rfl (by kernel_rfl)) (fx1 λe=>(c9 (by kernel_rfl) (A0 (A0 rfl (A0 rfl (A0 rfl (A0 (A2 λD=>(A0 rfl (A0 (A2 λf=>(A0 (A2 λd=>(A0 (A0 (A2 λi=>(A0 (A0 (A2 λg=>((b j ((Cl e)).1 (cut f 0 d) g).trans (by kernel_rfl))) rfl) (A0 (A0 (A0 (A2 λh=>((b j ((Cl e)).1 (cut f 0 d) h).trans (by kernel_rfl))) rfl) ((c j ((Cl e)).1 i (cut f 0 d) ((bAt i (0:Int))!=47)).trans (by kernel_rfl))) rfl))) rfl) rfl)) rfl)) rfl))) rfl)))) rfl))))))
theorem B26(d:Nat)(s0):evC (I8 L) (d+1) Z Y 41 [pS s0] [] s=Nq L s0 (λi j l m n o p q r8 r b c e f g h a=>some (.tup [(gU i j l m n o p q r8 r b c e f g),pI h],a,s)):=
 (evE (fn:=ae1) (by kernel_rfl)).trans (c9 (by kernel_rfl) (B25 L (evC (I8 L) d) Y s (cd [1,1,1,1,1,1,1,1,1,1,1] K3) (YI L (evC (I8 L) d) Y s) (YL L (evC (I8 L) d) Y s) s0))
noncomputable def Xm(L:Nat):Cfg:=B7 L [14] (A4 []) [(41,A33)] (A4 [(3,[2,0]),(2,[2,0]),(1,[0,1,3]),(0,[0,1])]) [] (A4 []) (some [2,0]) [] [] []
noncomputable def CD{R:Type}(L:Nat)(b:By)(c:By->By->Int->By->Int->Int->Int->Int->Int->Int->Int->Int->Int->Int->By->Int->(List Blk)->Option R):Option R:=cond (ltI 2048 (b.length:Int)) (c e0 e0 0 e0 0 0 0 0 0 0 0 0 0 0 e0 3 [bU0]) (cond (A3 b.length) (vl (C3 b) λa=>c (uS a) (uU a) (uK a) (uN a) (uV a) (uA a 0) (uA a 1) (uA a 2) (uA a 3) (uA a 4) (uA a 5) (uA a 6) (uA a 7) (uP a) (uR a) (uE a) [(bQ a)]) none)
theorem Aw3(d:Nat)(s0):evC (Xm L) (d+1) Z Y 14 [pS s0] [] s=CD L s0 (λi j l m n o p q r8 r b c e f g h a=>some (.tup [(gU i j l m n o p q r8 r b c e f g),pI h],a,s)):=by refine(evE (fn:=Tryz.f14) (by kernel_rfl)).trans ?_;generalize evC (Xm L) d=Q;unfold CD;kernel_rfl
end
theorem ZC{R:Type}{e:Bool->Option R}(s:By):SD LF s e=e (L3 s):=by unfold SD L3 Lp bWs Ju OU;generalize (s==([104,116,116,112]:List UInt8))=a;generalize (s==([119,115]:List UInt8))=b;generalize (s==([104,116,116,112,115]:List UInt8))=c;generalize (s==([119,115,115]:List UInt8))=d;cases a<;>cases b<;>cases c<;>cases d<;>rfl
theorem Aw8{R:Type}{e:Int->Option R}(s:By):A87 LF s e=e (Q0 s):=by unfold A87 Q0 Lp bWs Ju OU;generalize (s==([104,116,116,112]:List UInt8))=a;generalize (s==([119,115]:List UInt8))=b;generalize (s==([104,116,116,112,115]:List UInt8))=c;generalize (s==([119,115,115]:List UInt8))=d;cases a<;>cases b<;>cases c<;>cases d<;>rfl
theorem Ja(a b:UInt8):((a.toNat:Int)==(b.toNat:Int))=(a==b):=by rw[j1,beq_iff_eq,beq_iff_eq];exact⟨λh=>o0.1 (by omega),λh=>by rw[h]⟩
theorem B23{R:Type}{a:Int->Option R}{b:By->By->Int->Option R}(s t:By)(i:Nat)(h:s.length<=1000000000)(k:t.length<=1000000000)(g:i<s.length):∀(r j n:Nat),j+r=t.length->r<n->
  Gb LF n s t (i:Int) (j:Int) a b=if (t.drop j).contains (s.getD i 0)=true then a (i:Int) else b s t (i:Int):=by
 intro r
 induction r with
 | zero=>
  intro j n d e;obtain⟨n,rfl⟩:∃m,n=m+1:=⟨n-1,by omega⟩
  rw[Gb];rw[A6,g7 (by omega)];rfl
 | succ r f=>
  intro j n d e;obtain⟨n,rfl⟩:∃m,n=m+1:=⟨n-1,by omega⟩
  have c:A1 ((j:Int)+1)=((j+1:Nat):Int):=by rw[A7];rfl
  rw[Gb];rw[A8,E4,E4,D0,D0,Ja,D1 t j (by omega),y9,c];simp only[cond_true];rw[f (j+1) n (by omega) (by omega)];cases (s.getD i 0==t.getD j 0)<;>rfl
theorem Bk0{R:Type}{a:Int->Option R}{c:By->Option R}(s t:By)(j:s.length<=1000000000)(k:t.length<=1000000000):∀(r i n:Nat),i+r=s.length->r<n->
  Gc LF n s t (i:Int) a c=if P9 (s.drop i) t<r then a ((i+P9 (s.drop i) t:Nat):Int) else c s:=by
 have e:=C1;intro r
 induction r with
 | zero=>
  intro i n f g;obtain⟨n,rfl⟩:∃m,n=m+1:=⟨n-1,by omega⟩
  rw[Gc];rw[A6,F8];rfl
 | succ r l=>
  intro i n f g;obtain⟨n,rfl⟩:∃m,n=m+1:=⟨n-1,by omega⟩
  have d:A1 ((i:Int)+1)=((i+1:Nat):Int):=by rw[A7];rfl
  rw[Gc];rw[A8,cond_true];refine c9 (B23 s t i j k (by omega) t.length 0 LF (by omega) (by omega)) ?_;rw[z7,d,l (i+1) n (by omega) (by omega),D1 s i (by omega)];unfold P9;cases h:t.contains (s.getD i 0) with
  | true=>
   rw[if_pos rfl,m7,h];rfl
  | false=>
   rw[if_neg (by simp),m7,h];simp only[f9,if_true,d7,aa3];rw[show i+1+(ae0 (λb=>!t.contains b) (s.drop (i+1))).length=i+((ae0 (λb=>!t.contains b) (s.drop (i+1))).length+1) by omega]
theorem Ai8(s t:By):P9 s t<=s.length:=af4 (List.takeWhile_sublist _)
theorem Aw1{R:Type}{a:Int->Option R}(s t:By)(b:A3 s.length=true)(c:A3 t.length=true):B21 LF s t a=a (P9 s t:Int):=by
 have e:=L6 b;have f:=L6 c;have d:=C1;have g:=Ai8 s t;refine(Bk0 s t e f s.length 0 LF (by omega) (by omega)).trans ?_;rw[z7,y7];split
 ·rfl
 ·rw[show P9 s t=s.length by omega]
set_option maxHeartbeats 4000000 in theorem AS{R:Type}(s:By)(i:Nat)(b:UInt8)(f:By->Int->Option R)(g:Unit->Option R) :
  Z5 s (i:Int) (b.toNat:Int) (λs i _=>f s i) g=if O6 b=true\/(i≠0/\N5 b=true) then f s i else g ():=by
 have a:(b=43)=(b.toNat=43):=by rw[eq_iff_iff,<-o0];rfl
 have d:(b=45)=(b.toNat=45):=by rw[eq_iff_iff,<-o0];rfl
 have e:(b=46)=(b.toNat=46):=by rw[eq_iff_iff,<-o0];rfl
 simp only[T0,Hk,a,d,e];unfold Z5 Gi Vh Jh Gh Jg Gg;generalize b.toNat=c;simp only[cond_eq_ite,p9,Ni,beq_iff_eq,Bool.not_eq_false',Km,beq_eq_false_iff_ne,f6,f9,j0,Bool.true_eq_false,if_true,if_false,ne_eq]
 repeat' split
 all_goals first|rfl|(exfalso;omega)
theorem TB{c:UInt8}:∀{p:By},c∉p->p.takeWhile (λb=>b !=c)=p
 | [],_=>rfl
 | b::p,h=>by
  simp only[t7,not_or] at h;rw[m7,if_pos (by simpa using ad8 h.1),TB h.2]
theorem B51{c:UInt8}{p:By}(r:By)(h:c∉p):(p++c::r).takeWhile (λb=>b !=c)=p:=by
 rw[List.takeWhile_append_of_pos (λx a=>by
  rw[bne_iff_ne];intro e;subst e;exact h a),m7,if_neg (by simp),List.append_nil]
theorem C52{c b:UInt8}(r:By)(h:b≠c):(b::r).takeWhile (λb=>b !=c)=b::r.takeWhile λb=>b !=c:=by rw[m7,if_pos (by simpa using h)]
theorem Bt5(b:UInt8):((b.toNat:Int)==58)=(b==58):=Ja b 58
theorem Aw6{R:Type}{c:By->By->Bool->Option R}(s:By)(q:s.length<=1000000000):∀(r i n:Nat),1<=i->i+r=s.length->r<n->
  N1 LF n s (i:Int) c (λ_=>c [] [] false)=if ((s.drop i).takeWhile λb=>b !=58).all N5=true/\((s.drop i).takeWhile λb=>b !=58).length<r then c (B5 (s.take (i+((s.drop i).takeWhile λb=>b !=58).length))) (s.drop (i+((s.drop i).takeWhile λb=>b !=58).length+1)) true else c [] [] false:=by
 intro r
 induction r with
 | zero=>
  intro i n k l o;obtain⟨n,rfl⟩:∃m,n=m+1:=⟨n-1,by omega⟩
  rw[N1];rw[A6,F8];rfl
 | succ r p=>
  intro i n k l o;obtain⟨n,rfl⟩:∃m,n=m+1:=⟨n-1,by omega⟩
  have g:A1 ((i:Int)+1)=((i+1:Nat):Int):=by rw[A7];rfl
  rw[N1];unfold Jf;rw[A8,E4,D0,D1 s i (by omega),Bt5,A8];simp only[cond_true,cond_false];by_cases a:s.getD i 0=58
  ·rw[a,show((58:UInt8)==58)=true from rfl,cond_true,show((58:UInt8)::s.drop (i+1)).takeWhile (λb=>b !=58)=[] from rfl,if_pos ⟨rfl,by simp⟩];simp only[vl];rw[H9,J5,f0,D9 (by rw[f7];omega),g,H9,P8,f0];rfl
  ·rw[show(s.getD i 0==58)=false by simpa using a,cond_false,C52 _ a];simp only[vl];refine(AS s i (s.getD i 0) (λf e=>N1 LF n f (A1 (e+1)) c λ_=>c [] [] false) (λ_=>c [] [] false)).trans ?_;rw[g,p (i+1) n (by omega) (by omega) (by omega),ae9,d7];have j:(O6 (s.getD i 0)=true\/i≠0/\N5 (s.getD i 0)=true)↔N5 (s.getD i 0)=true:=by
    refine⟨λh=>?_,λh=>.inr ⟨by omega,h⟩⟩;rcases h with h|⟨_,h⟩
    ·rw[Hk];rw[T0] at h;exact h.elim .inl λh=>.inr (.inl h)
    ·exact h
   by_cases d:N5 (s.getD i 0)=true
   ·rw[if_pos (j.2 d)];simp only[d,x4,aa3];rw[show i+1+((s.drop (i+1)).takeWhile λb=>b !=58).length=i+(((s.drop (i+1)).takeWhile λb=>b !=58).length+1) by omega]
   ·rw[if_neg (λh=>d (j.1 h)),if_neg (λh=>d (by have:=h.1;rw[j5] at this;exact this.1))]
theorem Aw7{R:Type}{a:By->By->Bool->Option R}(s:By)(n:A3 s.length=true):YR LF s a=a (Cl s).1 (Cl s).2.1 (Cl s).2.2:=by
 have u:=L6 n;have o:=C1;obtain⟨N,hN⟩:∃m,LF=m+1:=⟨LF-1,by omega⟩
 unfold YR;rw[show N1 LF LF = @N1 R LF (N+1) by rw[<-hN],N1];unfold Jf;cases s with
 | nil=>
  rfl
 | cons b r=>
  rw[d7] at u;rw[B4 (by simp only[d7];omega),L5 (by omega) (by simp),Z0,m6,Bt5,A6];simp only[cond_true,cond_false,vl];have l:A1 (((0:Nat):Int)+1)=((1:Nat):Int):=rfl;have go:Z5 (b::r) ((0:Nat):Int) (b.toNat:Int) (λe d _=>N1 LF N e (A1 (d+1)) a λ_=>a [] [] false) (λ_=>a [] [] false)=if O6 b=true/\(r.takeWhile λb=>b !=58).all N5=true/\(r.takeWhile λb=>b !=58).length<r.length then a (B5 ((b::r).take (1+(r.takeWhile λb=>b !=58).length))) ((b::r).drop (1+(r.takeWhile λb=>b !=58).length+1)) true else a [] [] false:=by
   refine(AS (b::r) 0 b (λe d=>N1 LF N e (A1 (d+1)) a λ_=>a [] [] false) (λ_=>a [] [] false)).trans ?_;rw[l,Aw6 (b::r) (by simp;omega) r.length 1 N (by omega) (by simp;omega) (by omega)];by_cases j:O6 b=true
   ·rw[if_pos (.inl j)];simp only[j,true_and];rfl
   ·rw[if_neg (by simp[j]),if_neg (λh=>j h.1)]
  have k:∀c,(bif c then Z5 (b::r) 0 (b.toNat:Int) (λe d _=>N1 LF N e (A1 (d+1)) a λ_=>a [] [] false) (λ_=>a [] [] false) else Z5 (b::r) 0 (b.toNat:Int) (λe d _=>N1 LF N e (A1 (d+1)) a λ_=>a [] [] false) (λ_=>a [] [] false))=Z5 (b::r) ((0:Nat):Int) (b.toNat:Int) (λe d _=>N1 LF N e (A1 (d+1)) a λ_=>a [] [] false) (λ_=>a [] [] false):=λc=>by cases c<;>rfl
  refine(k _).trans (go.trans ?_);unfold Cl;rcases S7 58 r with f|⟨p,t,rfl,f⟩
  ·rw[TB f,F8];by_cases i:b=58
   ·subst i;rw[show y6 (58::r) [58]=([],r,true) from Z2 (p:=[]) (by simp)];rfl
   ·rw[Ol (by simp only[t7,not_or];exact⟨ad8 i,f⟩)];rfl
  ·rw[B51 t f];by_cases i:b=58
   ·subst i;rw[show y6 (58::(p++58::t)) [58]=([],p++58::t,true) from Z2 (p:=[]) (by simp),if_neg (λh=>by cases h.1)];rfl
   ·rw[show y6 (b::(p++58::t)) [58]=(b::p,t,true) from Z2 (p:=b::p) (by simp only[t7,not_or];exact⟨ad8 i,f⟩)];simp only[x4];have q:V2 (b::p)=(O6 b&&p.all N5):=rfl;rw[q];by_cases g:O6 b=true/\p.all N5=true
    ·rw[if_pos ⟨g.1,g.2,by simp⟩,g.1,g.2,show(b::(p++58::t))=(b::p)++58::t from rfl,show 1+p.length=(b::p).length by rw[d7];omega,aa0,show(b::p)++58::t=((b::p)++[58])++t by simp,x8 (by simp)];rfl
    ·rw[if_neg (λh=>g ⟨h.1,h.2.1⟩),if_neg (by simpa using g)]
def IQ:Int->By->Option Int
 | n,[]=>some n
 | n,b::r=>if 48<=b.toNat/\b.toNat<=57 then IQ (min (n*10+((b.toNat-48:Nat):Int)) 1048576) r else none
theorem WT:∀(l:By) (n v:Int),0<=v->v<=65536->n<=1048576->(v<65536->n=v)->(v=65536->65536<=n)->Ia v l=(IQ n l).bind λm=>if 65535<m then none else some m
 | [],n,v,d,e,f,c,g=>by
  unfold Ia IQ;rw[o9];by_cases h:v<65536
  ·rw[if_pos h,F8,c h]
  ·rw[if_neg h,R7]
 | b::r,n,v,d,e,f,c,g=>by
  unfold Ia IQ;by_cases a:48<=b.toNat/\b.toNat<=57
  ·rw[if_pos a,if_pos a];exact WT r _ _ (by omega) (by omega) (by omega) (by omega) (by omega)
  ·rw[if_neg a,if_neg a];rfl
theorem Am9(b:UInt8)(r:By):Ia (-1) (b::r)=Ia 0 (b::r):=rfl
theorem XJ:∀(l:By) (n m:Int),0<=n->n<=1048576->IQ n l=some m->0<=m/\m<=1048576
 | [],n,m,a,c,h=>by
  obtain rfl:n=m:=p6 h;exact⟨a,c⟩
 | b::r,n,m,a,c,h=>by
  unfold IQ at h;split at h
  ·exact XJ r _ m (by omega) (by omega) h
  ·cases h
theorem YP{R:Type}(q u t:By)(d:Int)(e:By)(f g h j k l o p c:Int)(a:By)(L:a.length<=1000000000)(w:List Blk->Option R)(x:By->Int->By->Int->By->Int->Int->Int->Int->Int->Int->Int->Int->Int->By->Option R):∀(r i n:Nat) (v:Int),i+r=a.length->r<n->0<=v->v<=1048576->
  Di LF n q a v (i:Int) u d e f g h j k l o p c t w x=match IQ v (a.drop i) with
   | none=>w [bU q u d e f g h j k l o p c (-1) t,bH d e f g h j k l o p c]
   | some m=>x q m u d e f g h j k l o p c t:=by
 intro r
 induction r with
 | zero=>
  intro i n v I J D F;obtain⟨n,rfl⟩:∃m,n=m+1:=⟨n-1,by omega⟩
  rw[Di];rw[A6,g7 (by omega)];rfl
 | succ r K=>
  intro i n v I J D F;obtain⟨n,rfl⟩:∃m,n=m+1:=⟨n-1,by omega⟩
  have y:A1 ((i:Int)+1)=((i+1:Nat):Int):=by rw[A7];rfl
  rw[Di];rw[A8,E4,D0,D1 a i (by omega),y];have M:=(a.getD i 0).toNat_lt;generalize a.getD i 0=b at *;unfold IQ;simp only[cond_true,vl];by_cases G:b.toNat<48
  ·rw[A8,cond_true,F8]
  ·rw[A6,cond_false];by_cases H:57<b.toNat
   ·rw[A8,cond_true,F8]
   ·rw[A6,cond_false,if_pos (show 48<=b.toNat/\b.toNat<=57 by omega)];have z:A1 (v*10)=v*10:=A7;have A:wu8 ((b.toNat:Int)-48)=((b.toNat-48:Nat):Int):=by rw[L0];omega
    have B:A1 ((b.toNat-48:Nat):Int)=((b.toNat-48:Nat):Int):=A7;have C:A1 (v*10+((b.toNat-48:Nat):Int))=v*10+((b.toNat-48:Nat):Int):=A7;rw[z,A,B,C,show(if (1048576:Int)<v*10+((b.toNat-48:Nat):Int) then (1048576:Int) else v*10+((b.toNat-48:Nat):Int))=min (v*10+((b.toNat-48:Nat):Int)) 1048576 by omega];exact K (i+1) n _ (by omega) (by omega) (by omega) (by omega)
abbrev KE(R:Type):=Int->By->By->Int->By->Int->Int->Int->Int->Int->Int->Int->Int->Int->Int->By->List Blk->Option R
abbrev JY{R:Type}(a:KE R)(q:Y9 × Nat)(H:List Blk):Option R:=a (uE q) (uS q) (uU q) (uK q) (uN q) (uV q) (uA q 0) (uA q 1) (uA q 2) (uA q 3) (uA q 4) (uA q 5) (uA q 6) (uA q 7) (uP q) (uR q) H
theorem Hj(c l j a:By)(e:Nat)(q:a.length<=1000000000)(w:e<=a.length):∃H,∀(R:Type) (f:KE R),Q8 LF c a (e:Int) l j f=JY f (hpT (a.take e) (a.drop e) c l j) H:=by
 have p:=C1;have n:A1 ((e:Int)+1)=((e+1:Nat):Int):=by rw[A7];rfl
 have k:A3 (a.take e).length=true:=D9 (by rw[f7];omega);by_cases h:(C5 (a.take e)).2=0
 ·by_cases t:e+1<a.length
  ·have i:(a.drop e).drop 1=a.drop (e+1):=by rw[ab3]
   have r:=D1 a (e+1) t;have u:Ia (-1) (a.drop (e+1))=(IQ 0 (a.drop (e+1))).bind λm=>if 65535<m then none else some m:=by
    rw[r,Am9];exact WT _ 0 0 (by omega) (by omega) (by omega) (by omega) (by omega)
   have x:=@XJ (a.drop (e+1)) 0;generalize v:IQ 0 (a.drop (e+1))=g at *;have o:g=none\/(∃m,g=some m/\65535<m)\/(∃m,g=some m/\¬ 65535<m/\m=Q0 c)\/∃m,g=some m/\¬ 65535<m/\m≠Q0 c:=by
    cases g with
    | none=>exact .inl rfl
    | some m=>
     by_cases b:65535<m
     ·exact .inr (.inl ⟨m,rfl,b⟩)
     ·by_cases d:m=Q0 c
      ·exact .inr (.inr (.inl ⟨m,rfl,b,d⟩))
      ·exact .inr (.inr (.inr ⟨m,rfl,b,d⟩))
   rcases o with rfl|⟨m,rfl,b⟩|⟨m,rfl,b,d⟩|⟨m,rfl,b,d⟩
   all_goals
    apply g6;intro R f;unfold Q8 hpT;rw[H9,J5,f0,i,u];simp only[vl,cond_true,k,h,n];rw[A8,YP c l j _ _ _ _ _ _ _ _ _ _ _ a q _ _ (a.length-(e+1)) (e+1) LF 0 (by omega) (by omega) (by omega) (by omega),v]
   ·rfl
   ·simp only[o9,if_pos b];rw[A8];rfl
   ·simp only[o9,if_neg b,if_pos d];rw[A6,show(m==Q0 c)=true by simpa using d];rfl
   ·simp only[o9,if_neg b,if_neg d];rw[A6,show(m==Q0 c)=false by simpa using d];rfl
  ·have i:(a.drop e).drop 1=[]:=by rw[ab3,g7 (by omega)]
   apply g6;intro R f;unfold Q8 hpT;rw[H9,J5,f0,i];simp only[vl,cond_true,k,h,n];rw[A6];simp only[Ia,show((-1:Int)<65536)=True by simp,if_true,ite_self,show((((0:Nat):Int)!=0))=false from rfl,cond_false,ne_eq,not_true_eq_false,if_false];cases (-1:Int)==Q0 c<;>rfl
 ·apply g6;intro R f;unfold Q8 hpT;rw[H9,J5,f0];simp only[vl,cond_true,k];rw[show(((C5 (a.take e)).2:Int)!=0)=true by simpa using h,cond_true,if_pos h];rfl
theorem Ce9{c:UInt8}{a:By}(h:Fs c a=none):c∉a:=λd=>by
 rcases S7 c a with b|⟨p,r,rfl,b⟩
 ·exact b d
 ·rw[WG r b] at h;cases h
theorem VJ(c:UInt8)(a:By):P9 a [c]=match Fs c a with|some k=>k|none=>a.length:=by
 have e:P9 a [c]=(a.takeWhile λb=>b !=c).length:=by
  unfold P9
  congr 2
  funext b
  simp[y9,bne];rfl
 rw[e];cases h:Fs c a with
 | none=>rw[TB (Ce9 h)]
 | some k=>
  obtain⟨p,r,rfl,d,rfl⟩:=Ou h;rw[B51 r d]
theorem HJ(c f d a:By)(w:a.length<=1000000000):∃H,∀(R:Type) (g:KE R),(cond (not (a==([]:By)))
   (cond (inR (0:Int) (b8 a))
   (Bi c a (P9 a [58]:Int) (bAt a 0==(91:Int)) f d (λH=>JY g (Bn,4) H) (λo t n y u v=>Q8 LF o t n u v g) (λo t n y u v=>Q8 LF o t n u v g))
   none)
   (Bi c a (P9 a [58]:Int) false f d (λH=>JY g (Bn,4) H) (λo t n y u v=>Q8 LF o t n u v g) (λo t n y u v=>Q8 LF o t n u v g)))=JY g (T6 c f d a) H:=by
 cases a with
 | nil=>
  obtain⟨H,e⟩:=Hj c f d [] 0 w (j8 _);exact⟨H,e⟩
 | cons b r=>
  have F:(((b.toNat:Int))==91)=(b==91):=Ja b 91;have z:(!((b::r)==([]:By)))=true:=rfl;have G:inR (0:Int) (b::r).length=true:=L5 (by omega) (by simp);have A:A3 (b::r).length=true:=D9 w;rw[Tv];unfold Iy Bi;simp only[z,G,A,cond_true,cond_false,vl,Z0,m6,F,ad7,i6,VJ];by_cases j:b=91
  ·rw[show(b==91)=true by simpa using j,if_pos j];simp only[cond_true];cases B:Fs 93 (b::r) with
   | none=>
    apply g6;intro R g;simp only;rw[A7,A8];rfl
   | some k=>
    obtain⟨_,K⟩:=QJ B;have C:A1 ((k:Int)+1)=((k+1:Nat):Int):=by rw[A7];rfl
    simp only[C];rw[A6];simp only[cond_false];obtain⟨H,e⟩:=Hj c f d (b::r) (k+1) w (by omega);by_cases I:k+1<(b::r).length
    ·rw[A8,E4];simp only[cond_true,D0];have m:=D1 (b::r) (k+1) I;by_cases i:(b::r).getD (k+1) 0=58
     ·have l:hpC ((b::r).take (k+1)) ((b::r).drop (k+1)) c f d=hpT ((b::r).take (k+1)) ((b::r).drop (k+1)) c f d:=if_neg (λh=>h.2 (by rw[m,i];rfl));rw[l];refine⟨H,λR g=>c9 ?_ (e R g)⟩;rw[i];rfl
     ·have l:hpC ((b::r).take (k+1)) ((b::r).drop (k+1)) c f d=(Bn,4):=if_pos ⟨by rw[m];simp,by rw[m];simpa using i⟩;rw[l];apply g6;intro R g;rw[show((((b::r).getD (k+1) 0).toNat:Int)!=58)=true by rw[bne,Bt5];simpa using i];rfl
    ·have m:(b::r).drop (k+1)=[]:=g7 (by omega);rw[A6];have l:hpC ((b::r).take (k+1)) ((b::r).drop (k+1)) c f d=hpT ((b::r).take (k+1)) ((b::r).drop (k+1)) c f d:=if_neg (λh=>h.1 m);rw[l];exact⟨H,e⟩
  ·rw[show(b==91)=false by simpa using j,if_neg j];simp only[cond_false];cases B:Fs 58 (b::r) with
   | none=>
    obtain⟨H,e⟩:=Hj c f d (b::r) (b::r).length w (j8 _);rw[ad1,List.drop_length] at e;exact⟨H,e⟩
   | some k=>
    obtain⟨p,q,x,J,D⟩:=Ou B;obtain⟨H,e⟩:=Hj c f d (b::r) k w (by rw[x,d8];omega);have m:(b::r).drop k=58::q:=by rw[x,<-D,List.drop_left]
    have l:hpC ((b::r).take k) ((b::r).drop k) c f d=hpT ((b::r).take k) ((b::r).drop k) c f d:=if_neg (λh=>h.2 (by rw[m];rfl));refine⟨H,λR g=>(e R g).trans ?_⟩;show _=JY g (hpC _ _ c f d) H;rw[l]
theorem YO{R:Type}{c:By->By->By->By->Option R}(d a f:By)(l:a.length<=1000000000)(b:(64:UInt8)∉a):∀(j n:Nat),j<=a.length->j<n->W4 LF n d a ((j:Int)-1) f c=c d a [] f:=by
 intro j
 induction j with
 | zero=>
  intro n g i;obtain⟨n,rfl⟩:∃m,n=m+1:=⟨n-1,by omega⟩
  rw[W4];rw[A8];rfl
 | succ j k=>
  intro n g i;obtain⟨n,rfl⟩:∃m,n=m+1:=⟨n-1,by omega⟩
  rw[W4];have h:a.getD j 0≠64:=λe=>b (by
   rw[<-e,m9,o5 (by omega)];exact ac9 _)
  rw[show((j+1:Nat):Int)-1=(j:Int) by omega,A6,E4,D0,show(((a.getD j 0).toNat:Int)==64)=(a.getD j 0==64) from Ja _ 64,show(a.getD j 0==64)=false by simpa using h];simp only[f9,cond_true,cond_false];rw[C4 (n:=(j:Int)-1) (by omega) (by omega)];exact k n (by omega) (by omega)
theorem YN{R:Type}{b:By->By->By->By->Option R}(c p r d:By)(l:(p++64::r).length<=1000000000)(a:(64:UInt8)∉r):∀(k n:Nat),k<=r.length->p.length+k<n->W4 LF n c (p++64::r) ((p.length+k:Nat):Int) d b=b c r p d:=by
 have o:(p++64::r).length=p.length+r.length+1:=by rw[d8,d7];omega
 intro k
 induction k with
 | zero=>
  intro n g i;obtain⟨n,rfl⟩:∃m,n=m+1:=⟨n-1,by omega⟩
  have f:A1 ((p.length:Int)+1)=((p.length+1:Nat):Int):=by rw[A7];rfl
  rw[W4];rw[ac1,A6,E4,D0,show(p++64::r).getD p.length 0=64 by simp[m9]];simp only[vl,cond_true,f9];rw[H9,J5,f0,aa0,f,H9,P8,f0,show p++64::r=(p++[64])++r by simp,x8 (by simp)];rfl
 | succ k j=>
  intro n g i;obtain⟨n,rfl⟩:∃m,n=m+1:=⟨n-1,by omega⟩
  rw[W4];have h:(p++64::r).getD (p.length+(k+1)) 0≠64:=λe=>a (by
   rw[<-e,m9,j4 (by omega),show p.length+(k+1)-p.length=k+1 by omega,o7,o5 (by omega)];exact ac9 _)
  rw[A6,E4,D0,show((((p++64::r).getD (p.length+(k+1)) 0).toNat:Int)==64)=((p++64::r).getD (p.length+(k+1)) 0==64) from Ja _ 64,show((p++64::r).getD (p.length+(k+1)) 0==64)=false by simpa using h,show((p.length+(k+1):Nat):Int)-1=((p.length+k:Nat):Int) by omega];simp only[f9,cond_true,cond_false];rw[C4 (n:=((p.length+k:Nat):Int)) (by omega) (by omega)];exact j n (by omega) (by omega)
theorem YJ(c d a:By)(f:a.length<=1000000000):∃H,∀(R:Type) (b:KE R),Gf LF c a d b=JY b (G6 c d a) H:=by
 have j:=C1;unfold G6;by_cases h:0<=K6 64 a
 ·obtain⟨p,r,rfl,g,k⟩:=GB h;rw[if_pos h,k,f0,aa0,show p++64::r=(p++[64])++r by simp,x8 (by simp),show(p++[64])++r=p++64::r by simp];have m:(p++64::r).length=p.length+r.length+1:=by rw[d8,d7];omega
  obtain⟨H,e⟩:=HJ c p d r (by omega);refine⟨H,λR b=>c9 ?_ (e R b)⟩;unfold Gf;simp only[vl];rw[A7,show((p++64::r).length:Int)-1=((p.length+r.length:Nat):Int) by omega,YN c p r d f g r.length LF (j8 _) (by omega),N6];rfl
 ·rw[if_neg h];have i:(64:UInt8)∉a:=λl=>by
   obtain⟨p,r,rfl,g⟩:=Ym l;rw[Yl p g] at h;omega
  obtain⟨H,e⟩:=HJ c [] d a f;refine⟨H,λR b=>c9 ?_ (e R b)⟩;unfold Gf;simp only[vl];rw[A7,YO c a d f i a.length LF (j8 _) (by omega),D9 f];rfl
theorem Aw5{R:Type}{a:List Blk->Option R}{b:By->Option R}(s:By)(g:s.length<=1000000000):∀(r i n:Nat),i+r=s.length->r<n->
  Dh LF n s (i:Int) a b=if (s.drop i).any ctl then a [] else b s:=by
 intro r
 induction r with
 | zero=>
  intro i n d e;obtain⟨n,rfl⟩:∃m,n=m+1:=⟨n-1,by omega⟩
  rw[Dh];rw[A6,g7 (by omega)];rfl
 | succ r f=>
  intro i n d e;obtain⟨n,rfl⟩:∃m,n=m+1:=⟨n-1,by omega⟩
  have c:A1 ((i:Int)+1)=((i+1:Nat):Int):=by rw[A7];rfl
  rw[Dh];rw[A8,E4,D0,D1 s i (by omega),c,af0,A47];simp only[cond_true];rw[f (i+1) n (by omega) (by omega)];cases ltI 32 ((s.getD i 0).toNat:Int) with
  | false=>rfl
  | true=>cases (((s.getD i 0).toNat:Int)==127)<;>rfl
end
end Go.Proofs.YtcfingekgbbclaaGreatDoor.E
