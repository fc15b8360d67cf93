/-
  Parts of the proof, merged by a program of the prover's own; no condition.
-/
import Derived.Test.YthcoijldbdfboaaGreatDoorKRP3
import Derived.Lib.IndexAny
import Derived.Lib.MapLaws
import Derived.Lib.TrimUEq
import Derived.Lib.ValidLaws
import Derived.Shelf.LaysM
import Derived.Shelf.Small.Strs
import Derived.Shelf.Spec.SlicesInsert
import Derived.Shelf.Spec.SlicesInsertGrow
import Derived.Shelf.Spec.TrailingZeros
import Derived.Shelf.Strconv.Itoa3
import Derived.Shelf.Strings.Count
import Derived.Shelf.Strings.Cut
import Derived.Shelf.Strings.IndexAnyAll
import Derived.Shelf.Strings.OnBuilder
import Derived.Shelf.Strings.Search3
import Derived.Shelf.Unicode.ValidAny
import Derived.Shelf.Utf8.RuneCount
import Derived.Test.YthcoijldbdfboaaGreatDoorProg
namespace Go.Proofs.YthcoijldbdfboaaGreatDoor.E
set_option linter.all false
section
open Go
structure Q7 where
 sch:By
 user:By
 host:B3
 port:Int
 rest:By
def X9:Q7:=⟨[],[],K7,0,[]⟩
def Lv:By:=[104,116,116,112]
def Ez:By:=[104,116,116,112,115]
def bWs:By:=[119,115]
def CW:By:=[119,115,115]
def Z0 (s:By):Int:=if s==Lv || s==bWs then 80 else if s==Ez || s==CW then 443 else -1
def I8 (s:By):Bool:=s==Lv || s==bWs || (s==Ez || s==CW)
def P6 (s:By):Bool:=s==Lv || s==bWs
def ctl (b:UInt8):Bool:=Nat.ble b.toNat 32 || b==127
def Q0 (b:UInt8):Bool:=(Nat.ble 97 b.toNat&&Nat.ble b.toNat 122) || (Nat.ble 65 b.toNat&&Nat.ble b.toNat 90)
def U8 (b:UInt8):Bool:=Q0 b || (Nat.ble 48 b.toNat&&Nat.ble b.toNat 57) || b==43 || b==45 || b==46
def Ao:By->Bool
 | []=>false
 | b::r=>Q0 b&&r.all U8
def R5 (b:UInt8):Bool:=b==47 || b==63 || b==35
def I6 (s:By):Nat:=(s.takeWhile λb=>!R5 b).length
def Nc (c:UInt8):By->Option Nat
 | []=>none
 | b::r=>if b=c then some 0 else (Nc c r).map (· + 1)
def Pq:Int->By->Option Int
 | n,[]=>if n<65536 then some n else none
 | n,b::r=>if 48<=b.toNat/\b.toNat<=57 then Pq (min (10*max n 0+((b.toNat-48:Nat):Int)) 65536) r else none
def Jt (a:By):Option (By × By):=
 if a.head? = some 91 then (match Nc 93 a with
  | some k=>some (a.take (k+1),a.drop (k+1))
  | none=>none)
 else match Nc 58 a with
  | some k=>some (a.take k,a.drop k)
  | none=>some (a,[])
def L8 (nm user rest:By) (a:By):Q7 × Nat:=
 match Jt a with
 | none=>(X9,4)
 | some (name,tail)=>
  if tail≠[]/\tail.head?≠some 58 then (X9,4)
  else if (F9 name).2≠0 then (X9,(F9 name).2)
  else match Pq (-1) (tail.drop 1) with
   | none=>(X9,16)
   | some p=>(⟨nm,user,(F9 name).1,if p=Z0 nm then -1 else p,rest⟩,0)
def E4 (nm rest auth:By):Q7 × Nat:=
 if 0<=H9 64 auth then L8 nm (auth.take (H9 64 auth).toNat) rest (auth.drop ((H9 64 auth).toNat+1)) else L8 nm [] rest auth
def Q5 (r:By):By:=if r.head? = some 47 then r else 47::r
def D5 (s:By):Q7 × Nat:=
 if s.any ctl then (X9,4)
 else if !(Lib.cut s [58]).2.2 || !Ao (Lib.cut s [58]).1 then (X9,15)
 else if !I8 (C0 (Lib.cut s [58]).1) then (⟨C0 (Lib.cut s [58]).1,[],K7,-1,(Lib.cut s [58]).2.1⟩,0)
 else if !([47,47]:By).isPrefixOf (Lib.cut s [58]).2.1 then (X9,4)
 else E4 (C0 (Lib.cut s [58]).1) (Q5 (((Lib.cut s [58]).2.1.drop 2).drop (I6 ((Lib.cut s [58]).2.1.drop 2)))) (((Lib.cut s [58]).2.1.drop 2).take (I6 ((Lib.cut s [58]).2.1.drop 2)))
def E3 (s:By):Q7 × Nat:=if 2048<s.length then (X9,3) else D5 s
def Ia (p:Int):By:=if p<0 then 45::Lib.decDigits (-p).toNat else Lib.decDigits p.toNat
def DZ (u:Q7):By:=(if u.user=[] then [] else u.user++[64])++(Ih u.host++(if u.port = -1 then [] else 58::Ia u.port))
def Z3 (u:Q7):By:=if I8 u.sch then u.sch++58::47::47::(DZ u++u.rest) else u.sch++58::u.rest
def Be9 (kd:Int) (nm:By) (v4:Int) (a:List Nat):B3:=⟨if ltN kd 4 then kd.toNat else 4,nm,v4.toNat,a⟩
def mkU (sc us:By) (kd:Int) (nm:By) (v4:Int) (a:List Nat) (po:Int) (re:By):Q7:=⟨sc,us,Be9 kd nm v4 a,po,re⟩
def smU (sc us nm re:By):Bool:=Nat.ble sc.length 100000000&&Nat.ble us.length 100000000&&Nat.ble nm.length 100000000&&Nat.ble re.length 100000000
def eqH (a b:B3):Bool:=a.kind==b.kind&&a.name==b.name&&a.v4==b.v4&&a.v6==b.v6
def eqU (a b:Q7):Bool:=a.sch==b.sch&&a.user==b.user&&eqH a.host b.host&&a.port==b.port&&a.rest==b.rest
def Ah (u:Q7):Bool:=(D5 (Z3 u)).2==0&&eqU (D5 (Z3 u)).1 u
def Vz (u:Q7):By:=if Ah u then Z3 u else []
def prt (sc:By) (po:Int):Int:=if po == -1 then Z0 sc else po
def upS (sc:By):By:=if sc==Lv then Ez else if sc==bWs then CW else sc
def upP (sc:By) (po:Int):Int:=if P6 sc&&po==443 then -1 else po
def Wc:By->Int
 | s=>let rec go:Int->By->Int
   | n,[]=>n
   | n,b::r=>if 48<=b.toNat/\b.toNat<=57 then go (min (10*max n 0+((b.toNat-48:Nat):Int)) 65536) r else 0
  go (-1) s
def Bt4 (s t:By):Nat:=(s.takeWhile λb=>!t.contains b).length
def isl:By:=[47,63,35]
def Td (p:By):Bool:=p==isl
def CP (r:Int):Bool:=ltN r 55296 || (ltI 57343 r&&ltN r 1114112)
def irn (r:Int):Int:=if r=47 then 0 else if r=63 then 1 else if r=35 then 2 else -1
abbrev uS (p:Q7 × Nat):By:=p.1.sch
abbrev uU (p:Q7 × Nat):By:=p.1.user
abbrev uK (p:Q7 × Nat):Int:=p.1.host.kind
abbrev uN (p:Q7 × Nat):By:=p.1.host.name
abbrev uV (p:Q7 × Nat):Int:=p.1.host.v4
abbrev uA (p:Q7 × Nat) (i:Nat):Int:=(p.1.host.v6.getD i 0:Nat)
abbrev uP (p:Q7 × Nat):Int:=p.1.port
abbrev uR (p:Q7 × Nat):By:=p.1.rest
abbrev uE (p:Q7 × Nat):Int:=p.2
theorem CZ (s:By):decide (0<Z0 s)=I8 s:=by
 unfold Z0 I8
 cases (s==Lv || s==bWs) with
 | true=>rfl
 | false=>cases (s==Ez || s==CW)<;>rfl
theorem Bp5 {s:By} (h:I8 s=true):s=Lv\/s=bWs\/s=Ez\/s=CW:=by
 simp only [I8,Bool.or_eq_true,beq_iff_eq] at h
 rcases h with (h | h) | (h | h)<;>simp [h]
theorem Au7 {c:UInt8}:∀ {s:By},c∉s->Nc c s=none
 | [],_=>rfl
 | b::r,h=>by
  simp only [List.mem_cons,not_or] at h
  rw [Nc,if_neg (Ne.symm h.1),Au7 h.2]
  rfl
theorem EY {c:UInt8}:∀ {s:By} {k:Nat},Nc c s=some k->∃ p r,s=p++c::r/\c∉p/\p.length=k
 | [],k,h=>by cases h
 | b::s,k,h=>by
  rw [Nc] at h
  split at h
  ·rename_i hb
   obtain rfl:=Option.some.inj h
   exact ⟨[],s,by rw [hb];rfl,by simp,rfl⟩
  ·rename_i hb
   cases hi:Nc c s with
   | none=>rw [hi] at h;cases h
   | some j=>
    rw [hi] at h
    obtain rfl:=Option.some.inj h
    obtain ⟨p,r,rfl,h1,rfl⟩:=EY hi
    exact ⟨b::p,r,rfl,by simp only [List.mem_cons,not_or];exact ⟨Ne.symm hb,h1⟩,rfl⟩
theorem Nd {c:UInt8}:∀ {s:By},c∉s->H9 c s = -1
 | [],_=>rfl
 | b::r,h=>by
  simp only [List.mem_cons,not_or] at h
  rw [H9,Nd h.2,if_pos (by decide),if_neg (Ne.symm h.1)]
theorem FH {c:UInt8}:∀ (p:By) {r:By},c∉r->H9 c (p++c::r)=(p.length:Int)
 | [],r,h=>by rw [List.nil_append,H9,Nd h,if_pos (by decide),if_pos rfl];rfl
 | b::p,r,h=>by
  rw [List.cons_append,H9,FH p h,P5,List.length_cons]
  omega
theorem FI {c:UInt8}:∀ {s:By},c∈s->∃ p r,s=p++c::r/\c∉r
 | [],h=>by cases h
 | b::s,h=>by
  by_cases hs:c∈s
  ·obtain ⟨p,r,rfl,h1⟩:=FI hs
   exact ⟨b::p,r,rfl,h1⟩
  ·simp only [List.mem_cons,hs,or_false] at h
   subst h
   exact ⟨[],s,rfl,hs⟩
theorem YR {c:UInt8} {s:By} (h:0<=H9 c s):∃ p r,s=p++c::r/\c∉r/\H9 c s=(p.length:Int):=by
 by_cases hm:c∈s
 ·obtain ⟨p,r,rfl,h1⟩:=FI hm
  exact ⟨p,r,rfl,h1,FH p h1⟩
 ·rw [Nd hm] at h
  omega
theorem Ad2 (s:By):∀ b∈s.take (I6 s),R5 b=false:=by
 intro b hb
 have h:s.take (I6 s)=s.takeWhile λb=>!R5 b:=by
  unfold I6
  exact (List.prefix_iff_eq_take.1 (List.takeWhile_prefix _)).symm
 rw [h] at hb
 have:∀ l:By,b∈l.takeWhile (λb=>!R5 b)->R5 b=false:=by
  intro l
  induction l with
  | nil=>intro h;cases h
  | cons x l ih=>
   intro h
   rw [List.takeWhile_cons] at h
   split at h
   ·rename_i hx
    rcases List.mem_cons.1 h with rfl | h
    ·simpa using hx
    ·exact ih h
   ·cases h
 exact this s hb
theorem V2 {b:UInt8}:Q0 b=true↔(97<=b.toNat/\b.toNat<=122)\/(65<=b.toNat/\b.toNat<=90):=by
 simp [Q0,Nat.ble_eq]
theorem Br7 {b:UInt8}:ctl b=true↔b.toNat<=32\/b.toNat=127:=by
 unfold ctl
 rw [Bool.or_eq_true,Nat.ble_eq,beq_iff_eq]
 have:b=127↔b.toNat=127:=⟨λh=>by rw [h];rfl,λh=>UInt8.toNat_inj.1 h⟩
 rw [this]
theorem Vm {b:UInt8}:U8 b=true↔(97<=b.toNat/\b.toNat<=122)\/(65<=b.toNat/\b.toNat<=90)\/(48<=b.toNat/\b.toNat<=57)\/b=43\/b=45\/b=46:=by
 simp only [U8,Bool.or_eq_true,V2,Bool.and_eq_true,Nat.ble_eq,beq_iff_eq,or_assoc]
abbrev clU (a b:By) (k:Int) (n:By) (v c d e f g h i j p:Int) (r:By):List PV:=[.s (.str a),.s (.str b),.s (.int .i64 k),.s (.str n),.s (.int .u32 v),.s (.int .u16 c),.s (.int .u16 d),.s (.int .u16 e),.s (.int .u16 f),.s (.int .u16 g),.s (.int .u16 h),.s (.int .u16 i),.s (.int .u16 j),.s (.int .i64 p),.s (.str r)]
abbrev clH (k:Int) (n:By) (v c d e f g h i j:Int):List PV:=[.s (.int .i64 k),.s (.str n),.s (.int .u32 v),.s (.int .u16 c),.s (.int .u16 d),.s (.int .u16 e),.s (.int .u16 f),.s (.int .u16 g),.s (.int .u16 h),.s (.int .u16 i),.s (.int .u16 j)]
abbrev bU (a b:By) (k:Int) (n:By) (v c d e f g h i j p:Int) (r:By):Blk:=.box (clU a b k n v c d e f g h i j p r)
abbrev gU (a b:By) (k:Int) (n:By) (v c d e f g h i j p:Int) (r:By):PV:=.agg (clU a b k n v c d e f g h i j p r)
abbrev bH (k:Int) (n:By) (v c d e f g h i j:Int):Blk:=.box (clH k n v c d e f g h i j)
abbrev gH (k:Int) (n:By) (v c d e f g h i j:Int):PV:=.agg (clH k n v c d e f g h i j)
abbrev bCx (a b c d z t:Bool) (l:LL):Blk:=.box [.s (.bool a),.s (.bool b),.s (.bool c),.s (.bool d),.s (.sl z t 1 l)]
abbrev gCx (a b c d z t:Bool) (l:LL):PV:=.agg [.s (.bool a),.s (.bool b),.s (.bool c),.s (.bool d),.s (.sl z t 1 l)]
abbrev bCv (a:Int) (s:By) (b:Bool):Blk:=.box [.s (.int .i64 a),.s (.str s),.s (.bool b)]
abbrev gCv (a:Int) (s:By) (b:Bool):PV:=.agg [.s (.int .i64 a),.s (.str s),.s (.bool b)]
abbrev bDx (a r:Int) (u:By):Blk:=.box [.s (.int .i64 a),.s (.int .i64 r),.s (.str u)]
abbrev bU0:Blk:=bU [] [] 0 [] 0 0 0 0 0 0 0 0 0 0 []
abbrev bQ (p:Q7 × Nat):Blk:=bU (uS p) (uU p) (uK p) (uN p) (uV p) (uA p 0) (uA p 1) (uA p 2) (uA p 3) (uA p 4) (uA p 5) (uA p 6) (uA p 7) (uP p) (uR p)
abbrev okQ (p:Q7 × Nat):Bool:=ok8 (uA p 0) (uA p 1) (uA p 2) (uA p 3) (uA p 4) (uA p 5) (uA p 6) (uA p 7)
abbrev mkQ (sc:By) (p:Q7 × Nat) (po:Int):Q7:=mkU sc (uU p) (uK p) (uN p) (uV p) (n8 (uA p 0) (uA p 1) (uA p 2) (uA p 3) (uA p 4) (uA p 5) (uA p 6) (uA p 7)) po (uR p)
end
section
open Go Go.Proofs
set_option maxRecDepth 100000
section
def Yq:List PV->Tr
 | [.s (.str s)]=>.ret (.s (.int .i64 (Z0 s))) []
 | _=>.fail
def Nz (args:List PV):Tr:=Yq (C1 [[0]] args)
def Yr:List PV->Tr
 | [.s (.str s)]=>.ret (.s (.bool (I8 s))) []
 | _=>.fail
def Wm (args:List PV):Tr:=Yr (C1 [[0]] args)
def IW:List PV->Tr
 | [.agg [.s (.str sc),.s (.str us),.s (.int .i64 kd),.s (.str nm),.s (.int .u32 v4),.s (.int .u16 a0),.s (.int .u16 a1),.s (.int .u16 a2),.s (.int .u16 a3),.s (.int .u16 a4),.s (.int .u16 a5),.s (.int .u16 a6),.s (.int .u16 a7),.s (.int .i64 po),.s (.str re)]]=>.ret (.s (.bool (P6 sc))) []
 | _=>.fail
def VA (args:List PV):Tr:=IW (C1 [[0,0,0,0,0,0,0,0,0,0,0,0,0,0,0]] args)
def IZ:List PV->Tr
 | [.s (.str s)]=>.need (A2 (List.length s)) (.ret (.s (.bool (Ao s))) [])
 | _=>.fail
def A65 (args:List PV):Tr:=IZ (C1 [[0]] args)
def IX:List PV->Tr
 | [.s (.str s)]=>.need (A2 (List.length s)) (.ret (.tup [.s (.int .i64 (Wc s)),.s (.bool (Option.isSome (Pq ((-1):Int) s)))]) [])
 | _=>.fail
def A64 (args:List PV):Tr:=IX (C1 [[0]] args)
def Rs:List PV->Tr
 | [.agg [.s (.str sc),.s (.str us),.s (.int .i64 kd),.s (.str nm),.s (.int .u32 v4),.s (.int .u16 a0),.s (.int .u16 a1),.s (.int .u16 a2),.s (.int .u16 a3),.s (.int .u16 a4),.s (.int .u16 a5),.s (.int .u16 a6),.s (.int .u16 a7),.s (.int .i64 po),.s (.str re)],.s (.str a)]=>.need (A2 (List.length sc)) (.need (A2 (List.length re)) (.need (A2 (List.length a)) (.need (List.isEmpty us) (.need (po==((-1):Int)) (.ret (.tup [.agg [.s (.str (uS (E4 sc re a))),.s (.str (uU (E4 sc re a))),.s (.int .i64 (uK (E4 sc re a))),.s (.str (uN (E4 sc re a))),.s (.int .u32 (uV (E4 sc re a))),.s (.int .u16 (uA (E4 sc re a) 0)),.s (.int .u16 (uA (E4 sc re a) 1)),.s (.int .u16 (uA (E4 sc re a) 2)),.s (.int .u16 (uA (E4 sc re a) 3)),.s (.int .u16 (uA (E4 sc re a) 4)),.s (.int .u16 (uA (E4 sc re a) 5)),.s (.int .u16 (uA (E4 sc re a) 6)),.s (.int .u16 (uA (E4 sc re a) 7)),.s (.int .i64 (uP (E4 sc re a))),.s (.str (uR (E4 sc re a)))],.s (.int .i64 (uE (E4 sc re a)))]) [])))))
 | _=>.fail
def OJ (args:List PV):Tr:=Rs (C1 [[0,0,0,0,0,0,0,0,0,0,0,0,0,0,0],[0]] args)
def IY:List PV->Tr
 | [.s (.str s)]=>.need (A2 (List.length s)) (.ret (.tup [.agg [.s (.str (uS (D5 s))),.s (.str (uU (D5 s))),.s (.int .i64 (uK (D5 s))),.s (.str (uN (D5 s))),.s (.int .u32 (uV (D5 s))),.s (.int .u16 (uA (D5 s) 0)),.s (.int .u16 (uA (D5 s) 1)),.s (.int .u16 (uA (D5 s) 2)),.s (.int .u16 (uA (D5 s) 3)),.s (.int .u16 (uA (D5 s) 4)),.s (.int .u16 (uA (D5 s) 5)),.s (.int .u16 (uA (D5 s) 6)),.s (.int .u16 (uA (D5 s) 7)),.s (.int .i64 (uP (D5 s))),.s (.str (uR (D5 s)))],.s (.int .i64 (uE (D5 s)))]) [])
 | _=>.fail
def VB (args:List PV):Tr:=IY (C1 [[0]] args)
def Rq:List PV->Tr
 | [.s (.str s)]=>.need (A2 (List.length s)) (.ret (.tup [.agg [.s (.str (uS (E3 s))),.s (.str (uU (E3 s))),.s (.int .i64 (uK (E3 s))),.s (.str (uN (E3 s))),.s (.int .u32 (uV (E3 s))),.s (.int .u16 (uA (E3 s) 0)),.s (.int .u16 (uA (E3 s) 1)),.s (.int .u16 (uA (E3 s) 2)),.s (.int .u16 (uA (E3 s) 3)),.s (.int .u16 (uA (E3 s) 4)),.s (.int .u16 (uA (E3 s) 5)),.s (.int .u16 (uA (E3 s) 6)),.s (.int .u16 (uA (E3 s) 7)),.s (.int .i64 (uP (E3 s))),.s (.str (uR (E3 s)))],.s (.int .i64 (uE (E3 s)))]) [])
 | _=>.fail
def OI (args:List PV):Tr:=Rq (C1 [[0]] args)
def Ys:List PV->Tr
 | [.agg [.s (.str sc),.s (.str us),.s (.int .i64 kd),.s (.str nm),.s (.int .u32 v4),.s (.int .u16 a0),.s (.int .u16 a1),.s (.int .u16 a2),.s (.int .u16 a3),.s (.int .u16 a4),.s (.int .u16 a5),.s (.int .u16 a6),.s (.int .u16 a7),.s (.int .i64 po),.s (.str re)]]=>.need (smU sc us nm re) (.need (ltN v4 4294967296) (.need (ok8 a0 a1 a2 a3 a4 a5 a6 a7) (.need (T7 po) (.ret (.s (.str (Z3 (mkU sc us kd nm v4 (n8 a0 a1 a2 a3 a4 a5 a6 a7) po re)))) []))))
 | _=>.fail
def JA (args:List PV):Tr:=Ys (C1 [[0,0,0,0,0,0,0,0,0,0,0,0,0,0,0]] args)
def Mn:List PV->Tr
 | [.agg [.s (.str sc),.s (.str us),.s (.int .i64 kd),.s (.str nm),.s (.int .u32 v4),.s (.int .u16 a0),.s (.int .u16 a1),.s (.int .u16 a2),.s (.int .u16 a3),.s (.int .u16 a4),.s (.int .u16 a5),.s (.int .u16 a6),.s (.int .u16 a7),.s (.int .i64 po),.s (.str re)]]=>.need (smU sc us nm re) (.need (ltN v4 4294967296) (.need (ok8 a0 a1 a2 a3 a4 a5 a6 a7) (.need (T7 po) (.ret (.s (.bool (Ah (mkU sc us kd nm v4 (n8 a0 a1 a2 a3 a4 a5 a6 a7) po re)))) []))))
 | _=>.fail
def Ks (args:List PV):Tr:=Mn (C1 [[0,0,0,0,0,0,0,0,0,0,0,0,0,0,0]] args)
def IV:List PV->Tr
 | [.agg [.s (.str sc),.s (.str us),.s (.int .i64 kd),.s (.str nm),.s (.int .u32 v4),.s (.int .u16 a0),.s (.int .u16 a1),.s (.int .u16 a2),.s (.int .u16 a3),.s (.int .u16 a4),.s (.int .u16 a5),.s (.int .u16 a6),.s (.int .u16 a7),.s (.int .i64 po),.s (.str re)]]=>.need (smU sc us nm re) (.need (ltN v4 4294967296) (.need (ok8 a0 a1 a2 a3 a4 a5 a6 a7) (.need (T7 po) (.ret (.s (.str (Vz (mkU sc us kd nm v4 (n8 a0 a1 a2 a3 a4 a5 a6 a7) po re)))) []))))
 | _=>.fail
def A63 (args:List PV):Tr:=IV (C1 [[0,0,0,0,0,0,0,0,0,0,0,0,0,0,0]] args)
def A67:List PV->Tr
 | [.agg [.s (.str sc),.s (.str us),.s (.int .i64 kd),.s (.str nm),.s (.int .u32 v4),.s (.int .u16 a0),.s (.int .u16 a1),.s (.int .u16 a2),.s (.int .u16 a3),.s (.int .u16 a4),.s (.int .u16 a5),.s (.int .u16 a6),.s (.int .u16 a7),.s (.int .i64 po),.s (.str re)]]=>.ret (.agg [.s (.str (upS sc)),.s (.str us),.s (.int .i64 kd),.s (.str nm),.s (.int .u32 v4),.s (.int .u16 a0),.s (.int .u16 a1),.s (.int .u16 a2),.s (.int .u16 a3),.s (.int .u16 a4),.s (.int .u16 a5),.s (.int .u16 a6),.s (.int .u16 a7),.s (.int .i64 (upP sc po)),.s (.str re)]) []
 | _=>.fail
def A66 (args:List PV):Tr:=A67 (C1 [[0,0,0,0,0,0,0,0,0,0,0,0,0,0,0]] args)
def Ck3:List PV->Tr
 | [.s (.str s),.s (.str t)]=>.need (A2 (List.length s)) (.need (A2 (List.length t)) (.ret (.s (.int .i64 (↑(Bt4 s t):Int))) []))
 | _=>.fail
def B78:List PV->Tr
 | [.s (.int .i64 n)]=>.need (ltN n 9223372036854775808) (.ret (.s (.str (Lib.decDigits (Int.toNat n)))) [])
 | _=>.fail
def Xq:List PV->Tr
 | [.s (.int .i64 n)]=>.need (T7 n) (.ret (.s (.str (Ia n))) [])
 | _=>.fail
def Ah9 (args:List PV):Tr:=Xq (C1 [[0]] args)
def Yi:List PV->Tr
 | [.s (.str s),.s (.int .u8 c)]=>.need (A2 (List.length s)) (.need (inR c 256) (.ret (.s (.int .i64 (Lib.indexByte s (u8n c)))) []))
 | _=>.fail
def Nx (args:List PV):Tr:=Yi (C1 [[0],[0]] args)
def Xy:List PV->Tr
 | [.s (.str s),.s (.str p)]=>.need (A2 (List.length s)) (.ret (.s (.str (Dd s p))) [])
 | _=>.fail
def Ai3 (args:List PV):Tr:=Xy (C1 [[0],[0]] args)
def IU:List PV->Tr
 | [.s (.str s),.s (.str p)]=>.need (A2 (List.length s)) (.ret (.s (.str (Dd s p))) [])
 | _=>.fail
def A61 (args:List PV):Tr:=IU (C1 [[0],[0]] args)
def OE:List PV->Tr
 | [.s (.str s),.s (.str p)]=>.need (A2 (List.length s)) (.need (Td p) (.ret (.s (.int .i64 (Lib.indexAny s p))) []))
 | _=>.fail
def IQ (args:List PV):Tr:=OE (C1 [[0],[0]] args)
def Wn:List PV->Tr
 | [.agg [.s (.str sc),.s (.str us),.s (.int .i64 kd),.s (.str nm),.s (.int .u32 v4),.s (.int .u16 a0),.s (.int .u16 a1),.s (.int .u16 a2),.s (.int .u16 a3),.s (.int .u16 a4),.s (.int .u16 a5),.s (.int .u16 a6),.s (.int .u16 a7),.s (.int .i64 po),.s (.str re)]]=>.need (P6 sc) (.ret (.agg [.s (.str (upS sc)),.s (.str us),.s (.int .i64 kd),.s (.str nm),.s (.int .u32 v4),.s (.int .u16 a0),.s (.int .u16 a1),.s (.int .u16 a2),.s (.int .u16 a3),.s (.int .u16 a4),.s (.int .u16 a5),.s (.int .u16 a6),.s (.int .u16 a7),.s (.int .i64 (upP sc po)),.s (.str re)]) [])
 | _=>.fail
def A68 (args:List PV):Tr:=Wn (C1 [[0,0,0,0,0,0,0,0,0,0,0,0,0,0,0]] args)
def Wo:List PV->Tr
 | [.agg [.s (.str sc),.s (.str us),.s (.int .i64 kd),.s (.str nm),.s (.int .u32 v4),.s (.int .u16 a0),.s (.int .u16 a1),.s (.int .u16 a2),.s (.int .u16 a3),.s (.int .u16 a4),.s (.int .u16 a5),.s (.int .u16 a6),.s (.int .u16 a7),.s (.int .i64 po),.s (.str re)]]=>.need (not (P6 sc)) (.ret (.agg [.s (.str sc),.s (.str us),.s (.int .i64 kd),.s (.str nm),.s (.int .u32 v4),.s (.int .u16 a0),.s (.int .u16 a1),.s (.int .u16 a2),.s (.int .u16 a3),.s (.int .u16 a4),.s (.int .u16 a5),.s (.int .u16 a6),.s (.int .u16 a7),.s (.int .i64 po),.s (.str re)]) [])
 | _=>.fail
def A69 (args:List PV):Tr:=Wo (C1 [[0,0,0,0,0,0,0,0,0,0,0,0,0,0,0]] args)
def Kq:List PV->Tr
 | [.s (.str s),.s (.str p)]=>.need (A2 (List.length s)) (.need (Td p) (.need (Nat.ble 9 (List.length s)) (.ret (.s (.int .i64 (Lib.indexAny s p))) [])))
 | _=>.fail
def OF (args:List PV):Tr:=Kq (C1 [[0],[0]] args)
def Kr:List PV->Tr
 | [.s (.str s),.s (.str p)]=>.need (Td p) (.need (Nat.ble (List.length s) 8) (.ret (.s (.int .i64 (Lib.indexAny s p))) []))
 | _=>.fail
def OG (args:List PV):Tr:=Kr (C1 [[0],[0]] args)
def Ml:List PV->Tr
 | [.s (.int .i64 n)]=>.ret (.s (.bool (ltI (8:Int) n))) []
 | _=>.fail
def Rn (args:List PV):Tr:=Ml (C1 [[0]] args)
def Rm:List PV->Tr
 | [.s (.str p),.s (.int .i32 r)]=>.need (Td p) (.need (ltN r 1114112) (.ret (.s (.int .i64 (irn r))) []))
 | _=>.fail
def Yj (args:List PV):Tr:=Rm (C1 [[0],[0]] args)
def DP:List PV->Tr
 | [.s (.str s)]=>.fail
 | _=>.fail
def Ir (args:List PV):Tr:=DP (C1 [[0]] args)
def Ru:List PV->Tr
 | [.s (.int .i32 r)]=>.ret (.s (.bool (CP r))) []
 | _=>.fail
def Yt (args:List PV):Tr:=Ru (C1 [[0]] args)
end
section
variable {σ R : Type} (lf : Nat) (cl : D3) (yh : Yh σ) (s : σ) (k : Out -> St σ -> Option R)
noncomputable def JV (lf:Nat):Cfg:=B8 lf [82] (A3 []) [(53,HU)] (A3 [(3,[4]),(2,[4]),(1,[0,0,5]),(0,[0,0])]) [53] (A3 []) (some [4]) [] [] []
noncomputable def Am5 {R:Type} (lf:Nat) (s0 prefix1:By) (k0:By->Option R):Option R:=cond (A2 s0.length) (cond (List.isPrefixOf prefix1 s0) (cond (L3 (prefix1.length:Int) (s0.length:Int) s0.length) (vl (cut s0 (prefix1.length:Int) (s0.length:Int)) λs'0=>k0 s'0) none) (k0 s0)) none
theorem Be3 (d:Nat) (s0 prefix1):evC (JV lf) (d+1) σ yh 82 [pS s0,pS prefix1] [] s=Am5 lf s0 prefix1 (λr0=>some (pS r0,[],s)):=by
 refine (evE (fn:=Tryz.f82) (by kernel_rfl)).trans ?_
 generalize evC (JV lf) d=cl
 unfold Am5;kernel_rfl
noncomputable def WT (lf:Nat):Cfg:=B8 lf [57] (A3 []) [(82,Ai3)] (A3 [(1,[4]),(0,[0,0])]) [82] (A3 []) (some [4]) [] [] []
noncomputable def B25 {R:Type} (lf:Nat) (s0 prefix1:By) (k0:By->Option R):Option R:=cond (A2 s0.length) (k0 (Dd s0 prefix1)) none
theorem B26 (d:Nat) (s0 prefix1):evC (WT lf) (d+1) σ yh 57 [pS s0,pS prefix1] [] s=B25 lf s0 prefix1 (λr0=>some (pS r0,[],s)):=by
 refine (evE (fn:=Tryz.f57) (by kernel_rfl)).trans ?_
 generalize evC (WT lf) d=cl
 unfold B25;kernel_rfl
noncomputable def KF (lf:Nat):Cfg:=B8 lf [47] (A3 []) [] (A3 [(8,[2]),(4,[2]),(7,[2]),(6,[7]),(5,[3,3]),(3,[3,0]),(2,[3,0]),(1,[3]),(0,[0])]) [] (A3 [(0,[])]) (some [2]) [] [] []
noncomputable def Ap0 {R:Type} (lf:Nat) (scheme0:By) (k0:Int->Option R):Option R:=cond (scheme0==[104,116,116,112]) (cond (scheme0==[104,116,116,112]) (k0 80) (cond (scheme0==[104,116,116,112,115]) (cond (scheme0==[104,116,116,112,115]) (k0 443) (k0 (-1))) (cond (scheme0==[119,115,115]) (k0 443) (k0 (-1))))) (cond (scheme0==[119,115]) (k0 80) (cond (scheme0==[104,116,116,112,115]) (cond (scheme0==[104,116,116,112,115]) (k0 443) (k0 (-1))) (cond (scheme0==[119,115,115]) (k0 443) (k0 (-1)))))
theorem Bk5 (d:Nat) (scheme0):evC (KF lf) (d+1) σ yh 47 [pS scheme0] [] s=Ap0 lf scheme0 (λr0=>some (pI r0,[],s)):=by
 refine (evE (fn:=Tryz.f47) (by kernel_rfl)).trans ?_
 generalize evC (KF lf) d=cl
 unfold Ap0;kernel_rfl
noncomputable def KG (lf:Nat):Cfg:=B8 lf [28] (A3 []) [(47,Nz)] (A3 [(1,[2]),(0,[0])]) [47] (A3 []) (some [2]) [] [] []
noncomputable def Ap1 {R:Type} (lf:Nat) (scheme0:By) (k0:Bool->Option R):Option R:=k0 (ltI 0 (Z0 scheme0))
theorem Bk8 (d:Nat) (scheme0):evC (KG lf) (d+1) σ yh 28 [pS scheme0] [] s=Ap1 lf scheme0 (λr0=>some (pB r0,[],s)):=by
 refine (evE (fn:=Tryz.f28) (by kernel_rfl)).trans ?_
 generalize evC (KG lf) d=cl
 unfold Ap1;kernel_rfl
noncomputable def WW (lf:Nat):Cfg:=B8 lf [34] (A3 []) [(47,Nz)] (A3 [(1,[2]),(0,[1])]) [47] (A3 []) (some [2]) [] [] []
noncomputable def Cf0 {R:Type} (lf:Nat) (u0 u1:By) (u2:Int) (u3:By) (u4 u5 u6 u7 u8 u9 u10 u11 u12 u13:Int) (u14:By) (k0:Bool->(List Blk)->Option R):Option R:=k0 ((Z0 u0)==80) [(bU u0 u1 u2 u3 u4 u5 u6 u7 u8 u9 u10 u11 u12 u13 u14)]
theorem B31 (d:Nat) (u0 u1 u2 u3 u4 u5 u6 u7 u8 u9 u10 u11 u12 u13 u14):evC (WW lf) (d+1) σ yh 34 [(gU u0 u1 u2 u3 u4 u5 u6 u7 u8 u9 u10 u11 u12 u13 u14)] [] s=Cf0 lf u0 u1 u2 u3 u4 u5 u6 u7 u8 u9 u10 u11 u12 u13 u14 (λr0 H1=>some (pB r0,H1,s)):=by
 refine (evE (fn:=Tryz.f34) (by kernel_rfl)).trans ?_
 generalize evC (WW lf) d=cl
 unfold Cf0;kernel_rfl
noncomputable abbrev Iy:Code:=D0 Tryz.f26
noncomputable def T6 (lf:Nat):Cfg:=B8 lf [26] (A3 [(2,[0,1,4,0])]) [(46,Nx)] (A3 [(9,[2]),(8,[0,6,0]),(7,[2]),(6,[0,6,0,29]),(5,[0,2,0,0,1,0]),(4,[0,2,0,2,0]),(3,[0,2,3,0]),(2,[0,6,0,0]),(1,[0,6,0]),(0,[0])]) [46] (A3 [(0,[0]),(1,[0,6,0])]) (some [2]) [] [] []
noncomputable def Xf {R:Type} (s0:By) (i1 n3:Int) (k0:By->Int->Int->Option R):Option R:=k0 s0 n3 i1
abbrev Tw (b:Code):Prop:=∀ (k:Out->St σ->Option R) s0 i1 b2 n3,A9 (T6 lf) cl yh b ⟨gp [(0,pS s0),(2,pI i1),(0,p8 b2),(0,pB true),(1,pI n3),(0,pI i1)] 33,[],s⟩ k=Xf s0 i1 n3 (λs0 n1 n2=>k .normal ⟨gp [(0,pS s0),(6,pI n1),(0,pI n2),(29,pB false)] 3,[],s⟩)
theorem Af7:Tw (R:=R) lf cl yh s (cd [1,0,1,0,0,1,1,0,0,1,1,1] Iy):=by
 intro k s0 i1 b2 n3;unfold Xf;kernel_rfl
noncomputable def Cd {R:Type} (s0:By) (i1 b2:Int) (letter3:Bool) (n4:Int) (k0:Unit->Option R) (k1:By->Int->Int->Bool->Option R):Option R:=cond (not letter3) (cond (i1==0) (k0 ()) (cond (inR b2 256) (vl (Lib.indexByte ([48,49,50,51,52,53,54,55,56,57,43,45,46]:List UInt8) (u8n b2)) λn'3=>cond (ltI n'3 0) (k0 ()) (k1 s0 n4 i1 (ltI n'3 0))) none)) (k1 s0 n4 i1 false)
abbrev Tx (b:Code):Prop:=∀ (k:Out->St σ->Option R) s0 i1 b2 letter3 n4,A9 (T6 lf) cl yh b ⟨gp [(0,pS s0),(2,pI i1),(0,p8 b2),(0,pB letter3),(1,pI n4),(0,pI i1)] 33,[],s⟩ k=Cd s0 i1 b2 letter3 n4 (λ_=>k .ret ⟨gp [(2,pB false)] 39,[],s⟩) (λs0 n1 n2 b3=>k .normal ⟨gp [(0,pS s0),(6,pI n1),(0,pI n2),(29,pB b3)] 3,[],s⟩)
theorem Af8:Tx (R:=R) lf cl yh s (cd [1,0,1,0,0,1,1,0,0,1,1,1] Iy):=by
 intro k s0 i1 b2 letter3 n4;unfold Cd;kernel_rfl
noncomputable def J6 {R:Type} (lf n:Nat) (s0:By) (n1 n2:Int) (k0:Unit->Option R) (k1:By->Option R):Option R:=match n with | 0=>none | n+1=>cond (ltI n2 n1) (cond (inR n2 s0.length) (cond (not (ltI (bAt s0 n2) (97:Int))) (cond (not (ltI 122 (bAt s0 n2))) (Xf s0 n2 n1 (λs'0 n'1 n'2=>J6 lf n s'0 n'1 (A4 (n'2+1)) k0 k1)) (cond (not (ltI (bAt s0 n2) (65:Int))) (Cd s0 n2 (bAt s0 n2) (not (ltI 90 (bAt s0 n2))) n1 (λ_=>k0 ()) (λs'4 n'5 n'6 b'7=>J6 lf n s'4 n'5 (A4 (n'6+1)) k0 k1)) (Cd s0 n2 (bAt s0 n2) false n1 (λ_=>k0 ()) (λs'8 n'9 n'10 b'11=>vl (A4 (n'10+1)) λn'12=>J6 lf n s'8 n'9 n'12 k0 k1)))) (cond (not (ltI (bAt s0 n2) (65:Int))) (Cd s0 n2 (bAt s0 n2) (not (ltI 90 (bAt s0 n2))) n1 (λ_=>k0 ()) (λs'13 n'14 n'15 b'16=>vl (A4 (n'15+1)) λn'17=>J6 lf n s'13 n'14 n'17 k0 k1)) (Cd s0 n2 (bAt s0 n2) false n1 (λ_=>k0 ()) (λs'18 n'19 n'20 b'21=>vl (A4 (n'20+1)) λn'22=>J6 lf n s'18 n'19 n'22 k0 k1)))) none) (k1 s0)
theorem Af9 (b_101001100111:Code) (h_usch_j0:Tw (R:=R) lf cl yh s b_101001100111) (h_usch_j1:Tx (R:=R) lf cl yh s b_101001100111) (n:Nat) (s0:By) (n1 n2:Int):F0 0 ((T6 lf).keep 2) (bd (T6 lf) cl yh (cd [1,0,1,0,0] (N4 [1,0,1,0,0,1,1,0,0,1,1,1] b_101001100111 Iy))) n ⟨gp [(0,pS s0),(6,pI n1),(0,pI n2)] 33,[],s⟩ k =
 J6 lf n s0 n1 n2 (λ_=>k .ret ⟨gp [(2,pB false)] 39,[],s⟩) (λs0=>k (.exit 0) ⟨gp [(0,pS s0)] 41,[],s⟩):=by
 induction n generalizing s0 n1 n2 with
 | zero=>rfl
 | succ n ih=>rw [J6];exact let K0:=(H7 1 (I5 (T6 lf) cl yh (cd [1,0,1,0,0,1,1,1] Iy) (lpK 0 ((T6 lf).keep 2) (bd (T6 lf) cl yh (cd [1,0,1,0,0] (N4 [1,0,1,0,0,1,1,0,0,1,1,1] b_101001100111 Iy))) n k)));(Eq.trans (by kernel_rfl) (A0 (A0 (A0 (A0 ((h_usch_j0 K0 s0 n2 (bAt s0 n2) n1).trans (congr rfl (fx3 λs'0 n'1 n'2=>(Eq.trans (by kernel_rfl) (ih s'0 n'1 (A4 (n'2+1))))))) (A0 ((h_usch_j1 K0 s0 n2 (bAt s0 n2) (not (ltI 90 (bAt s0 n2))) n1).trans (congr (congr rfl (by kernel_rfl)) (fx4 λs'4 n'5 n'6 b'7=>(Eq.trans (by kernel_rfl) (ih s'4 n'5 (A4 (n'6+1))))))) ((h_usch_j1 K0 s0 n2 (bAt s0 n2) false n1).trans (congr (congr rfl (by kernel_rfl)) (fx4 λs'8 n'9 n'10 b'11=>(Eq.trans (by kernel_rfl) (A5 λn'12=>(ih s'8 n'9 n'12)))))))) (A0 ((h_usch_j1 K0 s0 n2 (bAt s0 n2) (not (ltI 90 (bAt s0 n2))) n1).trans (congr (congr rfl (by kernel_rfl)) (fx4 λs'13 n'14 n'15 b'16=>(Eq.trans (by kernel_rfl) (A5 λn'17=>(ih s'13 n'14 n'17)))))) ((h_usch_j1 K0 s0 n2 (bAt s0 n2) false n1).trans (congr (congr rfl (by kernel_rfl)) (fx4 λs'18 n'19 n'20 b'21=>(Eq.trans (by kernel_rfl) (A5 λn'22=>(ih s'18 n'19 n'22)))))))) rfl) rfl))
noncomputable def Bk7 {R:Type} (lf:Nat) (s0:By) (k0:Bool->Option R):Option R:=J6 lf lf s0 (s0.length:Int) 0 (λ_=>k0 false) (λs'23=>k0 (not (s'23==[])))
theorem B37 (b_101001100111:Code) (h_usch_j0:Tw (R:=PV × List Blk × σ) lf cl yh s b_101001100111) (h_usch_j1:Tx (R:=PV × List Blk × σ) lf cl yh s b_101001100111) (s0:By):A9 (T6 lf) cl yh (cd [] (N4 [1,0,1,0,0,1,1,0,0,1,1,1] b_101001100111 Iy)) ⟨[pS s0]++tps 41,[],s⟩ (G5 (T6 lf) Tryz.f26)=Bk7 lf s0 (λr0=>some (pB r0,[],s)):=by
 unfold Bk7;exact (Eq.trans (by kernel_rfl) ((Af9 lf cl yh s (H7 0 (I5 (T6 lf) cl yh (cd [1,1] Iy) (G5 (T6 lf) Tryz.f26))) b_101001100111 h_usch_j0 h_usch_j1 lf s0 (s0.length:Int) 0).trans (by kernel_rfl)))
theorem B38 (d:Nat) (s0):evC (T6 lf) (d+1) σ yh 26 [pS s0] [] s=Bk7 lf s0 (λr0=>some (pB r0,[],s)):=
 (evE (fn:=Tryz.f26) (by kernel_rfl)).trans (Eq.trans (by kernel_rfl) (B37 lf (evC (T6 lf) d) yh s (cd [1,0,1,0,0,1,1,0,0,1,1,1] Iy) (Af7 lf (evC (T6 lf) d) yh s) (Af8 lf (evC (T6 lf) d) yh s) s0))
noncomputable abbrev A79:Code:=D0 Tryz.f56
noncomputable def Mw (lf:Nat):Cfg:=B8 lf [56] (A3 [(3,[0,1,0,0,2,0])]) [] (A3 [(9,[2,0]),(8,[0,3,2,0]),(7,[0,3,2,0]),(6,[2,0]),(5,[0,3,0,1,0,11]),(4,[0,3,0,1,0]),(3,[0,3,2,0,0]),(2,[0,3,2,0]),(1,[0,3]),(0,[0])]) [] (A3 [(0,[4]),(1,[0,3,2,0])]) (some [2,0]) [] [] []
noncomputable def Hq {R:Type} (lf n:Nat) (s0:By) (n1 n2 n3:Int) (k0:Unit->Option R) (k1:Int->Option R):Option R:=match n with | 0=>none | n+1=>cond (ltI n3 n2) (cond (inR n3 s0.length) (cond (ltI (bAt s0 n3) (48:Int)) (k0 ()) (cond (inR n3 s0.length) (cond (ltI 57 (bAt s0 n3)) (k0 ()) (vl (A4 ((10:Int)*(if ((0:Int) > n1) then (0:Int) else n1))) λn'0=>cond (inR n3 s0.length) (vl (wu8 ((bAt s0 n3)-48)) λn'1=>vl (A4 (n'0+(A4 n'1))) λn'2=>vl (if ((65536:Int)<n'2) then (65536:Int) else n'2) λn'3=>Hq lf n s0 n'3 n2 (A4 (n3+1)) k0 k1) none)) none)) none) (k1 n1)
theorem Af2 (n s0 n1 n2 n3):F0 0 ((Mw lf).keep 3) (bd (Mw lf) cl yh (cd [1,1,0,1,0,0] A79)) n ⟨gp [(0,pS s0),(3,pI n1),(2,pI n2),(0,pI n3)] 26,[],s⟩ k =
 Hq lf n s0 n1 n2 n3 (λ_=>k .ret ⟨gp [(2,pI (0:Int)),(0,pB false)] 31,[],s⟩) (λn0=>k (.exit 0) ⟨gp [(4,pI n0)] 30,[],s⟩):=by
 induction n generalizing s0 n1 n2 n3 with
 | zero=>rfl
 | succ n ih=>rw [Hq];simp only [<-ih];kernel_rfl
noncomputable def B33 {R:Type} (lf:Nat) (s0:By) (k0:Int->Bool->Option R):Option R:=Hq lf lf s0 (-1) (s0.length:Int) 0 (λ_=>k0 0 false) (λn'4=>k0 n'4 (ltI n'4 65536))
theorem B34 (d:Nat) (s0):evC (Mw lf) (d+1) σ yh 56 [pS s0] [] s=B33 lf s0 (λr0 r1=>some (.tup [pI r0,pB r1],[],s)):=by
 refine (evE (fn:=Tryz.f56) (by kernel_rfl)).trans ?_
 generalize evC (Mw lf) d=cl
 unfold B33;exact (Eq.trans (by kernel_rfl) ((Af2 lf cl yh s (H7 0 (I5 (Mw lf) cl yh (cd [1,1,1] A79) (G5 (Mw lf) Tryz.f56))) lf s0 (-1) (s0.length:Int) 0).trans (by kernel_rfl)))
noncomputable abbrev X3:Code:=D0 Tryz.f32
noncomputable def R0 (lf:Nat):Cfg:=B8 lf [32] (A3 []) [(54,Wi),(31,Xn),(46,Nx),(55,NY),(57,A61),(56,A64),(47,Nz)] (A3 [(24,[4,0]),(23,[2,1]),(22,[2,1,8,71]),(21,[2,1,8]),(20,[4,0]),(19,[2,1,6,1,63]),(18,[2,1,6,1,0]),(17,[4,0]),(16,[2,1,3,2,0,54]),(15,[2,1,3,2,0]),(14,[4,0]),(13,[2,1,2,0,50]),(9,[2,1,2,0]),(8,[4,0]),(7,[1,0,1,4,23]),(6,[1,0,1,4]),(12,[2,1,2,0]),(11,[1,0,1,2,0,1,35]),(10,[1,0,1,2,0,1]),(5,[1,0,1,2,0,20]),(4,[1,0,1,2,0]),(3,[1,0,1]),(2,[1,0,1,1,11]),(1,[1,0,1,1]),(0,[1,0,1])]) [54,31,46,57,56,47] (A3 []) (some [4,0]) [] [] []
noncomputable def P7 {R:Type} (name0 tail1 s3 s4:By) (n5:Int) (s6:By) (n7 n8v n9 n10 n11 n12 n13 n14 n15 n16:Int) (s17:By) (k0:Int->Blk->By->By->Int->By->Int->Int->Int->Int->Int->Int->Int->Int->Int->Int->By->(List Blk)->Option R):Option R:=cond (A2 name0.length) (vl (F9 name0) λp'44=>cond ((↑(p'44).2:Int) != 0) (k0 (↑(p'44).2:Int) (bU s3 s4 n5 s6 n7 n8v n9 n10 n11 n12 n13 n14 n15 n16 s17) ([]:List UInt8) ([]:List UInt8) 0 ([]:List UInt8) 0 0 0 0 0 0 0 0 0 0 ([]:List UInt8) [(bH (↑(B3.kind (p'44).1):Int) (B3.name (p'44).1) (↑(B3.v4 (p'44).1):Int) (↑(List.getD (B3.v6 (p'44).1) 0 0):Int) (↑(List.getD (B3.v6 (p'44).1) 1 0):Int) (↑(List.getD (B3.v6 (p'44).1) 2 0):Int) (↑(List.getD (B3.v6 (p'44).1) 3 0):Int) (↑(List.getD (B3.v6 (p'44).1) 4 0):Int) (↑(List.getD (B3.v6 (p'44).1) 5 0):Int) (↑(List.getD (B3.v6 (p'44).1) 6 0):Int) (↑(List.getD (B3.v6 (p'44).1) 7 0):Int))]) (cond (A2 tail1.length) (vl (Dd tail1 ([58]:List UInt8)) λs'46=>cond (A2 s'46.length) (cond (not (Option.isSome (Pq ((-1):Int) s'46))) (k0 16 (bU s3 s4 n5 s6 n7 n8v n9 n10 n11 n12 n13 n14 n15 n16 s17) ([]:List UInt8) ([]:List UInt8) 0 ([]:List UInt8) 0 0 0 0 0 0 0 0 0 0 ([]:List UInt8) [(bH (↑(B3.kind (p'44).1):Int) (B3.name (p'44).1) (↑(B3.v4 (p'44).1):Int) (↑(List.getD (B3.v6 (p'44).1) 0 0):Int) (↑(List.getD (B3.v6 (p'44).1) 1 0):Int) (↑(List.getD (B3.v6 (p'44).1) 2 0):Int) (↑(List.getD (B3.v6 (p'44).1) 3 0):Int) (↑(List.getD (B3.v6 (p'44).1) 4 0):Int) (↑(List.getD (B3.v6 (p'44).1) 5 0):Int) (↑(List.getD (B3.v6 (p'44).1) 6 0):Int) (↑(List.getD (B3.v6 (p'44).1) 7 0):Int))]) (cond ((Wc s'46) != (Z0 s3)) (k0 0 (bU s3 s4 (↑(B3.kind (p'44).1):Int) (B3.name (p'44).1) (↑(B3.v4 (p'44).1):Int) (↑(List.getD (B3.v6 (p'44).1) 0 0):Int) (↑(List.getD (B3.v6 (p'44).1) 1 0):Int) (↑(List.getD (B3.v6 (p'44).1) 2 0):Int) (↑(List.getD (B3.v6 (p'44).1) 3 0):Int) (↑(List.getD (B3.v6 (p'44).1) 4 0):Int) (↑(List.getD (B3.v6 (p'44).1) 5 0):Int) (↑(List.getD (B3.v6 (p'44).1) 6 0):Int) (↑(List.getD (B3.v6 (p'44).1) 7 0):Int) (Wc s'46) s17) s3 s4 (↑(B3.kind (p'44).1):Int) (B3.name (p'44).1) (↑(B3.v4 (p'44).1):Int) (↑(List.getD (B3.v6 (p'44).1) 0 0):Int) (↑(List.getD (B3.v6 (p'44).1) 1 0):Int) (↑(List.getD (B3.v6 (p'44).1) 2 0):Int) (↑(List.getD (B3.v6 (p'44).1) 3 0):Int) (↑(List.getD (B3.v6 (p'44).1) 4 0):Int) (↑(List.getD (B3.v6 (p'44).1) 5 0):Int) (↑(List.getD (B3.v6 (p'44).1) 6 0):Int) (↑(List.getD (B3.v6 (p'44).1) 7 0):Int) (Wc s'46) s17 [(bH (↑(B3.kind (p'44).1):Int) (B3.name (p'44).1) (↑(B3.v4 (p'44).1):Int) (↑(List.getD (B3.v6 (p'44).1) 0 0):Int) (↑(List.getD (B3.v6 (p'44).1) 1 0):Int) (↑(List.getD (B3.v6 (p'44).1) 2 0):Int) (↑(List.getD (B3.v6 (p'44).1) 3 0):Int) (↑(List.getD (B3.v6 (p'44).1) 4 0):Int) (↑(List.getD (B3.v6 (p'44).1) 5 0):Int) (↑(List.getD (B3.v6 (p'44).1) 6 0):Int) (↑(List.getD (B3.v6 (p'44).1) 7 0):Int))]) (k0 0 (bU s3 s4 (↑(B3.kind (p'44).1):Int) (B3.name (p'44).1) (↑(B3.v4 (p'44).1):Int) (↑(List.getD (B3.v6 (p'44).1) 0 0):Int) (↑(List.getD (B3.v6 (p'44).1) 1 0):Int) (↑(List.getD (B3.v6 (p'44).1) 2 0):Int) (↑(List.getD (B3.v6 (p'44).1) 3 0):Int) (↑(List.getD (B3.v6 (p'44).1) 4 0):Int) (↑(List.getD (B3.v6 (p'44).1) 5 0):Int) (↑(List.getD (B3.v6 (p'44).1) 6 0):Int) (↑(List.getD (B3.v6 (p'44).1) 7 0):Int) n16 s17) s3 s4 (↑(B3.kind (p'44).1):Int) (B3.name (p'44).1) (↑(B3.v4 (p'44).1):Int) (↑(List.getD (B3.v6 (p'44).1) 0 0):Int) (↑(List.getD (B3.v6 (p'44).1) 1 0):Int) (↑(List.getD (B3.v6 (p'44).1) 2 0):Int) (↑(List.getD (B3.v6 (p'44).1) 3 0):Int) (↑(List.getD (B3.v6 (p'44).1) 4 0):Int) (↑(List.getD (B3.v6 (p'44).1) 5 0):Int) (↑(List.getD (B3.v6 (p'44).1) 6 0):Int) (↑(List.getD (B3.v6 (p'44).1) 7 0):Int) n16 s17 [(bH (↑(B3.kind (p'44).1):Int) (B3.name (p'44).1) (↑(B3.v4 (p'44).1):Int) (↑(List.getD (B3.v6 (p'44).1) 0 0):Int) (↑(List.getD (B3.v6 (p'44).1) 1 0):Int) (↑(List.getD (B3.v6 (p'44).1) 2 0):Int) (↑(List.getD (B3.v6 (p'44).1) 3 0):Int) (↑(List.getD (B3.v6 (p'44).1) 4 0):Int) (↑(List.getD (B3.v6 (p'44).1) 5 0):Int) (↑(List.getD (B3.v6 (p'44).1) 6 0):Int) (↑(List.getD (B3.v6 (p'44).1) 7 0):Int))]))) none) none)) none
abbrev Kh (b:Code):Prop:=∀ (k:Out->St σ->Option R) name0 tail1 b2 s3 s4 n5 s6 n7 n8v n9 n10 n11 n12 n13 n14 n15 n16 s17,A9 (R0 lf) cl yh b ⟨gp [(2,.ptr 0 0 0),(1,.ptr 1 0 0),(2,pS name0),(0,pS tail1),(50,pB b2)] 29,[(bU s3 s4 n5 s6 n7 n8v n9 n10 n11 n12 n13 n14 n15 n16 s17),bU0],s⟩ k=P7 name0 tail1 s3 s4 n5 s6 n7 n8v n9 n10 n11 n12 n13 n14 n15 n16 s17 (λn0 B1 s2 s3 n4 s5 n6 n7 n8v n9 n10 n11 n12 n13 n14 n15 s16 H17=>k .ret ⟨gp [(4,.ptr 1 0 0),(0,pI n0)] 83,(B1::(bU s2 s3 n4 s5 n6 n7 n8v n9 n10 n11 n12 n13 n14 n15 s16)::H17),s⟩)
theorem Qu:Kh (R:=R) lf cl yh s (cd [1,1,1,1,1] X3):=by
 intro k name0 tail1 b2 s3 s4 n5 s6 n7 n8v n9 n10 n11 n12 n13 n14 n15 n16 s17;unfold P7;kernel_rfl
noncomputable def L4 {R:Type} (name0 tail1 s2 s3:By) (n4:Int) (s5:By) (n6 n7 n8v n9 n10 n11 n12 n13 n14 n15:Int) (s16:By) (k0:Int->Blk->By->By->Int->By->Int->Int->Int->Int->Int->Int->Int->Int->Int->Int->By->(List Blk)->Option R):Option R:=cond (not (tail1==[])) (cond (inR 0 tail1.length) (cond ((bAt tail1 (0:Int)) != 58) (k0 4 (bU s2 s3 n4 s5 n6 n7 n8v n9 n10 n11 n12 n13 n14 n15 s16) ([]:List UInt8) ([]:List UInt8) 0 ([]:List UInt8) 0 0 0 0 0 0 0 0 0 0 ([]:List UInt8) []) (P7 name0 tail1 s2 s3 n4 s5 n6 n7 n8v n9 n10 n11 n12 n13 n14 n15 s16 (λn'47 B'48 s'49 s'50 n'51 s'52 n'53 n'54 n'55 n'56 n'57 n'58 n'59 n'60 n'61 n'62 s'63 H'64=>k0 n'47 B'48 s'49 s'50 n'51 s'52 n'53 n'54 n'55 n'56 n'57 n'58 n'59 n'60 n'61 n'62 s'63 H'64))) none) (P7 name0 tail1 s2 s3 n4 s5 n6 n7 n8v n9 n10 n11 n12 n13 n14 n15 s16 (λn'65 B'66 s'67 s'68 n'69 s'70 n'71 n'72 n'73 n'74 n'75 n'76 n'77 n'78 n'79 n'80 s'81 H'82=>k0 n'65 B'66 s'67 s'68 n'69 s'70 n'71 n'72 n'73 n'74 n'75 n'76 n'77 n'78 n'79 n'80 s'81 H'82))
abbrev Ki (b:Code):Prop:=∀ (k:Out->St σ->Option R) name0 tail1 s2 s3 n4 s5 n6 n7 n8v n9 n10 n11 n12 n13 n14 n15 s16,A9 (R0 lf) cl yh b ⟨gp [(2,.ptr 0 0 0),(1,.ptr 1 0 0),(2,pS name0),(0,pS tail1)] 80,[(bU s2 s3 n4 s5 n6 n7 n8v n9 n10 n11 n12 n13 n14 n15 s16),bU0],s⟩ k=L4 name0 tail1 s2 s3 n4 s5 n6 n7 n8v n9 n10 n11 n12 n13 n14 n15 s16 (λn0 B1 s2 s3 n4 s5 n6 n7 n8v n9 n10 n11 n12 n13 n14 n15 s16 H17=>k .ret ⟨gp [(4,.ptr 1 0 0),(0,pI n0)] 83,(B1::(bU s2 s3 n4 s5 n6 n7 n8v n9 n10 n11 n12 n13 n14 n15 s16)::H17),s⟩)
theorem ND (b_11111:Code) (h_uplace_j0:Kh (R:=R) lf cl yh s b_11111):Ki (R:=R) lf cl yh s (cd [1,1,1,1] (N4 [1,1,1,1,1] b_11111 X3)):=by
 intro k name0 tail1 s2 s3 n4 s5 n6 n7 n8v n9 n10 n11 n12 n13 n14 n15 s16;unfold L4;exact (Eq.trans (by kernel_rfl) (A0 (A0 (A0 rfl ((h_uplace_j0 k name0 tail1 ((bAt tail1 (0:Int)) != 58) s2 s3 n4 s5 n6 n7 n8v n9 n10 n11 n12 n13 n14 n15 s16).trans (by kernel_rfl))) rfl) ((h_uplace_j0 k name0 tail1 false s2 s3 n4 s5 n6 n7 n8v n9 n10 n11 n12 n13 n14 n15 s16).trans (by kernel_rfl))))
theorem NE:Ki (R:=R) lf cl yh s (cd [1,1,1,1] X3):=by
 intro k name0 tail1 s2 s3 n4 s5 n6 n7 n8v n9 n10 n11 n12 n13 n14 n15 s16;exact Eq.trans (by kernel_rfl) (ND lf cl yh s (cd [1,1,1,1,1] X3) (Qu lf cl yh s) k name0 tail1 s2 s3 n4 s5 n6 n7 n8v n9 n10 n11 n12 n13 n14 n15 s16)
noncomputable def Lo {R:Type} (authority0 s3 s4:By) (n5:Int) (s6:By) (n7 n8v n9 n10 n11 n12 n13 n14 n15 n16:Int) (s17:By) (k0:Int->Blk->By->By->Int->By->Int->Int->Int->Int->Int->Int->Int->Int->Int->Int->By->(List Blk)->Option R):Option R:=P7 authority0 ([]:List UInt8) s3 s4 n5 s6 n7 n8v n9 n10 n11 n12 n13 n14 n15 n16 s17 (λn'119 B'120 s'121 s'122 n'123 s'124 n'125 n'126 n'127 n'128 n'129 n'130 n'131 n'132 n'133 n'134 s'135 H'136=>k0 n'119 B'120 s'121 s'122 n'123 s'124 n'125 n'126 n'127 n'128 n'129 n'130 n'131 n'132 n'133 n'134 s'135 H'136)
abbrev Kj (b:Code):Prop:=∀ (k:Out->St σ->Option R) authority0 kk1 b2 s3 s4 n5 s6 n7 n8v n9 n10 n11 n12 n13 n14 n15 n16 s17,A9 (R0 lf) cl yh b ⟨gp [(1,pS authority0),(0,.ptr 0 0 0),(1,.ptr 1 0 0),(2,pS authority0),(0,pS ([]:List UInt8)),(1,pI kk1),(35,pB b2)] 42,[(bU s3 s4 n5 s6 n7 n8v n9 n10 n11 n12 n13 n14 n15 n16 s17),bU0],s⟩ k=Lo authority0 s3 s4 n5 s6 n7 n8v n9 n10 n11 n12 n13 n14 n15 n16 s17 (λn0 B1 s2 s3 n4 s5 n6 n7 n8v n9 n10 n11 n12 n13 n14 n15 s16 H17=>k .ret ⟨gp [(4,.ptr 1 0 0),(0,pI n0)] 83,(B1::(bU s2 s3 n4 s5 n6 n7 n8v n9 n10 n11 n12 n13 n14 n15 s16)::H17),s⟩)
theorem NF (b_11111:Code) (h_uplace_j0:Kh (R:=R) lf cl yh s b_11111):Kj (R:=R) lf cl yh s (cd [1,1,1,1] (N4 [1,1,1,1,1] b_11111 X3)):=by
 intro k authority0 kk1 b2 s3 s4 n5 s6 n7 n8v n9 n10 n11 n12 n13 n14 n15 n16 s17;unfold Lo;exact (Eq.trans (by kernel_rfl) ((h_uplace_j0 k authority0 ([]:List UInt8) false s3 s4 n5 s6 n7 n8v n9 n10 n11 n12 n13 n14 n15 n16 s17).trans (by kernel_rfl)))
theorem NG:Kj (R:=R) lf cl yh s (cd [1,1,1,1] X3):=by
 intro k authority0 kk1 b2 s3 s4 n5 s6 n7 n8v n9 n10 n11 n12 n13 n14 n15 n16 s17;exact Eq.trans (by kernel_rfl) (NF lf cl yh s (cd [1,1,1,1,1] X3) (Qu lf cl yh s) k authority0 kk1 b2 s3 s4 n5 s6 n7 n8v n9 n10 n11 n12 n13 n14 n15 n16 s17)
noncomputable def Nq {R:Type} (lf:Nat) (u0 u1:By) (u2:Int) (u3:By) (u4 u5 u6 u7 u8 u9 u10 u11 u12 u13:Int) (u14 authority15:By) (k0:By->By->Int->By->Int->Int->Int->Int->Int->Int->Int->Int->Int->Int->By->Int->(List Blk)->Option R):Option R:=cond (A2 authority15.length) (vl (H9 (u8n (64:Int)) authority15) λn'5=>cond (not (ltI n'5 0)) (cond (L3 0 n'5 authority15.length) (vl (cut authority15 0 n'5) λs'6=>cond (L3 (A4 (n'5+1)) (authority15.length:Int) authority15.length) (vl (cut authority15 (A4 (n'5+1)) (authority15.length:Int)) λs'7=>cond (A2 s'7.length) (cond (List.isPrefixOf ([91]:List UInt8) s'7) (cond (A2 s'7.length) (vl (Lib.indexByte s'7 (u8n (93:Int))) λn'16=>cond (ltI n'16 0) (k0 ([]:List UInt8) ([]:List UInt8) 0 ([]:List UInt8) 0 0 0 0 0 0 0 0 0 0 ([]:List UInt8) 4 [(bU u0 s'6 u2 u3 u4 u5 u6 u7 u8 u9 u10 u11 u12 u13 u14),bU0]) (vl (A4 (n'16+1)) λn'17=>cond (L3 0 n'17 s'7.length) (vl (A4 (n'16+1)) λn'18=>cond (L3 n'18 (s'7.length:Int) s'7.length) (vl (cut s'7 n'18 (s'7.length:Int)) λs'19=>L4 (cut s'7 0 n'17) s'19 u0 s'6 u2 u3 u4 u5 u6 u7 u8 u9 u10 u11 u12 u13 u14 (λn'83 B'84 s'85 s'86 n'87 s'88 n'89 n'90 n'91 n'92 n'93 n'94 n'95 n'96 n'97 n'98 s'99 H'100=>k0 s'85 s'86 n'87 s'88 n'89 n'90 n'91 n'92 n'93 n'94 n'95 n'96 n'97 n'98 s'99 n'83 (B'84::((bU s'85 s'86 n'87 s'88 n'89 n'90 n'91 n'92 n'93 n'94 n'95 n'96 n'97 n'98 s'99)::H'100)))) none) none)) none) (cond (A2 s'7.length) (vl (Lib.indexByte s'7 (u8n (58:Int))) λn'21=>cond (not (ltI n'21 0)) (cond (L3 0 n'21 s'7.length) (cond (L3 n'21 (s'7.length:Int) s'7.length) (vl (cut s'7 n'21 (s'7.length:Int)) λs'22=>L4 (cut s'7 0 n'21) s'22 u0 s'6 u2 u3 u4 u5 u6 u7 u8 u9 u10 u11 u12 u13 u14 (λn'101 B'102 s'103 s'104 n'105 s'106 n'107 n'108 n'109 n'110 n'111 n'112 n'113 n'114 n'115 n'116 s'117 H'118=>k0 s'103 s'104 n'105 s'106 n'107 n'108 n'109 n'110 n'111 n'112 n'113 n'114 n'115 n'116 s'117 n'101 (B'102::((bU s'103 s'104 n'105 s'106 n'107 n'108 n'109 n'110 n'111 n'112 n'113 n'114 n'115 n'116 s'117)::H'118)))) none) none) (Lo s'7 u0 s'6 u2 u3 u4 u5 u6 u7 u8 u9 u10 u11 u12 u13 u14 (λn'137 B'138 s'139 s'140 n'141 s'142 n'143 n'144 n'145 n'146 n'147 n'148 n'149 n'150 n'151 n'152 s'153 H'154=>k0 s'139 s'140 n'141 s'142 n'143 n'144 n'145 n'146 n'147 n'148 n'149 n'150 n'151 n'152 s'153 n'137 (B'138::((bU s'139 s'140 n'141 s'142 n'143 n'144 n'145 n'146 n'147 n'148 n'149 n'150 n'151 n'152 s'153)::H'154))))) none)) none) none) none) (cond (A2 authority15.length) (cond (List.isPrefixOf ([91]:List UInt8) authority15) (cond (A2 authority15.length) (vl (Lib.indexByte authority15 (u8n (93:Int))) λn'34=>cond (ltI n'34 0) (k0 ([]:List UInt8) ([]:List UInt8) 0 ([]:List UInt8) 0 0 0 0 0 0 0 0 0 0 ([]:List UInt8) 4 [(bU u0 u1 u2 u3 u4 u5 u6 u7 u8 u9 u10 u11 u12 u13 u14),bU0]) (vl (A4 (n'34+1)) λn'35=>cond (L3 0 n'35 authority15.length) (vl (cut authority15 0 n'35) λs'36=>vl (A4 (n'34+1)) λn'37=>cond (L3 n'37 (authority15.length:Int) authority15.length) (vl (cut authority15 n'37 (authority15.length:Int)) λs'38=>L4 s'36 s'38 u0 u1 u2 u3 u4 u5 u6 u7 u8 u9 u10 u11 u12 u13 u14 (λn'155 B'156 s'157 s'158 n'159 s'160 n'161 n'162 n'163 n'164 n'165 n'166 n'167 n'168 n'169 n'170 s'171 H'172=>k0 s'157 s'158 n'159 s'160 n'161 n'162 n'163 n'164 n'165 n'166 n'167 n'168 n'169 n'170 s'171 n'155 (B'156::((bU s'157 s'158 n'159 s'160 n'161 n'162 n'163 n'164 n'165 n'166 n'167 n'168 n'169 n'170 s'171)::H'172)))) none) none)) none) (cond (A2 authority15.length) (vl (Lib.indexByte authority15 (u8n (58:Int))) λn'40=>cond (not (ltI n'40 0)) (cond (L3 0 n'40 authority15.length) (vl (cut authority15 0 n'40) λs'41=>cond (L3 n'40 (authority15.length:Int) authority15.length) (vl (cut authority15 n'40 (authority15.length:Int)) λs'42=>L4 s'41 s'42 u0 u1 u2 u3 u4 u5 u6 u7 u8 u9 u10 u11 u12 u13 u14 (λn'173 B'174 s'175 s'176 n'177 s'178 n'179 n'180 n'181 n'182 n'183 n'184 n'185 n'186 n'187 n'188 s'189 H'190=>k0 s'175 s'176 n'177 s'178 n'179 n'180 n'181 n'182 n'183 n'184 n'185 n'186 n'187 n'188 s'189 n'173 (B'174::((bU s'175 s'176 n'177 s'178 n'179 n'180 n'181 n'182 n'183 n'184 n'185 n'186 n'187 n'188 s'189)::H'190)))) none) none) (Lo authority15 u0 u1 u2 u3 u4 u5 u6 u7 u8 u9 u10 u11 u12 u13 u14 (λn'191 B'192 s'193 s'194 n'195 s'196 n'197 n'198 n'199 n'200 n'201 n'202 n'203 n'204 n'205 n'206 s'207 H'208=>k0 s'193 s'194 n'195 s'196 n'197 n'198 n'199 n'200 n'201 n'202 n'203 n'204 n'205 n'206 s'207 n'191 (B'192::((bU s'193 s'194 n'195 s'196 n'197 n'198 n'199 n'200 n'201 n'202 n'203 n'204 n'205 n'206 s'207)::H'208))))) none)) none)) none
theorem A26 (b_1111:Code) (h_uplace_j1:Ki (R:=PV × List Blk × σ) lf cl yh s b_1111) (h_uplace_j2:Kj (R:=PV × List Blk × σ) lf cl yh s b_1111) (u0 u1:By) (u2:Int) (u3:By) (u4 u5 u6 u7 u8 u9 u10 u11 u12 u13:Int) (u14 authority15:By):A9 (R0 lf) cl yh (cd [] (N4 [1,1,1,1] b_1111 X3)) ⟨[(gU u0 u1 u2 u3 u4 u5 u6 u7 u8 u9 u10 u11 u12 u13 u14),pS authority15]++tps 87,[],s⟩ (G5 (R0 lf) Tryz.f32)=Nq lf u0 u1 u2 u3 u4 u5 u6 u7 u8 u9 u10 u11 u12 u13 u14 authority15 (λr0 r1 r2 r3 r4 r5 r6 r7 r8 r9 r10 r11 r12 r13 r14 r15 H16=>some (.tup [(gU r0 r1 r2 r3 r4 r5 r6 r7 r8 r9 r10 r11 r12 r13 r14),pI r15],H16,s)):=by
 unfold Nq;exact let K0:=(G5 (R0 lf) Tryz.f32);(Eq.trans (by kernel_rfl) (A0 (A5 λn'5=>(A0 (A0 (A5 λs'6=>(A0 (A5 λs'7=>(A0 (A0 (A0 (A5 λn'16=>(A0 rfl (A5 λn'17=>(A0 (A5 λn'18=>(A0 (A5 λs'19=>((h_uplace_j1 K0 (cut s'7 0 n'17) s'19 u0 s'6 u2 u3 u4 u5 u6 u7 u8 u9 u10 u11 u12 u13 u14).trans (by kernel_rfl))) rfl)) rfl)))) rfl) (A0 (A5 λn'21=>(A0 (A0 (A0 (A5 λs'22=>((h_uplace_j1 K0 (cut s'7 0 n'21) s'22 u0 s'6 u2 u3 u4 u5 u6 u7 u8 u9 u10 u11 u12 u13 u14).trans (by kernel_rfl))) rfl) rfl) ((h_uplace_j2 K0 s'7 n'21 (not (ltI n'21 0)) u0 s'6 u2 u3 u4 u5 u6 u7 u8 u9 u10 u11 u12 u13 u14).trans (by kernel_rfl)))) rfl)) rfl)) rfl)) rfl) (A0 (A0 (A0 (A5 λn'34=>(A0 rfl (A5 λn'35=>(A0 (A5 λs'36=>(A5 λn'37=>(A0 (A5 λs'38=>((h_uplace_j1 K0 s'36 s'38 u0 u1 u2 u3 u4 u5 u6 u7 u8 u9 u10 u11 u12 u13 u14).trans (by kernel_rfl))) rfl))) rfl)))) rfl) (A0 (A5 λn'40=>(A0 (A0 (A5 λs'41=>(A0 (A5 λs'42=>((h_uplace_j1 K0 s'41 s'42 u0 u1 u2 u3 u4 u5 u6 u7 u8 u9 u10 u11 u12 u13 u14).trans (by kernel_rfl))) rfl)) rfl) ((h_uplace_j2 K0 authority15 n'40 (not (ltI n'40 0)) u0 u1 u2 u3 u4 u5 u6 u7 u8 u9 u10 u11 u12 u13 u14).trans (by kernel_rfl)))) rfl)) rfl))) rfl))
theorem A27 (d:Nat) (u0 u1 u2 u3 u4 u5 u6 u7 u8 u9 u10 u11 u12 u13 u14 authority15):evC (R0 lf) (d+1) σ yh 32 [(gU u0 u1 u2 u3 u4 u5 u6 u7 u8 u9 u10 u11 u12 u13 u14),pS authority15] [] s=Nq lf u0 u1 u2 u3 u4 u5 u6 u7 u8 u9 u10 u11 u12 u13 u14 authority15 (λr0 r1 r2 r3 r4 r5 r6 r7 r8 r9 r10 r11 r12 r13 r14 r15 H16=>some (.tup [(gU r0 r1 r2 r3 r4 r5 r6 r7 r8 r9 r10 r11 r12 r13 r14),pI r15],H16,s)):=
 (evE (fn:=Tryz.f32) (by kernel_rfl)).trans (Eq.trans (by kernel_rfl) (A26 lf (evC (R0 lf) d) yh s (cd [1,1,1,1] X3) (NE lf (evC (R0 lf) d) yh s) (NG lf (evC (R0 lf) d) yh s) u0 u1 u2 u3 u4 u5 u6 u7 u8 u9 u10 u11 u12 u13 u14 authority15))
noncomputable abbrev A80:Code:=D0 Tryz.f18
noncomputable def Mx (lf:Nat):Cfg:=B8 lf [18] (A3 [(2,[0,1,0,8,0])]) [(25,Yf),(26,A65),(27,UQ),(28,Wm),(29,UJ),(30,IQ),(31,Xn),(32,OJ)] (A3 [(23,[2,0]),(22,[2,5,0]),(21,[2,5,0,65]),(20,[2,5,0]),(19,[2,3,1,0]),(18,[2,3,1,0,0,52]),(17,[2,3,1,0,0]),(16,[2,3,1,0]),(15,[2,0]),(14,[2,3,1,48]),(13,[2,3,0,0]),(12,[2,0]),(11,[2,3,1,40]),(10,[2,3,1]),(9,[2,0]),(8,[2,2,0,33]),(7,[2,2,0,0]),(6,[0,1,9,0]),(5,[2,0]),(4,[0,1,9,0,11]),(3,[0,1,1,7,0]),(2,[0,1,9,0,0]),(1,[0,1,9,0]),(0,[0,1])]) [25,26,27,28,29,30,31] (A3 [(0,[0,1]),(1,[0,1,9,0])]) (some [2,0]) [] [] []
noncomputable def Ex {R:Type} (lf n:Nat) (s0:By) (n1 n2:Int) (k0:(List Blk)->Option R) (k1:By->Option R):Option R:=match n with | 0=>none | n+1=>cond (ltI n2 n1) (cond (inR n2 s0.length) (cond (not (ltI 32 (bAt s0 n2))) (k0 []) (cond (inR n2 s0.length) (cond ((bAt s0 n2)==127) (k0 []) (Ex lf n s0 n1 (A4 (n2+1)) k0 k1)) none)) none) (k1 s0)
theorem Af6 (n s0 n1 n2):F0 1 ((Mx lf).keep 2) (bd (Mx lf) cl yh (cd [1,0,1,0,0] A80)) n ⟨gp [(0,pS s0),(1,.ptr 0 0 0),(9,pI n1),(0,pI n2)] 71,[bU0],s⟩ k =
 Ex lf n s0 n1 n2 (λH0=>k .ret ⟨gp [(2,.ptr 0 0 0),(0,pI (4:Int))] 81,(bU0::H0),s⟩) (λs0=>k (.exit 0) ⟨gp [(0,pS s0),(1,.ptr 0 0 0)] 82,[bU0],s⟩):=by
 induction n generalizing s0 n1 n2 with
 | zero=>rfl
 | succ n ih=>rw [Ex];simp only [<-ih];kernel_rfl
noncomputable def DM {R:Type} (lf:Nat) (s0:By) (k0:By->By->Int->By->Int->Int->Int->Int->Int->Int->Int->Int->Int->Int->By->Int->(List Blk)->Option R):Option R:=Ex lf lf s0 (s0.length:Int) 0 (λH'0=>k0 ([]:List UInt8) ([]:List UInt8) 0 ([]:List UInt8) 0 0 0 0 0 0 0 0 0 0 ([]:List UInt8) 4 (bU0::H'0)) (λs'1=>cond (A2 s'1.length) (vl ((Lib.cut s'1 ([58]:List UInt8))).1 λs'4=>vl (((Lib.cut s'1 ([58]:List UInt8))).2).1 λs'5=>cond (not (((Lib.cut s'1 ([58]:List UInt8))).2).2) (k0 ([]:List UInt8) ([]:List UInt8) 0 ([]:List UInt8) 0 0 0 0 0 0 0 0 0 0 ([]:List UInt8) 15 [bU0]) (cond (A2 s'4.length) (cond (not (Ao s'4)) (k0 ([]:List UInt8) ([]:List UInt8) 0 ([]:List UInt8) 0 0 0 0 0 0 0 0 0 0 ([]:List UInt8) 15 [bU0]) (cond (A2 s'4.length) (cond (not (I8 (C0 s'4))) (k0 (C0 s'4) ([]:List UInt8) 0 ([]:List UInt8) 0 0 0 0 0 0 0 0 0 (-1) s'5 0 [(bU (C0 s'4) ([]:List UInt8) (0:Int) ([]:List UInt8) (0:Int) (0:Int) (0:Int) (0:Int) (0:Int) (0:Int) (0:Int) (0:Int) (0:Int) ((-1):Int) s'5),(bU (C0 s'4) ([]:List UInt8) (0:Int) ([]:List UInt8) (0:Int) (0:Int) (0:Int) (0:Int) (0:Int) (0:Int) (0:Int) (0:Int) (0:Int) ((-1):Int) s'5)]) (cond (A2 s'5.length) (vl (Dd s'5 ([47,47]:List UInt8)) λs'7=>cond (not (List.isPrefixOf ([47,47]:List UInt8) s'5)) (k0 ([]:List UInt8) ([]:List UInt8) 0 ([]:List UInt8) 0 0 0 0 0 0 0 0 0 0 ([]:List UInt8) 4 [bU0,(bU (C0 s'4) ([]:List UInt8) (0:Int) ([]:List UInt8) (0:Int) (0:Int) (0:Int) (0:Int) (0:Int) (0:Int) (0:Int) (0:Int) (0:Int) ((-1):Int) s'5)]) (cond (A2 s'7.length) (cond (Td ([47,63,35]:List UInt8)) (vl (Lib.indexAny s'7 ([47,63,35]:List UInt8)) λn'9=>cond (not (ltI n'9 0)) (cond (L3 0 n'9 s'7.length) (cond (L3 (↑(List.length (cut s'7 0 n'9)):Int) (s'7.length:Int) s'7.length) (vl (cut s'7 (↑(List.length (cut s'7 0 n'9)):Int) (s'7.length:Int)) λs'11=>cond (A2 s'11.length) (cond (not (List.isPrefixOf ([47]:List UInt8) s'11)) (cond (N0 1 s'11.length) (vl (([47]:List UInt8)++s'11) λs'12=>cond (A2 (List.length (C0 s'4))) (cond (A2 s'12.length) (cond (A2 (List.length (cut s'7 0 n'9))) (cond (((-1):Int)==((-1):Int)) (vl (E4 (C0 s'4) s'12 (cut s'7 0 n'9)) λp'13=>k0 (uS p'13) (uU p'13) (uK p'13) (uN p'13) (uV p'13) (uA p'13 0) (uA p'13 1) (uA p'13 2) (uA p'13 3) (uA p'13 4) (uA p'13 5) (uA p'13 6) (uA p'13 7) (uP p'13) (uR p'13) (uE p'13) [(bQ p'13),(bU (C0 s'4) ([]:List UInt8) (0:Int) ([]:List UInt8) (0:Int) (0:Int) (0:Int) (0:Int) (0:Int) (0:Int) (0:Int) (0:Int) (0:Int) ((-1):Int) s'12)]) none) none) none) none) none) (cond (A2 (List.length (C0 s'4))) (cond (A2 s'11.length) (cond (A2 (List.length (cut s'7 0 n'9))) (cond (((-1):Int)==((-1):Int)) (vl (E4 (C0 s'4) s'11 (cut s'7 0 n'9)) λp'14=>k0 (uS p'14) (uU p'14) (uK p'14) (uN p'14) (uV p'14) (uA p'14 0) (uA p'14 1) (uA p'14 2) (uA p'14 3) (uA p'14 4) (uA p'14 5) (uA p'14 6) (uA p'14 7) (uP p'14) (uR p'14) (uE p'14) [(bQ p'14),(bU (C0 s'4) ([]:List UInt8) (0:Int) ([]:List UInt8) (0:Int) (0:Int) (0:Int) (0:Int) (0:Int) (0:Int) (0:Int) (0:Int) (0:Int) ((-1):Int) s'11)]) none) none) none) none)) none) none) none) (cond (L3 (s'7.length:Int) (s'7.length:Int) s'7.length) (vl (cut s'7 (s'7.length:Int) (s'7.length:Int)) λs'16=>cond (A2 s'16.length) (cond (not (List.isPrefixOf ([47]:List UInt8) s'16)) (cond (N0 1 s'16.length) (vl (([47]:List UInt8)++s'16) λs'17=>cond (A2 (List.length (C0 s'4))) (cond (A2 s'17.length) (cond (A2 s'7.length) (cond (((-1):Int)==((-1):Int)) (vl (E4 (C0 s'4) s'17 s'7) λp'18=>k0 (uS p'18) (uU p'18) (uK p'18) (uN p'18) (uV p'18) (uA p'18 0) (uA p'18 1) (uA p'18 2) (uA p'18 3) (uA p'18 4) (uA p'18 5) (uA p'18 6) (uA p'18 7) (uP p'18) (uR p'18) (uE p'18) [(bQ p'18),(bU (C0 s'4) ([]:List UInt8) (0:Int) ([]:List UInt8) (0:Int) (0:Int) (0:Int) (0:Int) (0:Int) (0:Int) (0:Int) (0:Int) (0:Int) ((-1):Int) s'17)]) none) none) none) none) none) (cond (A2 (List.length (C0 s'4))) (cond (A2 s'16.length) (cond (A2 s'7.length) (cond (((-1):Int)==((-1):Int)) (vl (E4 (C0 s'4) s'16 s'7) λp'19=>k0 (uS p'19) (uU p'19) (uK p'19) (uN p'19) (uV p'19) (uA p'19 0) (uA p'19 1) (uA p'19 2) (uA p'19 3) (uA p'19 4) (uA p'19 5) (uA p'19 6) (uA p'19 7) (uP p'19) (uR p'19) (uE p'19) [(bQ p'19),(bU (C0 s'4) ([]:List UInt8) (0:Int) ([]:List UInt8) (0:Int) (0:Int) (0:Int) (0:Int) (0:Int) (0:Int) (0:Int) (0:Int) (0:Int) ((-1):Int) s'16)]) none) none) none) none)) none) none)) none) none)) none)) none)) none)) none)
theorem B35 (d:Nat) (s0):evC (Mx lf) (d+1) σ yh 18 [pS s0] [] s=DM lf s0 (λr0 r1 r2 r3 r4 r5 r6 r7 r8 r9 r10 r11 r12 r13 r14 r15 H16=>some (.tup [(gU r0 r1 r2 r3 r4 r5 r6 r7 r8 r9 r10 r11 r12 r13 r14),pI r15],H16,s)):=by
 refine (evE (fn:=Tryz.f18) (by kernel_rfl)).trans ?_
 generalize evC (Mx lf) d=cl
 unfold DM;exact (Eq.trans (by kernel_rfl) ((Af6 lf cl yh s (H7 0 (I5 (Mx lf) cl yh (cd [1,1] A80) (G5 (Mx lf) Tryz.f18))) lf s0 (s0.length:Int) 0).trans (by kernel_rfl)))
noncomputable def Zk (lf:Nat):Cfg:=B8 lf [15] (A3 []) [(18,VB)] (A3 [(3,[2,0]),(2,[2,0]),(1,[0,1,3]),(0,[0,1])]) [] (A3 []) (some [2,0]) [] [] []
noncomputable def NC {R:Type} (lf:Nat) (s0:By) (k0:By->By->Int->By->Int->Int->Int->Int->Int->Int->Int->Int->Int->Int->By->Int->(List Blk)->Option R):Option R:=cond (ltI 2048 (s0.length:Int)) (k0 ([]:List UInt8) ([]:List UInt8) 0 ([]:List UInt8) 0 0 0 0 0 0 0 0 0 0 ([]:List UInt8) 3 [bU0]) (cond (A2 s0.length) (vl (D5 s0) λp'0=>k0 (uS p'0) (uU p'0) (uK p'0) (uN p'0) (uV p'0) (uA p'0 0) (uA p'0 1) (uA p'0 2) (uA p'0 3) (uA p'0 4) (uA p'0 5) (uA p'0 6) (uA p'0 7) (uP p'0) (uR p'0) (uE p'0) [(bQ p'0)]) none)
theorem A24 (d:Nat) (s0):evC (Zk lf) (d+1) σ yh 15 [pS s0] [] s=NC lf s0 (λr0 r1 r2 r3 r4 r5 r6 r7 r8 r9 r10 r11 r12 r13 r14 r15 H16=>some (.tup [(gU r0 r1 r2 r3 r4 r5 r6 r7 r8 r9 r10 r11 r12 r13 r14),pI r15],H16,s)):=by
 refine (evE (fn:=Tryz.f15) (by kernel_rfl)).trans ?_
 generalize evC (Zk lf) d=cl
 unfold NC;kernel_rfl
noncomputable def KH (lf:Nat):Cfg:=B8 lf [33] (A3 []) [(28,Wm),(58,UL),(59,Ah9)] (A3 [(9,[2]),(8,[1,1]),(7,[1,1,28]),(6,[1,1]),(5,[1,1]),(4,[1,1,15]),(3,[1,1]),(2,[2]),(1,[1,5]),(0,[1])]) [28,58,59] (A3 []) (some [2]) [] [] []
noncomputable def Me {R:Type} (lf:Nat) (u0 u1:By) (u2:Int) (u3:By) (u4 u5 u6 u7 u8 u9 u10 u11 u12 u13:Int) (u14:By) (k0:By->(List Blk)->Option R):Option R:=cond (not (I8 u0)) (cond (N0 u0.length 1) (vl (u0++[58]) λs'1=>cond (N0 s'1.length u14.length) (k0 (s'1++u14) [(bU u0 u1 u2 u3 u4 u5 u6 u7 u8 u9 u10 u11 u12 u13 u14)]) none) none) (cond (N0 u0.length 3) (vl (u0++[58,47,47]) λs'3=>cond (not (u1==[])) (cond (N0 u1.length 1) (vl (u1++[64]) λs'5=>cond (N0 s'3.length s'5.length) (cond (A2 u3.length) (cond (ltN u4 4294967296) (cond (ok8 u5 u6 u7 u8 u9 u10 u11 u12) (vl (Ih (mkH u2 u3 u4 (n8 u5 u6 u7 u8 u9 u10 u11 u12))) λs'7=>cond (N0 (List.length (s'3++s'5)) s'7.length) (cond (u13 != ((-1):Int)) (cond (T7 u13) (cond (N0 1 (List.length (Ia u13))) (vl (([58]:List UInt8)++(Ia u13)) λs'8=>cond (N0 (List.length ((s'3++s'5)++s'7)) s'8.length) (vl (((s'3++s'5)++s'7)++s'8) λs'9=>cond (N0 s'9.length u14.length) (k0 (s'9++u14) [(bU u0 u1 u2 u3 u4 u5 u6 u7 u8 u9 u10 u11 u12 u13 u14)]) none) none) none) none) (cond (N0 (List.length ((s'3++s'5)++s'7)) u14.length) (vl (((s'3++s'5)++s'7)++u14) λs'10=>k0 s'10 [(bU u0 u1 u2 u3 u4 u5 u6 u7 u8 u9 u10 u11 u12 u13 u14)]) none)) none) none) none) none) none) none) (cond (A2 u3.length) (cond (ltN u4 4294967296) (cond (ok8 u5 u6 u7 u8 u9 u10 u11 u12) (vl (Ih (mkH u2 u3 u4 (n8 u5 u6 u7 u8 u9 u10 u11 u12))) λs'12=>cond (N0 s'3.length s'12.length) (cond (u13 != ((-1):Int)) (cond (T7 u13) (cond (N0 1 (List.length (Ia u13))) (vl (([58]:List UInt8)++(Ia u13)) λs'13=>cond (N0 (List.length (s'3++s'12)) s'13.length) (cond (N0 (List.length ((s'3++s'12)++s'13)) u14.length) (vl (((s'3++s'12)++s'13)++u14) λs'14=>k0 s'14 [(bU u0 u1 u2 u3 u4 u5 u6 u7 u8 u9 u10 u11 u12 u13 u14)]) none) none) none) none) (cond (N0 (List.length (s'3++s'12)) u14.length) (k0 ((s'3++s'12)++u14) [(bU u0 u1 u2 u3 u4 u5 u6 u7 u8 u9 u10 u11 u12 u13 u14)]) none)) none) none) none) none)) none)
theorem Bk9 (d:Nat) (u0 u1 u2 u3 u4 u5 u6 u7 u8 u9 u10 u11 u12 u13 u14):evC (KH lf) (d+1) σ yh 33 [(gU u0 u1 u2 u3 u4 u5 u6 u7 u8 u9 u10 u11 u12 u13 u14)] [] s=Me lf u0 u1 u2 u3 u4 u5 u6 u7 u8 u9 u10 u11 u12 u13 u14 (λr0 H1=>some (pS r0,H1,s)):=by
 refine (evE (fn:=Tryz.f33) (by kernel_rfl)).trans ?_
 generalize evC (KH lf) d=cl
 unfold Me;kernel_rfl
noncomputable def Sl (lf:Nat):Cfg:=B8 lf [19] (A3 []) [(33,JA),(18,VB)] (A3 [(2,[2]),(1,[1,1,0]),(0,[1])]) [33] (A3 []) (some [2]) [] [] []
noncomputable def Xg {R:Type} (lf:Nat) (u0 u1:By) (u2:Int) (u3:By) (u4 u5 u6 u7 u8 u9 u10 u11 u12 u13:Int) (u14:By) (k0:Bool->(List Blk)->Option R):Option R:=cond (smU u0 u1 u3 u14) (cond (ltN u4 4294967296) (cond (ok8 u5 u6 u7 u8 u9 u10 u11 u12) (cond (T7 u13) (vl (Z3 (mkU u0 u1 u2 u3 u4 (n8 u5 u6 u7 u8 u9 u10 u11 u12) u13 u14)) λs'0=>cond (A2 s'0.length) (vl (D5 s'0) λp'1=>cond ((uE p'1)==0) (k0 ((u0==(uS p'1))&&((u1==(uU p'1))&&((u2==(uK p'1))&&((u3==(uN p'1))&&((u4==(uV p'1))&&((u5==(uA p'1 0))&&((u6==(uA p'1 1))&&((u7==(uA p'1 2))&&((u8==(uA p'1 3))&&((u9==(uA p'1 4))&&((u10==(uA p'1 5))&&((u11==(uA p'1 6))&&((u12==(uA p'1 7))&&((u13==(uP p'1))&&((u14==(uR p'1))&&true))))))))))))))) [(bU u0 u1 u2 u3 u4 u5 u6 u7 u8 u9 u10 u11 u12 u13 u14),(bQ p'1)]) (k0 false [(bU u0 u1 u2 u3 u4 u5 u6 u7 u8 u9 u10 u11 u12 u13 u14),(bQ p'1)])) none) none) none) none) none
theorem Ag1 (d:Nat) (u0 u1 u2 u3 u4 u5 u6 u7 u8 u9 u10 u11 u12 u13 u14):evC (Sl lf) (d+1) σ yh 19 [(gU u0 u1 u2 u3 u4 u5 u6 u7 u8 u9 u10 u11 u12 u13 u14)] [] s=Xg lf u0 u1 u2 u3 u4 u5 u6 u7 u8 u9 u10 u11 u12 u13 u14 (λr0 H1=>some (pB r0,H1,s)):=by
 refine (evE (fn:=Tryz.f19) (by kernel_rfl)).trans ?_
 generalize evC (Sl lf) d=cl
 unfold Xg;kernel_rfl
noncomputable def WU (lf:Nat):Cfg:=B8 lf [35] (A3 []) [(19,Ks),(33,JA)] (A3 [(3,[2]),(2,[2]),(1,[1,3]),(0,[1])]) [19,33] (A3 []) (some [2]) [] [] []
noncomputable def B28 {R:Type} (lf:Nat) (u0 u1:By) (u2:Int) (u3:By) (u4 u5 u6 u7 u8 u9 u10 u11 u12 u13:Int) (u14:By) (k0:By->(List Blk)->Option R):Option R:=cond (smU u0 u1 u3 u14) (cond (ltN u4 4294967296) (cond (ok8 u5 u6 u7 u8 u9 u10 u11 u12) (cond (T7 u13) (cond (not (Ah (mkU u0 u1 u2 u3 u4 (n8 u5 u6 u7 u8 u9 u10 u11 u12) u13 u14))) (k0 ([]:List UInt8) [(bU u0 u1 u2 u3 u4 u5 u6 u7 u8 u9 u10 u11 u12 u13 u14)]) (cond (smU u0 u1 u3 u14) (cond (ltN u4 4294967296) (cond (ok8 u5 u6 u7 u8 u9 u10 u11 u12) (cond (T7 u13) (vl (Z3 (mkU u0 u1 u2 u3 u4 (n8 u5 u6 u7 u8 u9 u10 u11 u12) u13 u14)) λs'0=>k0 s'0 [(bU u0 u1 u2 u3 u4 u5 u6 u7 u8 u9 u10 u11 u12 u13 u14)]) none) none) none) none)) none) none) none) none
theorem B29 (d:Nat) (u0 u1 u2 u3 u4 u5 u6 u7 u8 u9 u10 u11 u12 u13 u14):evC (WU lf) (d+1) σ yh 35 [(gU u0 u1 u2 u3 u4 u5 u6 u7 u8 u9 u10 u11 u12 u13 u14)] [] s=B28 lf u0 u1 u2 u3 u4 u5 u6 u7 u8 u9 u10 u11 u12 u13 u14 (λr0 H1=>some (pS r0,H1,s)):=by
 refine (evE (fn:=Tryz.f35) (by kernel_rfl)).trans ?_
 generalize evC (WU lf) d=cl
 unfold B28;kernel_rfl
end
section
variable {σ R : Type} (lf : Nat) (cl : D3) (yh : Yh σ) (s : σ) (k : Out -> St σ -> Option R)
noncomputable def Sj (lf:Nat):Cfg:=B8 lf [50] (A3 []) [] (A3 [(1,[2]),(0,[0])]) [] (A3 []) (some [2]) [] [] []
noncomputable def MR {R:Type} (lf:Nat) (bufLen0:Int) (k0:Bool->Option R):Option R:=k0 (ltI (8:Int) bufLen0)
theorem Ad8 (d:Nat) (bufLen0:Int):evC (Sj lf) (d+1) σ yh 50 [.s (.int .i64 bufLen0)] [] s=MR lf bufLen0 (λr0=>some (.s (.bool r0),[],s)):=by
 refine (evE (fn:=Tryz.f50) (by kernel_rfl)).trans ?_
 generalize evC (Sj lf) d=cl
 unfold MR;kernel_rfl
noncomputable abbrev Od:Code:=D0 Tryz.f71
noncomputable def X5 (lf:Nat):Cfg:=B8 lf [71] (A3 []) [] (A3 [(5,[2]),(2,[2]),(4,[2]),(3,[10]),(1,[0,2]),(0,[0])]) [] (A3 [(0,[])]) (some [2]) [] [] []
noncomputable def Gl {R:Type} (r0:Int) (b1:Bool) (k0:Unit->Option R) (k1:Bool->Option R):Option R:=cond b1 (k0 ()) (cond (ltI (57343:Int) r0) (cond (not (ltI (1114111:Int) r0)) (k0 ()) (k1 (not (ltI (1114111:Int) r0)))) (k1 false))
abbrev Vr (b:Code):Prop:=∀ (k:Out->St σ->Option R) (r0:Int) (b1:Bool),A9 (X5 lf) cl yh b ⟨gp [(0,.s (.int .i32 r0)),(2,.s (.bool b1))] 13,[],s⟩ k=Gl r0 b1 (λ_=>k .ret ⟨gp [(2,.s (.bool true))] 14,[],s⟩) (λb0=>k .normal ⟨gp [(10,.s (.bool b0))] 6,[],s⟩)
theorem NH:Vr (R:=R) lf cl yh s (cd [1,0,0,1] Od):=by
 intro k r0 b1;unfold Gl;kernel_rfl
noncomputable def CO {R:Type} (lf:Nat) (r0:Int) (k0:Bool->Option R):Option R:=cond (not (ltI r0 (0:Int))) (Gl r0 (ltI r0 (55296:Int)) (λ_=>k0 true) (λb'0=>k0 false)) (Gl r0 false (λ_=>k0 true) (λb'1=>k0 false))
theorem A32 (b_1001:Code) (h_uvrune_j0:Vr (R:=PV × List Blk × σ) lf cl yh s b_1001) (r0:Int):A9 (X5 lf) cl yh (cd [] (N4 [1,0,0,1] b_1001 Od)) ⟨[.s (.int .i32 r0)]++tps 16,[],s⟩ (G5 (X5 lf) Tryz.f71)=CO lf r0 (λr0=>some (.s (.bool r0),[],s)):=by
 unfold CO;exact let K0:=(H7 0 (I5 (X5 lf) cl yh (cd [1,1] Od) (G5 (X5 lf) Tryz.f71)));(Eq.trans (by kernel_rfl) (A0 ((h_uvrune_j0 K0 r0 (ltI r0 (55296:Int))).trans (by kernel_rfl)) ((h_uvrune_j0 K0 r0 false).trans (by kernel_rfl))))
theorem A33 (d:Nat) (r0:Int):evC (X5 lf) (d+1) σ yh 71 [.s (.int .i32 r0)] [] s=CO lf r0 (λr0=>some (.s (.bool r0),[],s)):=
 (evE (fn:=Tryz.f71) (by kernel_rfl)).trans (Eq.trans (by kernel_rfl) (A32 lf (evC (X5 lf) d) yh s (cd [1,0,0,1] Od) (NH lf (evC (X5 lf) d) yh s) r0))
noncomputable abbrev U0:Code:=D0 Tryz.f49
noncomputable def I2 (lf:Nat):Cfg:=B8 lf [49] (A3 [(38,[4,170]),(29,[0,3,2,0,0,4,0,0]),(25,[0,3,2,0,0,4,0]),(12,[0,3,2,0,0,2]),(5,[0,3,2,0,0])]) [(46,Nx),(71,Yt)] (A3 [(35,[4]),(42,[4]),(41,[4]),(40,[5,169,5]),(39,[5,0,168]),(38,[175,0,0]),(37,[175]),(44,[4]),(33,[4]),(22,[4]),(21,[8,0,3,94]),(20,[8,0,3]),(26,[0,6,0,0,4,0]),(32,[4]),(30,[0,6,0,0,4,0,0]),(31,[0,6,0,0,4,0,0,139]),(29,[0,6,0,0,4,0,0,126]),(28,[0,6,0,0,4,0,0]),(27,[0,6,0,0,4,0,123]),(25,[0,6,0,0,4,0,108]),(24,[0,6,0,0,4,0]),(23,[0,6,0,0,4]),(19,[4]),(18,[0,6,0,0,88]),(17,[0,6,0,0,0]),(16,[0,6,0,0,0]),(15,[4]),(13,[0,6,0,0,2]),(14,[0,6,0,0,2,51]),(12,[0,6,0,0,2,38]),(11,[0,6,0,0,2]),(10,[0,6,0,0]),(9,[4]),(8,[0,6,0,0,1,31]),(7,[0,6,0,0,1]),(6,[0,6,0,0,23]),(5,[0,6,0,0,16]),(4,[0,6,0,0]),(3,[0,6,0,0]),(2,[0,6,0]),(1,[0,6]),(43,[0,0,181]),(36,[0,0,169]),(34,[0,0,158]),(0,[0,0])]) [46,71] (A3 [(0,[4]),(9,[]),(10,[175]),(5,[]),(6,[0,6,0,0,4,0]),(7,[8,0]),(8,[0,6,0,0,4,0,0]),(1,[]),(2,[0,6,0,0]),(3,[8,0]),(4,[0,6,0,0,2])]) (some [4]) [] [] []
noncomputable def Ae {R:Type} (lf n:Nat) (self:Nat->Option R) (m0:Nat) (k0:Int->Nat->Option R) (k1:Nat->Option R):Option R:=cond (decide (m0<3)) (vl ((Utf8.decode ⟨List.toArray (([47,63,35]:List UInt8))⟩ m0)).1 λn'5=>cond (n'5==(65533:Int)) (k0 (↑m0:Int) (m0+((Utf8.decode ⟨List.toArray (([47,63,35]:List UInt8))⟩ m0)).2)) (self (m0+((Utf8.decode ⟨List.toArray (([47,63,35]:List UInt8))⟩ m0)).2))) (k1 m0)
noncomputable def T0 {R:Type} (lf n:Nat) (m0:Nat) (k0:Int->Nat->Option R) (k1:Nat->Option R):Option R:=Bh4 (α:=Nat->Option R) (λ_=>none) (λn self m0=>Ae lf n self m0 k0 k1) n m0
theorem Ba {R:Type} (lf n:Nat) (m0:Nat) (k0:Int->Nat->Option R) (k1:Nat->Option R):T0 lf (n+1) m0 k0 k1=Ae lf n (λm0=>T0 lf n m0 k0 k1) m0 k0 k1:=rfl
theorem MO (n:Nat) (m0:Nat):F0 1 ((I2 lf).keep 38) (bd (I2 lf) cl yh (cd [1,0,1,1,1,0,0,1,0,0] U0)) n ⟨gp [(175,.it 0)] 11,[.iter (([47,63,35]:List UInt8)) m0],s⟩ k =
 T0 lf n m0 (λn0 m1=>k .ret ⟨gp [(4,.s (.int .i64 n0))] 182,[.iter (([47,63,35]:List UInt8)) m1],s⟩) (λm0=>k (.exit 9) ⟨gp [] 187,[.iter (([47,63,35]:List UInt8)) m0],s⟩):=by
 induction n generalizing m0 with
 | zero=>rfl
 | succ n ih=>rw [Ba];unfold Ae;exact (Eq.trans (by kernel_rfl) (A0 (A5 λn'5=>(A0 rfl (ih (m0+((Utf8.decode ⟨List.toArray (([47,63,35]:List UInt8))⟩ m0)).2)))) rfl))
noncomputable def Nn {R:Type} (lf n:Nat) (self:By->Int->Int->Int->Option R) (rs0:By) (last1 i2 j3:Int) (k0:Int->Int->Option R):Option R:=cond (ltI j3 (↑(List.length rs0):Int)) (cond (inR (A4 (i2-j3)) 3) (vl (bAt (([47,63,35]:List UInt8)) (A4 (i2-j3))) λn'21=>cond (inR (A4 (last1-j3)) (List.length rs0)) (vl (bAt rs0 (A4 (last1-j3))) λn'22=>cond (n'21 != n'22) (none) (self rs0 last1 i2 (A4 (j3+(1:Int))))) (none)) (none)) (k0 last1 i2)
noncomputable def Gk {R:Type} (lf n:Nat) (rs0:By) (last1 i2 j3:Int) (k0:Int->Int->Option R):Option R:=Bh4 (α:=By->Int->Int->Int->Option R) (λ_ _ _ _=>none) (λn self rs0 last1 i2 j3=>Nn lf n self rs0 last1 i2 j3 k0) n rs0 last1 i2 j3
theorem SX {R:Type} (lf n:Nat) (rs0:By) (last1 i2 j3:Int) (k0:Int->Int->Option R):Gk lf (n+1) rs0 last1 i2 j3 k0=Nn lf n (λrs0 last1 i2 j3=>Gk lf n rs0 last1 i2 j3 k0) rs0 last1 i2 j3 k0:=rfl
theorem Qh (n:Nat) (rs0:By) (last1 i2 j3:Int):F0 0 ((I2 lf).keep 12) (bd (I2 lf) cl yh (cd [1,0,1,1,1,1,1,1,0,1,1,1,1,0,0,0,1,0,0,1,0,1,0,0] U0)) n ⟨gp [(0,.s (.str (([47,63,35]:List UInt8)))),(6,.s (.str rs0)),(0,.s (.int .i64 last1)),(0,.s (.int .i64 i2)),(2,.s (.int .i64 j3))] 174,[],s⟩ k =
 Gk lf n rs0 last1 i2 j3 (λlast0 i1=>k (.exit 3) ⟨gp [(8,.s (.int .i64 last0)),(0,.s (.int .i64 i1))] 177,[],s⟩):=by
 induction n generalizing rs0 last1 i2 j3 with
 | zero=>rfl
 | succ n ih=>rw [SX];unfold Nn;exact (Eq.trans (by kernel_rfl) (A0 (A0 (A5 λn'21=>(A0 (A5 λn'22=>(A0 rfl (ih rs0 last1 i2 (A4 (j3+(1:Int)))))) rfl)) rfl) rfl))
noncomputable def Hn {R:Type} (lf n:Nat) (self:By->Int->Option R) (rs0:By) (last1:Int) (k0:Int->Option R) (k1:Unit->Option R):Option R:=cond (ltI last1 (3:Int)) (cond (inR last1 3) (vl (bAt (([47,63,35]:List UInt8)) last1) λn'16=>cond (inR last1 (List.length rs0)) (cond (n'16 != (bAt rs0 last1)) (vl (A4 (last1+(1:Int))) λn'17=>cond (L3 n'17 (3:Int) 3) (vl (cut (([47,63,35]:List UInt8)) n'17 (3:Int)) λs'18=>cond (inR last1 (List.length rs0)) (cond (A2 (List.length s'18)) (cond (inR (bAt rs0 last1) 256) (vl (Lib.indexByte s'18 (u8n (bAt rs0 last1))) λn'19=>cond (ltI n'19 (0:Int)) (k0 (-1)) (vl (A4 (n'19+(1:Int))) λn'20=>Gk lf lf rs0 last1 (A4 (last1+n'20)) 1 (λlast'23 i'24=>k0 (A4 (i'24-last'23))))) (none)) (none)) (none)) (none)) (Gk lf lf rs0 last1 last1 1 (λlast'25 i'26=>k0 (A4 (i'26-last'25))))) (none)) (none)) (k1 ())
noncomputable def Co {R:Type} (lf n:Nat) (rs0:By) (last1:Int) (k0:Int->Option R) (k1:Unit->Option R):Option R:=Bh4 (α:=By->Int->Option R) (λ_ _=>none) (λn self rs0 last1=>Hn lf n self rs0 last1 k0 k1) n rs0 last1
theorem Vo {R:Type} (lf n:Nat) (rs0:By) (last1:Int) (k0:Int->Option R) (k1:Unit->Option R):Co lf (n+1) rs0 last1 k0 k1=Hn lf n (λrs0 last1=>Co lf n rs0 last1 k0 k1) rs0 last1 k0 k1:=rfl
theorem MP (n:Nat) (rs0:By) (last1:Int):F0 0 ((I2 lf).keep 5) (bd (I2 lf) cl yh (cd [1,0,1,1,1,1,1,1,0,1,1,1,1,0,0,0] U0)) n ⟨gp [(0,.s (.str (([47,63,35]:List UInt8)))),(6,.s (.str rs0)),(0,.s (.int .i64 last1)),(0,.s (.int .i64 last1))] 177,[],s⟩ k =
 Co lf n rs0 last1 (λn0=>k .ret ⟨gp [(4,.s (.int .i64 n0))] 182,[],s⟩) (λ_=>k (.exit 1) ⟨gp [] 187,[],s⟩):=by
 induction n generalizing rs0 last1 with
 | zero=>rfl
 | succ n ih=>rw [Vo];unfold Hn;exact let K0:=(H7 3 (I5 (I2 lf) cl yh (cd [1,0,1,1,1,1,1,1,0,1,1,1,1,0,0,0,1,0,0,1,1] U0) (H7 2 (lpK 0 ((I2 lf).keep 5) (bd (I2 lf) cl yh (cd [1,0,1,1,1,1,1,1,0,1,1,1,1,0,0,0] U0)) n k))));(Eq.trans (by kernel_rfl) (A0 (A0 (A5 λn'16=>(A0 (A0 (A5 λn'17=>(A0 (A5 λs'18=>(A0 (A0 (A0 (A5 λn'19=>(A0 rfl (A5 λn'20=>((Qh lf cl yh s K0 lf rs0 last1 (A4 (last1+n'20)) 1).trans (by kernel_rfl))))) rfl) rfl) rfl)) rfl)) ((Qh lf cl yh s K0 lf rs0 last1 last1 1).trans (by kernel_rfl))) rfl)) rfl) rfl))
noncomputable def Gj {R:Type} (lf:Nat) (r0:Int) (b1:Bool) (k0:Int->Option R) (k1:Int->Nat->Option R):Option R:=cond b1 (cond (inR (wu8 r0) 256) (vl (Lib.indexByte (([47,63,35]:List UInt8)) (u8n (wu8 r0))) λn'0=>k0 n'0) (none)) (cond (r0==(65533:Int)) (T0 lf lf 0 (λn'6 m'7=>k1 n'6 m'7) (λm'8=>k1 (-1) m'8)) (cond (not (CP r0)) (k0 (-1)) (vl (Utf8.encode r0).data.toList λs'2=>vl (A4 ((↑(List.length s'2):Int)-(1:Int))) λn'4=>Co lf lf s'2 n'4 (λn'27=>k0 n'27) (λ_=>k0 (-1)))))
abbrev Vn (b:Code):Prop:=∀ (k:Out->St σ->Option R) (r0:Int) (b1:Bool),A9 (I2 lf) cl yh b ⟨gp [(0,.s (.str (([47,63,35]:List UInt8)))),(0,.s (.int .i32 r0)),(158,.s (.bool b1))] 26,[],s⟩ k=Gj lf r0 b1 (λn0=>k .ret ⟨gp [(4,.s (.int .i64 n0))] 182,[],s⟩) (λn0 m1=>k .ret ⟨gp [(4,.s (.int .i64 n0))] 182,[.iter (([47,63,35]:List UInt8)) m1],s⟩)
theorem MN:Vn (R:=R) lf cl yh s (cd [1,0,1] U0):=by
 intro k r0 b1;unfold Gj;exact (Eq.trans (by kernel_rfl) (A0 (A0 (A5 λn'0=>rfl) rfl) (A0 ((MO lf cl yh s (H7 9 (I5 (I2 lf) cl yh (cd [1,0,1,1,1,0,1] U0) k)) lf 0).trans (by kernel_rfl)) (A0 rfl (A5 λs'2=>(A5 λn'4=>((MP lf cl yh s (H7 1 (I5 (I2 lf) cl yh (cd [1,0,1,1,1,1,1,1,0,1,1,1,1,1] U0) k)) lf s'2 n'4).trans (by kernel_rfl))))))))
noncomputable def CB {R:Type} (lf:Nat) (r:Int) (k0:Int->Option R) (k1:Int->Nat->Option R):Option R:=cond (not (ltI r (0:Int))) (Gj lf r (ltI r (128:Int)) (λn'28=>k0 n'28) (λn'29 m'30=>k1 n'29 m'30)) (Gj lf r false (λn'31=>k0 n'31) (λn'32 m'33=>k1 n'32 m'33))
theorem A07 (b_101:Code) (h_sirune_j0:Vn (R:=PV × List Blk × σ) lf cl yh s b_101) (r:Int):A9 (I2 lf) cl yh (cd [] (N4 [1,0,1] b_101 U0)) ⟨[.s (.str (([47,63,35]:List UInt8))),.s (.int .i32 r)]++tps 185,[],s⟩ (G5 (I2 lf) Tryz.f49)=CB lf r (λr0=>some (.s (.int .i64 r0),[],s)) (λr0 m1=>some (.s (.int .i64 r0),[.iter (([47,63,35]:List UInt8)) m1],s)):=by
 unfold CB;exact let K0:=(H7 0 (G5 (I2 lf) Tryz.f49));(Eq.trans (by kernel_rfl) (A0 ((h_sirune_j0 K0 r (ltI r (128:Int))).trans (by kernel_rfl)) ((h_sirune_j0 K0 r false).trans (by kernel_rfl))))
theorem A08 (d:Nat) (r:Int):evC (I2 lf) (d+1) σ yh 49 [.s (.str (([47,63,35]:List UInt8))),.s (.int .i32 r)] [] s=CB lf r (λr0=>some (.s (.int .i64 r0),[],s)) (λr0 m1=>some (.s (.int .i64 r0),[.iter (([47,63,35]:List UInt8)) m1],s)):=
 (evE (fn:=Tryz.f49) (by kernel_rfl)).trans (Eq.trans (by kernel_rfl) (A07 lf (evC (I2 lf) d) yh s (cd [1,0,1] U0) (MN lf (evC (I2 lf) d) yh s) r))
noncomputable abbrev OU:Code:=D0 Tryz.f30
noncomputable def Cy (lf:Nat):Cfg:=B8 lf [30] (A3 [(18,[1,2,40]),(12,[0,3,1,1])]) [(49,Yj),(50,Rn),(51,Ir)] (A3 [(22,[4]),(21,[4]),(20,[1,7,35,7]),(19,[1,7,0,34]),(18,[1,43,0,0]),(17,[1,43]),(16,[4]),(13,[0,5,1]),(15,[4]),(14,[0,5,1,33]),(12,[0,5,1,27]),(11,[0,5,1]),(10,[0,0,4,25]),(9,[0,0,4,0]),(8,[0,0,24]),(7,[4]),(6,[0,4]),(5,[0,4,14]),(4,[0,4]),(3,[0,0,13]),(2,[4]),(1,[0,0,10]),(0,[0,0])]) [49,50] (A3 [(2,[]),(3,[1,43]),(0,[]),(1,[0,5,1])]) (some [4]) [] [] []
noncomputable def R4 {R:Type} (lf n:Nat) (self:By->Nat->Option R) (s0:By) (m1:Nat) (k0:Int->(List Blk)->Option R) (k1:By->Nat->Option R):Option R:=cond (decide (m1<(List.length s0))) (vl ((Utf8.decode ⟨List.toArray s0⟩ m1)).1 λn'1=>cond (Td (([47,63,35]:List UInt8))) (cond (ltN n'1 1114112) (cond (not (ltI (irn n'1) (0:Int))) (k0 (↑m1:Int) [(Blk.iter s0 (m1+((Utf8.decode ⟨List.toArray s0⟩ m1)).2))]) (self s0 (m1+((Utf8.decode ⟨List.toArray s0⟩ m1)).2))) (none)) (none)) (k1 s0 m1)
noncomputable def Gi {R:Type} (lf n:Nat) (s0:By) (m1:Nat) (k0:Int->(List Blk)->Option R) (k1:By->Nat->Option R):Option R:=Bh4 (α:=By->Nat->Option R) (λ_ _=>none) (λn self s0 m1=>R4 lf n self s0 m1 k0 k1) n s0 m1
theorem W5 {R:Type} (lf n:Nat) (s0:By) (m1:Nat) (k0:Int->(List Blk)->Option R) (k1:By->Nat->Option R):Gi lf (n+1) s0 m1 k0 k1=R4 lf n (λs0 m1=>Gi lf n s0 m1 k0 k1) s0 m1 k0 k1:=rfl
theorem MM (n:Nat) (s0:By) (m1:Nat):F0 1 ((Cy lf).keep 18) (bd (Cy lf) cl yh (cd [1,1,1,1,0,1,0,0] OU)) n ⟨gp [(1,.s (.str (([47,63,35]:List UInt8)))),(43,.it 0)] 9,[.iter s0 m1],s⟩ k =
 Gi lf n s0 m1 (λn0 H1=>k .ret ⟨gp [(4,.s (.int .i64 n0))] 50,H1,s⟩) (λs0 m1=>k (.exit 2) ⟨gp [] 55,[.iter s0 m1],s⟩):=by
 induction n generalizing s0 m1 with
 | zero=>rfl
 | succ n ih=>rw [W5];unfold R4;exact (Eq.trans (by kernel_rfl) (A0 (A5 λn'1=>(A0 (A0 (A0 rfl (ih s0 (m1+((Utf8.decode ⟨List.toArray s0⟩ m1)).2))) rfl) rfl)) rfl))
noncomputable def ML {R:Type} (lf:Nat) (t:By) (k0:Int->(List Blk)->Option R):Option R:=cond (ltI (8:Int) (↑(List.length t):Int)) (none) (Gi lf lf t 0 (λn'2 H'3=>k0 n'2 H'3) (λs'4 m'5=>k0 (-1) [(Blk.iter s'4 m'5)]))
theorem A05 (d:Nat) (t:By):evC (Cy lf) (d+1) σ yh 30 [.s (.str t),.s (.str (([47,63,35]:List UInt8)))] [] s=ML lf t (λr0 H1=>some (.s (.int .i64 r0),H1,s)):=by
 refine (evE (fn:=Tryz.f30) (by kernel_rfl)).trans ?_
 generalize evC (Cy lf) d=cl
 unfold ML;exact (Eq.trans (by kernel_rfl) (A0 rfl ((MM lf cl yh s (H7 2 (I5 (Cy lf) cl yh (cd [1,1,1,1,1] OU) (G5 (Cy lf) Tryz.f30))) lf t 0).trans (by kernel_rfl))))
end
end
section
open Go
theorem Sn {c:UInt8} {s:By} (h:c∉s):Lib.cut s [c]=(s,[],false):=by
 unfold Lib.cut
 rw [Hd h,if_neg (by decide)]
theorem Dc {c:UInt8} {p r:By} (h:c∉p):Lib.cut (p++c::r) [c]=(p,r,true):=by
 unfold Lib.cut
 rw [Ld h,Bj,Int.toNat_natCast,List.take_left,List.length_singleton]
 rw [show p++c::r=(p++[c])++r by simp,List.drop_left' (by simp)]
def Pp:Int->By->Option Int
 | n,[]=>some n
 | n,b::r=>if 48<=b.toNat/\b.toNat<=57 then Pp (min (10*max n 0+((b.toNat-48:Nat):Int)) 65536) r else none
theorem LN:∀ (s:By) (n:Int),Pq n s=(Pp n s).bind λm=>if m<65536 then some m else none
 | [],n=>rfl
 | b::r,n=>by
  rw [Pq,Pp]
  split
  ·exact LN r _
  ·rfl
theorem BD:∀ (s:By) (n p:Int),-1<=n->Pq n s=some p->-1<=p/\p<65536
 | [],n,p,hn,h=>by
  rw [Pq] at h
  split at h
  ·rename_i h2
   obtain rfl:=Option.some.inj h
   exact ⟨hn,h2⟩
  ·cases h
 | b::r,n,p,hn,h=>by
  rw [Pq] at h
  split at h
  ·exact BD r _ p (by omega) h
  ·cases h
def Jv (s:By):Prop:=∀ b∈s,ctl b=false
def Cm1 (s:By):Prop:=∀ b∈s,R5 b=false
structure CU (u:Q7):Prop where
 ns:I8 u.sch=false->Ao u.sch=true/\C0 u.sch=u.sch/\u.user=[]/\u.host=K7/\u.port = -1/\Jv u.rest
 sp:I8 u.sch=true->Jv u.user/\Cm1 u.user/\Ik u.host/\L1 u.host=true/\(u.port = -1\/(0<=u.port/\u.port<=65535/\u.port≠Z0 u.sch))/\(∃ r,u.rest=47::r)/\Jv u.rest
theorem Bq1 {s:By}:s.any ctl=false↔Jv s:=by
 unfold Jv
 rw [List.any_eq_false]
 exact ⟨λh b hb=>by simpa using h b hb,λh b hb=>by simp [h b hb]⟩
theorem Jk {nm user rest a:By} (h:(L8 nm user rest a).2=0):∃ hh port,(L8 nm user rest a).1=⟨nm,user,hh,port,rest⟩/\Ik hh/\L1 hh=true/\(port = -1\/(0<=port/\port<=65535/\port≠Z0 nm)):=by
 unfold L8 at h ⊢
 cases hn:Jt a with
 | none=>rw [hn] at h;simp at h
 | some q=>
  obtain ⟨name,tail⟩:=q
  rw [hn] at h
  simp only at h ⊢
  by_cases c1:tail≠[]/\tail.head?≠some 58
  ·rw [if_pos c1] at h;simp at h
  ·rw [if_neg c1] at h ⊢
   by_cases c2:(F9 name).2≠0
   ·rw [if_pos c2] at h;exact absurd h c2
   ·rw [if_neg c2] at h ⊢
    cases hp:Pq (-1) (tail.drop 1) with
    | none=>rw [hp] at h;simp at h
    | some p=>
     have hr:=BD _ _ _ (by omega) hp
     obtain ⟨o1,o2⟩:=Ay3 name
     refine ⟨_,_,rfl,o1,o2 (by simpa using c2),?_⟩
     split
     ·exact .inl rfl
     ·rename_i hd
      by_cases h1:p = -1
      ·exact .inl h1
      ·exact .inr ⟨by omega,by omega,hd⟩
theorem Ha {nm user rest a:By} (h:(L8 nm user rest a).2≠0):(L8 nm user rest a).1=X9:=by
 unfold L8 at h ⊢
 split
 ·rfl
 ·rename_i name tail hn
  rw [hn] at h
  simp only at h ⊢
  split
  ·rfl
  ·rename_i c1
   rw [if_neg c1] at h
   split
   ·rfl
   ·rename_i c2
    rw [if_neg c2] at h
    split
    ·rfl
    ·rename_i p hp
     rw [hp] at h
     exact absurd rfl h
theorem ZC (s:By):C0 (C0 s)=C0 s:=by
 unfold C0
 rw [List.map_map]
 apply List.map_congr_left
 intro b _
 show X1 (X1 b)=X1 b
 rcases P2 b with ⟨_,e⟩ | ⟨_,e⟩ | ⟨h1,h2,e⟩
 ·rw [e,e]
 ·rw [e,e]
 ·rcases P2 (X1 b) with ⟨_,e2⟩ | ⟨_,e2⟩ | ⟨h3,h4,_⟩
  ·exact e2
  ·exact e2
  ·omega
theorem YY (b:UInt8):Q0 (X1 b)=Q0 b:=by
 rw [Bool.eq_iff_iff,V2,V2]
 rcases P2 b with ⟨_,e⟩ | ⟨_,e⟩ | ⟨h1,h2,e⟩
 ·rw [e]
 ·rw [e]
 ·omega
theorem LE {b c:UInt8} (hc:c.toNat<65):X1 b=c↔b=c:=by
 rcases P2 b with ⟨_,e⟩ | ⟨_,e⟩ | ⟨h1,h2,e⟩
 ·rw [e]
 ·rw [e]
 ·constructor
  ·intro h;rw [h] at e;omega
  ·intro h;subst h;omega
theorem SO (b:UInt8):U8 (X1 b)=U8 b:=by
 rw [Bool.eq_iff_iff,Vm,Vm,LE (by decide),LE (by decide),LE (by decide)]
 rcases P2 b with ⟨_,e⟩ | ⟨_,e⟩ | ⟨h1,h2,e⟩
 ·rw [e]
 ·rw [e]
 ·constructor
  ·rintro (h | h | h | h)<;>first | omega | exact .inr (.inr (.inr h))
  ·rintro (h | h | h | h)<;>first | omega | exact .inr (.inr (.inr h))
theorem SQ (s:By):Ao (C0 s)=Ao s:=by
 cases s with
 | nil=>rfl
 | cons b r=>
  show (Q0 (X1 b)&&(r.map X1).all U8)=(Q0 b&&r.all U8)
  rw [YY,List.all_map]
  congr 1
  apply List.all_congr rfl
  intro b
  exact SO b
theorem MQ (r:By):∃ t,Q5 r=47::t:=by
 unfold Q5
 split
 ·rename_i h
  cases r with
  | nil=>cases h
  | cons b t=>
   obtain rfl:=Option.some.inj h
   exact ⟨t,rfl⟩
 ·exact ⟨r,rfl⟩
theorem SY {r:By} (h:Jv r):Jv (Q5 r):=by
 unfold Q5
 split
 ·exact h
 ·intro b hb
  rcases List.mem_cons.1 hb with rfl | hb
  ·decide
  ·exact h b hb
theorem Az2 {nm rest auth:By} (hs:I8 nm=true) (ha:Jv auth) (hsl:Cm1 auth) (hr:Jv rest) (hr2:∃ r,rest=47::r) (h:(E4 nm rest auth).2=0):CU (E4 nm rest auth).1:=by
 unfold E4 at h ⊢
 by_cases hl:0<=H9 64 auth
 ·rw [if_pos hl] at h ⊢
  obtain ⟨hh,port,e,o1,o2,o3⟩:=Jk h
  rw [e]
  exact ⟨λh=>(by rw [hs] at h;cases h),λ_=>⟨λb hb=>ha b (List.mem_of_mem_take hb),λb hb=>hsl b (List.mem_of_mem_take hb),o1,o2,o3,hr2,hr⟩⟩
 ·rw [if_neg hl] at h ⊢
  obtain ⟨hh,port,e,o1,o2,o3⟩:=Jk h
  rw [e]
  exact ⟨λh=>(by rw [hs] at h;cases h),λ_=>⟨λb hb=>(by cases hb),λb hb=>(by cases hb),o1,o2,o3,hr2,hr⟩⟩
theorem SE {s:By} (h:(D5 s).2=0):CU (D5 s).1:=by
 unfold D5 at h ⊢
 cases hc:s.any ctl with
 | true=>rw [hc] at h;simp at h
 | false=>
  rw [hc] at h
  have hn:=Bq1.1 hc
  simp only [Bool.false_eq_true,if_false] at h ⊢
  rcases R6 58 s with h58 | ⟨p,r,rfl,h58⟩
  ·rw [Sn h58] at h
   simp at h
  ·rw [Dc h58] at h ⊢
   have hp:Jv p:=λb hb=>hn b (by simp [hb])
   have hr:Jv r:=λb hb=>hn b (by simp [hb])
   cases hsch:Ao p with
   | false=>rw [hsch] at h;simp at h
   | true=>
    rw [hsch] at h
    simp only [Bool.not_true,Bool.or_self,Bool.false_eq_true,if_false] at h ⊢
    cases hsp:I8 (C0 p) with
    | false=>
     simp only [Bool.not_false,if_true]
     exact ⟨λ_=>⟨by rw [SQ];exact hsch,ZC p,rfl,rfl,rfl,hr⟩,λh=>(by simp only at h;rw [hsp] at h;cases h)⟩
    | true=>
     rw [hsp] at h
     simp only [Bool.not_true,Bool.false_eq_true,if_false] at h ⊢
     cases h2:([47,47]:By).isPrefixOf r with
     | false=>rw [h2] at h;simp at h
     | true=>
      rw [h2] at h
      simp only [Bool.not_true,Bool.false_eq_true,if_false] at h ⊢
      exact Az2 hsp (λb hb=>hr b (List.mem_of_mem_drop (List.mem_of_mem_take hb))) (Ad2 _) (SY λb hb=>hr b (List.mem_of_mem_drop (List.mem_of_mem_drop hb))) (MQ _) h
theorem Ab0 {nm rest auth:By} (h:(E4 nm rest auth).2≠0):(E4 nm rest auth).1=X9:=by
 unfold E4 at h ⊢
 split
 ·rename_i c;rw [if_pos c] at h;exact Ha h
 ·rename_i c;rw [if_neg c] at h;exact Ha h
theorem FO {s:By} (h:(D5 s).2≠0):(D5 s).1=X9:=by
 unfold D5 at h ⊢
 split
 ·rfl
 ·rename_i c1
  rw [if_neg c1] at h
  split
  ·rfl
  ·rename_i c2
   rw [if_neg c2] at h
   split
   ·rename_i c3
    rw [if_pos c3] at h
    exact absurd rfl h
   ·rename_i c3
    rw [if_neg c3] at h
    split
    ·rfl
    ·rename_i c4
     rw [if_neg c4] at h
     exact Ab0 h
theorem Pc (nm user rest a:By):(L8 nm user rest a).1.sch.length<=nm.length/\(L8 nm user rest a).1.user.length<=user.length/\(L8 nm user rest a).1.rest.length<=rest.length:=by
 by_cases h:(L8 nm user rest a).2=0
 ·obtain ⟨hh,port,e,_⟩:=Jk h
  rw [e]
  exact ⟨Nat.le_refl _,Nat.le_refl _,Nat.le_refl _⟩
 ·rw [Ha h]
  exact ⟨Nat.zero_le _,Nat.zero_le _,Nat.zero_le _⟩
theorem Ab1 (nm rest auth:By):(E4 nm rest auth).1.sch.length<=nm.length/\(E4 nm rest auth).1.user.length<=auth.length/\(E4 nm rest auth).1.rest.length<=rest.length:=by
 unfold E4
 split
 ·obtain ⟨h1,h2,h3⟩:=Pc nm (auth.take (H9 64 auth).toNat) rest (auth.drop ((H9 64 auth).toNat+1))
  rw [List.length_take] at h2
  exact ⟨h1,by omega,h3⟩
 ·obtain ⟨h1,h2,h3⟩:=Pc nm [] rest auth
  simp only [List.length_nil] at h2
  exact ⟨h1,by omega,h3⟩
theorem SZ (r:By):(Q5 r).length<=r.length+1:=by
 unfold Q5
 split
 ·omega
 ·simp
theorem Ay6 (s:By):(D5 s).1.sch.length<=s.length/\(D5 s).1.user.length<=s.length/\(D5 s).1.rest.length<=s.length+1:=by
 have z:X9.sch.length<=s.length/\X9.user.length<=s.length/\X9.rest.length<=s.length+1:=⟨Nat.zero_le _,Nat.zero_le _,Nat.zero_le _⟩
 unfold D5
 split
 ·exact z
 ·rcases R6 58 s with h58 | ⟨p,r,rfl,h58⟩
  ·rw [Sn h58]
   exact z
  ·rw [Dc h58]
   have hlen:(p++58::r).length=p.length+r.length+1:=by rw [List.length_append,List.length_cons];omega
   simp only
   split
   ·exact z
   ·split
    ·simp only [Aa,List.length_nil]
     omega
    ·split
     ·exact z
     ·obtain ⟨h1,h2,h3⟩:=Ab1 (C0 p) (Q5 ((r.drop 2).drop (I6 (r.drop 2)))) ((r.drop 2).take (I6 (r.drop 2)))
      have h4:=SZ ((r.drop 2).drop (I6 (r.drop 2)))
      simp only [List.length_take,List.length_drop,Aa] at h1 h2 h3 h4
      omega
structure NV (u:Q7):Prop where
 host:Ik u.host
 port:-1<=u.port/\u.port<65536
theorem Ti:Ik K7:=⟨by decide,Aq1,by decide⟩
theorem CU.ok {u:Q7} (h:CU u):NV u:=by
 cases hs:I8 u.sch with
 | false=>
  obtain ⟨_,_,_,a4,a5,_⟩:=h.ns hs
  exact ⟨by rw [a4];exact Ti,by omega⟩
 | true=>
  obtain ⟨_,_,a3,_,a5,_⟩:=h.sp hs
  exact ⟨a3,by omega⟩
theorem SG (s:By):NV (D5 s).1:=by
 by_cases h:(D5 s).2=0
 ·exact (SE h).ok
 ·rw [FO h]
  exact ⟨Ti,by decide,by decide⟩
theorem Bf0 {sc us nm re:By} {kd v4:Nat} {a b c d e f g i:Nat} {po:Int} (hk:kd<4):mkU sc us (kd:Int) nm (v4:Int) (n8 a b c d e f g i) po re=⟨sc,us,⟨kd,nm,v4,[a,b,c,d,e,f,g,i]⟩,po,re⟩:=by
 unfold mkU Be9 n8
 rw [if_pos (D2.2 ⟨by omega,by omega⟩)]
 simp only [Int.toNat_natCast]
theorem Ay5 (s:By):NV (E3 s).1:=by
 unfold E3
 split
 ·exact ⟨Ti,by decide,by decide⟩
 ·exact SG s
theorem ZX {s:By} (h:(E3 s).2≠0):(E3 s).1=X9:=by
 unfold E3 at h ⊢
 split
 ·rfl
 ·rename_i c
  rw [if_neg c] at h
  exact FO h
theorem Ay4 {s:By} (h:(E3 s).2=0):CU (E3 s).1:=by
 unfold E3 at h ⊢
 split
 ·rename_i c
  rw [if_pos c] at h
  cases h
 ·rename_i c
  rw [if_neg c] at h
  exact SE h
theorem BL (s:By):(E3 s).1.sch.length<=s.length/\(E3 s).1.user.length<=s.length/\(E3 s).1.rest.length<=s.length+1:=by
 unfold E3
 split
 ·exact ⟨Nat.zero_le _,Nat.zero_le _,Nat.zero_le _⟩
 ·exact Ay6 s
theorem Uu {s:By} (h:P6 s=true):s=Lv\/s=bWs:=by
 simpa [P6] using h
theorem Ao8 {s:By} (h:P6 s=false) (po:Int):upS s=s/\upP s po=po:=by
 have e:(s==Lv)=false/\(s==bWs)=false:=by simpa [P6] using h
 unfold upS upP
 rw [e.1,e.2,h]
 simp
theorem Fg (c:UInt8):∀ s:By,Lib.indexByte s c=match Nc c s with | some k=>(k:Int) | none=>-1
 | []=>rfl
 | b::r=>by
  have ih:=Fg c r
  unfold Lib.indexByte Nc
  by_cases h:b=c
  ·rw [if_pos h,if_pos (by simpa using h)];rfl
  ·rw [if_neg h,if_neg (by simpa using h),ih]
   cases Nc c r with
   | none=>rfl
   | some k=>
    have e:((k:Int) == -1)=false:=by rw [beq_eq_false_iff_ne];omega
    simp only [Option.map_some,e,Bool.false_eq_true,if_false]
    rfl
theorem A10 (b:UInt8):isl.contains b=R5 b:=by
 rw [Bool.eq_iff_iff]
 simp [isl,R5,or_assoc]
theorem Dw (b:UInt8) (r:By):I6 (b::r)=if R5 b then 0 else I6 r+1:=by
 unfold I6
 rw [List.takeWhile_cons]
 cases h:R5 b<;>simp
theorem CD:∀ s:By,I6 s<=s.length
 | []=>Nat.le_refl _
 | b::r=>by
  have:=CD r
  rw [Dw,List.length_cons]
  split<;>omega
theorem Ff:∀ s:By,Lib.indexAny s isl=if I6 s<s.length then (I6 s:Int) else -1
 | []=>rfl
 | b::r=>by
  have ih:=Ff r
  have hl:=CD r
  rw [Lib.indexAny,A10,Dw,List.length_cons,ih]
  cases R5 b with
  | true=>simp
  | false=>
   simp only [Bool.false_eq_true,if_false]
   by_cases h:I6 r<r.length
   ·have e:((I6 r:Int) == -1)=false:=by rw [beq_eq_false_iff_ne];omega
    have h':I6 r+1<r.length+1:=by omega
    simp only [if_pos h,if_pos h',e,Bool.false_eq_true,if_false]
    rfl
   ·have h':¬ I6 r+1<r.length+1:=by omega
    simp only [if_neg h,if_neg h']
    rfl
theorem Cb1 (b:UInt8) (t:By) (hb:128<=b.toNat):128<=(Lib.decodeL (b::t)).1/\(Lib.decodeL (b::t)).1<1114112/\1<=(Lib.decodeL (b::t)).2/\(Lib.decodeL (b::t)).2<=t.length+1/\∀ i,i<(Lib.decodeL (b::t)).2->128<=((b::t).getD i 0).toNat:=by
 have hle:=Lib.decodeL_le (b::t) (by simp)
 have hw:=Lib.decodeL_width (b::t)
 have hr:=Lib.decodeL_rune (b::t)
 rw [List.length_cons] at hle
 refine ⟨?_,by omega,hw,hle,?_⟩
 all_goals
  clear hle hw hr
  rw [Lib.decodeL_N]
  rcases Lib.decodeN_shape (b::t).length ((b::t).getD 0 0).toNat ((b::t).getD 1 0).toNat ((b::t).getD 2 0).toNat ((b::t).getD 3 0).toNat with ⟨c,e⟩ | ⟨c1,c2,c3,cv,e⟩ | ⟨c1,c2,c3,c4,cv,cs,e⟩ | ⟨c1,c2,c3,c4,c5,cv,cw,e⟩ | e
  all_goals rw [e]
 ·exact absurd hb (by simp at c;omega)
 ·exact cv
 ·simp only;omega
 ·simp only;omega
 ·simp only;omega
 ·exact absurd hb (by simp at c;omega)
 ·intro i hi
  have:i=0\/i=1:=by simp only at hi;omega
  rcases this with rfl | rfl<;>omega
 ·intro i hi
  have:i=0\/i=1\/i=2:=by simp only at hi;omega
  rcases this with rfl | rfl | rfl<;>omega
 ·intro i hi
  have:i=0\/i=1\/i=2\/i=3:=by simp only at hi;omega
  rcases this with rfl | rfl | rfl | rfl<;>omega
 ·intro i hi
  have:i=0:=by simp only at hi;omega
  subst this
  exact hb
theorem Bi2 {b:UInt8} (h:128<=b.toNat):R5 b=false:=by
 unfold R5
 have n:∀ c:UInt8,c.toNat<128->(b==c)=false:=λc hc=>by
  rw [beq_eq_false_iff_ne]
  rintro rfl
  omega
 rw [n 47 (by decide),n 63 (by decide),n 35 (by decide)]
 rfl
theorem Bc8 {r:Int} (h:128<=r):irn r = -1:=by
 unfold irn
 rw [P5,P5,P5]
theorem Cc7 (b:UInt8):ltI (irn (b.toNat:Int)) 0 = !R5 b:=by
 have e:∀ c:UInt8,((b.toNat:Int)=(c.toNat:Int))=(b=c):=λc=>propext ⟨λh=>UInt8.toNat_inj.1 (by omega),λh=>by rw [h]⟩
 have e1:((b.toNat:Int)=47)=(b=47):=e 47
 have e2:((b.toNat:Int)=63)=(b=63):=e 63
 have e3:((b.toNat:Int)=35)=(b=35):=e 35
 unfold irn R5
 simp only [e1,e2,e3]
 by_cases h1:b=47
 ·subst h1;rfl
 ·by_cases h2:b=63
  ·subst h2;rfl
  ·by_cases h3:b=35
   ·subst h3;rfl
   ·have n:∀ c,b≠c->(b==c)=false:=λc h=>by rwa [beq_eq_false_iff_ne]
    rw [if_neg h1,if_neg h2,if_neg h3,n _ h1,n _ h2,n _ h3]
    rfl
end
section
open Go Go.Proofs
set_option maxRecDepth 100000
section
variable {σ R : Type} (lf : Nat) (cl : D3) (yh : Yh σ) (s : σ) (k : Out -> St σ -> Option R)
noncomputable def JU (lf:Nat):Cfg:=B8 lf [92] (A3 []) [] (A3 [(1,[6]),(0,[3,0,0])]) [] (A3 []) (some [6]) [] [] []
noncomputable def Be1 {R:Type} (lf:Nat) (s0 sep1:By) (sepSave2:Int) (k0:By->By->Int->Option R):Option R:=k0 s0 sep1 sepSave2
theorem Be2 (d:Nat) (s0 sep1 sepSave2):evC (JU lf) (d+1) σ yh 92 [pS s0,pS sep1,pI sepSave2] [] s=Be1 lf s0 sep1 sepSave2 (λs0 s1 n2=>some (.fnr (Fn.func 114) [] [.ptr 1 0 0,.ptr 0 0 0,.ptr 2 0 0],[.box [pS s0],.box [pS s1],.box [pI n2]],s)):=by
 refine (evE (fn:=Tryz.f92) (by kernel_rfl)).trans ?_
 generalize evC (JU lf) d=cl
 unfold Be1;kernel_rfl
noncomputable def WS (lf:Nat):Cfg:=B8 lf [63] (A3 []) [(92,HX)] (A3 [(1,[4]),(0,[0,0])]) [] (A3 []) (some [4]) [] [] []
noncomputable def Ce5 {R:Type} (lf:Nat) (s0 sep1:By) (k0:By->By->Option R):Option R:=k0 s0 sep1
theorem B22 (d:Nat) (s0 sep1):evC (WS lf) (d+1) σ yh 63 [pS s0,pS sep1] [] s=Ce5 lf s0 sep1 (λs0 s1=>some (.fnr (Fn.func 114) [] [.ptr 1 0 0,.ptr 0 0 0,.ptr 2 0 0],[.box [pS s0],.box [pS s1],.box [pI (0:Int)]],s)):=by
 refine (evE (fn:=Tryz.f63) (by kernel_rfl)).trans ?_
 generalize evC (WS lf) d=cl
 unfold Ce5;kernel_rfl
noncomputable abbrev EA:Code:=D0 Tryz.f40
noncomputable def Ja (lf:Nat):Cfg:=B8 lf [40] (A3 []) [(62,Ko),(63,UZ),(64,HZ)] (A3 [(7,[2]),(6,[2]),(5,[2,13]),(4,[2,0]),(3,[2,9]),(2,[2]),(1,[0,1,7]),(0,[0,1])]) [62,64] (A3 [(0,[2]),(1,[2])]) (some [2]) [] [(114,Wj)] []
noncomputable def Wu {R:Type} (lf:Nat) (x'0:By) (xs:List By) (self:Unit->Option R) (k0:Unit->Option R) (k1:Unit->Option R):Option R:=cond (A2 x'0.length) (cond (not (N8 x'0)) (k1 ()) (self ())) none
noncomputable def AM {R:Type} (lf:Nat) (L:List By) (k0:Unit->Option R) (k1:Unit->Option R):Option R:=B12 (α:=Unit->Option R) (λ_=>k0 ()) (λx'0 xs self _=>Wu lf x'0 xs self  k0 k1) L ()
theorem QR {R:Type} (lf:Nat) (x'0:By) (xs:List By) (k0:Unit->Option R) (k1:Unit->Option R):AM lf (x'0::xs)  k0 k1=Wu lf x'0 xs (λ_=>AM lf xs  k0 k1)  k0 k1:=rfl
theorem Au6 (L:List By):Q4 #[13] (gp [(2,.ptr 0 0 0),(9,.fnr (Fn.func 114) [] [.bad,.bad,.bad])] 4) (bd (Ja lf) cl yh (cd [1,1,0,1,0,0] EA)) (bd (Ja lf) cl yh (cd [1,1,0,1,0,1] EA)) (L.map (λ(x'0:By)=>([pS x'0]:List PV))) [.box [pB false],.dead,.dead,.dead] s (rgK (gp [(2,.ptr 0 0 0),(9,.fnr (Fn.func 114) [] [.bad,.bad,.bad])] 4) (λH=>R3 H [2,1,3] [.box [.bad],.box [.bad],.box [.bad]]) k) =
 AM lf L  (λ_=>k .normal ⟨gp [(2,.ptr 0 0 0),(9,.fnr (Fn.func 114) [] [.bad,.bad,.bad])] 4,[.box [pB false],.box [.bad],.box [.bad],.box [.bad]],s⟩) (λ_=>k .ret ⟨gp [(2,.ptr 0 0 0),(9,.fnr (Fn.func 114) [] [.bad,.bad,.bad])] 4,[.box [pB false],.box [.bad],.box [.bad],.box [.bad]],s⟩):=by
 induction L with
 | nil=>rfl
 | cons x'0 xs ih=>rw [QR];unfold Wu;exact (Eq.trans (by kernel_rfl) (A0 (A0 rfl ih) rfl))
noncomputable def KW {R:Type} (lf:Nat) (s0:By) (k0:Unit->Option R) (k1:Unit->Option R):Option R:=cond ((A2 s0.length)&&((1==1)&&((0:Int)==0))) (AM lf (pcs (List.getD ([46]:List UInt8) 0 0) s0)  k0 k1) none
abbrev QQ (b:Code):Prop:=∀ (k:Out->St σ->Option R) s0,A9 (Ja lf) cl yh b ⟨gp [(2,.ptr 0 0 0),(9,.fnr (Fn.func 114) [] [.ptr 2 0 0,.ptr 1 0 0,.ptr 3 0 0])] 4,[.box [pB false],.box [pS s0],.box [pS ([46]:List UInt8)],.box [pI (0:Int)]],s⟩ k=KW lf s0 (λ_=>k .normal ⟨gp [(2,.ptr 0 0 0),(9,.fnr (Fn.func 114) [] [.bad,.bad,.bad])] 4,[.box [pB false],.box [.bad],.box [.bad],.box [.bad]],s⟩) (λ_=>k .ret ⟨gp [(2,.ptr 0 0 0),(9,.fnr (Fn.func 114) [] [.bad,.bad,.bad])] 4,[.box [pB false],.box [.bad],.box [.bad],.box [.bad]],s⟩)
theorem Au5:QQ (R:=R) lf cl yh s (cd [1,1,0,1,0] EA):=by
 intro k s0;unfold KW;exact ((Ba4 [1,1,0,1,0] (by kernel_rfl)).trans (by kernel_rfl)).trans (Nh (Au6 lf cl yh s k (pcs (List.getD ([46]:List UInt8) 0 0) s0) ))
noncomputable def hvn {R:Type} (lf:Nat) (name0:By) (k0:Unit->Option R) (k1:Bool->Bool->Option R):Option R:=cond (ltI 253 (name0.length:Int)) (k0 ()) (cond (A2 name0.length) (cond (K5 name0) (k0 ()) (KW lf name0 (λ_=>k1 true true) (λ_=>k1 false false))) none)
theorem Cc2 (b_11010:Code) (h_hvn_e1:QQ (R:=PV × List Blk × σ) lf cl yh s b_11010) (name0:By):A9 (Ja lf) cl yh (cd [] (N4 [1,1,0,1,0] b_11010 EA)) ⟨[pS name0]++tps 16,[],s⟩ (G5 (Ja lf) Tryz.f40)=hvn lf name0 (λ_=>some (pB false,[.box [pB false]],s)) (λr0 b1=>some (pB r0,[.box [pB b1],.box [.bad],.box [.bad],.box [.bad]],s)):=by
 unfold hvn;exact (Eq.trans (by kernel_rfl) (A0 rfl (A0 (A0 rfl ((h_hvn_e1 (H7 0 (I5 (Ja lf) cl yh (cd [1,1,1] EA) (G5 (Ja lf) Tryz.f40))) name0).trans (by kernel_rfl))) rfl)))
theorem Cc3 (d:Nat) (name0):evC (Ja lf) (d+1) σ yh 40 [pS name0] [] s=hvn lf name0 (λ_=>some (pB false,[.box [pB false]],s)) (λr0 b1=>some (pB r0,[.box [pB b1],.box [.bad],.box [.bad],.box [.bad]],s)):=
 (evE (fn:=Tryz.f40) (by kernel_rfl)).trans (Eq.trans (by kernel_rfl) (Cc2 lf (evC (Ja lf) d) yh s (cd [1,1,0,1,0] EA) (Au5 lf (evC (Ja lf) d) yh s) name0))
noncomputable def WH (lf:Nat):Cfg:=B8 lf [24] (A3 []) [] (A3 [(1,[2]),(0,[1])]) [] (A3 []) (some [2]) [] [] []
noncomputable def Cc1 {R:Type} (lf:Nat) (name0:By) (k0:By->Option R):Option R:=k0 name0
theorem Bv9 (d:Nat) (name0):evC (WH lf) (d+1) σ yh 24 [pS name0] [] s=Cc1 lf name0 (λs0=>some (.fnr (Fn.func 44) [] [.ptr 0 0 0],[.box [pS s0]],s)):=by
 refine (evE (fn:=Tryz.f24) (by kernel_rfl)).trans ?_
 generalize evC (WH lf) d=cl
 unfold Cc1;kernel_rfl
noncomputable abbrev Oc:Code:=D0 Tryz.f114
noncomputable def U5 (lf:Nat):Cfg:=B8 lf [114] (A3 [(5,[0,0,0,0]),(1,[0,1])]) [(115,Nw),(116,Yg)] (A3 [(10,[]),(9,[0,0,0,0]),(8,[0,0,0,0,3,34]),(7,[0,0,0,0,3,0]),(6,[0,0,0,0,3,25]),(5,[0,0,0,0,3]),(4,[0,1]),(3,[0,1,3,18]),(2,[0,1,3]),(1,[0,1,11]),(0,[0,0,0,0,7])]) [116] (A3 [(2,[0,1]),(3,[0,0,0,0]),(0,[]),(1,[0,1])]) (some []) [] [] []
noncomputable def CF {σ R:Type} (yh:Yh σ) (lf n:Nat) (s0 s1:By) (n2:Int) (s:σ) (k0:By->By->Int->σ->Option R):Option R:=match n with | 0=>none | n+1=>cond (ltI 0 (s1.length:Int)) none (k0 s0 s1 n2 s)
theorem TE (n:Nat) (s0 s1:By) (n2:Int) (s:σ):F0 3 ((U5 lf).keep 1) (bd (U5 lf) cl yh (cd [0,1,0,0,0,0] Oc)) n ⟨gp [(0,.yd),(1,.ptr 1 0 0)] 49,[.box [pS s0],.box [pS s1],.box [pI n2]],s⟩ k =
 CF yh lf n s0 s1 n2 s (λs0 s1 n2 s=>k (.exit 0) ⟨gp [] 52,[.box [pS s0],.box [pS s1],.box [pI n2]],s⟩):=by
 induction n generalizing s0 s1 n2 s with
 | zero=>rfl
 | succ n ih=>rw [CF];kernel_rfl
noncomputable def O5 {σ R:Type} (yh:Yh σ) (lf n:Nat) (s0 s1:By) (n2:Int) (s:σ) (k0:By->By->Int->σ->Option R) (k1:By->By->Int->σ->Option R):Option R:=match n with
 | 0=>none
 | n+1=>
  cond (A2 s1.length)
   (cond (ltI (Lib.index s1 s0) (0:Int))
   (k0 s0 s1 n2 s)
   (vl (A4 ((Lib.index s1 s0)+n2)) λn'5=>
    cond (L3 0 n'5 s1.length)
    (ydK (yh [pS (cut s1 0 n'5)] s) λby'6 s'y6=>
     (cond (not by'6)
     (k1 s0 s1 n2 s'y6)
     (vl (A4 ((Lib.index s1 s0)+(s0.length:Int))) λn'7=>
      cond (L3 n'7 (s1.length:Int) s1.length)
      (vl (cut s1 n'7 (s1.length:Int)) λs'8=>
       O5 yh lf n s0 s'8 n2 s'y6 k0 k1)
      none)))
    none))
   none
theorem TF (n:Nat) (s0 s1:By) (n2:Int) (s:σ):F0 3 ((U5 lf).keep 5) (bd (U5 lf) cl yh (cd [1,0,0,0] Oc)) n ⟨gp [(0,.yd),(0,.ptr 0 0 0),(0,.ptr 1 0 0),(0,.ptr 2 0 0)] 48,[.box [pS s0],.box [pS s1],.box [pI n2]],s⟩ k =
 O5 yh lf n s0 s1 n2 s (λs0 s1 n2 s=>k (.exit 2) ⟨gp [(0,.yd),(1,.ptr 1 0 0)] 49,[.box [pS s0],.box [pS s1],.box [pI n2]],s⟩) (λs0 s1 n2 s=>k .ret ⟨gp [] 52,[.box [pS s0],.box [pS s1],.box [pI n2]],s⟩):=by
 induction n generalizing s0 s1 n2 s with
 | zero=>rfl
 | succ n ih=>rw [O5];simp only [<-ih];kernel_rfl
noncomputable def TD {σ R:Type} (yh:Yh σ) (lf:Nat) (p t:By) (n:Int) (s:σ) (k0:By->By->Int->σ->Option R):Option R:=
 cond ((p.length:Int)==0)
 (CF yh lf lf p t n s (λs'0 s'1 n'2 s'3=>k0 s'0 s'1 n'2 s'3))
 (O5 yh lf lf p t n s (λs'9 s'10 n'11 s'12=>ydK (yh [pS s'10] s'12) λby'17 s'y17=>
  (k0 s'9 s'10 n'11 s'y17)) (λs'13 s'14 n'15 s'16=>k0 s'13 s'14 n'15 s'16))
theorem Bi5 (d:Nat) (p t n s):evC (U5 lf) (d+1) σ yh 114 [.yd,.ptr 0 0 0,.ptr 1 0 0,.ptr 2 0 0] [.box [pS p],.box [pS t],.box [pI n]] s=TD yh lf p t n s (λs0 s1 n2 s=>some (.tup [],[.box [pS s0],.box [pS s1],.box [pI n2]],s)):=by
 refine (evE (fn:=Tryz.f114) (by kernel_rfl)).trans ?_
 generalize evC (U5 lf) d=cl
 unfold TD;exact (Eq.trans (by kernel_rfl) (A0 ((TE lf cl yh (H7 0 (I5 (U5 lf) cl yh (cd [0,1,0,1] Oc) (I5 (U5 lf) cl yh (cd [1] Oc) (G5 (U5 lf) Tryz.f114)))) lf p t n s).trans (by kernel_rfl)) ((TF lf cl yh (H7 2 (I5 (U5 lf) cl yh (cd [1,1] Oc) (G5 (U5 lf) Tryz.f114))) lf p t n s).trans (by kernel_rfl))))
noncomputable abbrev Bq6:Code:=D0 Tryz.f44
noncomputable def Ku (lf:Nat):Cfg:=B8 lf [44] (A3 [(1,[0,0])]) [(40,NZ),(25,Yf)] (A3 [(3,[0,0]),(2,[0,0,2,17]),(1,[0,0,2,0]),(0,[0,0,6])]) [40,25] (A3 [(0,[]),(1,[0,0])]) (some []) [] [] []
noncomputable def X7 {σ R:Type} (yh:Yh σ) (lf n:Nat) (s0:By) (s:σ) (k0:By->σ->Option R):Option R:=match n with
 | 0=>none
 | n+1=>
  cond (A2 s0.length)
   (vl ((Lib.cut s0 ([46]:List UInt8))).1 λs'2=>
   vl (((Lib.cut s0 ([46]:List UInt8))).2).1 λs'3=>
    cond (not (((Lib.cut s0 ([46]:List UInt8))).2).2)
    (k0 s0 s)
    (ydK (yh [pS s'3] s) λby'4 s'y4=>
     (cond (not by'4)
     (k0 s0 s'y4)
     (X7 yh lf n s'3 s'y4 k0))))
   none
theorem QP (n:Nat) (s0:By) (s:σ):F0 1 ((Ku lf).keep 1) (bd (Ku lf) cl yh (cd [1,0,0] Bq6)) n ⟨gp [(0,.yd),(0,.ptr 0 0 0)] 22,[.box [pS s0]],s⟩ k =
 X7 yh lf n s0 s (λs0 s=>k .ret ⟨gp [] 24,[.box [pS s0]],s⟩):=by
 induction n generalizing s0 s with
 | zero=>rfl
 | succ n ih=>rw [X7];simp only [<-ih];kernel_rfl
noncomputable def QO {σ R:Type} (yh:Yh σ) (lf:Nat) (t:By) (s:σ) (k0:By->σ->Option R):Option R:=cond (A2 t.length) (cond (not (V5 t)) (k0 t s) (X7 yh lf lf t s (λs'5 s'6=>k0 s'5 s'6))) none
theorem Bc4 (d:Nat) (t s):evC (Ku lf) (d+1) σ yh 44 [.yd,.ptr 0 0 0] [.box [pS t]] s=QO yh lf t s (λs0 s=>some (.tup [],[.box [pS s0]],s)):=by
 refine (evE (fn:=Tryz.f44) (by kernel_rfl)).trans ?_
 generalize evC (Ku lf) d=cl
 unfold QO;exact (Eq.trans (by kernel_rfl) (A0 (A0 rfl ((QP lf cl yh (H7 0 (G5 (Ku lf) Tryz.f44)) lf t s).trans (by kernel_rfl))) rfl))
end
section
variable {σ R : Type} (lf : Nat) (cl : D3) (yh : Yh σ) (s : σ) (k : Out -> St σ -> Option R)
noncomputable def JP (lf:Nat):Cfg:=B8 lf [149] (A3 []) [] (A3 [(1,[2]),(0,[0])]) [] (A3 []) (some [2]) [] [] []
noncomputable def B91 {R:Type} (lf:Nat) (k0:Unit->Option R):Option R:=k0 ()
theorem Bd0 (d:Nat):evC (JP lf) (d+1) σ yh 149 [pI (16:Int)] [] s=B91 lf  (λ_=>some (pB true,[],s)):=by
 refine (evE (fn:=Tryz.f149) (by kernel_rfl)).trans ?_
 generalize evC (JP lf) d=cl
 unfold B91;kernel_rfl
noncomputable abbrev JH:Code:=D0 Tryz.f135
noncomputable def Ef (lf:Nat):Cfg:=B8 lf [135] (A3 [(11,[0,0,1,0,5,0,0,0,0,0,0]),(18,[0,0,1,0,5,0,0,0,3])]) [(149,HM),(150,B99)] (A3 [(30,[10,0]),(29,[10,0]),(28,[0,9,0,0,0,80]),(27,[0,3,5,0,0,0]),(26,[0,3,5,0,0,0]),(25,[0,3,5,0,0,0,75]),(16,[0,2,0,5,0,0,0]),(15,[0,0,1,0,5,0,0,0]),(14,[0,0,1,0,5,0,0,0,0,0,0]),(13,[0,0,1,0,5,0,0,0,0,0,0]),(12,[0,0,1,0,5,0,0,0,0,0,0]),(11,[0,0,1,0,5,0,0,0,0,0,0,29]),(10,[0,0,1,0,5,0,0,0,0,0,0]),(9,[0,0,0,0,0,5,0,0,0,0,0]),(8,[0,0,0,0,0,5,0,0,0,0]),(24,[0,2,0,5,0,0,0]),(23,[0,0,1,0,5,0,0,0]),(22,[0,0,1,0,5,0,0,0,3]),(21,[0,2,0,5,0,0,0,3,0]),(20,[0,0,1,0,5,0,0,0,3,0]),(19,[0,0,1,0,5,0,0,0,3]),(18,[0,0,1,0,5,0,0,0,3,50]),(17,[0,0,1,0,5,0,0,0,3]),(7,[0,0,0,0,0,5,0,0,0,20]),(6,[0,0,0,0,0,5,0,0,0]),(5,[0,0,0,0,0,5,0,0,0,16]),(4,[0,0,0,0,0,5,0,0,0]),(3,[0,0,0,0,0,5,0,0]),(2,[0,0,0,0,0,5,0]),(1,[0,0,0,0,0,5,0,16]),(0,[0,0,0,0,0,5,0])]) [149,150] (A3 [(0,[0,0,1,0,5,0,0,0]),(1,[0,0,1,0,5,0,0,0,0,0,0]),(2,[0,0,1,0,5,0,0,0]),(3,[0,0,1,0,5,0,0,0,3])]) (some [10,0]) [] [] []
noncomputable def Fx {R:Type} (lf n:Nat) (dst_z0 dst_t1:Bool) (dst2:LL) (u3 i4:Int) (l5:LL) (k0:Bool->Bool->LL->Int->Int->LL->Option R):Option R:=match n with | 0=>none | n+1=>cond (not (ltI u3 16)) (vl (VO .u64 u3 (15:Int)) λn'0=>cond (inR n'0 36) (vl (bAt (([48,49,50,51,52,53,54,55,56,57,97,98,99,100,101,102,103,104,105,106,107,108,109,110,111,112,113,114,115,116]:List UInt8)++[117,118,119,120,121,122]) n'0) λn'1=>cond (inR (A4 (i4-1)) 65) (cond (decide ((Int.toNat (A4 (i4-1)))<l5.length)) (vl (List.set l5 (Int.toNat (A4 (i4-1))) (E0 (List.getD l5 (Int.toNat (A4 (i4-1))) []) 0 [(SV.int .u8 n'1)])) λl'2=>Fx lf n dst_z0 dst_t1 dst2 (DI .u64 u3 (4:Int)) (A4 (i4-1)) l'2 k0) none) none) none) (k0 dst_z0 dst_t1 dst2 u3 i4 l5)
theorem PT (n dst_z0 dst_t1 dst2 u3 i4 l5):F0 2 ((Ef lf).keep 11) (bd (Ef lf) cl yh (cd [1,1,1,1,1,0,1,0,1,1,1,0,0,0] JH)) n ⟨gp [(0,.s (.sl dst_z0 dst_t1 0 dst2)),(0,p64 u3),(1,pB false),(0,pB false),(5,.fl 0),(0,pS ([]:List UInt8)),(0,.ptr 1 0 0),(0,pI i4),(0,p64 (4:Int)),(0,p64 (16:Int)),(0,p64 (15:Int))] 85,[.arr true 5 1 [],.arr false 201 1 l5],s⟩ k =
 Fx lf n dst_z0 dst_t1 dst2 u3 i4 l5 (λdst_z0 dst_t1 dst2 u3 i4 l5=>k (.exit 0) ⟨gp [(0,.s (.sl dst_z0 dst_t1 0 dst2)),(0,p64 u3),(1,pB false),(0,pB false),(5,.fl 0),(0,pS ([]:List UInt8)),(0,.ptr 1 0 0),(0,pI i4)] 88,[.arr true 5 1 [],.arr false 201 1 l5],s⟩):=by
 induction n generalizing dst_z0 dst_t1 dst2 u3 i4 l5 with
 | zero=>rfl
 | succ n ih=>rw [Fx];simp only [<-ih];kernel_rfl
noncomputable def PS {R:Type} (lf:Nat) (ds_z ds_t:Bool) (ds:LL) (v:Int) (k0:By->LL->Option R):Option R:=cond ((16:Int)==16) (cond ((16:Int)==16) (Fx lf lf ds_z ds_t ds v 65 (List.replicate 65 [(SV.int .u8 (0:Int))]) (λdst_z'3 dst_t'4 dst'5 u'6 i'7 l'8=>cond (inR u'6 36) (vl (bAt (([48,49,50,51,52,53,54,55,56,57,97,98,99,100,101,102,103,104,105,106,107,108,109,110,111,112,113,114,115,116]:List UInt8)++[117,118,119,120,121,122]) u'6) λn'9=>cond (inR (A4 (i'7-1)) 65) (cond (decide ((Int.toNat (A4 (i'7-1)))<l'8.length)) (vl (List.set l'8 (Int.toNat (A4 (i'7-1))) (E0 (List.getD l'8 (Int.toNat (A4 (i'7-1))) []) 0 [(SV.int .u8 n'9)])) λl'10=>cond (decide (l'10.length=65)) (cond (L3 (A4 (i'7-1)) (65:Int) 65) (cond (List.all (List.take (65-(Int.toNat (A4 (i'7-1)))) (List.drop (Int.toNat (A4 (i'7-1))) l'10)) AQ) (vl (List.map Vx (List.take (65-(Int.toNat (A4 (i'7-1)))) (List.drop (Int.toNat (A4 (i'7-1))) l'10))) λs'11=>k0 s'11 l'10) none) none) none) none) none) none)) none) none
theorem Ba6 (d:Nat) (ds_z ds_t ds v):evC (Ef lf) (d+1) σ yh 135 [.s (.sl ds_z ds_t 0 ds),p64 v,pI (16:Int),pB false,pB false] [] s=PS lf ds_z ds_t ds v (λr0 l1=>some (.tup [.fl 0,pS r0],[.arr true 5 1 [],.arr false 201 1 l1],s)):=by
 refine (evE (fn:=Tryz.f135) (by kernel_rfl)).trans ?_
 generalize evC (Ef lf) d=cl
 unfold PS;exact (Eq.trans (by kernel_rfl) (A0 (A0 ((PT lf cl yh s (H7 0 (I5 (Ef lf) cl yh (cd [1,1,1,1,1,0,1,0,1,1,1,1] JH) (I5 (Ef lf) cl yh (cd [1,1,1,1,1,1] JH) (G5 (Ef lf) Tryz.f135)))) lf ds_z ds_t ds v 65 (List.replicate 65 [(SV.int .u8 (0:Int))])).trans (by kernel_rfl)) rfl) rfl))
noncomputable def JO (lf:Nat):Cfg:=B8 lf [145] (A3 []) [(135,GV)] (A3 [(9,[4]),(8,[8]),(7,[4]),(6,[5,0]),(5,[0,4,0]),(4,[0,4]),(3,[4]),(2,[0,11]),(1,[0,0,8]),(0,[0,0])]) [] (A3 []) (some [4]) [] [] []
noncomputable def Al5 {R:Type} (lf:Nat) (v:Int) (k0:By->Option R):Option R:=cond (ltN v 65536) (cond ((16:Int)==16) (k0 (X6 (Int.toNat v))) none) none
theorem Bc5 (d:Nat) (v):evC (JO lf) (d+1) σ yh 145 [p64 v,pI (16:Int)] [] s=Al5 lf v (λr0=>some (pS r0,[],s)):=by
 refine (evE (fn:=Tryz.f145) (by kernel_rfl)).trans ?_
 generalize evC (JO lf) d=cl
 unfold Al5;kernel_rfl
noncomputable def WB (lf:Nat):Cfg:=B8 lf [131] (A3 []) [(145,HL)] (A3 [(1,[4]),(0,[0,0])]) [145] (A3 []) (some [4]) [] [] []
noncomputable def Bt7 {R:Type} (lf:Nat) (v:Int) (k0:By->Option R):Option R:=cond (ltN v 65536) (cond ((16:Int)==16) (k0 (X6 (Int.toNat v))) none) none
theorem Bt8 (d:Nat) (v):evC (WB lf) (d+1) σ yh 131 [p64 v,pI (16:Int)] [] s=Bt7 lf v (λr0=>some (pS r0,[],s)):=by
 refine (evE (fn:=Tryz.f131) (by kernel_rfl)).trans ?_
 generalize evC (WB lf) d=cl
 unfold Bt7;kernel_rfl
end
end
end Go.Proofs.YthcoijldbdfboaaGreatDoor.E
namespace Go.Proofs
open Go.Shelf
def Tryz.lays156_ren:Go.Shelf.Ren:=⟨fun | 156=>81 | 165=>107 | 166=>108 | 169=>109 | 240=>129 | 241=>130 | 276=>143 | 277=>144 | n=>n,fun | 31=>22 | 9=>9 | 3=>3 | 4=>4 | 0=>0 | 20=>20 | 72=>151 | 76=>155 | 70=>149 | 37=>98 | 75=>154 | 127=>179 | 164=>196 | 5=>5 | 80=>157 | n=>n,fun | n=>n⟩
theorem Tryz.lays156:Go.Proofs.Lays.n156 Tryz.prog Tryz.lays156_ren:={
 mixed:=by kernel_rfl
 f156:=Tryz.func81.trans (congrArg some (by kernel_rfl))
 f165:=Tryz.func107.trans (congrArg some (by kernel_rfl))
 f166:=Tryz.func108.trans (congrArg some (by kernel_rfl))
 f169:=Tryz.func109.trans (congrArg some (by kernel_rfl))
 f240:=Tryz.func129.trans (congrArg some (by kernel_rfl))
 f241:=Tryz.func130.trans (congrArg some (by kernel_rfl))
 f276:=Tryz.func143.trans (congrArg some (by kernel_rfl))
 f277:=Tryz.func144.trans (congrArg some (by kernel_rfl))
 t0:=Tryz.underlying0
 a0:=Tryz.isAgg0
 z0:=Tryz.sizeOf0
 v0:=Tryz.zeroValue0
 t3:=Tryz.underlying3
 a3:=Tryz.isAgg3
 z3:=Tryz.sizeOf3
 v3:=Tryz.zeroValue3
 t4:=Tryz.underlying4
 a4:=Tryz.isAgg4
 z4:=Tryz.sizeOf4
 v4:=Tryz.zeroValue4
 t9:=Tryz.underlying9
 a9:=Tryz.isAgg9
 z9:=Tryz.sizeOf9
 v9:=Tryz.zeroValue9
 t20:=Tryz.underlying20
 a20:=Tryz.isAgg20
 z20:=Tryz.sizeOf20
 v20:=Tryz.zeroValue20
 t31:=Tryz.underlying22
 a31:=Tryz.isAgg22
 z31:=Tryz.sizeOf22
 v31:=Tryz.zeroValue22
 t37:=Tryz.underlying98
 a37:=Tryz.isAgg98
 z37:=Tryz.sizeOf98
 v37:=Tryz.zeroValue98
 t70:=Tryz.underlying149
 a70:=Tryz.isAgg149
 z70:=Tryz.sizeOf149
 v70:=Tryz.zeroValue149
 t72:=Tryz.underlying151
 a72:=Tryz.isAgg151
 z72:=Tryz.sizeOf151
 v72:=Tryz.zeroValue151
 t75:=Tryz.underlying154
 a75:=Tryz.isAgg154
 z75:=Tryz.sizeOf154
 v75:=Tryz.zeroValue154
 t76:=Tryz.underlying155
 a76:=Tryz.isAgg155
 z76:=Tryz.sizeOf155
 v76:=Tryz.zeroValue155
 t127:=Tryz.underlying179
 a127:=Tryz.isAgg179
 z127:=Tryz.sizeOf179
 v127:=Tryz.zeroValue179
 t164:=Tryz.underlying196
 a164:=Tryz.isAgg196
 z164:=Tryz.sizeOf196
 v164:=Tryz.zeroValue196 }
theorem Tryz.Builder_Extra_156:Builder.Extra Tryz.prog Tryz.lays156_ren:={
 sizeBuilder:=by kernel_rfl
 liesBuilder:=by kernel_rfl
 t5:=Tryz.underlying5
 a5:=Tryz.isAgg5
 z5:=Tryz.sizeOf5
 v5:=Tryz.zeroValue5
 infoByte:=by kernel_rfl
 cellsByte:=by kernel_rfl
 sizeByte:=by kernel_rfl
 neB5:=by decide }
def Tryz.lays195_ren:Go.Shelf.Ren:=⟨fun | 195=>105 | n=>n,fun | 9=>9 | 3=>3 | 0=>0 | 4=>4 | n=>n,fun | n=>n⟩
theorem Tryz.lays195:Go.Proofs.Lays.n195 Tryz.prog Tryz.lays195_ren:={
 mixed:=by kernel_rfl
 f195:=Tryz.func105.trans (congrArg some (by kernel_rfl))
 t0:=Tryz.underlying0
 a0:=Tryz.isAgg0
 z0:=Tryz.sizeOf0
 v0:=Tryz.zeroValue0
 t3:=Tryz.underlying3
 a3:=Tryz.isAgg3
 z3:=Tryz.sizeOf3
 v3:=Tryz.zeroValue3
 t4:=Tryz.underlying4
 a4:=Tryz.isAgg4
 z4:=Tryz.sizeOf4
 v4:=Tryz.zeroValue4
 t9:=Tryz.underlying9
 a9:=Tryz.isAgg9
 z9:=Tryz.sizeOf9
 v9:=Tryz.zeroValue9 }
def Tryz.laysM171_ren:Go.Shelf.Ren:=⟨fun | 171=>59 | 243=>85 | 246=>112 | 283=>132 | 284=>133 | 285=>134 | 286=>135 | 129=>147 | 317=>146 | 318=>148 | 319=>149 | 320=>150 | 337=>154 | 338=>155 | n=>n,fun | 3=>3 | 9=>9 | 2=>2 | 4=>4 | 171=>182 | 0=>0 | 53=>181 | 37=>98 | 5=>5 | 173=>185 | 212=>200 | 51=>54 | 20=>20 | 213=>201 | 46=>126 | 232=>207 | 233=>208 | n=>n,fun | 17=>3 | 18=>4 | 19=>5 | n=>n⟩
theorem Tryz.laysM171:Go.Proofs.LaysM.n171 Tryz.prog Tryz.laysM171_ren:={
 mixed:=by kernel_rfl
 f129:=Tryz.func147.trans (congrArg some (by kernel_rfl))
 f171:=Tryz.func59.trans (congrArg some (by kernel_rfl))
 f243:=Tryz.func85.trans (congrArg some (by kernel_rfl))
 f246:=Tryz.func112.trans (congrArg some (by kernel_rfl))
 f283:=Tryz.func132.trans (congrArg some (by kernel_rfl))
 f284:=Tryz.func133.trans (congrArg some (by kernel_rfl))
 f285:=Tryz.func134.trans (congrArg some (by kernel_rfl))
 f286:=Tryz.func135.trans (congrArg some (by kernel_rfl))
 f317:=Tryz.func146.trans (congrArg some (by kernel_rfl))
 f318:=Tryz.func148.trans (congrArg some (by kernel_rfl))
 f319:=Tryz.func149.trans (congrArg some (by kernel_rfl))
 f320:=Tryz.func150.trans (congrArg some (by kernel_rfl))
 f337:=Tryz.func154.trans (congrArg some (by kernel_rfl))
 f338:=Tryz.func155.trans (congrArg some (by kernel_rfl))
 t0:=Tryz.underlying0
 a0:=Tryz.isAgg0
 z0:=Tryz.sizeOf0
 v0:=Tryz.zeroValue0
 t2:=Tryz.underlying2
 a2:=Tryz.isAgg2
 z2:=Tryz.sizeOf2
 v2:=Tryz.zeroValue2
 t3:=Tryz.underlying3
 a3:=Tryz.isAgg3
 z3:=Tryz.sizeOf3
 v3:=Tryz.zeroValue3
 t4:=Tryz.underlying4
 a4:=Tryz.isAgg4
 z4:=Tryz.sizeOf4
 v4:=Tryz.zeroValue4
 t5:=Tryz.underlying5
 a5:=Tryz.isAgg5
 z5:=Tryz.sizeOf5
 v5:=Tryz.zeroValue5
 t9:=Tryz.underlying9
 a9:=Tryz.isAgg9
 z9:=Tryz.sizeOf9
 v9:=Tryz.zeroValue9
 t20:=Tryz.underlying20
 a20:=Tryz.isAgg20
 z20:=Tryz.sizeOf20
 v20:=Tryz.zeroValue20
 t37:=Tryz.underlying98
 a37:=Tryz.isAgg98
 z37:=Tryz.sizeOf98
 v37:=Tryz.zeroValue98
 t46:=Tryz.underlying126
 a46:=Tryz.isAgg126
 z46:=Tryz.sizeOf126
 v46:=Tryz.zeroValue126
 t51:=Tryz.underlying54
 a51:=Tryz.isAgg54
 z51:=Tryz.sizeOf54
 v51:=Tryz.zeroValue54
 t53:=Tryz.underlying181
 a53:=Tryz.isAgg181
 z53:=Tryz.sizeOf181
 v53:=Tryz.zeroValue181
 t171:=Tryz.underlying182
 a171:=Tryz.isAgg182
 z171:=Tryz.sizeOf182
 v171:=Tryz.zeroValue182
 t173:=Tryz.underlying185
 a173:=Tryz.isAgg185
 z173:=Tryz.sizeOf185
 v173:=Tryz.zeroValue185
 t212:=Tryz.underlying200
 a212:=Tryz.isAgg200
 z212:=Tryz.sizeOf200
 v212:=Tryz.zeroValue200
 t213:=Tryz.underlying201
 a213:=Tryz.isAgg201
 z213:=Tryz.sizeOf201
 t232:=Tryz.underlying207
 a232:=Tryz.isAgg207
 z232:=Tryz.sizeOf207
 v232:=Tryz.zeroValue207
 t233:=Tryz.underlying208
 a233:=Tryz.isAgg208
 z233:=Tryz.sizeOf208
 v233:=Tryz.zeroValue208
 g17:=by kernel_rfl
 g18:=by kernel_rfl
 g19:=by kernel_rfl
 i0:=by kernel_rfl
 i2:=by kernel_rfl
 i3:=by kernel_rfl
 i4:=by kernel_rfl
 i5:=by kernel_rfl
 i9:=by kernel_rfl
 i20:=by kernel_rfl
 i37:=by kernel_rfl
 i46:=by kernel_rfl
 i51:=by kernel_rfl
 i53:=by kernel_rfl
 i171:=by kernel_rfl
 i173:=by kernel_rfl
 i212:=by kernel_rfl
 i232:=by kernel_rfl
 i233:=by kernel_rfl
 m17:=by kernel_rfl
 m18:=by kernel_rfl
 m19:=by kernel_rfl }
def Tryz.lays143_ren:Go.Shelf.Ren:=⟨fun | 143=>116 | 219=>69 | 217=>70 | 225=>73 | 224=>72 | 267=>98 | 266=>99 | 314=>120 | n=>n,fun | 9=>9 | 3=>3 | 4=>4 | 5=>5 | 46=>126 | 146=>167 | 51=>54 | n=>n,fun | 1=>0 | n=>n⟩
theorem Tryz.lays143:Go.Proofs.Lays.n143 Tryz.prog Tryz.lays143_ren:={
 mixed:=by kernel_rfl
 f143:=Tryz.func116.trans (congrArg some (by kernel_rfl))
 f217:=Tryz.func70.trans (congrArg some (by kernel_rfl))
 f219:=Tryz.func69.trans (congrArg some (by kernel_rfl))
 f224:=Tryz.func72.trans (congrArg some (by kernel_rfl))
 f225:=Tryz.func73.trans (congrArg some (by kernel_rfl))
 f266:=Tryz.func99.trans (congrArg some (by kernel_rfl))
 f267:=Tryz.func98.trans (congrArg some (by kernel_rfl))
 f314:=Tryz.func120.trans (congrArg some (by kernel_rfl))
 t3:=Tryz.underlying3
 a3:=Tryz.isAgg3
 z3:=Tryz.sizeOf3
 v3:=Tryz.zeroValue3
 t4:=Tryz.underlying4
 a4:=Tryz.isAgg4
 z4:=Tryz.sizeOf4
 v4:=Tryz.zeroValue4
 t5:=Tryz.underlying5
 a5:=Tryz.isAgg5
 z5:=Tryz.sizeOf5
 v5:=Tryz.zeroValue5
 t9:=Tryz.underlying9
 a9:=Tryz.isAgg9
 z9:=Tryz.sizeOf9
 v9:=Tryz.zeroValue9
 t46:=Tryz.underlying126
 a46:=Tryz.isAgg126
 z46:=Tryz.sizeOf126
 v46:=Tryz.zeroValue126
 t51:=Tryz.underlying54
 a51:=Tryz.isAgg54
 z51:=Tryz.sizeOf54
 v51:=Tryz.zeroValue54
 t146:=Tryz.underlying167
 a146:=Tryz.isAgg167
 z146:=Tryz.sizeOf167
 v146:=Tryz.zeroValue167
 g1:=by kernel_rfl }
def Tryz.lays145_ren:Go.Shelf.Ren:=⟨fun | 145=>25 | 220=>45 | 219=>69 | 217=>70 | 225=>73 | 224=>72 | 267=>98 | 266=>99 | 314=>120 | n=>n,fun | 9=>9 | 4=>4 | 59=>76 | 3=>3 | 5=>5 | 46=>126 | 146=>167 | 51=>54 | n=>n,fun | 1=>0 | n=>n⟩
theorem Tryz.lays145:Go.Proofs.Lays.n145 Tryz.prog Tryz.lays145_ren:={
 mixed:=by kernel_rfl
 f145:=Tryz.func25.trans (congrArg some (by kernel_rfl))
 f217:=Tryz.func70.trans (congrArg some (by kernel_rfl))
 f219:=Tryz.func69.trans (congrArg some (by kernel_rfl))
 f220:=Tryz.func45.trans (congrArg some (by kernel_rfl))
 f224:=Tryz.func72.trans (congrArg some (by kernel_rfl))
 f225:=Tryz.func73.trans (congrArg some (by kernel_rfl))
 f266:=Tryz.func99.trans (congrArg some (by kernel_rfl))
 f267:=Tryz.func98.trans (congrArg some (by kernel_rfl))
 f314:=Tryz.func120.trans (congrArg some (by kernel_rfl))
 t3:=Tryz.underlying3
 a3:=Tryz.isAgg3
 z3:=Tryz.sizeOf3
 v3:=Tryz.zeroValue3
 t4:=Tryz.underlying4
 a4:=Tryz.isAgg4
 z4:=Tryz.sizeOf4
 v4:=Tryz.zeroValue4
 t5:=Tryz.underlying5
 a5:=Tryz.isAgg5
 z5:=Tryz.sizeOf5
 v5:=Tryz.zeroValue5
 t9:=Tryz.underlying9
 a9:=Tryz.isAgg9
 z9:=Tryz.sizeOf9
 v9:=Tryz.zeroValue9
 t46:=Tryz.underlying126
 a46:=Tryz.isAgg126
 z46:=Tryz.sizeOf126
 v46:=Tryz.zeroValue126
 t51:=Tryz.underlying54
 a51:=Tryz.isAgg54
 z51:=Tryz.sizeOf54
 v51:=Tryz.zeroValue54
 t59:=Tryz.underlying76
 a59:=Tryz.isAgg76
 z59:=Tryz.sizeOf76
 v59:=Tryz.zeroValue76
 t146:=Tryz.underlying167
 a146:=Tryz.isAgg167
 z146:=Tryz.sizeOf167
 v146:=Tryz.zeroValue167
 g1:=by kernel_rfl }
def Tryz.lays138_ren:Go.Shelf.Ren:=⟨fun | 138=>124 | 195=>105 | 218=>140 | 143=>116 | 219=>69 | 217=>70 | 225=>73 | 224=>72 | 267=>98 | 266=>99 | 314=>120 | n=>n,fun | 9=>9 | 3=>3 | 4=>4 | 5=>5 | 0=>0 | 46=>126 | 146=>167 | 51=>54 | n=>n,fun | 1=>0 | n=>n⟩
theorem Tryz.lays138:Go.Proofs.Lays.n138 Tryz.prog Tryz.lays138_ren:={
 mixed:=by kernel_rfl
 f138:=Tryz.func124.trans (congrArg some (by kernel_rfl))
 f143:=Tryz.func116.trans (congrArg some (by kernel_rfl))
 f195:=Tryz.func105.trans (congrArg some (by kernel_rfl))
 f217:=Tryz.func70.trans (congrArg some (by kernel_rfl))
 f218:=Tryz.func140.trans (congrArg some (by kernel_rfl))
 f219:=Tryz.func69.trans (congrArg some (by kernel_rfl))
 f224:=Tryz.func72.trans (congrArg some (by kernel_rfl))
 f225:=Tryz.func73.trans (congrArg some (by kernel_rfl))
 f266:=Tryz.func99.trans (congrArg some (by kernel_rfl))
 f267:=Tryz.func98.trans (congrArg some (by kernel_rfl))
 f314:=Tryz.func120.trans (congrArg some (by kernel_rfl))
 t0:=Tryz.underlying0
 a0:=Tryz.isAgg0
 z0:=Tryz.sizeOf0
 v0:=Tryz.zeroValue0
 t3:=Tryz.underlying3
 a3:=Tryz.isAgg3
 z3:=Tryz.sizeOf3
 v3:=Tryz.zeroValue3
 t4:=Tryz.underlying4
 a4:=Tryz.isAgg4
 z4:=Tryz.sizeOf4
 v4:=Tryz.zeroValue4
 t5:=Tryz.underlying5
 a5:=Tryz.isAgg5
 z5:=Tryz.sizeOf5
 v5:=Tryz.zeroValue5
 t9:=Tryz.underlying9
 a9:=Tryz.isAgg9
 z9:=Tryz.sizeOf9
 v9:=Tryz.zeroValue9
 t46:=Tryz.underlying126
 a46:=Tryz.isAgg126
 z46:=Tryz.sizeOf126
 v46:=Tryz.zeroValue126
 t51:=Tryz.underlying54
 a51:=Tryz.isAgg54
 z51:=Tryz.sizeOf54
 v51:=Tryz.zeroValue54
 t146:=Tryz.underlying167
 a146:=Tryz.isAgg167
 z146:=Tryz.sizeOf167
 v146:=Tryz.zeroValue167
 g1:=by kernel_rfl }
def Tryz.lays196_ren:Go.Shelf.Ren:=⟨fun | 196=>104 | 259=>125 | n=>n,fun | 9=>9 | 4=>4 | 3=>3 | 5=>5 | 12=>12 | 119=>173 | 0=>0 | 46=>126 | 139=>176 | 138=>175 | 53=>181 | n=>n,fun | 3=>1 | 4=>2 | n=>n⟩
theorem Tryz.lays196:Go.Proofs.Lays.n196 Tryz.prog Tryz.lays196_ren:={
 mixed:=by kernel_rfl
 f196:=Tryz.func104.trans (congrArg some (by kernel_rfl))
 f259:=Tryz.func125.trans (congrArg some (by kernel_rfl))
 t0:=Tryz.underlying0
 a0:=Tryz.isAgg0
 z0:=Tryz.sizeOf0
 v0:=Tryz.zeroValue0
 t3:=Tryz.underlying3
 a3:=Tryz.isAgg3
 z3:=Tryz.sizeOf3
 v3:=Tryz.zeroValue3
 t4:=Tryz.underlying4
 a4:=Tryz.isAgg4
 z4:=Tryz.sizeOf4
 v4:=Tryz.zeroValue4
 t5:=Tryz.underlying5
 a5:=Tryz.isAgg5
 z5:=Tryz.sizeOf5
 v5:=Tryz.zeroValue5
 t9:=Tryz.underlying9
 a9:=Tryz.isAgg9
 z9:=Tryz.sizeOf9
 v9:=Tryz.zeroValue9
 t12:=Tryz.underlying12
 a12:=Tryz.isAgg12
 z12:=Tryz.sizeOf12
 v12:=Tryz.zeroValue12
 t46:=Tryz.underlying126
 a46:=Tryz.isAgg126
 z46:=Tryz.sizeOf126
 v46:=Tryz.zeroValue126
 t53:=Tryz.underlying181
 a53:=Tryz.isAgg181
 z53:=Tryz.sizeOf181
 v53:=Tryz.zeroValue181
 t119:=Tryz.underlying173
 a119:=Tryz.isAgg173
 z119:=Tryz.sizeOf173
 t138:=Tryz.underlying175
 a138:=Tryz.isAgg175
 z138:=Tryz.sizeOf175
 v138:=Tryz.zeroValue175
 t139:=Tryz.underlying176
 a139:=Tryz.isAgg176
 z139:=Tryz.sizeOf176
 v139:=Tryz.zeroValue176
 g3:=by kernel_rfl
 g4:=by kernel_rfl }
def Tryz.lays2_21_ren:Go.Shelf.Ren:=⟨fun | 21=>152 | 27=>157 | 28=>158 | 35=>159 | 39=>160 | n=>n,fun | 22=>147 | 3=>3 | 4=>4 | 0=>0 | n=>n,fun | n=>n⟩
theorem Tryz.lays2_21:Go.Proofs.Lays2.n21 Tryz.prog Tryz.lays2_21_ren:={
 mixed:=by kernel_rfl
 f21:=Tryz.func152.trans (congrArg some (by kernel_rfl))
 f27:=Tryz.func157.trans (congrArg some (by kernel_rfl))
 f28:=Tryz.func158.trans (congrArg some (by kernel_rfl))
 f35:=Tryz.func159.trans (congrArg some (by kernel_rfl))
 f39:=Tryz.func160.trans (congrArg some (by kernel_rfl))
 t0:=Tryz.underlying0
 a0:=Tryz.isAgg0
 z0:=Tryz.sizeOf0
 v0:=Tryz.zeroValue0
 t3:=Tryz.underlying3
 a3:=Tryz.isAgg3
 z3:=Tryz.sizeOf3
 v3:=Tryz.zeroValue3
 t4:=Tryz.underlying4
 a4:=Tryz.isAgg4
 z4:=Tryz.sizeOf4
 v4:=Tryz.zeroValue4
 t22:=Tryz.underlying147
 a22:=Tryz.isAgg147
 z22:=Tryz.sizeOf147
 v22:=Tryz.zeroValue147
 i3:=by kernel_rfl }
def Tryz.lays7_27_ren:Go.Shelf.Ren:=⟨fun | 27=>150 | 28=>154 | 29=>155 | n=>n,fun | 25=>126 | 3=>3 | 27=>54 | 22=>181 | 4=>4 | 53=>207 | 0=>0 | 5=>5 | 54=>208 | n=>n,fun | 0=>4 | 1=>5 | n=>n⟩
theorem Tryz.lays7_27:Go.Proofs.Lays7.n27 Tryz.prog Tryz.lays7_27_ren:={
 mixed:=by kernel_rfl
 f27:=Tryz.func150.trans (congrArg some (by kernel_rfl))
 f28:=Tryz.func154.trans (congrArg some (by kernel_rfl))
 f29:=Tryz.func155.trans (congrArg some (by kernel_rfl))
 t0:=Tryz.underlying0
 a0:=Tryz.isAgg0
 z0:=Tryz.sizeOf0
 v0:=Tryz.zeroValue0
 i0:=by kernel_rfl
 t3:=Tryz.underlying3
 a3:=Tryz.isAgg3
 z3:=Tryz.sizeOf3
 v3:=Tryz.zeroValue3
 i3:=by kernel_rfl
 t4:=Tryz.underlying4
 a4:=Tryz.isAgg4
 z4:=Tryz.sizeOf4
 v4:=Tryz.zeroValue4
 i4:=by kernel_rfl
 t5:=Tryz.underlying5
 a5:=Tryz.isAgg5
 z5:=Tryz.sizeOf5
 v5:=Tryz.zeroValue5
 i5:=by kernel_rfl
 t22:=Tryz.underlying181
 a22:=Tryz.isAgg181
 z22:=Tryz.sizeOf181
 v22:=Tryz.zeroValue181
 i22:=by kernel_rfl
 t25:=Tryz.underlying126
 a25:=Tryz.isAgg126
 z25:=Tryz.sizeOf126
 v25:=Tryz.zeroValue126
 i25:=by kernel_rfl
 t27:=Tryz.underlying54
 a27:=Tryz.isAgg54
 z27:=Tryz.sizeOf54
 v27:=Tryz.zeroValue54
 i27:=by kernel_rfl
 t53:=Tryz.underlying207
 a53:=Tryz.isAgg207
 z53:=Tryz.sizeOf207
 v53:=Tryz.zeroValue207
 i53:=by kernel_rfl
 t54:=Tryz.underlying208
 a54:=Tryz.isAgg208
 z54:=Tryz.sizeOf208
 g0:=by kernel_rfl
 g1:=by kernel_rfl }
def Tryz.lays137_ren:Go.Shelf.Ren:=⟨fun | 137=>46 | 217=>70 | 266=>99 | n=>n,fun | 9=>9 | 5=>5 | 3=>3 | n=>n,fun | n=>n⟩
theorem Tryz.lays137:Go.Proofs.Lays.n137 Tryz.prog Tryz.lays137_ren:={
 mixed:=by kernel_rfl
 f137:=Tryz.func46.trans (congrArg some (by kernel_rfl))
 f217:=Tryz.func70.trans (congrArg some (by kernel_rfl))
 f266:=Tryz.func99.trans (congrArg some (by kernel_rfl))
 t3:=Tryz.underlying3
 a3:=Tryz.isAgg3
 z3:=Tryz.sizeOf3
 v3:=Tryz.zeroValue3
 t5:=Tryz.underlying5
 a5:=Tryz.isAgg5
 z5:=Tryz.sizeOf5
 v5:=Tryz.zeroValue5
 t9:=Tryz.underlying9
 a9:=Tryz.isAgg9
 z9:=Tryz.sizeOf9
 v9:=Tryz.zeroValue9 }
def Tryz.lays153_ren:Go.Shelf.Ren:=⟨fun | 153=>30 | 152=>49 | 226=>50 | 227=>51 | 228=>52 | 137=>46 | 119=>71 | 224=>72 | 225=>73 | 217=>70 | 266=>99 | n=>n,fun | 9=>9 | 3=>3 | 4=>4 | 5=>5 | 21=>21 | 117=>103 | 116=>102 | 0=>0 | 46=>126 | 124=>127 | n=>n,fun | n=>n⟩
theorem Tryz.lays153:Go.Proofs.Lays.n153 Tryz.prog Tryz.lays153_ren:={
 mixed:=by kernel_rfl
 f119:=Tryz.func71.trans (congrArg some (by kernel_rfl))
 f137:=Tryz.func46.trans (congrArg some (by kernel_rfl))
 f152:=Tryz.func49.trans (congrArg some (by kernel_rfl))
 f153:=Tryz.func30.trans (congrArg some (by kernel_rfl))
 f217:=Tryz.func70.trans (congrArg some (by kernel_rfl))
 f224:=Tryz.func72.trans (congrArg some (by kernel_rfl))
 f225:=Tryz.func73.trans (congrArg some (by kernel_rfl))
 f226:=Tryz.func50.trans (congrArg some (by kernel_rfl))
 f227:=Tryz.func51.trans (congrArg some (by kernel_rfl))
 f228:=Tryz.func52.trans (congrArg some (by kernel_rfl))
 f266:=Tryz.func99.trans (congrArg some (by kernel_rfl))
 t0:=Tryz.underlying0
 a0:=Tryz.isAgg0
 z0:=Tryz.sizeOf0
 v0:=Tryz.zeroValue0
 t3:=Tryz.underlying3
 a3:=Tryz.isAgg3
 z3:=Tryz.sizeOf3
 v3:=Tryz.zeroValue3
 t4:=Tryz.underlying4
 a4:=Tryz.isAgg4
 z4:=Tryz.sizeOf4
 v4:=Tryz.zeroValue4
 t5:=Tryz.underlying5
 a5:=Tryz.isAgg5
 z5:=Tryz.sizeOf5
 v5:=Tryz.zeroValue5
 t9:=Tryz.underlying9
 a9:=Tryz.isAgg9
 z9:=Tryz.sizeOf9
 v9:=Tryz.zeroValue9
 t21:=Tryz.underlying21
 a21:=Tryz.isAgg21
 z21:=Tryz.sizeOf21
 v21:=Tryz.zeroValue21
 t46:=Tryz.underlying126
 a46:=Tryz.isAgg126
 z46:=Tryz.sizeOf126
 v46:=Tryz.zeroValue126
 t116:=Tryz.underlying102
 a116:=Tryz.isAgg102
 z116:=Tryz.sizeOf102
 t117:=Tryz.underlying103
 a117:=Tryz.isAgg103
 z117:=Tryz.sizeOf103
 v117:=Tryz.zeroValue103
 t124:=Tryz.underlying127
 a124:=Tryz.isAgg127
 z124:=Tryz.sizeOf127
 v124:=Tryz.zeroValue127 }
end Go.Proofs
namespace Go.Proofs.YthcoijldbdfboaaGreatDoor.E
set_option linter.all false
section
open Go Go.Proofs Go.Sort
set_option maxRecDepth 100000
theorem KR {C:Cfg} {St:Nat->Prop} {w:World} {g:Nat} {k:IntKind} {zs:List Int} (hG:GOK C St w) (hc:C.G=GX) (h:GX.tab g=some (k,zs)):∃ e x,w.heap[g]? = some (.cells (zs.map λz=>Value.int k z).toArray e x):=(hG.1 g k zs (by rw [hc];exact h)).2
theorem Bb3 {C:Cfg} {St:Nat->Prop} {w:World} (hG:GOK C St w) (hc:C.G=GX):∃ m,w.cell? ⟨0,0,none⟩=some (.int .i64 m):=(hG.2 _ (by rw [hc];rfl)).2
theorem Ws {w:World} {g:Nat} {zs:List Int} {k:IntKind} {e:TypeId} {x} (h:w.heap[g]? = some (.cells (zs.map λz=>Value.int k z).toArray e x)) (i:Nat) (hi:i<zs.length):w.cell? ⟨g,i,none⟩=some (.int k (zs.getD i 0)):=by
 simp [World.cell?,h,List.getD_eq_getElem?_getD,List.getElem?_eq_getElem hi]
theorem Bt9 {C:Cfg} {St:Nat->Prop} {w:World} (hG:GOK C St w) (hc:C.G=GX):Lib.Utf8Tabs 1 2 w:=by
 obtain ⟨e1,x1,h1⟩:=KR (g:=1) (k:=.u8) (zs:=Lib.firstTab) hG hc rfl
 obtain ⟨e2,x2,h2⟩:=KR (g:=2) (k:=.u8) (zs:=Cq) hG hc rfl
 refine ⟨λc hc=>?_,λi hi=>⟨?_,?_⟩⟩
 ·rw [Ws h1 c (by simp [Lib.firstTab];omega)]
  simp [Lib.firstTab,List.getD_eq_getElem?_getD,List.getElem?_eq_getElem,hc]
 ·rw [Ws h2 (2*i) (by simp [Cq];omega)]
  have:2*i<32:=by omega
  simp [Cq,List.getD_eq_getElem?_getD,this]
 ·rw [Ws h2 (2*i+1) (by simp [Cq];omega)]
  have:2*i+1<32:=by omega
  have e:(2*i+1) / 2=i:=by omega
  have e2:¬ (2*i+1) % 2=0:=by omega
  simp [Cq,List.getD_eq_getElem?_getD,this,e,e2]
theorem Bb4 {C:Cfg} {St:Nat->Prop} {w:World} (hG:GOK C St w) (hc:C.G=GX):Lib.TabIs Tryz.prog w "internal/strconv.uint64pow10" .u64 Lib.pow10Tab:=by
 obtain ⟨e1,x1,h1⟩:=KR (g:=3) (k:=.u64) (zs:=Lib.pow10Tab) hG hc rfl
 unfold Lib.TabIs World.var?
 rw [show Tryz.prog.globalNamed "internal/strconv.uint64pow10" = some 3 by kernel_rfl]
 simp only [Option.bind_some,h1]
theorem Ah0:A7 Tryz.prog GX 116 Yg:=by
 refine A7.fix (pf:=IP) _ (F3 (fn:=Tryz.f116) (by kernel_rfl) (by kernel_rfl) (by kernel_rfl) ?_)
 intro args ret Hc h
 unfold IP at h
 split at h
 ·rename_i s p
  obtain ⟨h0,h⟩:=B6 h
  obtain ⟨rfl,rfl⟩:=E6 h
  refine ⟨rfl,rfl,λC hP hCG Γ w Vs hG hlt hc=>?_⟩
  obtain ⟨U,V,rfl,hu,hv⟩:=hc.arr2
  obtain ⟨s',rfl,rfl⟩:=hu.inv_str
  obtain ⟨p',rfl,rfl⟩:=hv.inv_str
  obtain ⟨m,hm⟩:=Bb3 hG hCG
  have hs:=N5 h0
  refine (Any.strings_Index Tryz.lays143 s' p' m w (by simp at hs;omega) hm).mono ?_
  rintro e w' ⟨rfl,rfl⟩
  exact ⟨_,rfl,RowKit.Below.refl _ _,VP.mk_int _ _⟩
 ·cases h
theorem Ag9:A7 Tryz.prog GX 25 Yf:=by
 refine A7.fix (pf:=IO) _ (F3 (fn:=Tryz.f25) (by kernel_rfl) (by kernel_rfl) (by kernel_rfl) ?_)
 intro args ret Hc h
 unfold IO at h
 split at h
 ·rename_i s p
  obtain ⟨h0,h⟩:=B6 h
  obtain ⟨rfl,rfl⟩:=E6 h
  refine ⟨rfl,rfl,λC hP hCG Γ w Vs hG hlt hc=>?_⟩
  obtain ⟨U,V,rfl,hu,hv⟩:=hc.arr2
  obtain ⟨s',rfl,rfl⟩:=hu.inv_str
  obtain ⟨p',rfl,rfl⟩:=hv.inv_str
  obtain ⟨m,hm⟩:=Bb3 hG hCG
  have hs:=N5 h0
  refine (Any.strings_Cut Tryz.lays145 s' p' m w (by simp at hs;omega) hm).mono ?_
  rintro e w' ⟨rfl,n,rfl⟩
  exact ⟨_,rfl,Iz _ _,VP.mk_tup3 (VP.mk_str _) (VP.mk_str _) (VP.mk_bool _)⟩
 ·cases h
theorem Bn9:A7 Tryz.prog GX 124 UY:=by
 refine A7.fix (pf:=IN) _ (F3 (fn:=Tryz.f124) (by kernel_rfl) (by kernel_rfl) (by kernel_rfl) ?_)
 intro args ret Hc h
 unfold IN at h
 split at h
 ·rename_i s p
  obtain ⟨h0,h⟩:=B6 h
  obtain ⟨rfl,rfl⟩:=E6 h
  refine ⟨rfl,rfl,λC hP hCG Γ w Vs hG hlt hc=>?_⟩
  obtain ⟨U,V,rfl,hu,hv⟩:=hc.arr2
  obtain ⟨s',rfl,rfl⟩:=hu.inv_str
  obtain ⟨p',rfl,hp⟩:=hv.inv_str
  obtain ⟨c,rfl⟩:∃ c,p=[c]:=by
   match p,h0 with
   | [c],_=>exact ⟨c,rfl⟩
  have hp':p'=⟨#[c]⟩:=by
   cases p' with
   | mk d=>congr 1;exact Array.toList_inj.1 hp
  subst hp'
  refine (Any.strings_Count_one Tryz.lays138 s' c w).mono ?_
  rintro e w' ⟨rfl,rfl⟩
  exact ⟨_,rfl,RowKit.Below.refl _ _,VP.mk_int _ _⟩
 ·cases h
theorem Bn0:A7 Tryz.prog GX 59 UO:=by
 refine A7.fix (pf:=HN) _ (F3 (fn:=Tryz.f59) (by kernel_rfl) (by kernel_rfl) (by kernel_rfl) ?_)
 intro args ret Hc h
 unfold HN at h
 split at h
 ·rename_i n
  obtain ⟨h0,h⟩:=B6 h
  obtain ⟨rfl,rfl⟩:=E6 h
  refine ⟨rfl,rfl,λC hP hCG Γ w Vs hG hlt hc=>?_⟩
  obtain ⟨U,rfl,hu⟩:=hc.arr1
  obtain rfl:=hu.inv_int
  obtain ⟨hb0,hb1⟩:=D2.1 h0
  refine (Any.strconv_Itoa Tryz.laysM171 n (by omega) (by omega) w (Bb4 hG hCG)).mono ?_
  rintro e w' ⟨rfl,k,os,rfl⟩
  refine ⟨_,rfl,(Iz w k).trans (show RowKit.Below w.heap.size _ _ from Zc (w.drewN k) os),?_⟩
  have:Lib.itoa n=Lib.decDigits n.toNat:=by unfold Lib.itoa;rw [P5]
  rw [this]
  exact VP.mk_str _
 ·cases h
theorem Qo {l:LL} (h:l.all isS=true):l=C5 (l.map elS):=by
 unfold C5
 rw [List.map_map]
 symm
 rw [List.map_congr_left (g:=id)]
 ·simp
 ·intro x hx
  have:=List.all_eq_true.1 h x hx
  unfold isS at this
  split at this
  ·rfl
  grind
theorem Ap8:A7 Tryz.prog GX 81 IS:=by
 refine A7.fix (pf:=Yk) _ (F3 (fn:=Tryz.f81) (by kernel_rfl) (by kernel_rfl) (by kernel_rfl) ?_)
 intro args ret Hc h
 unfold Yk at h
 split at h
 ·rename_i z t l p
  obtain ⟨h0,h⟩:=B6 h
  obtain ⟨h1,h⟩:=B6 h
  obtain ⟨h2,h⟩:=B6 h
  obtain ⟨rfl,rfl⟩:=E6 h
  refine ⟨rfl,rfl,λC hP hCG Γ w Vs hG hlt hc=>?_⟩
  obtain ⟨U,V,rfl,hu,hv⟩:=hc.arr2
  obtain ⟨p',rfl,rfl⟩:=hv.inv_str
  have hlen:=N5 h1
  have hn:=N5 h2
  have hs:=hu.inv_s
  have none':∀ (a:Option Addr) (cap:Nat),l=[]->Calls Tryz.prog 81 #[.slice a 0 cap,.string p'] w λe w'=>∃ V,e = .returned V/\RowKit.Below w.heap.size w w'/\VP Γ (A1 []) w' (.s (.str (Lib.join (l.map elS) p'.data.toList))) V:=by
   intro a cap hl
   subst hl
   refine (Any.strings_Join_none Tryz.lays156 Tryz.Builder_Extra_156 a cap p' w).mono ?_
   rintro e w' ⟨rfl,rfl⟩
   exact ⟨_,rfl,RowKit.Below.refl _ _,VP.mk_str _⟩
  cases hs with
  | nil=>exact none' _ _ rfl
  | emp=>exact none' _ _ rfl
  | sl _ _ g off n cap sz Vc hn' hcap hm ht hg hl' hcl hvl=>
   subst hn'
   have hrow:=Qo h0
   have hsz:∀ i (h:i<l.length),∃ b:ByteArray,(l[i])=[SV.str b.data.toList]/\w.cell? ⟨g,off+i,none⟩=some (.string b):=by
    intro i hi
    have hx:=List.all_eq_true.1 h0 (l[i]) (List.getElem_mem hi)
    unfold isS at hx
    split at hx
    ·rename_i x he
     have hc1:=hcl i hi 0 (by rw [he];simp)
     have hv1:=hvl i hi 0 (by rw [he];simp)
     simp only [he,List.getElem_cons_zero] at hv1
     obtain ⟨b,hb,rfl⟩:=hv1.inv_str
     rw [hb] at hc1
     exact ⟨b,he,by simpa using hc1⟩
    ·cases hx
   obtain ⟨xs,hxs,hcx⟩:∃ xs:List ByteArray,xs.map (·.data.toList)=l.map elS/\∀ (j:Nat) x,xs[j]? = some x->w.cell? ⟨g,off+j,none⟩=some (.string x):=by
    refine ⟨(l.map elS).map λs=>⟨s.toArray⟩,by simp [Function.comp_def],?_⟩
    intro j x hx
    simp only [List.getElem?_map] at hx
    cases hj:l[j]? with
    | none=>simp [hj] at hx
    | some el=>
     obtain ⟨hj1,rfl⟩:=List.getElem?_eq_some_iff.1 hj
     obtain ⟨b,hb,hc2⟩:=hsz j hj1
     simp only [hj,Option.map_some,Option.some.injEq] at hx
     rw [hb] at hx
     simp [elS,SV.gS] at hx
     rw [<-hx]
     exact hc2
   have hll:xs.length=l.length:=by
    have:=congrArg List.length hxs
    simpa using this
   rw [<-hxs] at hlen ⊢
   have hb:g<w.heap.size:=hlt g hg
   have hmx:l.length<=140737488355328:=by omega
   refine (hll ▸ Any.strings_Join Tryz.lays156 Tryz.Builder_Extra_156 g off cap xs p' w hcx hb (by omega) (by omega) (by omega)).mono ?_
   rintro e w' ⟨rfl,hw⟩
   exact ⟨_,rfl,hw,VP.mk_str _⟩
 ·cases h
theorem Ck4 (x:Nat) (h:x<65536):VO .u64 (x:Int) 15=((x % 16:Nat):Int):=by
 unfold VO
 rw [show IntKind.bits .u64=64 from rfl,show (15:Int)=((15:Nat):Int) from rfl,B89 64 x 15 (by omega) (by omega),show x &&& 15=x % 16 from Nat.and_two_pow_sub_one_eq_mod x 4]
 exact NJ (by omega) (by omega)
theorem Co1 (x:Nat):DI .u64 (x:Int) 4=((x / 16:Nat):Int):=by
 unfold DI
 show Int.fdiv (x:Int) 16=_
 grind
theorem Ak2 (d:Nat) (h:d<16):bAt (([48,49,50,51,52,53,54,55,56,57,97,98,99,100,101,102,103,104,105,106,107,108,109,110,111,112,113,114,115,116]:List UInt8)++([117,118,119,120,121,122]:List UInt8)) (d:Int)=((Wa d).toNat:Int):=by
 have:∀ d:Fin 16,bAt (([48,49,50,51,52,53,54,55,56,57,97,98,99,100,101,102,103,104,105,106,107,108,109,110,111,112,113,114,115,116]:List UInt8)++([117,118,119,120,121,122]:List UInt8)) (d.val:Int)=((Wa d.val).toNat:Int):=by decide
 exact this ⟨d,h⟩
def Mz (i:Nat) (s:By):LL:=List.replicate i [SV.int .u8 0]++s.map G0
theorem Zv (i:Nat) (s:By):(Mz i s).length=i+s.length:=by simp [Mz]
theorem PI (i:Nat) (s:By) (c:UInt8):List.set (Mz (i+1) s) i (E0 (List.getD (Mz (i+1) s) i []) 0 [SV.int .u8 (c.toNat:Int)])=Mz i (c::s):=by
 have hg:List.getD (Mz (i+1) s) i []=[SV.int .u8 0]:=by
  unfold Mz
  grind
 rw [hg]
 unfold Mz
 rw [List.replicate_succ',List.append_assoc,List.set_append_right _ _ (by simp),List.length_replicate,Nat.sub_self]
 rfl
theorem XQ {R:Type} (z t:Bool) (l:LL) {k0:Bool->Bool->LL->Int->Int->LL->Option R}:∀ (v i n:Nat) (s:By),v<65536->v<n->i+s.length=65->(X6 v).length+s.length<=60->
  ∃ (u i':Nat) (s':By),u<16/\Wa u::s'=X6 v++s/\i'+s'.length=65/\Fx LF n z t l (v:Int) (i:Int) (Mz i s) k0=k0 z t l (u:Int) (i':Int) (Mz i' s'):=by
 intro v
 induction v using Nat.strongRecOn with
 | _ v ih=>
  intro i n s hv hn hs hb
  obtain ⟨n,rfl⟩:∃ m,n=m+1:=⟨n-1,by omega⟩
  rw [Fx]
  by_cases h:v<16
  ·refine ⟨v,i,s,h,by rw [Jj h];rfl,hs,?_⟩
   rw [B4]
   rfl
  ·have hm:=Lb h
   have hlen:(X6 v).length=(X6 (v / 16)).length+1:=by rw [hm];simp
   obtain ⟨j,rfl⟩:∃ j,i=j+1:=⟨i-1,by omega⟩
   have e1:A4 (((j+1:Nat):Int)-1)=(j:Int):=by rw [A8];omega
   obtain ⟨u,i',s',h1,h2,h3,h4⟩:=ih (v / 16) (by omega) j n (Wa (v % 16)::s) (by omega) (by omega) (by rw [List.length_cons];omega) (by rw [List.length_cons];omega)
   refine ⟨u,i',s',h1,by rw [h2,hm];simp,h3,?_⟩
   rw [A6,Bool.not_false,cond_true,Ck4 v hv]
   simp only [vl]
   rw [Co1,e1,Int.toNat_natCast,J2,Ak2 _ (by omega),J2]
   simp only [cond_true]
   rw [PI,Zv,show (decide (j<j+1+s.length))=true from decide_eq_true (by omega)]
   exact h4
theorem At0 {R:Type} {k0:By->LL->Option R} (z t:Bool) (l:LL) (v:Int) (h0:ltN v 65536=true):∃ l',PS LF z t l v k0=k0 (X6 v.toNat) l':=by
 obtain ⟨hb0,hb1⟩:=D2.1 h0
 obtain ⟨v,rfl⟩:=Int.eq_ofNat_of_zero_le hb0
 have hLF:=F6
 have hl:=QK v (by omega)
 rw [Int.toNat_natCast]
 unfold PS
 have hr:(List.replicate 65 [SV.int .u8 (0:Int)])=Mz 65 []:=by unfold Mz;rw [List.map_nil,List.append_nil]
 rw [hr]
 obtain ⟨u,i,s,h1,h2,h3,h4⟩:=XQ (R:=R) z t l v 65 LF [] (by omega) (by omega) rfl (by rw [List.length_nil];omega)
 rw [List.append_nil] at h2
 have hls:s.length<=3:=by have:=congrArg List.length h2;rw [List.length_cons] at this;omega
 obtain ⟨j,rfl⟩:∃ j,i=j+1:=⟨i-1,by omega⟩
 refine ⟨Mz j (Wa u::s),?_⟩
 rw [show ((16:Int)==16)=true from rfl,cond_true,cond_true]
 refine Eq.trans h4 ?_
 have e1:A4 (((j+1:Nat):Int)-1)=(j:Int):=by rw [A8];omega
 simp only [vl]
 rw [e1,Int.toNat_natCast,J2,Ak2 u h1,J2]
 simp only [cond_true]
 have hlen:(Wa u::s).length=s.length+1:=rfl
 have hcut:((Mz j (Wa u::s)).drop j).take (65-j)=(Wa u::s).map G0:=by
  unfold Mz
  rw [List.drop_left' (by simp),List.take_of_length_le (by rw [List.length_map,hlen];omega)]
 rw [PI,Zv,Zv,show (decide (j<j+1+s.length))=true from decide_eq_true (by omega),hlen,show (decide (j+(s.length+1)=65))=true from decide_eq_true (by omega),M7,hcut,Iv,Jr,h2]
 rfl
theorem XR (z t:Bool) (l:LL) (v:Int) (h0:ltN v 65536=true):∃ r H,PS LF z t l v (λr0 l1=>rv (.tup [.fl 0,.s (.str r0)]) [.arr true 5 1 [],.arr false 201 1 l1])=rv r H/\r.stab [1,0] H = .tup [.s (.sl true true 1 []),.s (.str (X6 v.toNat))]:=by
 obtain ⟨l',e⟩:=At0 (k0:=(λr0 l1=>rv (.tup [.fl 0,.s (.str r0)]) [.arr true 5 1 [],.arr false 201 1 l1])) z t l v h0
 exact ⟨_,_,e,rfl⟩
theorem At2 {C:Cfg} {St:Nat->Prop} {w:World} (hG:GOK C St w) (hc:C.G=GX):TabAt 5 Lib.deBruijn64tab w:=by
 obtain ⟨e1,x1,h1⟩:=KR (g:=5) (k:=.u8) (zs:=Lib.deBruijn64tab.map λn:Nat=>(n:Int)) hG hc rfl
 intro j hj
 rw [Ws h1 j (by rw [List.length_map];exact hj)]
 simp [List.getD_eq_getElem?_getD,List.getElem?_eq_getElem hj]
theorem Co2:A7 Tryz.prog GX 150 B99:=by
 refine A7.fix (pf:=A62) _ (F3 (fn:=Tryz.f150) (by kernel_rfl) (by kernel_rfl) (by kernel_rfl) ?_)
 intro args ret Hc h
 unfold A62 at h
 split at h
 ·rename_i x
  obtain ⟨h0,h⟩:=B6 h
  obtain ⟨rfl,rfl⟩:=E6 h
  obtain rfl:x=16:=eq_of_beq h0
  refine ⟨rfl,rfl,λC hP hCG Γ w Vs hG hlt hc=>?_⟩
  obtain ⟨U,rfl,hu⟩:=hc.arr1
  obtain rfl:=hu.inv_int
  refine (Any7.bits_TrailingZeros Tryz.lays7_27 16 (by omega) w (λ_=>At2 hG hCG)).mono ?_
  rintro e w' ⟨rfl,rfl⟩
  exact ⟨_,rfl,RowKit.Below.refl _ _,VP.mk_int _ _⟩
 ·cases h
theorem B52:A7 Tryz.prog GX 149 HM:=by
 refine A7.fix (pf:=Xp) _ (F5 [] (C₀:=JP LF) (G8.ok (l:=[]) rfl trivial) (D4 rfl (by kernel_rfl)) follows ?_)
 intro args ret Hc h
 unfold Xp at h
 split at h
 ·rename_i x
  obtain ⟨h0,h⟩:=B6 h
  obtain ⟨rfl,rfl⟩:=E6 h
  obtain rfl:x=16:=eq_of_beq h0
  exact ⟨rfl,rfl,rfl,1,_,_,Bd0 LF noY () 0,rfl⟩
 ·cases h
theorem B48:A7 Tryz.prog GX 135 GV:=by
 refine A7.fix (pf:=Xk) _ (F5 [1,0] (C₀:=Ef LF) (G8.ok (l:=[(149,HM),(150,B99)]) rfl ⟨B52,Co2,trivial⟩) (D4 rfl (by kernel_rfl)) follows ?_)
 intro args ret Hc h
 unfold Xk at h
 split at h
 ·rename_i ds_z ds_t ds v b neg app
  obtain ⟨h0,h⟩:=B6 h
  obtain ⟨h1,h⟩:=B6 h
  obtain ⟨h2,h⟩:=B6 h
  obtain ⟨h3,h⟩:=B6 h
  obtain ⟨rfl,rfl⟩:=E6 h
  obtain rfl:b=16:=eq_of_beq h1
  obtain rfl:neg=false:=by simpa using h2
  obtain rfl:app=false:=by simpa using h3
  obtain ⟨r,H,e,hs⟩:=XR ds_z ds_t ds v h0
  exact ⟨rfl,rfl,rfl,1,r,H,(Ba6 LF noY () 0 ds_z ds_t ds v).trans e,hs⟩
 ·cases h
theorem B51:A7 Tryz.prog GX 145 HL:=by
 refine A7.fix (pf:=Xo) _ (F5 [] (C₀:=JO LF) (G8.ok (l:=[(135,GV)]) rfl ⟨B48,trivial⟩) (D4 rfl (by kernel_rfl)) follows ?_)
 intro args ret Hc h
 unfold Xo at h
 split at h
 ·rename_i v b
  obtain ⟨h0,h⟩:=B6 h
  obtain ⟨h1,h⟩:=B6 h
  obtain ⟨rfl,rfl⟩:=E6 h
  obtain rfl:b=16:=eq_of_beq h1
  have e:Al5 LF v (λr0=>rv (.s (.str r0)) [])=rv (.s (.str (X6 v.toNat))) []:=by
   unfold Al5
   rw [h0]
   rfl
  exact ⟨rfl,rfl,rfl,1,_,_,(Bc5 LF noY () 0 v).trans e,rfl⟩
 ·cases h
theorem Ch1:A7 Tryz.prog GX 131 A50:=by
 refine A7.fix (pf:=GY) _ (F5 [] (C₀:=WB LF) (G8.ok (l:=[(145,HL)]) rfl ⟨B51,trivial⟩) (D4 rfl (by kernel_rfl)) follows ?_)
 intro args ret Hc h
 unfold GY at h
 split at h
 ·rename_i v b
  obtain ⟨h0,h⟩:=B6 h
  obtain ⟨h1,h⟩:=B6 h
  obtain ⟨rfl,rfl⟩:=E6 h
  obtain rfl:b=16:=eq_of_beq h1
  have e:Bt7 LF v (λr0=>rv (.s (.str r0)) [])=rv (.s (.str (X6 v.toNat))) []:=by
   unfold Bt7
   rw [h0]
   rfl
  exact ⟨rfl,rfl,rfl,1,_,_,(Bt8 LF noY () 0 v).trans e,rfl⟩
 ·cases h
end
section
open Go Go.Proofs
theorem Cg1 (z t:Bool) (l:LL) (h0:l.all Pe=true) (h1:Nat.ble l.length 8=true):∃ r H,v6j LF z t l (λr0 l1=>rv (.s (.str r0)) [.arr true 9 1 l1])=rv r H/\r.stab [] H = .s (.str (Ay (l.map elN))):=by
 obtain ⟨l',e⟩:=Bl8 (k0:=(λr0 l1=>rv (.s (.str r0)) [.arr true 9 1 l1])) z t l h0 h1
 exact ⟨_,_,e,rfl⟩
theorem Cf9 (a0 a1 a2 a3 a4 a5 a6 a7:Int) (h0:ok8 a0 a1 a2 a3 a4 a5 a6 a7=true):∃ r H,v6f LF a0 a1 a2 a3 a4 a5 a6 a7 (λr0 l1=>rv (.s (.str r0)) [.arr false 56 1 l1])=rv r H/\r.stab [] H = .s (.str (Vt (n8 a0 a1 a2 a3 a4 a5 a6 a7))):=by
 obtain ⟨l',e⟩:=Bl6 (k0:=(λr0 l1=>rv (.s (.str r0)) [.arr false 56 1 l1])) a0 a1 a2 a3 a4 a5 a6 a7 h0
 exact ⟨_,_,e,rfl⟩
def v6V (s:By):PV:=.tup [.agg [.s (.int .u16 (v6c 0 s)),.s (.int .u16 (v6c 1 s)),.s (.int .u16 (v6c 2 s)),.s (.int .u16 (v6c 3 s)),.s (.int .u16 (v6c 4 s)),.s (.int .u16 (v6c 5 s)),.s (.int .u16 (v6c 6 s)),.s (.int .u16 (v6c 7 s))],.s (.bool (v6B s).isSome)]
theorem Cg4 (s:By) (h0:A2 s.length=true):∃ r H,v6p LF s (λr0 r1 r2 r3 r4 r5 r6 r7 r8 l9 l10=>rv (.tup [.agg [.s (.int .u16 r0),.s (.int .u16 r1),.s (.int .u16 r2),.s (.int .u16 r3),.s (.int .u16 r4),.s (.int .u16 r5),.s (.int .u16 r6),.s (.int .u16 r7)],.s (.bool r8)]) [.arr false 56 1 l9,.arr false 56 1 l10])=rv r H/\r.stab [0,0] H=v6V s:=by
 obtain ⟨l,l',e⟩:=Bl9 (k0:=(λr0 r1 r2 r3 r4 r5 r6 r7 r8 l9 l10=>rv (.tup [.agg [.s (.int .u16 r0),.s (.int .u16 r1),.s (.int .u16 r2),.s (.int .u16 r3),.s (.int .u16 r4),.s (.int .u16 r5),.s (.int .u16 r6),.s (.int .u16 r7)],.s (.bool r8)]) [.arr false 56 1 l9,.arr false 56 1 l10])) s h0
 exact ⟨_,_,e,rfl⟩
set_option maxRecDepth 100000
section
variable {σ R : Type} (lf : Nat) (cl : D3) (yh : Yh σ) (s : σ) (k : Out -> St σ -> Option R)
noncomputable abbrev OR:Code:=D0 Tryz.f55
noncomputable def Ct (lf:Nat):Cfg:=B8 lf [55] (A3 [(16,[2,0,4,41,0,0])]) [(31,Xn),(75,Ah8),(76,A53),(77,Aj1),(62,Ko),(78,A60),(79,DQ),(80,A56),(81,IS)] (A3 [(28,[2,0]),(25,[2,0]),(27,[2,0]),(26,[2,10,64]),(24,[2,10,59]),(23,[2,10]),(22,[2,5,41,0,0]),(21,[2,5,41,0,0]),(20,[2,0]),(19,[2,5,0,1,0,37,0,0,10]),(18,[2,5,0,1,0,37,0,0]),(17,[2,5,0,0,39,0,0]),(16,[2,5,41,0,0,0]),(15,[2,5,41,0,0]),(14,[2,5]),(13,[2,0]),(12,[2,0]),(11,[2,3,37]),(10,[2,3,0]),(9,[2,1,32]),(8,[2,1]),(7,[2,0]),(6,[2,1,27]),(5,[2,1,0]),(2,[2,0]),(4,[2,0]),(3,[0,1,16]),(1,[0,1,11]),(0,[0,1])]) [31,76,77,62,78,80,81] (A3 [(3,[2,10]),(1,[2,5]),(2,[2,5,41,0,0]),(0,[0,1])]) (some [2,0]) [] [] []
noncomputable def O4 {R:Type} (lf n:Nat) (l_m0:Nat) (n1 n2:Int) (l3:LL) (k0:Int->LL->Option R) (k1:Nat->LL->Option R):Option R:=match n with | 0=>none | n+1=>cond (ltI n2 n1) (cond (inR n2 l_m0) (cond (okE Qq l3 (0+(Int.toNat n2)) 0) (vl (gX l3 (0+(Int.toNat n2)) 0) λs'33=>cond (A2 s'33.length) (vl (↑((O7 s'33)).2:Int) λn'35=>cond (n'35 != 0) (k0 n'35 l3) (cond (inR n2 l_m0) (cond (decide ((0+(Int.toNat n2))<l3.length)) (vl (List.set l3 (0+(Int.toNat n2)) (E0 (List.getD l3 (0+(Int.toNat n2)) []) 0 [(SV.str ((O7 s'33)).1)])) λl'36=>O4 lf n l_m0 n1 (A4 (n2+1)) l'36 k0 k1) none) none)) none) none) none) (k1 l_m0 l3)
theorem KV (n:Nat) (l_m0:Nat) (n1 n2:Int) (l3:LL):F0 2 ((Ct lf).keep 16) (bd (Ct lf) cl yh (cd [1,1,1,1,1,1,1,0,1,0,0] OR)) n ⟨gp [(2,.ptr 0 0 0),(5,.vw 1 0 l_m0),(41,.vw 1 0 l_m0),(0,pI n1),(0,pI n2)] 31,[.box [pI (0:Int),pS ([]:List UInt8),p32 (0:Int),p16 (0:Int),p16 (0:Int),p16 (0:Int),p16 (0:Int),p16 (0:Int),p16 (0:Int),p16 (0:Int),p16 (0:Int)],.arr false 9 1 l3],s⟩ k =
 O4 lf n l_m0 n1 n2 l3 (λn0 l1=>k .ret ⟨gp [(2,.ptr 0 0 0),(0,pI n0)] 80,[.box [pI (0:Int),pS ([]:List UInt8),p32 (0:Int),p16 (0:Int),p16 (0:Int),p16 (0:Int),p16 (0:Int),p16 (0:Int),p16 (0:Int),p16 (0:Int),p16 (0:Int)],.arr false 9 1 l1],s⟩) (λl_m0 l1=>k (.exit 1) ⟨gp [(2,.ptr 0 0 0),(5,.vw 1 0 l_m0)] 75,[.box [pI (0:Int),pS ([]:List UInt8),p32 (0:Int),p16 (0:Int),p16 (0:Int),p16 (0:Int),p16 (0:Int),p16 (0:Int),p16 (0:Int),p16 (0:Int),p16 (0:Int)],.arr false 9 1 l1],s⟩):=by
 induction n generalizing l_m0 n1 n2 l3 with
 | zero=>rfl
 | succ n ih=>rw [O4];simp only [<-ih];kernel_rfl
noncomputable def Tb {R:Type} (lf:Nat) (raw0:By) (k0:Int->By->Int->Int->Int->Int->Int->Int->Int->Int->Int->Int->Int->By->Int->Int->Int->Int->Int->Int->Int->Int->Int->Option R) (k1:Int->By->Int->Int->By->LL->Option R):Option R:=cond (ltI 1024 (raw0.length:Int)) (k0 0 ([]:List UInt8) 0 0 0 0 0 0 0 0 0 3 0 ([]:List UInt8) 0 0 0 0 0 0 0 0 0) (cond (A2 raw0.length) (cond (List.isPrefixOf ([91]:List UInt8) raw0) (cond (A2 raw0.length) (cond (Bc9 raw0) (vl (↑(B3.kind ((M9 raw0)).1):Int) λn'12=>vl (B3.name ((M9 raw0)).1) λs'13=>vl (↑(B3.v4 ((M9 raw0)).1):Int) λn'14=>vl (↑(List.getD (B3.v6 ((M9 raw0)).1) 0 0):Int) λn'15=>vl (↑(List.getD (B3.v6 ((M9 raw0)).1) 1 0):Int) λn'16=>vl (↑(List.getD (B3.v6 ((M9 raw0)).1) 2 0):Int) λn'17=>vl (↑(List.getD (B3.v6 ((M9 raw0)).1) 3 0):Int) λn'18=>vl (↑(List.getD (B3.v6 ((M9 raw0)).1) 4 0):Int) λn'19=>vl (↑(List.getD (B3.v6 ((M9 raw0)).1) 5 0):Int) λn'20=>vl (↑(List.getD (B3.v6 ((M9 raw0)).1) 6 0):Int) λn'21=>vl (↑(List.getD (B3.v6 ((M9 raw0)).1) 7 0):Int) λn'22=>vl (↑((M9 raw0)).2:Int) λn'23=>k0 n'12 s'13 n'14 n'15 n'16 n'17 n'18 n'19 n'20 n'21 n'22 n'23 n'12 s'13 n'14 n'15 n'16 n'17 n'18 n'19 n'20 n'21 n'22) none) none) (cond (A2 raw0.length) (cond (not (Option.isSome (Y1 raw0))) (k0 0 ([]:List UInt8) 0 0 0 0 0 0 0 0 0 14 0 ([]:List UInt8) 0 0 0 0 0 0 0 0 0) (cond (A2 (List.length (ZZ raw0))) (vl (MY (ZZ raw0) ([46]:List UInt8)) λs'25=>cond (A2 s'25.length) (cond (K5 s'25) (cond (A2 s'25.length) (vl (↑(Az (pnB s'25)):Int) λn'29=>cond (not (Option.isSome (pnB s'25))) (k0 0 ([]:List UInt8) 0 0 0 0 0 0 0 0 0 14 0 ([]:List UInt8) 0 0 0 0 0 0 0 0 0) (k0 2 ([]:List UInt8) n'29 0 0 0 0 0 0 0 0 0 2 ([]:List UInt8) n'29 0 0 0 0 0 0 0 0)) none) (cond (A2 s'25.length) (cond (1==1) (vl (C5 (pcs (List.getD ([46]:List UInt8) 0 0) s'25)) λl'31=>O4 lf lf (List.length (pcs (List.getD ([46]:List UInt8) 0 0) s'25)) (↑(List.length (pcs (List.getD ([46]:List UInt8) 0 0) s'25)):Int) 0 l'31 (λn'37 l'38=>k1 0 ([]:List UInt8) n'37 0 ([]:List UInt8) l'38) (λl_m'39 l'40=>cond (List.all (List.take l_m'39 (List.drop 0 l'40)) isS) (cond (A2 (List.length (Lib.join (List.map elS (List.take l_m'39 (List.drop 0 l'40))) ([46]:List UInt8)))) (cond (A2 (List.length (List.take l_m'39 (List.drop 0 l'40)))) (vl (Lib.join (List.map elS (List.take l_m'39 (List.drop 0 l'40))) ([46]:List UInt8)) λs'42=>cond (ltI 253 (s'42.length:Int)) (k1 0 ([]:List UInt8) 3 0 ([]:List UInt8) l'40) (cond (A2 s'42.length) (cond (K5 s'42) (k1 0 ([]:List UInt8) 14 0 ([]:List UInt8) l'40) (k1 1 s'42 0 1 s'42 l'40)) none)) none) none) none)) none) none)) none) none)) none)) none)
theorem Au0 (d:Nat) (raw0):evC (Ct lf) (d+1) σ yh 55 [pS raw0] [] s=Tb lf raw0 (λr0 r1 r2 r3 r4 r5 r6 r7 r8 r9 r10 r11 n12 s13 n14 n15 n16 n17 n18 n19 n20 n21 n22=>some (.tup [.agg [pI r0,pS r1,p32 r2,p16 r3,p16 r4,p16 r5,p16 r6,p16 r7,p16 r8,p16 r9,p16 r10],pI r11],[.box [pI n12,pS s13,p32 n14,p16 n15,p16 n16,p16 n17,p16 n18,p16 n19,p16 n20,p16 n21,p16 n22]],s)) (λr0 r1 r2 n3 s4 l5=>some (.tup [.agg [pI r0,pS r1,p32 (0:Int),p16 (0:Int),p16 (0:Int),p16 (0:Int),p16 (0:Int),p16 (0:Int),p16 (0:Int),p16 (0:Int),p16 (0:Int)],pI r2],[.box [pI n3,pS s4,p32 (0:Int),p16 (0:Int),p16 (0:Int),p16 (0:Int),p16 (0:Int),p16 (0:Int),p16 (0:Int),p16 (0:Int),p16 (0:Int)],.arr false 9 1 l5],s)):=by
 refine (evE (fn:=Tryz.f55) (by kernel_rfl)).trans ?_
 generalize evC (Ct lf) d=cl
 unfold Tb;exact (Eq.trans (by kernel_rfl) (A0 rfl (A0 (A0 (A0 (A0 (A5 λn'12=>(A5 λs'13=>(A5 λn'14=>(A5 λn'15=>(A5 λn'16=>(A5 λn'17=>(A5 λn'18=>(A5 λn'19=>(A5 λn'20=>(A5 λn'21=>(A5 λn'22=>(A5 λn'23=>rfl)))))))))))) rfl) rfl) (A0 (A0 rfl (A0 (A5 λs'25=>(A0 (A0 (A0 (A5 λn'29=>(A0 rfl rfl)) rfl) (A0 (A0 (A5 λl'31=>((KV lf cl yh s (H7 1 (I5 (Ct lf) cl yh (cd [1,1,1,1,1,1,1,1] OR) (G5 (Ct lf) Tryz.f55))) lf (List.length (pcs (List.getD ([46]:List UInt8) 0 0) s'25)) (↑(List.length (pcs (List.getD ([46]:List UInt8) 0 0) s'25)):Int) 0 l'31).trans (by kernel_rfl))) rfl) rfl)) rfl)) rfl)) rfl)) rfl)))
noncomputable abbrev Aj9:Code:=D0 Tryz.f93
noncomputable def Gu (lf:Nat):Cfg:=B8 lf [93] (A3 [(6,[0,1,0,1,10,0,0])]) [(117,A59),(106,UV)] (A3 [(13,[2]),(12,[0,3,0,2]),(11,[0,2,1,10,0,0]),(10,[0,2,1,10,0,0]),(9,[2]),(8,[0,2,1,1,8,0,0,8]),(7,[0,2,1,1,8,0,0]),(6,[0,2,1,10,0,0,0]),(5,[0,2,1,10,0,0]),(4,[0,2,1]),(3,[2]),(2,[0,2,11]),(1,[0,2,0]),(0,[0])]) [106] (A3 [(0,[0,2,1]),(1,[0,2,1,10,0,0])]) (some [2]) [] [] []
noncomputable def R1 {R:Type} (lf n:Nat) (s0:By) (points_z1:Bool) (points2:LL) (basic3:Bool) (n4 n5:Int) (k0:Unit->Option R) (k1:By->Bool->LL->Bool->Option R):Option R:=match n with | 0=>none | n+1=>cond (ltI n5 n4) (cond (inR n5 points2.length) (cond (okE DL points2 (Int.toNat n5) 0) (vl (gE points2 (Int.toNat n5) 0) λn'1=>cond (not (ltI n'1 65)) (cond (not (ltI 90 n'1)) (k0 ()) (cond basic3 (R1 lf n s0 points_z1 points2 (ltI n'1 128) n4 (A4 (n5+1)) k0 k1) (R1 lf n s0 points_z1 points2 false n4 (A4 (n5+1)) k0 k1))) (cond basic3 (R1 lf n s0 points_z1 points2 (ltI n'1 128) n4 (A4 (n5+1)) k0 k1) (R1 lf n s0 points_z1 points2 false n4 (A4 (n5+1)) k0 k1))) none) none) (k1 s0 points_z1 points2 basic3)
theorem RH (n s0 points_z1 points2 basic3 n4 n5):F0 0 ((Gu lf).keep 6) (bd (Gu lf) cl yh (cd [1,1,1,1,0,1,0,0] Aj9)) n ⟨gp [(0,pS s0),(2,.s (.sl points_z1 points_z1 1 points2)),(1,pB basic3),(10,.s (.sl points_z1 points_z1 1 points2)),(0,pI n4),(0,pI n5)] 31,[],s⟩ k =
 R1 lf n s0 points_z1 points2 basic3 n4 n5 (λ_=>k .ret ⟨gp [(2,pB false)] 47,[],s⟩) (λs0 points_z1 points2 basic3=>k (.exit 0) ⟨gp [(0,pS s0),(2,.s (.sl points_z1 points_z1 1 points2)),(1,pB basic3)] 44,[],s⟩):=by
 induction n generalizing s0 points_z1 points2 basic3 n4 n5 with
 | zero=>rfl
 | succ n ih=>rw [R1];simp only [<-ih];kernel_rfl
noncomputable def Am3 {R:Type} (lf:Nat) (s0:By) (k0:Bool->Option R):Option R:=cond (A2 s0.length) (cond ((↑((S6 s0)).2:Int) != 0) (k0 false) (R1 lf lf s0 (List.isEmpty ((S6 s0)).1) (ZN ((S6 s0)).1) true (↑(List.length (ZN ((S6 s0)).1)):Int) 0 (λ_=>k0 false) (λs'2 points_z'3 points'4 basic'5=>cond (List.all points'4 Uv) (vl ((Ec (List.map elI points'4))).1 λs'8=>vl (↑((Ec (List.map elI points'4))).2:Int) λn'9=>cond (not basic'5) (cond (n'9==0) (k0 (s'8==s'2)) (k0 false)) (k0 false)) none))) none
theorem Bd7 (d:Nat) (s0):evC (Gu lf) (d+1) σ yh 93 [pS s0] [] s=Am3 lf s0 (λr0=>some (pB r0,[],s)):=by
 refine (evE (fn:=Tryz.f93) (by kernel_rfl)).trans ?_
 generalize evC (Gu lf) d=cl
 unfold Am3;exact (Eq.trans (by kernel_rfl) (A0 (A0 rfl ((RH lf cl yh s (H7 0 (I5 (Gu lf) cl yh (cd [1,1,1,1,1] Aj9) (G5 (Gu lf) Tryz.f93))) lf s0 (List.isEmpty ((S6 s0)).1) (ZN ((S6 s0)).1) true (↑(List.length (ZN ((S6 s0)).1)):Int) 0).trans (by kernel_rfl))) rfl))
noncomputable abbrev A77:Code:=D0 Tryz.f64
noncomputable def Mu (lf:Nat):Cfg:=B8 lf [64] (A3 [(4,[0,1,26,0])]) [(29,UJ),(93,Ai2)] (A3 [(11,[2]),(10,[5,0]),(9,[0,28,0]),(8,[2]),(7,[0,28,0,28]),(6,[0,3,24,0]),(5,[0,2,25,0]),(4,[0,28,0,0]),(3,[0,28,0]),(2,[2]),(1,[0,26]),(0,[0])]) [29,93] (A3 [(0,[0]),(1,[0,28,0])]) (some [2]) [] [] []
noncomputable def N3 {R:Type} (lf n:Nat) (s0:By) (n1 n2:Int) (k0:Unit->Option R) (k1:By->Option R):Option R:=match n with | 0=>none | n+1=>cond (ltI n2 n1) (cond (inR n2 s0.length) (cond (not (ltI (bAt s0 n2) (97:Int))) (cond (not (not (ltI 122 (bAt s0 n2)))) (cond (not (ltI (bAt s0 n2) (48:Int))) (cond (not (not (ltI 57 (bAt s0 n2)))) (cond ((bAt s0 n2) != 45) (cond ((bAt s0 n2) != 95) (k0 ()) (N3 lf n s0 n1 (A4 (n2+1)) k0 k1)) (N3 lf n s0 n1 (A4 (n2+1)) k0 k1)) (N3 lf n s0 n1 (A4 (n2+1)) k0 k1)) (cond ((bAt s0 n2) != 45) (cond ((bAt s0 n2) != 95) (k0 ()) (N3 lf n s0 n1 (A4 (n2+1)) k0 k1)) (N3 lf n s0 n1 (A4 (n2+1)) k0 k1))) (N3 lf n s0 n1 (A4 (n2+1)) k0 k1)) (cond (not (ltI (bAt s0 n2) (48:Int))) (cond (not (not (ltI 57 (bAt s0 n2)))) (cond ((bAt s0 n2) != 45) (cond ((bAt s0 n2) != 95) (k0 ()) (N3 lf n s0 n1 (A4 (n2+1)) k0 k1)) (N3 lf n s0 n1 (A4 (n2+1)) k0 k1)) (N3 lf n s0 n1 (A4 (n2+1)) k0 k1)) (cond ((bAt s0 n2) != 45) (cond ((bAt s0 n2) != 95) (k0 ()) (N3 lf n s0 n1 (A4 (n2+1)) k0 k1)) (N3 lf n s0 n1 (A4 (n2+1)) k0 k1)))) none) (k1 s0)
theorem ZK (n s0 n1 n2):F0 0 ((Mu lf).keep 4) (bd (Mu lf) cl yh (cd [1,1,0,1,0,0] A77)) n ⟨gp [(0,pS s0),(28,pI n1),(0,pI n2)] 41,[],s⟩ k =
 N3 lf n s0 n1 n2 (λ_=>k .ret ⟨gp [(2,pB false)] 69,[],s⟩) (λs0=>k (.exit 0) ⟨gp [(0,pS s0)] 71,[],s⟩):=by
 induction n generalizing s0 n1 n2 with
 | zero=>rfl
 | succ n ih=>rw [N3];simp only [<-ih];kernel_rfl
noncomputable def By0 {R:Type} (lf:Nat) (s0:By) (k0:Bool->Option R):Option R:=cond (ltI (s0.length:Int) (1:Int)) (k0 false) (cond (ltI 63 (s0.length:Int)) (k0 false) (cond (inR 0 s0.length) (cond ((bAt s0 (0:Int))==45) (k0 false) (vl (A4 ((s0.length:Int)-1)) λn'1=>cond (inR n'1 s0.length) (cond ((bAt s0 n'1)==45) (k0 false) (N3 lf lf s0 (s0.length:Int) 0 (λ_=>k0 false) (λs'2=>cond (A2 s'2.length) (vl (Dd s'2 ([120,110,45,45]:List UInt8)) λs'3=>cond (not (List.isPrefixOf ([120,110,45,45]:List UInt8) s'2)) (k0 true) (cond (A2 s'3.length) (k0 (Lk s'3)) none)) none))) none)) none))
theorem By1 (d:Nat) (s0):evC (Mu lf) (d+1) σ yh 64 [pS s0] [] s=By0 lf s0 (λr0=>some (pB r0,[],s)):=by
 refine (evE (fn:=Tryz.f64) (by kernel_rfl)).trans ?_
 generalize evC (Mu lf) d=cl
 unfold By0;exact (Eq.trans (by kernel_rfl) (A0 rfl (A0 rfl (A0 (A0 rfl (A5 λn'1=>(A0 (A0 rfl ((ZK lf cl yh s (H7 0 (I5 (Mu lf) cl yh (cd [1,1,1] A77) (G5 (Mu lf) Tryz.f64))) lf s0 (s0.length:Int) 0).trans (by kernel_rfl))) rfl))) rfl))))
noncomputable abbrev VQ:Code:=D0 Tryz.f80
noncomputable def Jb (lf:Nat):Cfg:=B8 lf [80] (A3 [(9,[2,0,1,20])]) [(104,OK),(105,OH),(27,UQ),(106,UV),(64,HZ)] (A3 [(18,[2,0]),(17,[2,0]),(16,[4,41]),(15,[4]),(14,[2,0]),(13,[8,32]),(12,[8,0]),(11,[5,20]),(10,[5,1,18]),(9,[5,20,0,0]),(8,[5,20]),(7,[4,0]),(6,[4,19]),(5,[0,3]),(2,[2,0]),(4,[2,0]),(3,[0,13]),(1,[0,9]),(0,[0])]) [104,105,27,106,64] (A3 [(1,[5]),(2,[5,20]),(0,[0])]) (some [2,0]) [] [] []
noncomputable def Bv {R:Type} (lf n:Nat) (l0:LL) (s1:By) (m2:Nat) (k0:LL->By->Nat->Option R):Option R:=match n with | 0=>none | n+1=>cond (decide (m2<s1.length)) (vl ((Utf8.decode ⟨List.toArray s1⟩ m2)).1 λn'4=>cond (J9 (l0.length+1)) (Bv lf n (l0++[[(SV.int .i64 (A4 n'4))]]) s1 (m2+((Utf8.decode ⟨List.toArray s1⟩ m2)).2) k0) none) (k0 l0 s1 m2)
theorem YP (n:Nat) (l0:LL) (s1:By) (m2:Nat):F0 2 ((Jb lf).keep 9) (bd (Jb lf) cl yh (cd [1,1,1,0,1,0,1,0,1,0,0] VQ)) n ⟨gp [(5,.fl 0),(20,.it 1)] 21,[.arr true 3 1 l0,.iter s1 m2],s⟩ k =
 Bv lf n l0 s1 m2 (λl0 s1 m2=>k (.exit 1) ⟨gp [(5,.fl 0)] 42,[.arr true 3 1 l0,.iter s1 m2],s⟩):=by
 induction n generalizing l0 s1 m2 with
 | zero=>rfl
 | succ n ih=>rw [Bv];simp only [<-ih];kernel_rfl
noncomputable def RD {R:Type} (lf:Nat) (s0:By) (k0:By->Int->Option R) (k1:By->Int->LL->By->Nat->Option R):Option R:=cond (A2 s0.length) (cond (not (Option.isSome (Wd s0))) (k0 ([]:List UInt8) 4) (cond (A2 s0.length) (vl (↑(Lib.runeCountL s0):Int) λn'1=>cond (ltI 256 n'1) (k0 ([]:List UInt8) 3) (cond (A2 s0.length) (cond (A2 s0.length) (vl (↑(Lib.runeCountL s0):Int) λn'3=>cond (ltI n'3 (s0.length:Int)) (Bv lf lf [] (C0 s0) 0 (λl'5 s'6 m'7=>cond (List.all l'5 Uv) (vl ((Ec (List.map elI l'5))).1 λs'8=>vl (↑((Ec (List.map elI l'5))).2:Int) λn'9=>cond (n'9 != 0) (k1 ([]:List UInt8) 14 l'5 s'6 m'7) (cond (N0 4 s'8.length) (vl (([120,110,45,45]:List UInt8)++s'8) λs'10=>cond (A2 s'10.length) (cond (not (N8 s'10)) (k1 ([]:List UInt8) 14 l'5 s'6 m'7) (k1 s'10 0 l'5 s'6 m'7)) none) none)) none)) (cond (A2 (List.length (C0 s0))) (cond (not (N8 (C0 s0))) (k0 ([]:List UInt8) 14) (k0 (C0 s0) 0)) none)) none) none)) none)) none
theorem Bw9 (d:Nat) (s0):evC (Jb lf) (d+1) σ yh 80 [pS s0] [] s=RD lf s0 (λr0 r1=>some (.tup [pS r0,pI r1],[],s)) (λr0 r1 l2 s3 m4=>some (.tup [pS r0,pI r1],[.arr true 3 1 l2,.iter s3 m4],s)):=by
 refine (evE (fn:=Tryz.f80) (by kernel_rfl)).trans ?_
 generalize evC (Jb lf) d=cl
 unfold RD;exact (Eq.trans (by kernel_rfl) (A0 (A0 rfl (A0 (A5 λn'1=>(A0 rfl (A0 (A0 (A5 λn'3=>(A0 ((YP lf cl yh s (H7 1 (I5 (Jb lf) cl yh (cd [1,1,1,0,1,0,1,1] VQ) (I5 (Jb lf) cl yh (cd [1,1,1,1] VQ) (G5 (Jb lf) Tryz.f80)))) lf [] (C0 s0) 0).trans (by kernel_rfl)) (A0 (A0 rfl rfl) rfl))) rfl) rfl))) rfl)) rfl))
noncomputable abbrev Mp:Code:=D0 Tryz.f101
noncomputable def Fb (lf:Nat):Cfg:=B8 lf [101] (A3 []) [] (A3 [(7,[2]),(2,[2]),(4,[2]),(6,[2]),(5,[0,23]),(3,[0,12]),(1,[0,2]),(0,[0])]) [] (A3 [(0,[])]) (some [2]) [] [] []
noncomputable def Pa {R:Type} (b0:Int) (b1:Bool) (k0:Int->Option R) (k1:Int->Bool->Option R):Option R:=cond b1 (vl (A4 (wu8 (b0-97))) λn'1=>vl (A4 (n'1+10)) λn'2=>k0 n'2) (cond (not (ltI b0 65)) (cond (not (ltI 70 b0)) (vl (A4 (wu8 (b0-65))) λn'3=>vl (A4 (n'3+10)) λn'4=>k0 n'4) (k1 b0 (not (ltI 70 b0)))) (k1 b0 false))
abbrev EW (b:Code):Prop:=∀ (k:Out->St σ->Option R) b0 b1,A9 (Fb lf) cl yh b ⟨gp [(0,p8 b0),(12,pB b1)] 21,[],s⟩ k=Pa b0 b1 (λn0=>k .ret ⟨gp [(2,pI n0)] 32,[],s⟩) (λb0 b1=>k .normal ⟨gp [(0,p8 b0),(23,pB b1)] 10,[],s⟩)
theorem YG:EW (R:=R) lf cl yh s (cd [1,0,0,1,1,1] Mp):=by
 intro k b0 b1;unfold Pa;kernel_rfl
noncomputable def Pb {R:Type} (b0:Int) (b1:Bool) (k0:Int->Option R) (k1:Int->Bool->Option R):Option R:=cond b1 (vl (A4 (wu8 (b0-48))) λn'0=>k0 n'0) (cond (not (ltI b0 97)) (Pa b0 (not (ltI 102 b0)) (λn'5=>k0 n'5) (λb'6 b'7=>k1 b'6 b'7)) (Pa b0 false (λn'8=>k0 n'8) (λb'9 b'10=>k1 b'9 b'10)))
abbrev Ta (b:Code):Prop:=∀ (k:Out->St σ->Option R) b0 b1,A9 (Fb lf) cl yh b ⟨gp [(0,p8 b0),(2,pB b1)] 31,[],s⟩ k=Pb b0 b1 (λn0=>k .ret ⟨gp [(2,pI n0)] 32,[],s⟩) (λb0 b1=>k .normal ⟨gp [(0,p8 b0),(23,pB b1)] 10,[],s⟩)
theorem YH (b_100111:Code) (h_hdig_j0:EW (R:=R) lf cl yh s b_100111):Ta (R:=R) lf cl yh s (cd [1,0,0,1] (N4 [1,0,0,1,1,1] b_100111 Mp)):=by
 intro k b0 b1;unfold Pb;simp only [<-h_hdig_j0 k];kernel_rfl
theorem YI:Ta (R:=R) lf cl yh s (cd [1,0,0,1] Mp):=by
 intro k b0 b1;exact Eq.trans (by kernel_rfl) (YH lf cl yh s (cd [1,0,0,1,1,1] Mp) (YG lf cl yh s) k b0 b1)
noncomputable def Bc2 {R:Type} (lf:Nat) (b0:Int) (k0:Int->Option R):Option R:=cond (not (ltI b0 48)) (Pb b0 (not (ltI 57 b0)) (λn'11=>k0 n'11) (λb'12 b'13=>k0 (-1))) (Pb b0 false (λn'14=>k0 n'14) (λb'15 b'16=>k0 (-1)))
theorem Bu6 (b_1001:Code) (h_hdig_j1:Ta (R:=PV × List Blk × σ) lf cl yh s b_1001) (b0:Int):A9 (Fb lf) cl yh (cd [] (N4 [1,0,0,1] b_1001 Mp)) ⟨[p8 b0]++tps 34,[],s⟩ (G5 (Fb lf) Tryz.f101)=Bc2 lf b0 (λr0=>some (pI r0,[],s)):=by
 unfold Bc2;exact let K0:=(H7 0 (I5 (Fb lf) cl yh (cd [1,1] Mp) (G5 (Fb lf) Tryz.f101)));(Eq.trans (by kernel_rfl) (A0 ((h_hdig_j1 K0 b0 (not (ltI 57 b0))).trans (by kernel_rfl)) ((h_hdig_j1 K0 b0 false).trans (by kernel_rfl))))
theorem Bu7 (d:Nat) (b0):evC (Fb lf) (d+1) σ yh 101 [p8 b0] [] s=Bc2 lf b0 (λr0=>some (pI r0,[],s)):=
 (evE (fn:=Tryz.f101) (by kernel_rfl)).trans (Eq.trans (by kernel_rfl) (Bu6 lf (evC (Fb lf) d) yh s (cd [1,0,0,1] Mp) (YI lf (evC (Fb lf) d) yh s) b0))
noncomputable abbrev A75:Code:=D0 Tryz.f76
noncomputable def Ms (lf:Nat):Cfg:=B8 lf [76] (A3 [(3,[0,1,0,0,0])]) [(101,A54)] (A3 [(14,[2,0]),(4,[0,3,0]),(13,[0,3,0]),(12,[0,3,0]),(11,[2,0]),(10,[0,3,0,0,0,39]),(9,[0,3,0,0,0]),(8,[2,0]),(7,[0,3,0,25]),(6,[0,3,0]),(5,[0,3,0,14]),(3,[0,3,0,8]),(2,[0,3,0]),(1,[0,3]),(0,[0])]) [101] (A3 [(0,[4]),(1,[0,3,0])]) (some [2,0]) [] [] []
noncomputable def N9 {R:Type} (lf n:Nat) (s0:By) (i1:Int) (l2:LL) (k0:LL->Option R) (k1:LL->Option R):Option R:=match n with | 0=>none | n+1=>cond (ltI i1 (s0.length:Int)) (cond (inR i1 s0.length) (cond ((bAt s0 i1) != 37) (cond (inR i1 s0.length) (cond (J9 (l2.length+1)) (N9 lf n s0 (A4 (i1+1)) (l2++[[(SV.int .u8 (bAt s0 i1))]]) k0 k1) none) none) (cond (not (ltI (A4 (i1+2)) (s0.length:Int))) (k0 l2) (cond (inR (A4 (i1+1)) s0.length) (vl (bAt s0 (A4 (i1+1))) λn'2=>cond (inR n'2 256) (cond (inR (A4 (i1+2)) s0.length) (vl (bAt s0 (A4 (i1+2))) λn'3=>cond (inR n'3 256) (cond (ltI (Sp (u8n n'2)) (0:Int)) (k0 l2) (cond (ltI (Sp (u8n n'3)) (0:Int)) (k0 l2) (vl (A4 ((16:Int)*(Sp (u8n n'2)))) λn'4=>vl (A4 (n'4+(Sp (u8n n'3)))) λn'5=>cond (J9 (l2.length+1)) (vl (A4 ((A4 (i1+2))+1)) λn'6=>N9 lf n s0 n'6 (l2++[[(SV.int .u8 (wu8 n'5))]]) k0 k1) none))) none) none) none) none))) none) (k1 l2)
theorem YF (n s0 i1 l2):F0 1 ((Ms lf).keep 3) (bd (Ms lf) cl yh (cd [1,0,1,1,0,1,0,0] A75)) n ⟨gp [(0,pS s0),(3,.fl 0),(0,pI i1)] 54,[.arr false 5 1 l2],s⟩ k =
 N9 lf n s0 i1 l2 (λl0=>k .ret ⟨gp [(2,pS ([]:List UInt8)),(0,pB false)] 56,[.arr false 5 1 l0],s⟩) (λl0=>k (.exit 0) ⟨gp [(4,.fl 0)] 55,[.arr false 5 1 l0],s⟩):=by
 induction n generalizing s0 i1 l2 with
 | zero=>rfl
 | succ n ih=>rw [N9];simp only [<-ih];kernel_rfl
noncomputable def Bc1 {R:Type} (lf:Nat) (s0:By) (k0:By->Bool->LL->Option R):Option R:=cond ((decide ((0:Int)<=(s0.length:Int)))&&(J9 (Int.toNat (s0.length:Int)))) (N9 lf lf s0 0 [] (λl'7=>k0 ([]:List UInt8) false l'7) (λl'8=>cond (List.all l'8 AQ) (k0 (List.map Vx l'8) true l'8) none)) none
theorem Bu4 (d:Nat) (s0):evC (Ms lf) (d+1) σ yh 76 [pS s0] [] s=Bc1 lf s0 (λr0 r1 l2=>some (.tup [pS r0,pB r1],[.arr false 5 1 l2],s)):=by
 refine (evE (fn:=Tryz.f76) (by kernel_rfl)).trans ?_
 generalize evC (Ms lf) d=cl
 unfold Bc1;exact (Eq.trans (by kernel_rfl) (A0 ((YF lf cl yh s (H7 0 (I5 (Ms lf) cl yh (cd [1,0,1,1,1] A75) (G5 (Ms lf) Tryz.f76))) lf s0 0 []).trans (by kernel_rfl)) rfl))
noncomputable def JN (lf:Nat):Cfg:=B8 lf [75] (A3 []) [(100,B83)] (A3 [(6,[2,0]),(5,[2,0]),(4,[2,2,15]),(3,[2,2,0]),(2,[0,1,1,8]),(1,[0,1,1]),(0,[0,1])]) [] (A3 []) (some [2,0]) [] [] []
noncomputable def Al0 {R:Type} (lf:Nat) (s0:By) (k0:Int->Int->Int->Int->Int->Int->Int->Int->Int->Int->Int->LL->Option R) (k1:Unit->Option R):Option R:=vl (A4 ((s0.length:Int)-1)) λn'1=>cond (inR n'1 s0.length) (cond ((bAt s0 n'1)==93) (cond (L3 1 n'1 s0.length) (cond (A2 (List.length (cut s0 1 n'1))) (vl (↑(v6c 0 (cut s0 1 n'1)):Int) λn'2=>vl (↑(v6c 1 (cut s0 1 n'1)):Int) λn'3=>vl (↑(v6c 2 (cut s0 1 n'1)):Int) λn'4=>vl (↑(v6c 3 (cut s0 1 n'1)):Int) λn'5=>vl (↑(v6c 4 (cut s0 1 n'1)):Int) λn'6=>vl (↑(v6c 5 (cut s0 1 n'1)):Int) λn'7=>vl (↑(v6c 6 (cut s0 1 n'1)):Int) λn'8=>vl (↑(v6c 7 (cut s0 1 n'1)):Int) λn'9=>cond (Option.isSome (v6B (cut s0 1 n'1))) (k0 3 n'2 n'3 n'4 n'5 n'6 n'7 n'8 n'9 0 3 [[(SV.int .u16 n'2)],[(SV.int .u16 n'3)],[(SV.int .u16 n'4)],[(SV.int .u16 n'5)],[(SV.int .u16 n'6)],[(SV.int .u16 n'7)],[(SV.int .u16 n'8)],[(SV.int .u16 n'9)]]) (k0 0 0 0 0 0 0 0 0 0 14 0 [[(SV.int .u16 n'2)],[(SV.int .u16 n'3)],[(SV.int .u16 n'4)],[(SV.int .u16 n'5)],[(SV.int .u16 n'6)],[(SV.int .u16 n'7)],[(SV.int .u16 n'8)],[(SV.int .u16 n'9)]])) none) none) (k1 ())) none
theorem Bb9 (d:Nat) (s0):evC (JN lf) (d+1) σ yh 75 [pS s0] [] s=Al0 lf s0 (λr0 r1 r2 r3 r4 r5 r6 r7 r8 r9 n10 l11=>some (.tup [.agg [pI r0,pS ([]:List UInt8),p32 (0:Int),p16 r1,p16 r2,p16 r3,p16 r4,p16 r5,p16 r6,p16 r7,p16 r8],pI r9],[.box [pI n10,pS ([]:List UInt8),p32 (0:Int),p16 r1,p16 r2,p16 r3,p16 r4,p16 r5,p16 r6,p16 r7,p16 r8],.arr false 56 1 l11],s)) (λ_=>some (.tup [.agg [pI (0:Int),pS ([]:List UInt8),p32 (0:Int),p16 (0:Int),p16 (0:Int),p16 (0:Int),p16 (0:Int),p16 (0:Int),p16 (0:Int),p16 (0:Int),p16 (0:Int)],pI (14:Int)],[.box [pI (0:Int),pS ([]:List UInt8),p32 (0:Int),p16 (0:Int),p16 (0:Int),p16 (0:Int),p16 (0:Int),p16 (0:Int),p16 (0:Int),p16 (0:Int),p16 (0:Int)]],s)):=by
 refine (evE (fn:=Tryz.f75) (by kernel_rfl)).trans ?_
 generalize evC (JN lf) d=cl
 unfold Al0;kernel_rfl
noncomputable def WI (lf:Nat):Cfg:=B8 lf [22] (A3 []) [(40,NZ)] (A3 [(9,[2]),(4,[2]),(6,[2]),(8,[2]),(7,[1,31]),(5,[1,1,1,16]),(3,[1,1,1,0]),(2,[1,1,1]),(1,[1,1]),(0,[1])]) [40] (A3 [(0,[])]) (some [2]) [] [] []
noncomputable def Ii {R:Type} (lf:Nat) (h0:Int) (h1:By) (h2 h3 h4 h5 h6 h7 h8 h9 h10:Int) (k0:Bool->Int->By->Int->Int->Int->Int->Int->Int->Int->Int->Int->LL->Option R):Option R:=cond (h0==1) (cond (A2 h1.length) (cond (V5 h1) (cond (h2==0) (k0 ((h3==0)&&((h4==0)&&((h5==0)&&((h6==0)&&((h7==0)&&((h8==0)&&((h9==0)&&((h10==0)&&true)))))))) h0 h1 h2 h3 h4 h5 h6 h7 h8 h9 h10 (List.replicate 8 [(SV.int .u16 (0:Int))])) (k0 false h0 h1 h2 h3 h4 h5 h6 h7 h8 h9 h10 (List.replicate 8 [(SV.int .u16 (0:Int))]))) (k0 false h0 h1 h2 h3 h4 h5 h6 h7 h8 h9 h10 (List.replicate 8 [(SV.int .u16 (0:Int))]))) none) (cond (h0==2) (cond (h1==[]) (k0 ((h3==0)&&((h4==0)&&((h5==0)&&((h6==0)&&((h7==0)&&((h8==0)&&((h9==0)&&((h10==0)&&true)))))))) h0 h1 h2 h3 h4 h5 h6 h7 h8 h9 h10 (List.replicate 8 [(SV.int .u16 (0:Int))])) (k0 false h0 h1 h2 h3 h4 h5 h6 h7 h8 h9 h10 (List.replicate 8 [(SV.int .u16 (0:Int))]))) (cond (h0==3) (cond (h1==[]) (k0 (h2==0) h0 h1 h2 h3 h4 h5 h6 h7 h8 h9 h10 (List.replicate 8 [(SV.int .u16 (0:Int))])) (k0 false h0 h1 h2 h3 h4 h5 h6 h7 h8 h9 h10 (List.replicate 8 [(SV.int .u16 (0:Int))]))) (k0 false h0 h1 h2 h3 h4 h5 h6 h7 h8 h9 h10 (List.replicate 8 [(SV.int .u16 (0:Int))]))))
theorem Bw0 (d:Nat) (h0 h1 h2 h3 h4 h5 h6 h7 h8 h9 h10):evC (WI lf) (d+1) σ yh 22 [.agg [pI h0,pS h1,p32 h2,p16 h3,p16 h4,p16 h5,p16 h6,p16 h7,p16 h8,p16 h9,p16 h10]] [] s=Ii lf h0 h1 h2 h3 h4 h5 h6 h7 h8 h9 h10 (λr0 n1 s2 n3 n4 n5 n6 n7 n8v n9 n10 n11 l12=>some (pB r0,[.box [pI n1,pS s2,p32 n3,p16 n4,p16 n5,p16 n6,p16 n7,p16 n8v,p16 n9,p16 n10,p16 n11],.arr false 56 1 l12],s)):=by
 refine (evE (fn:=Tryz.f22) (by kernel_rfl)).trans ?_
 generalize evC (WI lf) d=cl
 unfold Ii;kernel_rfl
noncomputable def WE (lf:Nat):Cfg:=B8 lf [58] (A3 []) [(22,Rg),(83,B79),(84,B81)] (A3 [(7,[2]),(2,[2]),(4,[2]),(6,[2]),(5,[1,11]),(3,[1,5]),(1,[1,1]),(0,[1])]) [22,83,84] (A3 [(0,[1])]) (some [2]) [] [] []
noncomputable def Bv0 {R:Type} (lf:Nat) (h0:Int) (h1:By) (h2 h3 h4 h5 h6 h7 h8 h9 h10:Int) (k0:By->Int->By->Int->Int->Int->Int->Int->Int->Int->Int->Int->Option R):Option R:=cond (A2 h1.length) (cond (ltN h2 4294967296) (cond (ok8 h3 h4 h5 h6 h7 h8 h9 h10) (cond (not (L1 (mkH h0 h1 h2 (n8 h3 h4 h5 h6 h7 h8 h9 h10)))) (k0 ([]:List UInt8) h0 h1 h2 h3 h4 h5 h6 h7 h8 h9 h10) (cond (h0==1) (k0 h1 h0 h1 h2 h3 h4 h5 h6 h7 h8 h9 h10) (cond (h0==2) (cond (ltN h2 4294967296) (k0 (Kk (Int.toNat h2)) h0 h1 h2 h3 h4 h5 h6 h7 h8 h9 h10) none) (cond (ok8 h3 h4 h5 h6 h7 h8 h9 h10) (vl (Vt (n8 h3 h4 h5 h6 h7 h8 h9 h10)) λs'0=>cond (N0 1 s'0.length) (vl (([91]:List UInt8)++s'0) λs'1=>cond (N0 s'1.length 1) (vl (s'1++[93]) λs'2=>k0 s'2 h0 h1 h2 h3 h4 h5 h6 h7 h8 h9 h10) none) none) none)))) none) none) none
theorem Bv1 (d:Nat) (h0 h1 h2 h3 h4 h5 h6 h7 h8 h9 h10):evC (WE lf) (d+1) σ yh 58 [.agg [pI h0,pS h1,p32 h2,p16 h3,p16 h4,p16 h5,p16 h6,p16 h7,p16 h8,p16 h9,p16 h10]] [] s=Bv0 lf h0 h1 h2 h3 h4 h5 h6 h7 h8 h9 h10 (λr0 n1 s2 n3 n4 n5 n6 n7 n8v n9 n10 n11=>some (pS r0,[.box [pI n1,pS s2,p32 n3,p16 n4,p16 n5,p16 n6,p16 n7,p16 n8v,p16 n9,p16 n10,p16 n11]],s)):=by
 refine (evE (fn:=Tryz.f58) (by kernel_rfl)).trans ?_
 generalize evC (WE lf) d=cl
 unfold Bv0;kernel_rfl
noncomputable def WC (lf:Nat):Cfg:=B8 lf [86] (A3 []) [(40,NZ),(113,A55)] (A3 [(1,[4]),(0,[0,0])]) [40,113] (A3 []) (some [4]) [] [] []
noncomputable def Bu2 {R:Type} (lf:Nat) (super0 name1:By) (k0:Bool->Option R):Option R:=cond (A2 super0.length) (cond (V5 super0) (cond (A2 name1.length) (cond (V5 name1) (cond (super0==name1) (k0 true) (cond (N0 1 super0.length) (vl (([46]:List UInt8)++super0) λs'0=>cond (A2 name1.length) (k0 (List.isSuffixOf s'0 name1)) none) none)) (k0 false)) none) (k0 false)) none
theorem Bu3 (d:Nat) (super0 name1):evC (WC lf) (d+1) σ yh 86 [pS super0,pS name1] [] s=Bu2 lf super0 name1 (λr0=>some (pB r0,[],s)):=by
 refine (evE (fn:=Tryz.f86) (by kernel_rfl)).trans ?_
 generalize evC (WC lf) d=cl
 unfold Bu2;kernel_rfl
end
section
variable {σ R : Type} (lf : Nat) (cl : D3) (yh : Yh σ) (s : σ) (k : Out -> St σ -> Option R)
noncomputable def WQ (lf:Nat):Cfg:=B8 lf [141] (A3 []) [] (A3 [(2,[2]),(1,[1,1]),(0,[1])]) [] (A3 []) (some [2]) [] [] []
noncomputable def Ce1 {R:Type} (lf:Nat) (b:Int) (k0:Int->Option R):Option R:=k0 b
theorem B07 (d:Nat) (b):evC (WQ lf) (d+1) σ yh 141 [pI b] [] s=Ce1 lf b (λn0=>some (.fnr (Fn.func 153) [] [.ptr 1 0 0,.ptr 0 0 0],[.box [pI n0],.box [pI (0:Int)]],s)):=by
 refine (evE (fn:=Tryz.f141) (by kernel_rfl)).trans ?_
 generalize evC (WQ lf) d=cl
 unfold Ce1;kernel_rfl
noncomputable def JZ (lf:Nat):Cfg:=B8 lf [153] (A3 []) [] (A3 [(2,[2]),(1,[0,0]),(0,[0,0])]) [] (A3 []) (some [2]) [] [] []
noncomputable def An9 {R:Type} (lf:Nat) (k b:Int) (k0:Int->Int->Int->Option R):Option R:=vl (A4 ((A4 (k+36))-b)) λn'0=>vl (if ((26:Int)<(if ((1:Int) > n'0) then (1:Int) else n'0)) then (26:Int) else (if ((1:Int) > n'0) then (1:Int) else n'0)) λn'1=>k0 n'1 (A4 (k+36)) b
theorem Bg8 (d:Nat) (k b):evC (JZ lf) (d+1) σ yh 153 [.ptr 0 0 0,.ptr 1 0 0] [.box [pI k],.box [pI b]] s=An9 lf k b (λr0 n1 n2=>some (pI r0,[.box [pI n1],.box [pI n2]],s)):=by
 refine (evE (fn:=Tryz.f153) (by kernel_rfl)).trans ?_
 generalize evC (JZ lf) d=cl
 unfold An9;kernel_rfl
noncomputable abbrev Ca5:Code:=D0 Tryz.f127
noncomputable def Si (lf:Nat):Cfg:=B8 lf [127] (A3 [(2,[0,0,4,0])]) [(141,Yd),(142,UU)] (A3 [(6,[0,0,5]),(5,[0,0,5,0]),(4,[6]),(3,[0,0,5,0,6]),(2,[0,0,5,0]),(1,[0,0,5]),(0,[0,0,0])]) [142] (A3 [(0,[6]),(1,[0,0,5])]) (some [6]) [(153,Kp)] [] [153]
noncomputable def Eo {R:Type} (lf n:Nat) (q0:Int) (z1:Bool) (l2:LL) (n3 n4:Int) (k0:Bool->LL->Int->Int->Option R):Option R:=match n with | 0=>none | n+1=>cond (ltN n4 1000000000000) (cond (ltN n3 1000000) (cond (ltI q0 (U4 n4 n3)) (cond (ltN q0 36) (vl (↑(UInt8.toNat (Jf (Int.toNat q0))):Int) λn'1=>cond (J9 (l2.length+1)) (k0 z1 (l2++[[(SV.int .u8 n'1)]]) n3 (Int.add n4 (36:Int))) none) none) (vl (A4 (q0-(U4 n4 n3))) λn'2=>vl (A4 ((36:Int)-(U4 n4 n3))) λn'3=>cond (n'3 != 0) (vl (A4 ((U4 n4 n3)+(Int.tmod n'2 n'3))) λn'4=>cond (ltN n'4 36) (vl (↑(UInt8.toNat (Jf (Int.toNat n'4))):Int) λn'5=>cond (J9 (l2.length+1)) (vl (A4 (q0-(U4 n4 n3))) λn'6=>vl (A4 ((36:Int)-(U4 n4 n3))) λn'7=>cond (n'7 != 0) (vl (A4 (Int.tdiv n'6 n'7)) λn'8=>Eo lf n n'8 z1 (l2++[[(SV.int .u8 n'5)]]) n3 (Int.add n4 (36:Int)) k0) none) none) none) none)) none) none
theorem ZW (n q0 z1 l2 n3 n4):F0 3 ((Si lf).keep 2) (bd (Si lf) cl yh (cd [1,1,0,0] Ca5)) n ⟨gp [(0,.fl 0),(0,pI q0),(5,.fnr (Fn.func 153) [] [.ptr 2 0 0,.ptr 1 0 0])] 31,[.arr z1 5 1 l2,.box [pI n3],.box [pI n4]],s⟩ k =
 Eo lf n q0 z1 l2 n3 n4 (λz0 l1 n2 n3=>k .ret ⟨gp [(6,.fl 0)] 32,[.arr z0 5 1 l1,.box [pI n2],.box [pI n3]],s⟩):=by
 induction n generalizing q0 z1 l2 n3 n4 with
 | zero=>rfl
 | succ n ih=>rw [Eo];simp only [<-ih];kernel_rfl
noncomputable def Cd7 {R:Type} (lf:Nat) (q b:Int) (z:Bool) (l:LL) (k0:Bool->LL->Int->Int->Option R):Option R:=Eo lf lf q z l b 0 (λz'9 l'10 n'11 n'12=>k0 z'9 l'10 n'11 n'12)
theorem Bz5 (d:Nat) (q b z l):evC (Si lf) (d+1) σ yh 127 [.fl 0,pI q,pI b] [.arr z 5 1 l] s=Cd7 lf q b z l (λz0 l1 n2 n3=>some (.fl 0,[.arr z0 5 1 l1,.box [pI n2],.box [pI n3]],s)):=by
 refine (evE (fn:=Tryz.f127) (by kernel_rfl)).trans ?_
 generalize evC (Si lf) d=cl
 unfold Cd7;exact (Eq.trans (by kernel_rfl) ((ZW lf cl yh s (H7 0 (G5 (Si lf) Tryz.f127)) lf q z l b 0).trans (by kernel_rfl)))
noncomputable abbrev Bf:Code:=D0 Tryz.f106
noncomputable def L7 (lf:Nat):Cfg:=B8 lf [106] (A3 [(29,[0,1,0,0,2,0,0,0,0,61,0,0]),(21,[0,1,0,0,2,0,0,0,0,0,38,0,0]),(17,[0,1,0,0,2,0,0,0,0]),(5,[0,1,0,0,15,0,0])]) [(126,Iq),(128,Ip)] (A3 [(40,[2,0]),(18,[0,3,2,0,0,0,0]),(39,[0,3,2,0,0,0,0]),(38,[0,3,2,0,0,0,0,61,0,0]),(32,[0,3,2,0,0,0,0,61,0,0]),(37,[0,3,2,0,0,0,0,61,0,0]),(36,[0,3,2,0,0,0,0,61,0,0]),(35,[0,3,2,0,1,0,61,0,0]),(34,[0,3,2,0,0,1,61,0,0]),(33,[0,3,2,0,0,0,0,61,0,0,9]),(31,[0,3,2,0,0,0,0,4,56,0,0,3]),(30,[0,3,2,0,0,0,0,4,56,0,0]),(29,[0,3,2,0,0,0,0,61,0,0,0]),(28,[0,3,2,0,0,0,0,61,0,0]),(27,[0,3,2,0,0,0,0]),(26,[0,3,2,1,0,0,0]),(25,[0,3,2,0,0,0,0,0,38,0,0]),(24,[0,3,2,0,0,0,0,0,38,0,0]),(23,[0,3,2,0,0,0,0,0,1,36,0,0,5]),(22,[0,3,2,0,0,0,0,0,1,36,0,0]),(21,[0,3,2,0,0,0,0,0,38,0,0,0]),(20,[0,3,2,0,0,0,0,0,38,0,0]),(19,[0,3,2,0,0,0,0,0]),(17,[0,3,2,0,0,0,0,36]),(16,[0,3,2,0,0,0,0]),(15,[0,3,2,0,0,0]),(14,[0,3,2]),(13,[0,3,2,32]),(12,[0,3,2]),(11,[0,3,15,0,0]),(10,[0,3,15,0,0]),(9,[0,3,1,13,0,0,7]),(8,[2,0]),(7,[0,3,1,13,0,0,5]),(6,[0,3,1,13,0,0]),(5,[0,3,15,0,0,0]),(4,[0,3,15,0,0]),(3,[0,3]),(2,[2,0]),(1,[0,18]),(0,[0])]) [126,128] (A3 [(2,[4]),(3,[0,3,2,0,0,0,0]),(6,[0,3,2,0,0,0,0]),(7,[0,3,2,0,0,0,0,61,0,0]),(8,[0,3,2,0,0,0,0,61,0,0]),(4,[0,3,2,0,0,0,0,0]),(5,[0,3,2,0,0,0,0,0,38,0,0]),(0,[0,3]),(1,[0,3,15,0,0])]) (some [2,0]) [(127,ID)] [] [127]
noncomputable def P3 {R:Type} (lf n:Nat) (points_z0 points_t1:Bool) (points2:LL) (n3 n4:Int) (l5:LL) (k0:LL->Option R) (k1:Bool->Bool->LL->LL->Option R):Option R:=match n with | 0=>none | n+1=>cond (ltI n4 n3) (cond (inR n4 points2.length) (cond (okE DL points2 (Int.toNat n4) 0) (vl (gE points2 (Int.toNat n4) 0) λn'1=>cond (not (ptI n'1)) (k0 l5) (cond (ltI n'1 128) (cond (J9 (l5.length+1)) (P3 lf n points_z0 points_t1 points2 n3 (A4 (n4+1)) (l5++[[(SV.int .u8 (wu8 n'1))]]) k0 k1) none) (P3 lf n points_z0 points_t1 points2 n3 (A4 (n4+1)) l5 k0 k1))) none) none) (k1 points_z0 points_t1 points2 l5)
theorem Aa6 (n points_z0 points_t1 points2 n3 n4 l5):F0 1 ((L7 lf).keep 5) (bd (L7 lf) cl yh (cd [1,1,1,0,1,0,0] Bf)) n ⟨gp [(0,.s (.sl points_z0 points_t1 1 points2)),(3,.fl 0),(15,.s (.sl points_z0 points_t1 1 points2)),(0,pI n3),(0,pI n4)] 84,[.arr true 5 1 l5],s⟩ k =
 P3 lf n points_z0 points_t1 points2 n3 n4 l5 (λl0=>k .ret ⟨gp [(2,pS ([]:List UInt8)),(0,pI (2:Int))] 103,[.arr true 5 1 l0],s⟩) (λpoints_z0 points_t1 points2 l3=>k (.exit 0) ⟨gp [(0,.s (.sl points_z0 points_t1 1 points2)),(3,.fl 0)] 102,[.arr true 5 1 l3],s⟩):=by
 induction n generalizing points_z0 points_t1 points2 n3 n4 l5 with
 | zero=>rfl
 | succ n ih=>rw [P3];simp only [<-ih];kernel_rfl
noncomputable def Es {R:Type} (lf n:Nat) (points_z0 points_t1:Bool) (points2:LL) (basic3 n4 delta5 bias6 done7 m8 n9 n10:Int) (l11:LL) (k0:Bool->Bool->LL->Int->Int->Int->Int->Int->Int->LL->Option R):Option R:=match n with | 0=>none | n+1=>cond (ltI n10 n9) (cond (inR n10 points2.length) (cond (okE DL points2 (Int.toNat n10) 0) (vl (gE points2 (Int.toNat n10) 0) λn'9=>cond (not (ltI n'9 n4)) (vl (if (n'9<m8) then n'9 else m8) λn'10=>Es lf n points_z0 points_t1 points2 basic3 n4 delta5 bias6 done7 n'10 n9 (A4 (n10+1)) l11 k0) (Es lf n points_z0 points_t1 points2 basic3 n4 delta5 bias6 done7 m8 n9 (A4 (n10+1)) l11 k0)) none) none) (k0 points_z0 points_t1 points2 basic3 n4 delta5 bias6 done7 m8 l11)
theorem Aa7 (n points_z0 points_t1 points2 basic3 n4 delta5 bias6 done7 m8 n9 n10 l11):F0 1 ((L7 lf).keep 21) (bd (L7 lf) cl yh (cd [1,1,1,1,1,1,1,0,1,0,0,1,0,0,1,0,1,0,0] Bf)) n ⟨gp [(0,.s (.sl points_z0 points_t1 1 points2)),(3,.fl 0),(2,pI basic3),(0,pI n4),(0,pI delta5),(0,pI bias6),(0,pI done7),(0,pI m8),(38,.s (.sl points_z0 points_t1 1 points2)),(0,pI n9),(0,pI n10)] 53,[.arr true 5 1 l11],s⟩ k =
 Es lf n points_z0 points_t1 points2 basic3 n4 delta5 bias6 done7 m8 n9 n10 l11 (λpoints_z0 points_t1 points2 basic3 n4 delta5 bias6 done7 m8 l9=>k (.exit 4) ⟨gp [(0,.s (.sl points_z0 points_t1 1 points2)),(3,.fl 0),(2,pI basic3),(0,pI n4),(0,pI delta5),(0,pI bias6),(0,pI done7),(0,pI m8)] 94,[.arr true 5 1 l9],s⟩):=by
 induction n generalizing points_z0 points_t1 points2 basic3 n4 delta5 bias6 done7 m8 n9 n10 l11 with
 | zero=>rfl
 | succ n ih=>rw [Es];simp only [<-ih];kernel_rfl
noncomputable def Y2 {R:Type} (lf n:Nat) (points_z0 points_t1:Bool) (points2:LL) (basic3 n4 delta5 bias6 done7 n8v n9:Int) (l10:LL) (k0:Bool->Bool->LL->Int->Int->Int->Int->Int->LL->Option R):Option R:=match n with | 0=>none | n+1=>cond (ltI n9 n8v) (cond (inR n9 points2.length) (cond (okE DL points2 (Int.toNat n9) 0) (vl (gE points2 (Int.toNat n9) 0) λn'26=>cond (ltI n'26 n4) (vl (A4 (delta5+1)) λn'27=>Y2 lf n points_z0 points_t1 points2 basic3 n4 n'27 bias6 done7 n8v (A4 (n9+1)) l10 k0) (cond (n'26==n4) (cond (ltN delta5 1152921504606846976) (cond (ltN bias6 1000000) (cond (Nat.ble l10.length 100000) (vl (List.append l10 (List.map G0 (P9 (Int.toNat delta5) 0 (Int.toNat bias6)))) λl'29=>vl (A4 (done7+1)) λn'30=>cond (ltN delta5 1152921504606846976) (cond (ltN n'30 1000000) (cond (ltI 0 n'30) (vl (↑(Cr (Int.toNat delta5) (Int.toNat n'30) (done7==basic3)):Int) λn'31=>vl (A4 (done7+1)) λn'32=>Y2 lf n points_z0 points_t1 points2 basic3 n4 0 n'31 n'32 n8v (A4 (n9+1)) l'29 k0) none) none) none) none) none) none) (Y2 lf n points_z0 points_t1 points2 basic3 n4 delta5 bias6 done7 n8v (A4 (n9+1)) l10 k0))) none) none) (k0 points_z0 points_t1 points2 basic3 n4 delta5 bias6 done7 l10)
theorem Aa8 (n points_z0 points_t1 points2 basic3 n4 delta5 bias6 done7 n8v n9 l10):F0 1 ((L7 lf).keep 29) (bd (L7 lf) cl yh (cd [1,1,1,1,1,1,1,0,1,0,0,1,0,0,1,1,1,1,0,1,0,0] Bf)) n ⟨gp [(0,.s (.sl points_z0 points_t1 1 points2)),(3,.fl 0),(2,pI basic3),(0,pI n4),(0,pI delta5),(0,pI bias6),(0,pI done7),(61,.s (.sl points_z0 points_t1 1 points2)),(0,pI n8v),(0,pI n9)] 31,[.arr true 5 1 l10],s⟩ k =
 Y2 lf n points_z0 points_t1 points2 basic3 n4 delta5 bias6 done7 n8v n9 l10 (λpoints_z0 points_t1 points2 basic3 n4 delta5 bias6 done7 l8=>k (.exit 6) ⟨gp [(0,.s (.sl points_z0 points_t1 1 points2)),(3,.fl 0),(2,pI basic3),(0,pI n4),(0,pI delta5),(0,pI bias6),(0,pI done7)] 95,[.arr true 5 1 l8],s⟩):=by
 induction n generalizing points_z0 points_t1 points2 basic3 n4 delta5 bias6 done7 n8v n9 l10 with
 | zero=>rfl
 | succ n ih=>rw [Y2];simp only [<-ih];kernel_rfl
noncomputable def Ca {R:Type} (lf n:Nat) (points_z0 points_t1:Bool) (points2:LL) (basic3 n4 delta5 bias6 done7:Int) (l8:LL) (k0:LL->Option R):Option R:=match n with | 0=>none | n+1=>cond (ltI done7 (points2.length:Int)) (Es lf lf points_z0 points_t1 points2 basic3 n4 delta5 bias6 done7 1114112 (points2.length:Int) 0 l8 (λpoints_z'11 points_t'12 points'13 basic'14 n'15 delta'16 bias'17 done'18 m'19 l'20=>vl (A4 (done'18+1)) λn'23=>vl (A4 ((A4 (m'19-n'15))*n'23)) λn'24=>Y2 lf lf points_z'11 points_t'12 points'13 basic'14 m'19 (A4 (delta'16+n'24)) bias'17 done'18 (points'13.length:Int) 0 l'20 (λpoints_z'33 points_t'34 points'35 basic'36 n'37 delta'38 bias'39 done'40 l'41=>vl (A4 (delta'38+1)) λn'42=>vl (A4 (n'37+1)) λn'43=>Ca lf n points_z'33 points_t'34 points'35 basic'36 n'43 n'42 bias'39 done'40 l'41 k0))) (k0 l8)
theorem BP (n points_z0 points_t1 points2 basic3 n4 delta5 bias6 done7 l8):F0 1 ((L7 lf).keep 17) (bd (L7 lf) cl yh (cd [1,1,1,1,1,1,1,0,1,0,0] Bf)) n ⟨gp [(0,.s (.sl points_z0 points_t1 1 points2)),(3,.fl 0),(2,pI basic3),(0,pI n4),(0,pI delta5),(0,pI bias6),(0,pI done7)] 95,[.arr true 5 1 l8],s⟩ k =
 Ca lf n points_z0 points_t1 points2 basic3 n4 delta5 bias6 done7 l8 (λl0=>k (.exit 2) ⟨gp [(4,.fl 0)] 102,[.arr true 5 1 l0],s⟩):=by
 induction n generalizing points_z0 points_t1 points2 basic3 n4 delta5 bias6 done7 l8 with
 | zero=>rfl
 | succ n ih=>rw [Ca];exact (Eq.trans (by kernel_rfl) (A0 ((Aa7 lf cl yh s (H7 4 (I5 (L7 lf) cl yh (cd [1,1,1,1,1,1,1,0,1,0,0,1,0,0,1,1] Bf) (H7 3 (I5 (L7 lf) cl yh (cd [1,1,1,1,1,1,1,0,1,0,0,1,1] Bf) (lpK 1 ((L7 lf).keep 17) (bd (L7 lf) cl yh (cd [1,1,1,1,1,1,1,0,1,0,0] Bf)) n k))))) lf points_z0 points_t1 points2 basic3 n4 delta5 bias6 done7 1114112 (points2.length:Int) 0 l8).trans (congr rfl (Cn8 λpoints_z'11 points_t'12 points'13 basic'14 n'15 delta'16 bias'17 done'18 m'19 l'20=>(Eq.trans (by kernel_rfl) (A5 λn'23=>(A5 λn'24=>((Aa8 lf cl yh s (H7 6 (I5 (L7 lf) cl yh (cd [1,1,1,1,1,1,1,0,1,0,0,1,0,0,1,1,1,1,1] Bf) (H7 3 (I5 (L7 lf) cl yh (cd [1,1,1,1,1,1,1,0,1,0,0,1,1] Bf) (lpK 1 ((L7 lf).keep 17) (bd (L7 lf) cl yh (cd [1,1,1,1,1,1,1,0,1,0,0] Bf)) n k))))) lf points_z'11 points_t'12 points'13 basic'14 m'19 (A4 (delta'16+n'24)) bias'17 done'18 (points'13.length:Int) 0 l'20).trans (congr rfl (fx9 λpoints_z'33 points_t'34 points'35 basic'36 n'37 delta'38 bias'39 done'40 l'41=>(Eq.trans (by kernel_rfl) (A5 λn'42=>(A5 λn'43=>(ih points_z'33 points_t'34 points'35 basic'36 n'43 n'42 bias'39 done'40 l'41))))))))))))) rfl))
noncomputable def SJ {R:Type} (lf:Nat) (p_z p_t:Bool) (p:LL) (k0:Unit->Option R) (k1:By->Int->LL->Option R):Option R:=cond (ltI 256 (p.length:Int)) (k0 ()) (P3 lf lf p_z p_t p (p.length:Int) 0 [] (λl'2=>k1 ([]:List UInt8) 2 l'2) (λpoints_z'3 points_t'4 points'5 l'6=>vl (l'6.length:Int) λn'8=>cond (ltI 0 n'8) (cond (J9 (l'6.length+1)) (Ca lf lf points_z'3 points_t'4 points'5 n'8 128 0 72 n'8 (l'6++[[(SV.int .u8 (45:Int))]]) (λl'44=>cond (List.all l'44 AQ) (k1 (List.map Vx l'44) 0 l'44) none)) none) (Ca lf lf points_z'3 points_t'4 points'5 n'8 128 0 72 n'8 l'6 (λl'45=>cond (List.all l'45 AQ) (k1 (List.map Vx l'45) 0 l'45) none))))
theorem B00 (d:Nat) (p_z p_t p):evC (L7 lf) (d+1) σ yh 106 [.s (.sl p_z p_t 1 p)] [] s=SJ lf p_z p_t p (λ_=>some (.tup [pS ([]:List UInt8),pI (3:Int)],[],s)) (λr0 r1 l2=>some (.tup [pS r0,pI r1],[.arr true 5 1 l2],s)):=by
 refine (evE (fn:=Tryz.f106) (by kernel_rfl)).trans ?_
 generalize evC (L7 lf) d=cl
 unfold SJ;exact let K0:=(H7 2 (I5 (L7 lf) cl yh (cd [1,1,1,1,1,1,1,1] Bf) (G5 (L7 lf) Tryz.f106)));(Eq.trans (by kernel_rfl) (A0 rfl ((Aa6 lf cl yh s (H7 0 (I5 (L7 lf) cl yh (cd [1,1,1,1] Bf) (G5 (L7 lf) Tryz.f106))) lf p_z p_t p (p.length:Int) 0 []).trans (congr (congr rfl (by kernel_rfl)) (fx4 λpoints_z'3 points_t'4 points'5 l'6=>(Eq.trans (by kernel_rfl) (A5 λn'8=>(A0 (A0 ((BP lf cl yh s K0 lf points_z'3 points_t'4 points'5 n'8 128 0 72 n'8 (l'6++[[(SV.int .u8 (45:Int))]])).trans (by kernel_rfl)) rfl) ((BP lf cl yh s K0 lf points_z'3 points_t'4 points'5 n'8 128 0 72 n'8 l'6).trans (by kernel_rfl))))))))))
end
theorem CI (k b:Nat):U4 ((36*k:Nat):Int) (b:Int)=(thr k b:Int):=by
 unfold U4 thr
 omega
theorem Az7 {R:Type} {k0:Int->Option R} (b:Int):Ce1 LF b k0=k0 b:=rfl
theorem Ab2 {R:Type} {k0:Int->Int->Int->Option R} (k b:Int) (h0:ltN k 1000000000000=true) (h1:ltN b 1000000=true):An9 LF k b k0=k0 (U4 k b) (Int.add k 36) b:=by
 obtain ⟨a0,a1⟩:=D2.1 h0
 obtain ⟨b0,b1⟩:=D2.1 h1
 unfold An9
 have e1:A4 (k+36)=k+36:=A8
 have e2:A4 (k+36-b)=k+36-b:=A8
 simp only [vl,e1,e2]
 have:(if (26:Int)<(if (1:Int) > k+36-b then (1:Int) else k+36-b) then (26:Int) else (if (1:Int) > k+36-b then (1:Int) else k+36-b))=U4 k b:=by
  unfold U4
  omega
 grind
theorem Ss {q k b:Nat} (h:q<thr k b):P9 q k b=[Jf q]:=by rw [P9,dif_pos h]
theorem EO {q k b:Nat} (h:¬ q<thr k b):P9 q k b=Jf (thr k b+(q-thr k b) % (36-thr k b))::P9 ((q-thr k b) / (36-thr k b)) (k+1) b:=by rw [P9,dif_neg h]
theorem Ak3 {x y m:Nat} (hy:10<=y) (h:x<10*m):x / y<m:=by
 have h1:x / y<=x / 10:=Nat.div_le_div_left hy (by omega)
 omega
theorem XM (b:Nat):∀ (r q k:Nat),q<10 ^ r->(P9 q k b).length<=r+1:=by
 intro r
 induction r with
 | zero=>
  intro q k h
  have ht:=Af k b
  rw [Ss (by simp at h;omega)]
  simp
 | succ r ih=>
  intro q k h
  have ht:=Af k b
  by_cases hq:q<thr k b
  ·rw [Ss hq];simp
  ·rw [EO hq,List.length_cons]
   have:=ih ((q-thr k b) / (36-thr k b)) (k+1) (Ak3 (by omega) (by rw [Nat.pow_succ] at h;omega))
   omega
theorem Ay1 (z:Bool) (b:Nat) (hb:b<1000000):∀ (r q k n:Nat) (l:LL),q<10 ^ r->q<1152921504606846976->k+r<=1000->r<n->l.length+r<=200000->
  ∃ (n2 n3:Int),∀ (R:Type) (k0:Bool->LL->Int->Int->Option R),Eo LF n (q:Int) z l (b:Int) ((36*k:Nat):Int) k0=k0 z (l++(P9 q k b).map G0) n2 n3:=by
 have fin:∀ (q k n:Nat) (l:LL),q<thr k b->k<=1000->l.length<=200000->∃ (n2 n3:Int),∀ (R:Type) (k0:Bool->LL->Int->Int->Option R),Eo LF (n+1) (q:Int) z l (b:Int) ((36*k:Nat):Int) k0=k0 z (l++(P9 q k b).map G0) n2 n3:=by
  intro q k n l hq hk hl
  have ht:=Af k b
  refine ⟨(b:Int),Int.add ((36*k:Nat):Int) 36,λR k0=>?_⟩
  rw [Eo]
  rw [Z1,Z1,CI,B4,Z1,Ss hq]
  simp only [vl,cond_true,Int.toNat_natCast]
  rw [I9 (by omega)]
  rfl
 intro r
 induction r with
 | zero=>
  intro q k n l h _ hk hn hl
  have ht:=Af k b
  obtain ⟨n,rfl⟩:∃ m,n=m+1:=⟨n-1,by omega⟩
  exact fin q k n l (by simp at h;omega) (by omega) (by omega)
 | succ r ih=>
  intro q k n l h hq60 hk hn hl
  have ht:=Af k b
  obtain ⟨n,rfl⟩:∃ m,n=m+1:=⟨n-1,by omega⟩
  by_cases hq:q<thr k b
  ·exact fin q k n l hq (by omega) (by omega)
  ·have hd:(q-thr k b) / (36-thr k b)<10 ^ r:=Ak3 (by omega) (by rw [Nat.pow_succ] at h;omega)
   have hd2:(q-thr k b) / (36-thr k b)<=q:=Nat.le_trans (Nat.div_le_self _ _) (by omega)
   have hm2:(q-thr k b) % (36-thr k b)<36-thr k b:=Nat.mod_lt _ (by omega)
   obtain ⟨n2,n3,e⟩:=ih ((q-thr k b) / (36-thr k b)) (k+1) n (l++[G0 (Jf (thr k b+(q-thr k b) % (36-thr k b)))]) hd (by omega) (by omega) (by omega) (by rw [List.length_append,List.length_singleton];omega)
   refine ⟨n2,n3,λR k0=>?_⟩
   rw [Eo]
   have c1:A4 ((q:Int)-(thr k b:Int))=((q-thr k b:Nat):Int):=by rw [A8];omega
   have c2:A4 ((36:Int)-(thr k b:Int))=((36-thr k b:Nat):Int):=by rw [A8];omega
   have c3:Int.tmod ((q-thr k b:Nat):Int) ((36-thr k b:Nat):Int)=(((q-thr k b) % (36-thr k b):Nat):Int):=CL _ _
   have c4:Int.tdiv ((q-thr k b:Nat):Int) ((36-thr k b:Nat):Int)=(((q-thr k b) / (36-thr k b):Nat):Int):=Y6 _ _
   have c7:((((36-thr k b:Nat):Int)) != 0)=true:=by rw [bne_iff_ne];omega
   rw [Z1,Z1,CI,A6]
   simp only [vl,c1,c2,c3,c4,c7,cond_true,cond_false]
   rw [EO hq]
   generalize hA:(q-thr k b) / (36-thr k b)=A at *
   generalize hB:(q-thr k b) % (36-thr k b)=B at *
   have c5:A4 ((thr k b:Int)+(B:Int))=((thr k b+B:Nat):Int):=by rw [A8];rfl
   have c6:A4 (A:Int)=(A:Int):=A8
   rw [c5,c6,Z1,I9 (by omega),Int.toNat_natCast,show Int.add ((36*k:Nat):Int) 36=((36*(k+1):Nat):Int) from (by show ((36*k:Nat):Int)+36=_;omega)]
   refine Eq.trans (e R k0) ?_
   simp [List.append_assoc]
theorem Ay2 (q b:Int) (z:Bool) (l:LL) (h0:ltN q 1152921504606846976=true) (h1:ltN b 1000000=true) (h2:Nat.ble l.length 100000=true) :
  ∃ (n2 n3:Int),∀ (R:Type) (k0:Bool->LL->Int->Int->Option R),Cd7 LF q b z l k0=k0 z (List.append l ((P9 q.toNat 0 b.toNat).map G0)) n2 n3:=by
 obtain ⟨a0,a1⟩:=D2.1 h0
 obtain ⟨b0,b1⟩:=D2.1 h1
 obtain ⟨q,rfl⟩:=Int.eq_ofNat_of_zero_le a0
 obtain ⟨b,rfl⟩:=Int.eq_ofNat_of_zero_le b0
 have hl:=Nat.le_of_ble_eq_true h2
 have hLF:=F6
 obtain ⟨n2,n3,e⟩:=Ay1 z b (by omega) 19 q 0 LF l (by omega) (by omega) (by omega) (by omega) (by omega)
 exact ⟨n2,n3,λR k0=>e R _⟩
def Ga (l:List Int):LL:=l.map λx=>[SV.int .i64 x]
def G3 (l:List Nat):LL:=l.map λx:Nat=>[SV.int .i64 (x:Int)]
theorem Th (l:List Nat):Ga (l.map λn:Nat=>(n:Int))=G3 l:=by simp [Ga,G3,Function.comp_def]
theorem Gb (l:List Int):(Ga l).length=l.length:=by simp [Ga]
theorem L9 (l:List Nat):(G3 l).length=l.length:=by simp [G3]
theorem RT (a b:List Nat):G3 (a++b)=G3 a++G3 b:=by simp [G3]
theorem An2 {l:List Int} {i:Nat} (h:i<l.length):okE DL (Ga l) i 0=true:=by
 unfold okE Ga DL
 simp [List.getD_eq_getElem?_getD,h,okS,SV.has]
theorem Bb1 (l:List Int) (i:Nat) (h:i<l.length):gE (Ga l) i 0=l.getD i 0:=by
 unfold gE gC Ga
 simp [List.getD_eq_getElem?_getD,List.getElem?_eq_getElem h,SV.gI]
theorem LT {l:List Nat} {i:Nat} (h:i<l.length):okE DL (G3 l) i 0=true:=by
 rw [<-Th];exact An2 (by simpa using h)
theorem XT (l:List Nat) (i:Nat) (h:i<l.length):gE (G3 l) i 0=(l.getD i 0:Int):=by
 rw [<-Th,Bb1 _ _ (by simpa using h)]
 grind
theorem Bw2 {l:LL} (h:l.all Uv=true):∃ P:List Int,l=Ga P:=by
 induction l with
 | nil=>exact ⟨[],rfl⟩
 | cons x r ih=>
  simp only [List.all_cons,Bool.and_eq_true] at h
  obtain ⟨P,rfl⟩:=ih h.2
  have hx:=h.1
  unfold Uv at hx
  split at hx
  ·rename_i n
   exact ⟨n::P,rfl⟩
  ·cases hx
theorem Ba0 (P:List Int):(Ga P).map elI=P:=by
 unfold Ga
 rw [List.map_map]
 conv=>rhs;rw [<-List.map_id P]
 apply List.map_congr_left
 intro x _
 simp [elI,SV.gI]
theorem A98 (l:List Int) (i:Nat) (h:i<l.length):l.drop i=l.getD i 0::l.drop (i+1):=by simp_all
theorem PM (l:List Nat) (i:Nat) (h:i<l.length):l.drop i=l.getD i 0::l.drop (i+1):=by simp_all
theorem Bp9:∀ (r d k:Nat),d<456*35 ^ r->Yv d k<=k+36*r+36:=by
 intro r
 induction r with
 | zero=>
  intro d k h
  rw [Yw (by simp at h;omega)]
  have:36*d / (d+38)<=36:=by
   apply Nat.div_le_of_le_mul
   omega
  omega
 | succ r ih=>
  intro d k h
  by_cases hd:455<d
  ·rw [OL hd]
   grind
  grind
theorem OM (d c:Nat) (f:Bool) (h:d<1152921504606846976):Cr d c f<=500:=by
 unfold Cr
 have hx:∀ x:Nat,x<=d->Yv (x+x / c) 0<=500:=by
  intro x hx
  have:=Nat.div_le_self x c
  have:=Bp9 11 (x+x / c) 0 (by omega)
  omega
 grind
theorem As6 {q k b:Nat} (h:q<1152921504606846976):(P9 q k b).length<=20:=XM b 19 q k (by omega)
theorem An7 (z t:Bool) (pts:List Nat) (basic m:Nat) (hm:m<=1114112) (hl:pts.length<=256):∀ (r i n:Nat) (s:UH),i+r=pts.length->r<n->s.delta+r<=1000000000000->s.bias<=500->s.out.length+20*r<=90000->s.done+r<=1000->basic<=256->
  (∀ (R:Type) (k0:Bool->Bool->LL->Int->Int->Int->Int->Int->LL->Option R),Y2 LF n z t (G3 pts) (basic:Int) (m:Int) (s.delta:Int) (s.bias:Int) (s.done:Int) (pts.length:Int) (i:Int) (s.out.map G0) k0 =
   k0 z t (G3 pts) (basic:Int) (m:Int) ((M5 m basic (pts.drop i) s).delta:Int) ((M5 m basic (pts.drop i) s).bias:Int) ((M5 m basic (pts.drop i) s).done:Int) ((M5 m basic (pts.drop i) s).out.map G0))/\
  (M5 m basic (pts.drop i) s).bias<=500/\(M5 m basic (pts.drop i) s).out.length<=s.out.length+20*(pts.drop i).countP (· == m)/\(M5 m basic (pts.drop i) s).done=s.done+(pts.drop i).countP (· == m)/\
  (M5 m basic (pts.drop i) s).delta<=(if 0<(pts.drop i).countP (· == m) then r else s.delta+r):=by
 intro r
 induction r with
 | zero=>
  intro i n s hi hn h1 h2 h3 h4 hb
  obtain ⟨n,rfl⟩:∃ m,n=m+1:=⟨n-1,by omega⟩
  rw [List.drop_of_length_le (by omega)]
  refine ⟨λR k0=>?_,h2,by simp [M5],by simp [M5],by simp [M5]⟩
  rw [Y2]
  rw [A6]
  rfl
 | succ r ih=>
  intro i n s hi hn h1 h2 h3 h4 hb
  obtain ⟨n,rfl⟩:∃ m,n=m+1:=⟨n-1,by omega⟩
  rw [PM pts i (by omega)]
  have hg:=XT pts i (by omega)
  have ok:=LT (l:=pts) (i:=i) (by omega)
  generalize pts.getD i 0=p at *
  have e1:A4 ((i:Int)+1)=((i+1:Nat):Int):=by rw [A8];rfl
  have e2:A4 ((s.delta:Int)+1)=((s.delta+1:Nat):Int):=by rw [A8];rfl
  have e3:A4 ((s.done:Int)+1)=((s.done+1:Nat):Int):=by rw [A8];rfl
  by_cases hp:p<m
  ·have hne:(p==m)=false:=by rw [beq_eq_false_iff_ne];omega
   have hs:M5 m basic (p::pts.drop (i+1)) s=M5 m basic (pts.drop (i+1)) { s with delta:=s.delta+1 }:=by rw [M5,if_pos hp]
   obtain ⟨q1,q2,q3,q4,q5⟩:=ih (i+1) n { s with delta:=s.delta+1 } (by omega) (by omega) (by simp only;omega) h2 (by simp only;omega) (by simp only;omega) hb
   rw [hs,List.countP_cons_of_neg (by rw [hne];simp)]
   refine ⟨λR k0=>?_,q2,q3,q4,?_⟩
   ·rw [Y2]
    rw [B4,L9,J2,Int.toNat_natCast,ok]
    simp only [cond_true,vl,hg,e1,e2]
    rw [B4,cond_true]
    exact q1 R k0
   ·simp only at q5
    split at q5<;>split<;>omega
  ·by_cases hq:p=m
   ·subst hq
    have hn20:=As6 (q:=s.delta) (k:=0) (b:=s.bias) (by omega)
    have had:=OM s.delta (s.done+1) (s.done==basic) (by omega)
    have hs:M5 p basic (p::pts.drop (i+1)) s=M5 p basic (pts.drop (i+1)) { delta:=0,bias:=Cr s.delta (s.done+1) (s.done==basic),done:=s.done+1,out:=s.out++P9 s.delta 0 s.bias }:=by rw [M5,if_neg hp,if_pos rfl]
    obtain ⟨q1,q2,q3,q4,q5⟩:=ih (i+1) n { delta:=0,bias:=Cr s.delta (s.done+1) (s.done==basic),done:=s.done+1,out:=s.out++P9 s.delta 0 s.bias } (by omega) (by omega) (by simp only;omega) had (by simp only [List.length_append];omega) (by simp only;omega) hb
    rw [hs,List.countP_cons_of_pos (by simp)]
    refine ⟨λR k0=>?_,q2,?_,?_,?_⟩
    ·rw [Y2]
     have hbeq:((s.done:Int)==(basic:Int))=(s.done==basic):=by grind
     rw [B4,L9,J2,Int.toNat_natCast,ok]
     simp only [cond_true,vl,hg,e1,e3]
     rw [A6,cond_false,beq_self_eq_true,cond_true,Z1,Z1,List.length_map,Nat.ble_eq_true_of_le (show s.out.length<=100000 by omega),Z1,B4,hbeq]
     simp only [cond_true,Int.toNat_natCast]
     have hrow:List.append (s.out.map G0) ((P9 s.delta 0 s.bias).map G0)=(s.out++P9 s.delta 0 s.bias).map G0:=by rw [List.map_append];rfl
     rw [hrow]
     exact q1 R k0
    ·simp only [List.length_append] at q3;omega
    ·simp only at q4;omega
    ·simp only at q5
     rw [Bj]
     split at q5<;>omega
   ·have hne:(p==m)=false:=by rw [beq_eq_false_iff_ne];omega
    have hs:M5 m basic (p::pts.drop (i+1)) s=M5 m basic (pts.drop (i+1)) s:=by rw [M5,if_neg hp,if_neg hq]
    obtain ⟨q1,q2,q3,q4,q5⟩:=ih (i+1) n s (by omega) (by omega) (by omega) h2 (by omega) (by omega) hb
    rw [hs,List.countP_cons_of_neg (by rw [hne];simp)]
    refine ⟨λR k0=>?_,q2,q3,q4,?_⟩
    ·rw [Y2]
     rw [B4,L9,J2,Int.toNat_natCast,ok]
     simp only [cond_true,vl,hg,e1]
     rw [A6,cond_false,show ((p:Int)==(m:Int))=false by rw [beq_eq_false_iff_ne];omega,cond_false]
     exact q1 R k0
    ·split at q5<;>split<;>omega
theorem Aa9 {R:Type} {k0:Bool->Bool->LL->Int->Int->Int->Int->Int->Int->LL->Option R} (z t:Bool) (pts:List Nat) (hl:pts.length<=256) (n0:Nat) (basic delta bias done:Int) (l:LL):∀ (r i n m:Nat),i+r=pts.length->r<n->
  Es LF n z t (G3 pts) basic (n0:Int) delta bias done (m:Int) (pts.length:Int) (i:Int) l k0=k0 z t (G3 pts) basic (n0:Int) delta bias done ((J7 n0 (pts.drop i) m:Nat):Int) l:=by
 intro r
 induction r with
 | zero=>
  intro i n m hi hn
  obtain ⟨n,rfl⟩:∃ m,n=m+1:=⟨n-1,by omega⟩
  rw [Es]
  rw [A6,List.drop_of_length_le (by omega)]
  rfl
 | succ r ih=>
  intro i n m hi hn
  obtain ⟨n,rfl⟩:∃ m,n=m+1:=⟨n-1,by omega⟩
  have hg:=XT pts i (by omega)
  have ok:=LT (l:=pts) (i:=i) (by omega)
  rw [Es,PM pts i (by omega)]
  generalize pts.getD i 0=p at *
  have e1:A4 ((i:Int)+1)=((i+1:Nat):Int):=by rw [A8];rfl
  rw [B4,L9,J2,Int.toNat_natCast,ok]
  simp only [cond_true,vl,hg,e1,J7]
  by_cases h:n0<=p
  ·rw [if_pos h,A6,Bool.not_false,cond_true]
   have:(if (p:Int)<(m:Int) then (p:Int) else (m:Int))=((min m p:Nat):Int):=by split<;>omega
   rw [this]
   exact ih (i+1) n (min m p) (by omega) (by omega)
  ·rw [if_neg h,B4,Bool.not_true,cond_false]
   exact ih (i+1) n m (by omega) (by omega)
theorem Jn (n:Nat):∀ (l:List Nat) (m:Nat),(J7 n l m=m\/(J7 n l m∈l/\n<=J7 n l m))/\J7 n l m<=m/\∀ p∈l,n<=p->J7 n l m<=p
 | [],m=>⟨.inl rfl,Nat.le_refl _,λp h=>by cases h⟩
 | q::r,m=>by
  obtain ⟨h1,h2,h3⟩:=Jn n r (if n<=q then min m q else m)
  simp only [J7]
  grind
theorem Zu {n m:Nat} (hnm:n<=m):∀ l:List Nat,(∀ p∈l,n<=p->m<=p)->l.countP (λp=>decide (p<m+1))=l.countP (λp=>decide (p<n))+l.countP (· == m)
 | [],_=>rfl
 | p::l,h=>by
  have ih:=Zu hnm l (λq hq=>h q (List.mem_cons_of_mem _ hq))
  have hp:=h p List.mem_cons_self
  grind
theorem A89 {n:Nat} {l:List Nat} (h:l.countP (λp=>decide (p<n))<l.length):∃ p∈l,n<=p:=by
 apply Classical.byContradiction
 intro hc
 have:l.countP (λp=>decide (p<n))=l.length:=by simp_all
 omega
theorem Bg6 (z t:Bool) (pts:List Nat) (basic:Nat) (hl:pts.length<=256) (hb:basic<=256) (hall:∀ p∈pts,p<=1114111):∀ (f n n':Nat) (s:UH),s.done=pts.countP (λp=>decide (p<n))->pts.length<=s.done+f->f<n'->s.delta<=300->s.bias<=500->s.out.length+20*(pts.length-s.done)<=80000->n<=1114112->
  ∀ (R:Type) (k0:LL->Option R),Ca LF n' z t (G3 pts) (basic:Int) (n:Int) (s.delta:Int) (s.bias:Int) (s.done:Int) (s.out.map G0) k0=k0 ((U9 pts basic f n s).out.map G0):=by
 intro f
 have hLF:=F6
 induction f with
 | zero=>
  intro n n' s hd hf hn h1 h2 h3 h4 R k0
  obtain ⟨n',rfl⟩:∃ m,n'=m+1:=⟨n'-1,by omega⟩
  rw [Ca]
  rw [L9,A6]
  rfl
 | succ f ih=>
  intro n n' s hd hf hn h1 h2 h3 h4 R k0
  obtain ⟨n',rfl⟩:∃ m,n'=m+1:=⟨n'-1,by omega⟩
  rw [Ca]
  rw [L9]
  have hcl:pts.countP (λp=>decide (p<n))<=pts.length:=List.countP_le_length
  by_cases hlt:s.done<pts.length
  ·obtain ⟨p0,hp0,hp1⟩:=A89 (n:=n) (l:=pts) (by omega)
   obtain ⟨g1,g2,g3⟩:=Jn n pts 1114112
   have g4:=g3 p0 hp0 hp1
   have g5:=hall p0 hp0
   have hmem:J7 n pts 1114112∈pts/\n<=J7 n pts 1114112:=by grind
   have he:U9 pts basic (f+1) n s=U9 pts basic f (J7 n pts 1114112+1) { M5 (J7 n pts 1114112) basic pts { s with delta:=s.delta+(J7 n pts 1114112-n)*(s.done+1) } with delta:=(M5 (J7 n pts 1114112) basic pts { s with delta:=s.delta+(J7 n pts 1114112-n)*(s.done+1) }).delta+1 }:=by
    rw [U9,if_pos hlt]
   rw [he,B4,cond_true]
   have hleast:=λ(K:Bool->Bool->LL->Int->Int->Int->Int->Int->Int->LL->Option R)=>Aa9 (k0:=K) z t pts hl n (basic:Int) (s.delta:Int) (s.bias:Int) (s.done:Int) (s.out.map G0) pts.length 0 LF 1114112 (by omega) (by omega)
   rw [List.drop_zero] at hleast
   refine Eq.trans (hleast _) ?_
   generalize J7 n pts 1114112=m at *
   have hmul:(m-n)*(s.done+1)<=1114112*256:=Nat.mul_le_mul (by omega) (by omega)
   have e1:A4 ((s.done:Int)+1)=((s.done+1:Nat):Int):=by rw [A8];rfl
   have e2:A4 ((m:Int)-(n:Int))=((m-n:Nat):Int):=by rw [A8];omega
   have e3:A4 (((m-n:Nat):Int)*((s.done+1:Nat):Int))=(((m-n)*(s.done+1):Nat):Int):=by
    rw [<-Int.natCast_mul]
    exact A8
   have e4:A4 ((s.delta:Int)+(((m-n)*(s.done+1):Nat):Int))=((s.delta+(m-n)*(s.done+1):Nat):Int):=by
    rw [A8];rfl
   simp only [vl,e1,e2,e3,e4]
   have hin:=An7 z t pts basic m (by omega) hl pts.length 0 LF { s with delta:=s.delta+(m-n)*(s.done+1) } (by omega) (by omega) (by simp only;omega) h2 (by simp only;omega) (by simp only;omega) hb
   rw [List.drop_zero] at hin
   obtain ⟨q1,q2,q3,q4,q5⟩:=hin
   rw [L9]
   refine Eq.trans (q1 R _) ?_
   have hcnt:0<pts.countP (· == m):=List.countP_pos_iff.2 ⟨m,hmem.1,by simp⟩
   rw [if_pos hcnt] at q5
   have hstep:=Zu hmem.2 pts g3
   generalize M5 m basic pts { s with delta:=s.delta+(m-n)*(s.done+1) } = s' at *
   simp only at q3 q4
   have e5:A4 ((s'.delta:Int)+1)=((s'.delta+1:Nat):Int):=by rw [A8];rfl
   have e6:A4 ((m:Int)+1)=((m+1:Nat):Int):=by rw [A8];rfl
   have hcl2:pts.countP (λp=>decide (p<m+1))<=pts.length:=List.countP_le_length
   simp only [e5,e6]
   exact ih (m+1) n' { s' with delta:=s'.delta+1 } (by simp only;omega) (by simp only;omega) (by omega) (by simp only;omega) q2 (by simp only;omega) (by omega) R k0
  ·rw [A6]
   rw [U9,if_neg hlt]
   rfl
def Fa (l:List Int):By:=(l.filter λx=>decide (x<128)).map λx=>UInt8.ofNat x.toNat
theorem Ce9 (x:Int) (h0:0<=x) (h:x<128):[SV.int .u8 (wu8 x)]=G0 (UInt8.ofNat x.toNat):=by
 unfold G0
 have e:wu8 x=x:=by unfold wu8;exact Int.emod_eq_of_lt h0 (show x<256 by omega)
 rw [e]
 have:((UInt8.ofNat x.toNat).toNat:Int)=x:=by simp;omega
 rw [this]
theorem BT {x:Int} (h:ptI x=true):0<=x/\x<=1114111:=by
 cases x with
 | negSucc m=>cases h
 | ofNat m=>
  have:Ij m=true:=h
  unfold Ij at this
  simp only [Bool.and_eq_true,Nat.ble_eq] at this
  grind
theorem Aa4 (z t:Bool) (P:List Int) (hl:P.length<=256):∀ (r i n:Nat) (out:By),i+r=P.length->r<n->out.length+r<=1000->
  ((P.drop i).all ptI=true->∀ (R:Type) (k0:LL->Option R) (k1:Bool->Bool->LL->LL->Option R),P3 LF n z t (Ga P) (P.length:Int) (i:Int) (out.map G0) k0 k1=k1 z t (Ga P) ((out++Fa (P.drop i)).map G0))/\
  ((P.drop i).all ptI=false->∃ l,∀ (R:Type) (k0:LL->Option R) (k1:Bool->Bool->LL->LL->Option R),P3 LF n z t (Ga P) (P.length:Int) (i:Int) (out.map G0) k0 k1=k0 l):=by
 intro r
 induction r with
 | zero=>
  intro i n out hi hn ho
  obtain ⟨n,rfl⟩:∃ m,n=m+1:=⟨n-1,by omega⟩
  rw [List.drop_of_length_le (by omega)]
  refine ⟨λ_ R k0 k1=>?_,λh=>(by cases h)⟩
  rw [P3]
  rw [A6]
  simp [Fa]
 | succ r ih=>
  intro i n out hi hn ho
  obtain ⟨n,rfl⟩:∃ m,n=m+1:=⟨n-1,by omega⟩
  have hg:=Bb1 P i (by omega)
  have ok:=An2 (l:=P) (i:=i) (by omega)
  rw [A98 P i (by omega)]
  generalize P.getD i 0=x at *
  have e1:A4 ((i:Int)+1)=((i+1:Nat):Int):=by rw [A8];rfl
  cases hx:ptI x with
  | false=>
   refine ⟨λh=>?_,λ_=>⟨out.map G0,λR k0 k1=>?_⟩⟩
   ·rw [List.all_cons,hx] at h;cases h
   ·rw [P3]
    rw [B4,Gb,J2,Int.toNat_natCast,ok]
    simp only [cond_true,vl,hg,hx,Bool.not_false]
  | true=>
   obtain ⟨p0,p1⟩:=BT hx
   rw [List.all_cons,hx,Bool.true_and]
   by_cases h128:x<128
   ·have hbs:Fa (x::P.drop (i+1))=UInt8.ofNat x.toNat::Fa (P.drop (i+1)):=by
     unfold Fa;rw [List.filter_cons_of_pos (by simpa using h128)];rfl
    have hrow:out.map G0++[[SV.int .u8 (wu8 x)]]=(out++[UInt8.ofNat x.toNat]).map G0:=by rw [Ce9 x p0 h128];simp
    obtain ⟨q1,q2⟩:=ih (i+1) n (out++[UInt8.ofNat x.toNat]) (by omega) (by omega) (by simp;omega)
    have step:∀ (R:Type) (k0:LL->Option R) (k1:Bool->Bool->LL->LL->Option R),P3 LF (n+1) z t (Ga P) (P.length:Int) (i:Int) (out.map G0) k0 k1=P3 LF n z t (Ga P) (P.length:Int) ((i+1:Nat):Int) ((out++[UInt8.ofNat x.toNat]).map G0) k0 k1:=by
     intro R k0 k1
     rw [P3]
     rw [B4,Gb,J2,Int.toNat_natCast,ok]
     simp only [cond_true,vl,hg,hx,Bool.not_true,cond_false,e1]
     rw [D8 h128,List.length_map,I9 (by omega),hrow]
     rfl
    refine ⟨λh R k0 k1=>?_,λh=>?_⟩
    ·rw [step,q1 h,hbs];simp
    ·obtain ⟨l,e⟩:=q2 h
     exact ⟨l,λR k0 k1=>by rw [step];exact e R k0 k1⟩
   ·have hbs:Fa (x::P.drop (i+1))=Fa (P.drop (i+1)):=by
     unfold Fa;rw [List.filter_cons_of_neg (by simpa using h128)]
    obtain ⟨q1,q2⟩:=ih (i+1) n out (by omega) (by omega) (by omega)
    have step:∀ (R:Type) (k0:LL->Option R) (k1:Bool->Bool->LL->LL->Option R),P3 LF (n+1) z t (Ga P) (P.length:Int) (i:Int) (out.map G0) k0 k1=P3 LF n z t (Ga P) (P.length:Int) ((i+1:Nat):Int) (out.map G0) k0 k1:=by
     intro R k0 k1
     rw [P3]
     rw [B4,Gb,J2,Int.toNat_natCast,ok]
     simp only [cond_true,vl,hg,hx,Bool.not_true,cond_false,e1]
     rw [A6]
     rfl
    refine ⟨λh R k0 k1=>?_,λh=>?_⟩
    ·rw [step,q1 h,hbs]
    ·obtain ⟨l,e⟩:=q2 h
     exact ⟨l,λR k0 k1=>by rw [step];exact e R k0 k1⟩
theorem B08 {P:List Int} (h:P.all ptI=true):∃ pts:List Nat,P=pts.map (λn:Nat=>(n:Int))/\pts.all Ij=true/\∀ p∈pts,p<=1114111:=by
 induction P with
 | nil=>exact ⟨[],rfl,rfl,by simp⟩
 | cons x P ih=>
  rw [List.all_cons,Bool.and_eq_true] at h
  obtain ⟨pts,rfl,h1,h2⟩:=ih h.2
  obtain ⟨p0,p1⟩:=BT h.1
  obtain ⟨m,rfl⟩:=Int.eq_ofNat_of_zero_le p0
  refine ⟨m::pts,rfl,?_,?_⟩
  ·rw [List.all_cons,h1,Bool.and_true];exact h.1
  grind
theorem VR (pts:List Nat):Fa (pts.map λn:Nat=>(n:Int))=L6 pts:=by
 unfold Fa L6
 induction pts with
 | nil=>rfl
 | cons p r ih=>
  grind
theorem Zb (pts:List Nat):(L6 pts).length=pts.countP (λp=>decide (p<128)):=by
 unfold L6
 grind
theorem Aa5 (z t:Bool) (P:List Int):(Ec P=([],3)/\∀ (R:Type) (k0:Unit->Option R) (k1:By->Int->LL->Option R),SJ LF z t (Ga P) k0 k1=k0 ())\/
  (∃ l,∀ (R:Type) (k0:Unit->Option R) (k1:By->Int->LL->Option R),SJ LF z t (Ga P) k0 k1=k1 (Ec P).1 ((Ec P).2:Nat) l):=by
 have hLF:=F6
 by_cases hl:256<P.length
 ·refine .inl ⟨by unfold Ec;rw [if_pos hl],λR k0 k1=>?_⟩
  unfold SJ
  rw [Gb,B4]
  rfl
 ·right
  obtain ⟨q1,q2⟩:=Aa4 z t P (by omega) P.length 0 LF [] (by omega) (by omega) (by simp;omega)
  rw [List.drop_zero] at q1 q2
  cases ha:P.all ptI with
  | false=>
   obtain ⟨l,e⟩:=q2 ha
   refine ⟨l,λR k0 k1=>?_⟩
   unfold SJ
   rw [Gb,A6,cond_false]
   refine Eq.trans (e R _ _) ?_
   unfold Ec
   rw [if_neg hl,ha]
   rfl
  | true=>
   obtain ⟨pts,rfl,hp1,hp2⟩:=B08 ha
   rw [List.length_map] at hl
   have hen:Ec (pts.map λn:Nat=>(n:Int))=Gw pts:=by
    unfold Ec
    rw [List.length_map,if_neg hl,ha]
    simp [Function.comp_def]
   have hbl:=Zb pts
   have hbc:pts.countP (λp=>decide (p<128))<=pts.length:=List.countP_le_length
   have main:∀ (o:By),o.length<=300->∀ (R:Type) (k0:LL->Option R),Ca LF LF z t (G3 pts) ((L6 pts).length:Int) 128 0 72 ((L6 pts).length:Int) (o.map G0) k0=k0 ((U9 pts (L6 pts).length 256 128 { delta:=0,bias:=72,done:=(L6 pts).length,out:=o }).out.map G0):=by
    intro o ho R k0
    exact Bg6 z t pts (L6 pts).length (by omega) (by omega) hp2 256 128 LF { delta:=0,bias:=72,done:=(L6 pts).length,out:=o } hbl (by simp only;omega) (by omega) (by simp) (by simp) (by simp only;omega) (by omega) R k0
   have he2:Gw pts=((U9 pts (L6 pts).length 256 128 { delta:=0,bias:=72,done:=(L6 pts).length,out:=if (L6 pts).isEmpty then [] else L6 pts++[45] }).out,0):=by
    unfold Gw
    grind
   refine ⟨(Gw pts).1.map G0,λR k0 k1=>?_⟩
   unfold SJ
   rw [Gb,List.length_map,A6,cond_false,hen]
   have q1':=q1 ha R
   rw [List.length_map] at q1'
   refine Eq.trans (q1' _ _) ?_
   rw [List.nil_append,VR,Th]
   simp only [vl,List.length_map]
   by_cases hbe:L6 pts=[]
   ·rw [hbe,List.length_nil,A6,cond_false]
    have mm:=main [] (by simp) R
    rw [hbe,List.length_nil] at mm
    rw [List.map_nil] at mm
    refine Eq.trans (mm _) ?_
    rw [hbe] at he2
    rw [he2]
    simp only [List.isEmpty_nil,if_true,List.length_nil]
    rw [Iv,Jr]
    rfl
   ·have hpos:0<(L6 pts).length:=List.length_pos_iff.2 hbe
    rw [B4,cond_true,I9 (by omega),cond_true]
    have hrow:(L6 pts).map G0++[[SV.int .u8 (45:Int)]]=(L6 pts++[45]).map G0:=by rw [List.map_append];rfl
    rw [hrow]
    refine Eq.trans (main (L6 pts++[45]) (by simp;omega) R _) ?_
    rw [he2,if_neg (by simpa using hbe)]
    rw [Iv,Jr]
    rfl
theorem B01 (z t:Bool) (p:LL) (h0:p.all Uv=true):∃ r H,SJ LF z t p (λ_=>rv (.tup [.s (.str []),.s (.int .i64 3)]) []) (λr0 r1 l=>rv (.tup [.s (.str r0),.s (.int .i64 r1)]) [.arr true 5 1 l])=rv r H/\
  r.stab [0,0] H = .tup [.s (.str (Ec (p.map elI)).1),.s (.int .i64 ((Ec (p.map elI)).2:Nat))]:=by
 obtain ⟨P,rfl⟩:=Bw2 h0
 rw [Ba0]
 rcases Aa5 z t P with ⟨h1,h2⟩ | ⟨l,h2⟩
 ·exact ⟨_,_,h2 _ _ _,by rw [h1];rfl⟩
 ·exact ⟨_,_,h2 _ _ _,rfl⟩
section
variable {σ R : Type} (lf : Nat) (cl : D3) (yh : Yh σ) (s : σ) (k : Out -> St σ -> Option R)
noncomputable abbrev Ca4:Code:=D0 Tryz.f151
noncomputable def Sf (lf:Nat):Cfg:=B8 lf [151] (A3 [(3,[0,1,0,0])]) [(141,Yd),(156,UW)] (A3 [(17,[2]),(16,[0,2,0,53]),(15,[0,2,0]),(14,[2]),(13,[0,2,0,1,45]),(12,[0,2,0,0,0]),(11,[2]),(10,[0,2,0,0,41]),(9,[0,2,0,0]),(8,[0,2,0,0]),(7,[2]),(6,[0,2,0,0,18]),(5,[0,2,0,0]),(4,[2]),(3,[0,2,0,11]),(2,[0,2,0]),(1,[0,2]),(0,[0])]) [156] (A3 [(0,[2]),(1,[0,2,0])]) (some [2]) [(153,Kp)] [] [153]
noncomputable def Bt {R:Type} (lf n:Nat) (w0:Int) (s1:By) (n2 n3 n4:Int) (b5 z6:Bool) (l7:LL) (n8v:Int) (k0:Int->By->Int->Int->Int->Bool->Bool->LL->Int->Option R):Option R:=match n with | 0=>none | n+1=>cond (s1==[]) (k0 4 s1 n2 n3 n4 b5 z6 l7 n8v) (cond (inR 0 s1.length) (cond (inR (bAt s1 (0:Int)) 256) (vl (H8 (u8n (bAt s1 (0:Int)))) λn'1=>cond (ltI n'1 0) (k0 4 s1 n2 n3 n4 b5 z6 l7 n8v) (cond (L3 1 (s1.length:Int) s1.length) (vl (cut s1 1 (s1.length:Int)) λs'3=>vl (A4 (n3+(A4 (n'1*w0)))) λn'5=>cond (ltI 1099511627776 n'5) (k0 19 s'3 n2 n'5 n4 b5 z6 l7 n8v) (cond (ltN n8v 1000000000000) (cond (ltN n4 1000000) (cond (ltI n'1 (U4 n8v n4)) (k0 0 s'3 n2 n'5 n4 b5 z6 l7 (Int.add n8v (36:Int))) (vl (A4 ((36:Int)-(U4 n8v n4))) λn'6=>cond (ltI 1099511627776 (A4 (w0*n'6))) (k0 19 s'3 n2 n'5 n4 b5 z6 l7 (Int.add n8v (36:Int))) (Bt lf n (A4 (w0*n'6)) s'3 n2 n'5 n4 b5 z6 l7 (Int.add n8v (36:Int)) k0))) none) none)) none)) none) none)
theorem XK (n w0 s1 n2 n3 n4 b5 z6 l7 n8v):F0 4 ((Sf lf).keep 3) (bd (Sf lf) cl yh (cd [1,1,1,0,0] Ca4)) n ⟨gp [(0,.ptr 0 0 0),(2,.fnr (Fn.func 153) [] [.ptr 3 0 0,.ptr 2 0 0]),(0,pI w0)] 54,[.box [pS s1,.fl 1,pI n2,pI n3,pI n4,pB b5],.arr z6 3 1 l7,.box [pI n4],.box [pI n8v]],s⟩ k =
 Bt lf n w0 s1 n2 n3 n4 b5 z6 l7 n8v (λn0 s1 n2 n3 n4 b5 z6 l7 n8v=>k .ret ⟨gp [(2,pI n0)] 56,[.box [pS s1,.fl 1,pI n2,pI n3,pI n4,pB b5],.arr z6 3 1 l7,.box [pI n4],.box [pI n8v]],s⟩):=by
 induction n generalizing w0 s1 n2 n3 n4 b5 z6 l7 n8v with
 | zero=>rfl
 | succ n ih=>rw [Bt];simp only [<-ih];kernel_rfl
noncomputable def Cb4 {R:Type} (lf:Nat) (rest:By) (n i b:Int) (st z:Bool) (l:LL) (k0:Int->By->Int->Int->Int->Bool->Bool->LL->Int->Option R):Option R:=Bt lf lf 1 rest n i b st z l 0 (λn'7 s'8 n'9 n'10 n'11 b'12 z'13 l'14 n'15=>k0 n'7 s'8 n'9 n'10 n'11 b'12 z'13 l'14 n'15)
theorem Bs8 (d:Nat) (rest n i b st z l):evC (Sf lf) (d+1) σ yh 151 [.ptr 0 0 0] [.box [pS rest,.fl 1,pI n,pI i,pI b,pB st],.arr z 3 1 l] s=Cb4 lf rest n i b st z l (λr0 s1 n2 n3 n4 b5 z6 l7 n8v=>some (pI r0,[.box [pS s1,.fl 1,pI n2,pI n3,pI n4,pB b5],.arr z6 3 1 l7,.box [pI n4],.box [pI n8v]],s)):=by
 refine (evE (fn:=Tryz.f151) (by kernel_rfl)).trans ?_
 generalize evC (Sf lf) d=cl
 unfold Cb4;exact (Eq.trans (by kernel_rfl) ((XK lf cl yh s (H7 0 (G5 (Sf lf) Tryz.f151)) lf 1 rest n i b st z l 0).trans (by kernel_rfl)))
noncomputable def JM (lf:Nat):Cfg:=B8 lf [137] (A3 []) [(128,Ip),(126,Iq)] (A3 [(16,[2]),(15,[]),(14,[0]),(13,[2]),(12,[0,67]),(11,[2]),(10,[0,4,60]),(9,[0,4]),(8,[0,4]),(7,[0,4]),(6,[0,4]),(5,[0,2,1]),(4,[2]),(3,[0,2,0,8]),(2,[0,2,0]),(1,[0,2]),(0,[0])]) [128,126] (A3 []) (some [2]) [(151,GU),(152,IR)] [] [151,152]
noncomputable def Ak5 {R:Type} (lf:Nat) (rest:By) (n i b:Int) (st z:Bool) (l:LL) (k0:Int->By->Int->Int->Int->Bool->Bool->LL->Option R):Option R:=cond (A2 rest.length) (cond (ltN b 1000000) (cond (ltN i 1099511627777) (cond ((BC b rest i) != 0) (k0 (BC b rest i) (BE b rest i) n (Nj b rest i) b st z l) (vl (A4 ((l.length:Int)+1)) λn'1=>vl (A4 ((Nj b rest i)-i)) λn'4=>cond (ltN n'4 1152921504606846976) (cond (ltN n'1 1000000) (cond (ltI 0 n'1) (vl (↑(Cr (Int.toNat n'4) (Int.toNat n'1) (not st)):Int) λn'5=>cond (n'1 != 0) (vl (A4 (Int.tdiv (Nj b rest i) n'1)) λn'7=>cond (n'1 != 0) (vl (Int.tmod (Nj b rest i) n'1) λn'9=>cond (not (ptI (A4 (n+n'7)))) (k0 2 (BE b rest i) (A4 (n+n'7)) n'9 n'5 true z l) (cond (ltI 256 n'1) (k0 3 (BE b rest i) (A4 (n+n'7)) n'9 n'5 true z l) (cond (ltN n'9 (Nat.add l.length 1)) (cond (Nat.ble l.length 100000) (vl (He l (Int.toNat n'9) (A4 (n+n'7))) λl'11=>k0 0 (BE b rest i) (A4 (n+n'7)) (A4 (n'9+1)) n'5 true z l'11) none) none))) none) none) none) none) none)) none) none) none
theorem A99 (d:Nat) (rest n i b st z l):evC (JM lf) (d+1) σ yh 137 [.ptr 0 0 0] [.box [pS rest,.fl 1,pI n,pI i,pI b,pB st],.arr z 3 1 l] s=Ak5 lf rest n i b st z l (λr0 s1 n2 n3 n4 b5 z6 l7=>some (pI r0,[.box [pS s1,.fl 1,pI n2,pI n3,pI n4,pB b5],.arr z6 3 1 l7],s)):=by
 refine (evE (fn:=Tryz.f137) (by kernel_rfl)).trans ?_
 generalize evC (JM lf) d=cl
 unfold Ak5;kernel_rfl
noncomputable abbrev Mq:Code:=D0 Tryz.f117
noncomputable def T5 (lf:Nat):Cfg:=B8 lf [117] (A3 [(20,[2,0,1]),(13,[0,1,0,1,0,22,0]),(4,[0,1,0,9,0])]) [(54,Wi)] (A3 [(24,[2,0]),(23,[2,0]),(22,[5,2,59]),(21,[5,2]),(20,[5,58]),(19,[2,0]),(18,[5,53]),(17,[5]),(16,[0,4,0,22,0]),(15,[0,4,0,22,0]),(14,[0,4,0,0,21,0]),(13,[0,4,0,22,0,0]),(12,[0,4,0,22,0]),(11,[0,4,0,21]),(10,[0,4,0]),(9,[0,4]),(8,[0,12,0]),(7,[2,0]),(6,[0,12,0,5]),(5,[0,3,8,0]),(4,[0,12,0,0]),(3,[0,12,0]),(2,[2,0]),(1,[0,10]),(0,[0])]) [54] (A3 [(4,[5]),(5,[5]),(2,[0,4,0]),(3,[0,4,0,22,0]),(0,[0]),(1,[0,12,0])]) (some [2,0]) [(137,Wg)] [] [137] (nt:=[(189,1,3,1)])
noncomputable def Hl {R:Type} (lf n:Nat) (s0:By) (n1 n2:Int) (k0:Unit->Option R) (k1:By->Option R):Option R:=match n with | 0=>none | n+1=>cond (ltI n2 n1) (cond (inR n2 s0.length) (cond (not (ltI (bAt s0 n2) (128:Int))) (k0 ()) (Hl lf n s0 n1 (A4 (n2+1)) k0 k1)) none) (k1 s0)
theorem Aa2 (n s0 n1 n2):F0 0 ((T5 lf).keep 4) (bd (T5 lf) cl yh (cd [1,1,0,1,0,0] Mq)) n ⟨gp [(0,pS s0),(12,pI n1),(0,pI n2)] 59,[],s⟩ k =
 Hl lf n s0 n1 n2 (λ_=>k .ret ⟨gp [(2,.fl 0),(0,pI (4:Int))] 70,[.arr true 3 1 []],s⟩) (λs0=>k (.exit 0) ⟨gp [(0,pS s0)] 73,[],s⟩):=by
 induction n generalizing s0 n1 n2 with
 | zero=>rfl
 | succ n ih=>rw [Hl];simp only [<-ih];kernel_rfl
noncomputable def Er {R:Type} (lf n:Nat) (s0:By) (kk1 n2:Int) (l3:LL) (k0:By->Int->LL->Option R):Option R:=match n with | 0=>none | n+1=>cond (ltI n2 kk1) (cond (inR n2 s0.length) (cond (J9 (l3.length+1)) (Er lf n s0 kk1 (A4 (n2+1)) (l3++[[(SV.int .i64 (A4 (bAt s0 n2)))]]) k0) none) none) (k0 s0 kk1 l3)
theorem Aa3 (n s0 kk1 n2 l3):F0 2 ((T5 lf).keep 13) (bd (T5 lf) cl yh (cd [1,1,1,1,0,1,1,0,0,1,0,0] Mq)) n ⟨gp [(0,pS s0),(4,.ptr 1 0 0),(0,pI kk1),(22,pI kk1),(0,pI n2)] 43,[.arr true 3 1 l3,.box [pS s0,.fl 0,pI (128:Int),pI (0:Int),pI (72:Int),pB false]],s⟩ k =
 Er lf n s0 kk1 n2 l3 (λs0 kk1 l2=>k (.exit 2) ⟨gp [(0,pS s0),(4,.ptr 1 0 0),(0,pI kk1)] 67,[.arr true 3 1 l2,.box [pS s0,.fl 0,pI (128:Int),pI (0:Int),pI (72:Int),pB false]],s⟩):=by
 induction n generalizing s0 kk1 n2 l3 with
 | zero=>rfl
 | succ n ih=>rw [Er];simp only [<-ih];kernel_rfl
noncomputable def O0 {R:Type} (lf n:Nat) (l0:LL) (s1:By) (n2 n3 n4:Int) (b5:Bool) (k0:Int->LL->By->Int->Int->Int->Bool->Option R) (k1:LL->By->Int->Int->Int->Bool->Option R):Option R:=match n with | 0=>none | n+1=>cond (not (s1==[])) (cond (A2 s1.length) (cond (ltN n4 1000000) (cond (ltN n3 1099511627777) (cond (ltN n2 1152921504606846976) (cond (Nat.ble l0.length 100000) (vl ((C9 (DS.mk s1 n2 n3 n4 b5 l0))).1 λn'10=>vl (DS.l ((C9 (DS.mk s1 n2 n3 n4 b5 l0))).2) λl'11=>cond (n'10 != 0) (k0 n'10 l'11 (DS.rest ((C9 (DS.mk s1 n2 n3 n4 b5 l0))).2) (DS.n ((C9 (DS.mk s1 n2 n3 n4 b5 l0))).2) (DS.i ((C9 (DS.mk s1 n2 n3 n4 b5 l0))).2) (DS.b ((C9 (DS.mk s1 n2 n3 n4 b5 l0))).2) (DS.st ((C9 (DS.mk s1 n2 n3 n4 b5 l0))).2)) (O0 lf n l'11 (DS.rest ((C9 (DS.mk s1 n2 n3 n4 b5 l0))).2) (DS.n ((C9 (DS.mk s1 n2 n3 n4 b5 l0))).2) (DS.i ((C9 (DS.mk s1 n2 n3 n4 b5 l0))).2) (DS.b ((C9 (DS.mk s1 n2 n3 n4 b5 l0))).2) (DS.st ((C9 (DS.mk s1 n2 n3 n4 b5 l0))).2) k0 k1)) none) none) none) none) none) (k1 l0 s1 n2 n3 n4 b5)
theorem BO (n l0 s1 n2 n3 n4 b5):F0 2 ((T5 lf).keep 20) (bd (T5 lf) cl yh (cd [1,1,1,1,1,1,0,0,0] Mq)) n ⟨gp [(5,.ptr 1 0 0)] 68,[.arr true 3 1 l0,.box [pS s1,.fl 0,pI n2,pI n3,pI n4,pB b5]],s⟩ k =
 O0 lf n l0 s1 n2 n3 n4 b5 (λn0 l1 s2 n3 n4 n5 b6=>k .ret ⟨gp [(2,.fl 2),(0,pI n0)] 70,[.arr true 3 1 l1,.box [pS s2,.fl 0,pI n3,pI n4,pI n5,pB b6],.arr true 3 1 []],s⟩) (λl0 s1 n2 n3 n4 b5=>k (.exit 4) ⟨gp [(5,.ptr 1 0 0)] 68,[.arr true 3 1 l0,.box [pS s1,.fl 0,pI n2,pI n3,pI n4,pB b5]],s⟩):=by
 induction n generalizing l0 s1 n2 n3 n4 b5 with
 | zero=>rfl
 | succ n ih=>rw [O0];simp only [<-ih];kernel_rfl
noncomputable def Pu {R:Type} (lf:Nat) (s0:By) (k0:Int->Option R) (k1:Int->LL->By->Int->Int->Int->Bool->Option R) (k2:LL->By->Int->Int->Int->Bool->Option R):Option R:=cond (ltI 1024 (s0.length:Int)) (k0 3) (Hl lf lf s0 (s0.length:Int) 0 (λ_=>k0 4) (λs'0=>cond (A2 s'0.length) (vl (H9 (u8n (45:Int)) s'0) λn'4=>cond (ltI 0 n'4) (Er lf lf s'0 n'4 0 [] (λs'5 kk'6 l'7=>vl (A4 (kk'6+1)) λn'8=>cond (L3 n'8 (s'5.length:Int) s'5.length) (vl (cut s'5 n'8 (s'5.length:Int)) λs'9=>cond (ltI 256 (l'7.length:Int)) (k1 3 l'7 s'9 128 0 72 false) (O0 lf lf l'7 s'9 128 0 72 false (λn'12 l'13 s'14 n'15 n'16 n'17 b'18=>k1 n'12 l'13 s'14 n'15 n'16 n'17 b'18) (λl'19 s'20 n'21 n'22 n'23 b'24=>k2 l'19 s'20 n'21 n'22 n'23 b'24))) none)) (O0 lf lf [] s'0 128 0 72 false (λn'25 l'26 s'27 n'28 n'29 n'30 b'31=>k1 n'25 l'26 s'27 n'28 n'29 n'30 b'31) (λl'32 s'33 n'34 n'35 n'36 b'37=>k2 l'32 s'33 n'34 n'35 n'36 b'37))) none))
theorem Bz6 (d:Nat) (s0):evC (T5 lf) (d+1) σ yh 117 [pS s0] [] s=Pu lf s0 (λr0=>some (.tup [.fl 0,pI r0],[.arr true 3 1 []],s)) (λr0 l1 s2 n3 n4 n5 b6=>some (.tup [.fl 2,pI r0],[.arr true 3 1 l1,.box [pS s2,.fl 0,pI n3,pI n4,pI n5,pB b6],.arr true 3 1 []],s)) (λl0 s1 n2 n3 n4 b5=>some (.tup [.fl 0,pI (0:Int)],[.arr true 3 1 l0,.box [pS s1,.fl 0,pI n2,pI n3,pI n4,pB b5]],s)):=by
 refine (evE (fn:=Tryz.f117) (by kernel_rfl)).trans ?_
 generalize evC (T5 lf) d=cl
 unfold Pu;exact let K0:=(H7 4 (I5 (T5 lf) cl yh (cd [1,1,1,1,1,1,1] Mq) (G5 (T5 lf) Tryz.f117)));(Eq.trans (by kernel_rfl) (A0 rfl ((Aa2 lf cl yh s (H7 0 (I5 (T5 lf) cl yh (cd [1,1,1] Mq) (G5 (T5 lf) Tryz.f117))) lf s0 (s0.length:Int) 0).trans (congr (congr rfl (by kernel_rfl)) (fx1 λs'0=>(Eq.trans (by kernel_rfl) (A0 (A5 λn'4=>(A0 ((Aa3 lf cl yh s (H7 2 (I5 (T5 lf) cl yh (cd [1,1,1,1,0,1,1,0,1] Mq) (I5 (T5 lf) cl yh (cd [1,1,1,1,1] Mq) (G5 (T5 lf) Tryz.f117)))) lf s'0 n'4 0 []).trans (congr rfl (fx3 λs'5 kk'6 l'7=>(Eq.trans (by kernel_rfl) (A5 λn'8=>(A0 (A5 λs'9=>(A0 rfl ((BO lf cl yh s K0 lf l'7 s'9 128 0 72 false).trans (by kernel_rfl)))) rfl)))))) ((BO lf cl yh s K0 lf [] s'0 128 0 72 false).trans (by kernel_rfl)))) rfl)))))))
noncomputable abbrev OS:Code:=D0 Tryz.f74
noncomputable def Cu (lf:Nat):Cfg:=B8 lf [74] (A3 [(2,[0,0,2,0])]) [] (A3 [(6,[4]),(3,[0,0,3]),(5,[4]),(4,[0,0,3,11]),(2,[0,0,3,4]),(1,[0,0,3]),(0,[0,0])]) [] (A3 [(0,[]),(1,[0,0,3])]) (some [4]) [] [] []
noncomputable def Z6 {R:Type} (lf n:Nat) (s0:By) (c1 i2:Int) (k0:Int->Option R) (k1:Unit->Option R):Option R:=match n with | 0=>none | n+1=>cond (not (ltI i2 0)) (cond (inR i2 s0.length) (cond ((bAt s0 i2)==c1) (k0 i2) (Z6 lf n s0 c1 (A4 (i2-1)) k0 k1)) none) (k1 ())
theorem KY (n s0 c1 i2):F0 0 ((Cu lf).keep 2) (bd (Cu lf) cl yh (cd [1,0,1,0,0] OS)) n ⟨gp [(0,pS s0),(0,p8 c1),(3,pI i2)] 13,[],s⟩ k =
 Z6 lf n s0 c1 i2 (λn0=>k .ret ⟨gp [(4,pI n0)] 14,[],s⟩) (λ_=>k (.exit 0) ⟨gp [] 19,[],s⟩):=by
 induction n generalizing s0 c1 i2 with
 | zero=>rfl
 | succ n ih=>rw [Z6];simp only [<-ih];kernel_rfl
noncomputable def KX {R:Type} (lf:Nat) (s0:By) (c1:Int) (k0:Int->Option R):Option R:=vl (A4 ((s0.length:Int)-1)) λn'1=>Z6 lf lf s0 c1 n'1 (λn'2=>k0 n'2) (λ_=>k0 (-1))
theorem Av0 (d:Nat) (s0 c1):evC (Cu lf) (d+1) σ yh 74 [pS s0,p8 c1] [] s=KX lf s0 c1 (λr0=>some (pI r0,[],s)):=by
 refine (evE (fn:=Tryz.f74) (by kernel_rfl)).trans ?_
 generalize evC (Cu lf) d=cl
 unfold KX;exact (Eq.trans (by kernel_rfl) (A5 λn'1=>((KY lf cl yh s (H7 0 (I5 (Cu lf) cl yh (cd [1,1] OS) (G5 (Cu lf) Tryz.f74))) lf s0 c1 n'1).trans (by kernel_rfl))))
noncomputable def JQ (lf:Nat):Cfg:=B8 lf [54] (A3 []) [(74,OA)] (A3 [(1,[4]),(0,[0,0])]) [74] (A3 []) (some [4]) [] [] []
noncomputable def Al8 {R:Type} (lf:Nat) (s0:By) (c1:Int) (k0:Int->Option R):Option R:=cond (A2 s0.length) (cond (inR c1 256) (k0 (H9 (u8n c1) s0)) none) none
theorem Bd3 (d:Nat) (s0 c1):evC (JQ lf) (d+1) σ yh 54 [pS s0,p8 c1] [] s=Al8 lf s0 c1 (λr0=>some (pI r0,[],s)):=by
 refine (evE (fn:=Tryz.f54) (by kernel_rfl)).trans ?_
 generalize evC (JQ lf) d=cl
 unfold Al8;kernel_rfl
end
theorem Qx (c:UInt8):-1<=H8 c/\H8 c<=35:=by
 unfold H8 Ig
 grind
theorem CJ (k b:Int):1<=U4 k b/\U4 k b<=26:=by unfold U4;omega
theorem Tg {x w:Int} (h0:0<=x) (h1:x<=35) (w0:0<=w) (w1:w<=1099511627776):0<=x*w/\x*w<=38482906972160:=by
 refine ⟨Int.mul_nonneg h0 w0,?_⟩
 have:=Int.mul_le_mul h1 w1 w0 (show (0:Int)<=35 by omega)
 omega
theorem KL (b:Int):∀ (s:By) (i w k:Int),0<=i->0<=w->w<=1099511627776->(Fu b s i w k).1=0->i<=(Fu b s i w k).2.2/\(Fu b s i w k).2.2<=1099511627776/\(Fu b s i w k).2.1.length<s.length
 | [],i,w,k,_,_,_,h=>by simp [Fu] at h
 | c::r,i,w,k,hi,hw,hw1,h=>by
  have hv:=Qx c
  have ht:=CJ k b
  unfold Fu at h ⊢
  split at h
  ·simp at h
  ·rename_i h1
   rw [if_neg h1]
   have hm:=Tg (by omega) hv.2 hw hw1
   split at h
   ·simp at h
   ·rename_i h2
    rw [if_neg h2]
    split at h
    ·grind
    ·rename_i h3
     rw [if_neg h3]
     split at h
     ·omega
     ·rename_i h4
      rw [if_neg h4]
      obtain ⟨q1,q2,q3⟩:=KL b r (i+H8 c*w) (w*(36-U4 k b)) (k+36) (by omega) (Int.mul_nonneg hw (by omega)) (by omega) h
      grind
theorem As0 (n2:Int) (b:Int) (st z:Bool) (l:LL) (hb0:0<=b) (hb1:b<1000000):∀ (s:By) (n:Nat) (i w k:Int),s.length<n->s.length<=1000000000->0<=i->i<=1099511627776->0<=w->w<=1099511627776->0<=k->k+36*s.length<=100000000000->
  ∃ k',∀ (R:Type) (k0:Int->By->Int->Int->Int->Bool->Bool->LL->Int->Option R),Bt LF n w s n2 i b st z l k k0=k0 (Fu b s i w k).1 (Fu b s i w k).2.1 n2 (Fu b s i w k).2.2 b st z l k':=by
 intro s
 induction s with
 | nil=>
  intro n i w k hn hs hi hi1 hw hw1 hk hk1
  obtain ⟨n,rfl⟩:∃ m,n=m+1:=⟨n-1,by omega⟩
  refine ⟨k,λR k0=>?_⟩
  rw [Bt]
  rfl
 | cons c r ih=>
  intro n i w k hn hs hi hi1 hw hw1 hk hk1
  obtain ⟨n,rfl⟩:∃ m,n=m+1:=⟨n-1,by omega⟩
  rw [List.length_cons] at hn hs hk1
  have hv:=Qx c
  have ht:=CJ k b
  have hu:u8n (bAt (c::r) 0)=c:=by unfold u8n bAt;simp
  have hin:inR (bAt (c::r) 0) 256=true:=by rw [Ob];have:=c.toNat_lt;exact O6 (by omega) (by simp;omega)
  have hcut:cut (c::r) 1 ((c::r).length:Int)=r:=by
   have:=Wq (c::r) 1 (c::r).length
   grind
  have hne:((c::r)==([]:By))=false:=rfl
  have start:∀ (R:Type) (k0:Int->By->Int->Int->Int->Bool->Bool->LL->Int->Option R),Bt LF (n+1) w (c::r) n2 i b st z l k k0 =
    cond (ltI (H8 c) 0) (k0 4 (c::r) n2 i b st z l k)
     (vl (A4 (i+(A4 (H8 c*w)))) λn'5=>cond (ltI 1099511627776 n'5) (k0 19 r n2 n'5 b st z l k)
      (cond (ltI (H8 c) (U4 k b)) (k0 0 r n2 n'5 b st z l (Int.add k 36))
       (vl (A4 (36-(U4 k b))) λn'6=>cond (ltI 1099511627776 (A4 (w*n'6))) (k0 19 r n2 n'5 b st z l (Int.add k 36)) (Bt LF n (A4 (w*n'6)) r n2 n'5 b st z l (Int.add k 36) k0)))):=by
   intro R k0
   rw [Bt]
   rw [hne,hin,O6 (by omega) (by rw [List.length_cons];omega),Hp (by omega) (by rw [List.length_cons];omega) (by omega),hcut,hu,Z1,Z1]
   rfl
  unfold Fu
  by_cases h1:H8 c<0
  ·rw [if_pos h1]
   refine ⟨k,λR k0=>?_⟩
   rw [start,D8 h1]
   rfl
  ·rw [if_neg h1]
   have hm:=Tg (by omega) hv.2 hw hw1
   have e1:A4 (H8 c*w)=H8 c*w:=A8
   have e2:A4 (i+H8 c*w)=i+H8 c*w:=A8
   by_cases h2:1099511627776<i+H8 c*w
   ·rw [if_pos h2]
    refine ⟨k,λR k0=>?_⟩
    rw [start,A6,e1,e2]
    simp only [vl,cond_false]
    rw [D8 h2]
    rfl
   ·rw [if_neg h2]
    by_cases h3:H8 c<U4 k b
    ·rw [if_pos h3]
     refine ⟨Int.add k 36,λR k0=>?_⟩
     rw [start,A6,e1,e2]
     simp only [vl,cond_false]
     rw [A6,D8 h3]
     rfl
    ·rw [if_neg h3]
     have e3:A4 (36-U4 k b)=36-U4 k b:=A8
     have hm2:=Tg (x:=36-U4 k b) (by omega) (by omega) hw hw1
     rw [Int.mul_comm] at hm2
     have e4:A4 (w*(36-U4 k b))=w*(36-U4 k b):=A8
     by_cases h4:1099511627776<w*(36-U4 k b)
     ·rw [if_pos h4]
      refine ⟨Int.add k 36,λR k0=>?_⟩
      rw [start,A6,e1,e2]
      simp only [vl,cond_false]
      rw [A6,A6,e3,e4,D8 h4]
      rfl
     ·rw [if_neg h4]
      obtain ⟨k',e⟩:=ih n (i+H8 c*w) (w*(36-U4 k b)) (k+36) (by omega) (by omega) (by omega) (by omega) (by omega) (by omega) (by omega) (by omega)
      refine ⟨k',λR k0=>?_⟩
      rw [start,A6,e1,e2]
      simp only [vl,cond_false]
      rw [A6,A6,e3,e4,A6]
      exact e R k0
theorem As1 (rest:By) (n i b:Int) (st z:Bool) (l:LL) (h0:A2 rest.length=true) (h1:ltN b 1000000=true) (h2:ltN i 1099511627777=true) :
  ∃ k',∀ (R:Type) (k0:Int->By->Int->Int->Int->Bool->Bool->LL->Int->Option R),Cb4 LF rest n i b st z l k0=k0 (BC b rest i) (BE b rest i) n (Nj b rest i) b st z l k':=by
 have hs:=N5 h0
 obtain ⟨b0,b1⟩:=D2.1 h1
 obtain ⟨i0,i1⟩:=D2.1 h2
 have hLF:=F6
 obtain ⟨k',e⟩:=As0 n b st z l b0 (by omega) rest LF i 1 0 (by omega) (by omega) i0 (by omega) (by omega) (by omega) (by omega) (by omega)
 exact ⟨k',λR k0=>e R _⟩
theorem XL {R:Type} {k0:Int->By->Int->Int->Int->Bool->Bool->LL->Option R} (rest:By) (n i b:Int) (st z:Bool) (l:LL) (h0:A2 rest.length=true) (h1:ltN b 1000000=true) (h2:ltN i 1099511627777=true) (h3:ltN n 1152921504606846976=true) (h4:Nat.ble l.length 100000=true) :
  Ak5 LF rest n i b st z l k0=k0 (C9 ⟨rest,n,i,b,st,l⟩).1 (C9 ⟨rest,n,i,b,st,l⟩).2.rest (C9 ⟨rest,n,i,b,st,l⟩).2.n (C9 ⟨rest,n,i,b,st,l⟩).2.i (C9 ⟨rest,n,i,b,st,l⟩).2.b (C9 ⟨rest,n,i,b,st,l⟩).2.st z (C9 ⟨rest,n,i,b,st,l⟩).2.l:=by
 obtain ⟨i0,i1⟩:=D2.1 h2
 obtain ⟨n0,n1⟩:=D2.1 h3
 have hl:=Nat.le_of_ble_eq_true h4
 unfold Ak5 C9
 rw [h0,h1,h2]
 simp only [cond_true]
 by_cases he:BC b rest i=0
 ·rw [if_pos he,he]
  obtain ⟨q1,q2,q3⟩:=KL b rest i 1 0 i0 (by omega) (by omega) he
  have q1':i<=Nj b rest i:=q1
  have q2':Nj b rest i<=1099511627776:=q2
  have e1:A4 ((l.length:Int)+1)=(l.length:Int)+1:=A8
  simp only [vl]
  rw [e1]
  generalize Nj b rest i=x at *
  have hx0:0<=x:=by omega
  obtain ⟨X,rfl⟩:=Int.eq_ofNat_of_zero_le hx0
  have e2:A4 ((X:Int)-i)=(X:Int)-i:=A8
  have ec:((l.length:Int)+1)=((l.length+1:Nat):Int):=rfl
  have ed:Int.tdiv (X:Int) ((l.length+1:Nat):Int)=((X / (l.length+1):Nat):Int):=Y6 _ _
  have em:Int.tmod (X:Int) ((l.length+1:Nat):Int)=((X % (l.length+1):Nat):Int):=CL _ _
  have hd:=Nat.div_le_self X (l.length+1)
  have hm:=Nat.mod_lt X (show 0<l.length+1 by omega)
  rw [e2,ec,ed,em]
  generalize hA:X / (l.length+1)=A at *
  generalize hB:X % (l.length+1)=B at *
  have e3:A4 (A:Int)=(A:Int):=A8
  have e4:A4 (n+(A:Int))=n+(A:Int):=A8
  have e5:A4 ((B:Int)+1)=(B:Int)+1:=A8
  have c0:((0:Int) != 0)=false:=rfl
  have c1:((((l.length+1:Nat):Int)) != 0)=true:=by rw [bne_iff_ne];omega
  rw [e3,e4,e5,c0,Z1,Z1,B4,c1]
  simp only [cond_true,cond_false]
  cases hp:ptI (n+(A:Int)) with
  | false=>simp
  | true=>
   simp only [Bool.not_true,cond_false,if_true]
   by_cases h256:(256:Int)<((l.length+1:Nat):Int)
   ·rw [if_pos h256,D8 h256]
    rfl
   ·rw [if_neg h256,A6,cond_false,Vb (by omega) (by show (B:Int)<((l.length+1:Nat):Int);omega),h4]
    rfl
 ·rw [if_neg he,show (BC b rest i != 0)=true from bne_iff_ne.2 he]
  rfl
theorem AT (c:UInt8):∀ l:By,-1<=H9 c l
 | []=>by simp [H9]
 | b::r=>by
  have:=AT c r
  unfold H9
  omega
theorem AU (c b:UInt8):∀ l:By,H9 c (l++[b])=if b=c then (l.length:Int) else H9 c l
 | []=>by
  by_cases h:b=c<;>simp [H9,h]
 | a::l=>by
  have ih:=AU c b l
  rw [List.cons_append,H9,ih]
  by_cases h:b=c
  ·grind
  ·rw [if_neg h,if_neg h]
   rfl
theorem QT {R:Type} {k0:Int->Option R} {k1:Unit->Option R} (s:By) (c:UInt8) (hs:s.length<=1000000000):∀ (m n:Nat),m<=s.length->m<n->
  Z6 LF n s (c.toNat:Int) ((m:Int)-1) k0 k1=if H9 c (s.take m)<0 then k1 () else k0 (H9 c (s.take m)):=by
 intro m
 induction m with
 | zero=>
  intro n hm hn
  obtain ⟨n,rfl⟩:∃ m,n=m+1:=⟨n-1,by omega⟩
  rw [Z6]
  rw [B4]
  rfl
 | succ m ih=>
  intro n hm hn
  obtain ⟨n,rfl⟩:∃ m,n=m+1:=⟨n-1,by omega⟩
  rw [Z6]
  have e0:(((m+1:Nat):Int)-1)=(m:Int):=by omega
  have e1:A4 ((m:Int)-1)=(m:Int)-1:=A8
  have ht:s.take (m+1)=s.take m++[s.getD m 0]:=by
   rw [List.take_add_one,List.getD_eq_getElem?_getD,List.getElem?_eq_getElem (by omega)]
   rfl
  rw [e0,e1,A6,J2,K6,ht,AU]
  simp only [Bool.not_false,cond_true]
  by_cases h:s.getD m 0=c
  ·rw [if_pos h,h,beq_self_eq_true,cond_true,List.length_take,Nat.min_eq_left (by omega),P5]
  ·have hne:(((s.getD m 0).toNat:Int)==(c.toNat:Int))=false:=by
    rw [beq_eq_false_iff_ne]
    intro he
    exact h (UInt8.toNat.inj (Int.ofNat.inj he))
   rw [if_neg h,hne,cond_false]
   exact ih n (by omega) (by omega)
theorem Bk4 {c:Int} (h:inR c 256=true):c=((u8n c).toNat:Int):=by
 simp only [inR,Bool.and_eq_true,decide_eq_true_eq] at h
 unfold u8n
 simp
 omega
theorem QU {R:Type} {k0:Int->Option R} (s:By) (c:Int) (h0:A2 s.length=true) (h1:inR c 256=true):KX LF s c k0=k0 (H9 (u8n c) s):=by
 have hs:=N5 h0
 have hLF:=F6
 have hc:=Bk4 h1
 generalize u8n c=d at *
 subst hc
 unfold KX
 have e1:A4 ((s.length:Int)-1)=(s.length:Int)-1:=A8
 simp only [vl]
 rw [e1]
 refine Eq.trans (QT s d (by omega) s.length LF (by omega) (by omega)) ?_
 rw [List.take_length]
 have:=AT d s
 by_cases h:H9 d s<0
 ·rw [if_pos h,show H9 d s = -1 by omega]
 ·rw [if_neg h]
theorem YS {R:Type} {k0:Int->Option R} (s:By) (c:Int) (h0:A2 s.length=true) (h1:inR c 256=true):Al8 LF s c k0=k0 (H9 (u8n c) s):=by
 unfold Al8
 grind
theorem Ux:∀ s:By,(45∈s->H9 45 s=(N1 s:Int))/\(45∉s->H9 45 s = -1/\N1 s=0)
 | []=>⟨λh=>(by cases h),λ_=>⟨rfl,rfl⟩⟩
 | b::r=>by
  obtain ⟨h1,h2⟩:=Ux r
  unfold H9 N1
  grind
theorem TW {c:UInt8} (h:Ig c=none):H8 c = -1:=by unfold H8;rw [h]
theorem TX {c:UInt8} {x:Nat} (h:Ig c=some x):H8 c=x:=by unfold H8;rw [h]
theorem PK (b:Nat):∀ (s:By) (i w k:Nat),Fu (b:Int) s (i:Int) (w:Int) ((36*k:Nat):Int)=((((C6 b s i w k).2.2:Nat):Int),(Fu (b:Int) s (i:Int) (w:Int) ((36*k:Nat):Int)).2)/\
  ((C6 b s i w k).2.2=0->(Fu (b:Int) s (i:Int) (w:Int) ((36*k:Nat):Int)).2=((C6 b s i w k).2.1,((C6 b s i w k).1:Int)))
 | [],i,w,k=>⟨rfl,λh=>by simp [C6] at h⟩
 | c::r,i,w,k=>by
  unfold Fu C6
  cases hv:Ig c with
  | none=>
   rw [TW hv,Bj]
   grind
  | some x=>
   rw [TX hv,P5,CI]
   have e1:(i:Int)+(x:Int)*(w:Int)=((i+x*w:Nat):Int):=by push_cast;rfl
   have ht:=Af k b
   have e2:(w:Int)*(36-(thr k b:Int))=((w*(36-thr k b):Nat):Int):=by grind
   have e3:((36*k:Nat):Int)+36=((36*(k+1):Nat):Int):=by omega
   have hsat:Gg=1099511627776:=by decide
   rw [e1,e2,e3,hsat]
   simp only
   generalize i+x*w=I
   generalize w*(36-thr k b)=W
   by_cases h2:1099511627776<I
   ·grind
   ·rw [P5,if_neg h2]
    by_cases h3:x<thr k b
    ·grind
    ·rw [P5,if_neg h3]
     by_cases h4:1099511627776<W
     ·grind
     ·rw [P5,if_neg h4]
      exact PK b r I W (k+1)
theorem Bc6 (l:List Nat) (i n:Nat):He (G3 l) i (n:Int)=G3 (Ut l i n):=by
 unfold He Ut G3
 simp_all
theorem LQ (b:Nat) (s:By) (i:Nat):BC (b:Int) s (i:Int)=((C6 b s i 1 0).2.2:Int)/\((C6 b s i 1 0).2.2=0->BE (b:Int) s (i:Int)=(C6 b s i 1 0).2.1/\Nj (b:Int) s (i:Int)=((C6 b s i 1 0).1:Int)):=by
 obtain ⟨h1,h2⟩:=PK b s i 1 0
 have e:Fu (b:Int) s (i:Int) 1 0=Fu (b:Int) s (i:Int) ((1:Nat):Int) ((36*0:Nat):Int):=rfl
 unfold BC BE Nj
 rw [e]
 refine ⟨by rw [h1],λh=>?_⟩
 have:=h2 h
 rw [this]
 exact ⟨rfl,rfl⟩
theorem Ck9 (s:By) (pts:List Nat) (n i b:Nat) (st:Bool) (h:(C6 b s i 1 0).2.2=0) (hi:i<=(C6 b s i 1 0).1) (hp:Ij (n+(C6 b s i 1 0).1 / (pts.length+1))=true) (hc:¬ 256<pts.length+1) :
  C9 ⟨s,(n:Int),(i:Int),(b:Int),st,G3 pts⟩=(0,⟨(C6 b s i 1 0).2.1,((n+(C6 b s i 1 0).1 / (pts.length+1):Nat):Int),(((C6 b s i 1 0).1 % (pts.length+1)+1:Nat):Int),((Cr ((C6 b s i 1 0).1-i) (pts.length+1) (!st):Nat):Int),true,G3 (Ut pts ((C6 b s i 1 0).1 % (pts.length+1)) (n+(C6 b s i 1 0).1 / (pts.length+1)))⟩):=by
 obtain ⟨h1,h2⟩:=LQ b s i
 obtain ⟨h3,h4⟩:=h2 h
 unfold C9
 simp only
 rw [h1,h,if_pos (show ((0:Nat):Int)=0 from rfl),h3,h4,L9]
 generalize (C6 b s i 1 0).1=X at *
 have ec:((pts.length:Int)+1)=((pts.length+1:Nat):Int):=rfl
 have ed:Int.tdiv (X:Int) ((pts.length+1:Nat):Int)=((X / (pts.length+1):Nat):Int):=Y6 _ _
 have em:Int.tmod (X:Int) ((pts.length+1:Nat):Int)=((X % (pts.length+1):Nat):Int):=CL _ _
 have en:(n:Int)+((X / (pts.length+1):Nat):Int)=((n+X / (pts.length+1):Nat):Int):=rfl
 rw [ec,ed,em,en,Wz,hp,if_pos rfl,P5,Int.toNat_natCast,Bc6,Int.toNat_natCast,show ((X:Int)-(i:Int)).toNat=X-i by omega]
 rfl
theorem Cb5 (s:By) (pts:List Nat) (n i b:Nat) (st:Bool):((C6 b s i 1 0).2.2≠0->(C9 ⟨s,(n:Int),(i:Int),(b:Int),st,G3 pts⟩).1=((C6 b s i 1 0).2.2:Int))/\
  ((C6 b s i 1 0).2.2=0->Ij (n+(C6 b s i 1 0).1 / (pts.length+1))=false->(C9 ⟨s,(n:Int),(i:Int),(b:Int),st,G3 pts⟩).1=2)/\
  ((C6 b s i 1 0).2.2=0->Ij (n+(C6 b s i 1 0).1 / (pts.length+1))=true->256<pts.length+1->(C9 ⟨s,(n:Int),(i:Int),(b:Int),st,G3 pts⟩).1=3):=by
 obtain ⟨h1,h2⟩:=LQ b s i
 have ec:(((G3 pts).length:Int)+1)=((pts.length+1:Nat):Int):=by rw [L9];rfl
 have ed:∀ X:Nat,Int.tdiv (X:Int) ((pts.length+1:Nat):Int)=((X / (pts.length+1):Nat):Int):=λX=>Y6 _ _
 have en:∀ A:Nat,(n:Int)+(A:Int)=((n+A:Nat):Int):=λA=>rfl
 refine ⟨λh=>?_,λh hp=>?_,λh hp hc=>?_⟩
 ·unfold C9
  simp only
  rw [h1,P5]
 ·obtain ⟨h3,h4⟩:=h2 h
  unfold C9
  simp only
  rw [h1,h,if_pos (show ((0:Nat):Int)=0 from rfl),h4,ec,ed,en,Wz,hp,if_neg (by simp)]
 ·obtain ⟨h3,h4⟩:=h2 h
  unfold C9
  simp only
  rw [h1,h,if_pos (show ((0:Nat):Int)=0 from rfl),h4,ec,ed,en,Wz,hp,if_pos rfl,Bj]
theorem Na (pts:List Nat) (n i b:Nat) (f:Bool):P0 [] pts n i b f=(pts,0):=by rw [P0];rfl
theorem Zw {s:By} (hs:s≠[]) (pts:List Nat) (n i b:Nat) (f:Bool) (h:(C6 b s i 1 0).2.2≠0):P0 s pts n i b f=([],(C6 b s i 1 0).2.2):=by
 rw [P0,dif_neg hs]
 grind
theorem Ul {s:By} (hs:s≠[]) (pts:List Nat) (n i b:Nat) (f:Bool) (h:(C6 b s i 1 0).2.2=0):P0 s pts n i b f =
  if Ij (n+(C6 b s i 1 0).1 / (pts.length+1)) then (if 256<pts.length+1 then ([],3) else P0 (C6 b s i 1 0).2.1 (Ut pts ((C6 b s i 1 0).1 % (pts.length+1)) (n+(C6 b s i 1 0).1 / (pts.length+1))) (n+(C6 b s i 1 0).1 / (pts.length+1)) ((C6 b s i 1 0).1 % (pts.length+1)+1) (Cr ((C6 b s i 1 0).1-i) (pts.length+1) f) false) else ([],2):=by
 rw [P0,dif_neg hs]
 simp only
 rw [dif_pos h]
theorem EZ (l:List Nat) (i n:Nat):(Ut l i n).length=l.length+1:=by
 unfold Ut
 grind
theorem Az0:∀ (r:Nat) (s:By) (pts:List Nat) (n i b f:Nat) (st:Bool),s.length<=r->r<f->s.length<=1000000->pts.length<=256->n<=1114111->i<=1000->b<=500->
  ((P0 s pts n i b (!st)).2=0->∃ s' n' i' b' st',∀ (R:Type) (k0:Int->LL->By->Int->Int->Int->Bool->Option R) (k1:LL->By->Int->Int->Int->Bool->Option R),O0 LF f (G3 pts) s (n:Int) (i:Int) (b:Int) st k0 k1=k1 (G3 (P0 s pts n i b (!st)).1) s' n' i' b' st')/\
  ((P0 s pts n i b (!st)).2≠0->(P0 s pts n i b (!st)).1=[]/\∃ l s' n' i' b' st',∀ (R:Type) (k0:Int->LL->By->Int->Int->Int->Bool->Option R) (k1:LL->By->Int->Int->Int->Bool->Option R),O0 LF f (G3 pts) s (n:Int) (i:Int) (b:Int) st k0 k1=k0 ((P0 s pts n i b (!st)).2:Nat) l s' n' i' b' st'):=by
 intro r
 induction r with
 | zero=>
  intro s pts n i b f st h hf _ _ _ _ _
  obtain ⟨f,rfl⟩:∃ m,f=m+1:=⟨f-1,by omega⟩
  have hs:s=[]:=List.length_eq_zero_iff.1 (by omega)
  subst hs
  rw [Na]
  refine ⟨λ_=>⟨[],n,i,b,st,λR k0 k1=>?_⟩,λh=>absurd rfl h⟩
  rw [O0]
  rfl
 | succ r ih=>
  intro s pts n i b f st h hf h1 h2 h3 h4 h5
  obtain ⟨f,rfl⟩:∃ m,f=m+1:=⟨f-1,by omega⟩
  by_cases hs:s=[]
  ·subst hs
   rw [Na]
   refine ⟨λ_=>⟨[],n,i,b,st,λR k0 k1=>?_⟩,λh=>absurd rfl h⟩
   rw [O0]
   rfl
  ·have start:∀ (R:Type) (k0:Int->LL->By->Int->Int->Int->Bool->Option R) (k1:LL->By->Int->Int->Int->Bool->Option R),O0 LF (f+1) (G3 pts) s (n:Int) (i:Int) (b:Int) st k0 k1 =
     cond ((C9 ⟨s,n,i,b,st,G3 pts⟩).1 != 0) (k0 (C9 ⟨s,n,i,b,st,G3 pts⟩).1 (C9 ⟨s,n,i,b,st,G3 pts⟩).2.l (C9 ⟨s,n,i,b,st,G3 pts⟩).2.rest (C9 ⟨s,n,i,b,st,G3 pts⟩).2.n (C9 ⟨s,n,i,b,st,G3 pts⟩).2.i (C9 ⟨s,n,i,b,st,G3 pts⟩).2.b (C9 ⟨s,n,i,b,st,G3 pts⟩).2.st)
      (O0 LF f (C9 ⟨s,n,i,b,st,G3 pts⟩).2.l (C9 ⟨s,n,i,b,st,G3 pts⟩).2.rest (C9 ⟨s,n,i,b,st,G3 pts⟩).2.n (C9 ⟨s,n,i,b,st,G3 pts⟩).2.i (C9 ⟨s,n,i,b,st,G3 pts⟩).2.b (C9 ⟨s,n,i,b,st,G3 pts⟩).2.st k0 k1):=by
    intro R k0 k1
    rw [O0]
    rw [show (s==([]:By))=false from beq_eq_false_iff_ne.2 hs,G2,Z1,Z1,Z1,L9,Nat.ble_eq_true_of_le (show pts.length<=100000 by omega)]
    rfl
   obtain ⟨d1,d2,d3⟩:=Cb5 s pts n i b st
   have hok:=Ck9 s pts n i b st
   generalize C9 ⟨s,n,i,b,st,G3 pts⟩=D at *
   by_cases he:(C6 b s i 1 0).2.2=0
   ·rw [Ul hs pts n i b (!st) he]
    obtain ⟨m1,m2⟩:=LQ b s i
    obtain ⟨m3,m4⟩:=m2 he
    have hE:BC (b:Int) s (i:Int)=0:=by rw [m1,he];rfl
    obtain ⟨q1,q2,q3⟩:=KL b s i 1 0 (by omega) (by omega) (by omega) hE
    have q1':(i:Int)<=Nj (b:Int) s (i:Int):=q1
    have q2':Nj (b:Int) s (i:Int)<=1099511627776:=q2
    have q3':(BE (b:Int) s (i:Int)).length<s.length:=q3
    rw [m4] at q1' q2'
    rw [m3] at q3'
    cases hp:Ij (n+(C6 b s i 1 0).1 / (pts.length+1)) with
    | false=>
     rw [if_neg (by simp)]
     refine ⟨λh=>by simp at h,λ_=>⟨rfl,D.2.l,D.2.rest,D.2.n,D.2.i,D.2.b,D.2.st,λR k0 k1=>?_⟩⟩
     ·rw [start,d2 he hp]
      rfl
    | true=>
     rw [if_pos rfl]
     by_cases hc:256<pts.length+1
     ·rw [if_pos hc]
      refine ⟨λh=>by simp at h,λ_=>⟨rfl,D.2.l,D.2.rest,D.2.n,D.2.i,D.2.b,D.2.st,λR k0 k1=>?_⟩⟩
      rw [start,d3 he hp hc]
      rfl
     ·rw [if_neg hc]
      have hok:=hok he (by omega) hp hc
      have hn':n+(C6 b s i 1 0).1 / (pts.length+1)<=1114111:=by
       unfold Ij at hp
       simp_all
      have hmod:=Nat.mod_lt (C6 b s i 1 0).1 (show 0<pts.length+1 by omega)
      have had:=OM ((C6 b s i 1 0).1-i) (pts.length+1) (!st) (by omega)
      have:=ih (C6 b s i 1 0).2.1 (Ut pts ((C6 b s i 1 0).1 % (pts.length+1)) (n+(C6 b s i 1 0).1 / (pts.length+1))) (n+(C6 b s i 1 0).1 / (pts.length+1)) ((C6 b s i 1 0).1 % (pts.length+1)+1) (Cr ((C6 b s i 1 0).1-i) (pts.length+1) (!st)) f true (by omega) (by omega) (by omega) (by rw [EZ];omega) hn' (by omega) had
      obtain ⟨p1,p2⟩:=this
      refine ⟨λh=>?_,λh=>?_⟩
      ·obtain ⟨s',n',i',b',st',e⟩:=p1 h
       refine ⟨s',n',i',b',st',λR k0 k1=>?_⟩
       rw [start,hok]
       exact e R k0 k1
      ·obtain ⟨pe,l,s',n',i',b',st',e⟩:=p2 h
       refine ⟨pe,l,s',n',i',b',st',λR k0 k1=>?_⟩
       rw [start,hok]
       exact e R k0 k1
   ·rw [Zw hs pts n i b (!st) he]
    refine ⟨λh=>absurd h he,λ_=>⟨rfl,D.2.l,D.2.rest,D.2.n,D.2.i,D.2.b,D.2.st,λR k0 k1=>?_⟩⟩
    rw [start,d1 he,show (((C6 b s i 1 0).2.2:Int) != 0)=true by rw [bne_iff_ne];omega]
    rfl
theorem FN (l:List Nat):ZN l=G3 l:=rfl
theorem Aa0 {R:Type} {k0:Unit->Option R} {k1:By->Option R} (s:By) (hs:s.length<=1000000):∀ (r i n:Nat),i+r=s.length->r<n->
  Hl LF n s (s.length:Int) (i:Int) k0 k1=if (s.drop i).any (λb=>Nat.ble 128 b.toNat) then k0 () else k1 s:=by
 intro r
 induction r with
 | zero=>
  intro i n hi hn
  obtain ⟨n,rfl⟩:∃ m,n=m+1:=⟨n-1,by omega⟩
  rw [Hl]
  rw [A6,List.drop_of_length_le (by omega)]
  rfl
 | succ r ih=>
  intro i n hi hn
  obtain ⟨n,rfl⟩:∃ m,n=m+1:=⟨n-1,by omega⟩
  rw [Hl]
  have e1:A4 ((i:Int)+1)=((i+1:Nat):Int):=by rw [A8];rfl
  rw [B4,J2,K6,M8 s i (by omega),e1,List.any_cons]
  simp only [cond_true]
  generalize s.getD i 0=b
  by_cases h:128<=b.toNat
  ·rw [A6,Nat.ble_eq_true_of_le h]
   rfl
  ·have:Nat.ble 128 b.toNat=false:=by rw [Bool.eq_false_iff,ne_eq,Nat.ble_eq];exact h
   rw [B4,this,Bool.false_or]
   exact ih (i+1) n (by omega) (by omega)
theorem Ay9 {R:Type} {k0:By->Int->LL->Option R} (s:By) (hs:s.length<=1000000) (k:Nat) (hk:k<=s.length):∀ (r i n:Nat) (l:List Nat),i+r=k->r<n->l.length=i->
  Er LF n s (k:Int) (i:Int) (G3 l) k0=k0 s (k:Int) (G3 (l++((s.take k).drop i).map (·.toNat))):=by
 intro r
 induction r with
 | zero=>
  intro i n l hi hn hl
  obtain ⟨n,rfl⟩:∃ m,n=m+1:=⟨n-1,by omega⟩
  rw [Er]
  rw [A6,List.drop_of_length_le (by rw [List.length_take];omega)]
  simp
 | succ r ih=>
  intro i n l hi hn hl
  obtain ⟨n,rfl⟩:∃ m,n=m+1:=⟨n-1,by omega⟩
  rw [Er]
  have e1:A4 ((i:Int)+1)=((i+1:Nat):Int):=by rw [A8];rfl
  have hd:(s.take k).drop i=s.getD i 0::(s.take k).drop (i+1):=by
   rw [M8 (s.take k) i (by rw [List.length_take];omega)]
   congr 1
   rw [List.getD_eq_getElem?_getD,List.getD_eq_getElem?_getD,List.getElem?_take_of_lt (by omega)]
  rw [B4,J2,K6,hd,L9,I9 (by omega),e1]
  simp only [cond_true]
  generalize s.getD i 0=b
  have hb:=b.toNat_lt
  have e2:A4 (b.toNat:Int)=(b.toNat:Int):=A8
  have hrow:G3 l++[[SV.int .i64 (A4 (b.toNat:Int))]]=G3 (l++[b.toNat]):=by rw [e2,RT];rfl
  rw [hrow,ih (i+1) n _ (by omega) (by omega) (by simp;omega)]
  simp
theorem Uy:∀ s:By,N1 s<=s.length-1
 | []=>by simp [N1]
 | b::r=>by
  have:=Uy r
  unfold N1
  grind
theorem Aa1 (s:By) (h0:A2 s.length=true):(∃ e,S6 s=([],e)/\∀ (R:Type) (k0:Int->Option R) (k1:Int->LL->By->Int->Int->Int->Bool->Option R) (k2:LL->By->Int->Int->Int->Bool->Option R),Pu LF s k0 k1 k2=k0 (e:Nat))\/
  (∃ e l s' n' i' b' st',S6 s=([],e)/\∀ (R:Type) (k0:Int->Option R) (k1:Int->LL->By->Int->Int->Int->Bool->Option R) (k2:LL->By->Int->Int->Int->Bool->Option R),Pu LF s k0 k1 k2=k1 (e:Nat) l s' n' i' b' st')\/
  ((S6 s).2=0/\∃ s' n' i' b' st',∀ (R:Type) (k0:Int->Option R) (k1:Int->LL->By->Int->Int->Int->Bool->Option R) (k2:LL->By->Int->Int->Int->Bool->Option R),Pu LF s k0 k1 k2=k2 (G3 (S6 s).1) s' n' i' b' st'):=by
 have hLF:=F6
 unfold S6
 by_cases hl:1024<s.length
 ·rw [if_pos hl]
  refine .inl ⟨3,rfl,λR k0 k1 k2=>?_⟩
  unfold Pu
  rw [B4]
  rfl
 ·rw [if_neg hl]
  have asc:=λ(R:Type) (K0:Unit->Option R) (K1:By->Option R)=>Aa0 (k0:=K0) (k1:=K1) s (by omega) s.length 0 LF (by omega) (by omega)
  rw [List.drop_zero] at asc
  cases ha:s.any (λb=>Nat.ble 128 b.toNat) with
  | true=>
   rw [if_pos rfl]
   refine .inl ⟨4,rfl,λR k0 k1 k2=>?_⟩
   unfold Pu
   rw [A6,cond_false]
   refine Eq.trans (asc R _ _) ?_
   rw [ha,if_pos rfl]
   rfl
  | false=>
   rw [if_neg (by simp)]
   obtain ⟨d1,d2⟩:=Ux s
   have hlt:=Uy s
   have key:∀ (pts:List Nat) (t:By),pts.length<=256->t.length<=1024->(∀ (R:Type) (k0:Int->Option R) (k1:Int->LL->By->Int->Int->Int->Bool->Option R) (k2:LL->By->Int->Int->Int->Bool->Option R),Pu LF s k0 k1 k2=O0 LF LF (G3 pts) t 128 0 72 false k1 k2)->
     (∃ e l s' n' i' b' st',P0 t pts 128 0 72 true=([],e)/\∀ (R:Type) (k0:Int->Option R) (k1:Int->LL->By->Int->Int->Int->Bool->Option R) (k2:LL->By->Int->Int->Int->Bool->Option R),Pu LF s k0 k1 k2=k1 (e:Nat) l s' n' i' b' st')\/
     ((P0 t pts 128 0 72 true).2=0/\∃ s' n' i' b' st',∀ (R:Type) (k0:Int->Option R) (k1:Int->LL->By->Int->Int->Int->Bool->Option R) (k2:LL->By->Int->Int->Int->Bool->Option R),Pu LF s k0 k1 k2=k2 (G3 (P0 t pts 128 0 72 true).1) s' n' i' b' st'):=by
    intro pts t hp ht he
    obtain ⟨p1,p2⟩:=Az0 t.length t pts 128 0 72 LF false (Nat.le_refl _) (by omega) (by omega) hp (by omega) (by omega) (by omega)
    rw [Bool.not_false] at p1 p2
    by_cases hz:(P0 t pts 128 0 72 true).2=0
    ·obtain ⟨s',n',i',b',st',e⟩:=p1 hz
     exact .inr ⟨hz,s',n',i',b',st',λR k0 k1 k2=>by rw [he];exact e R k1 k2⟩
    ·obtain ⟨pe,l,s',n',i',b',st',e⟩:=p2 hz
     exact .inl ⟨_,l,s',n',i',b',st',Prod.ext pe rfl,λR k0 k1 k2=>by rw [he];exact e R k1 k2⟩
   have hu:u8n 45=45:=rfl
   have top:∀ (R:Type) (k0:Int->Option R) (k1:Int->LL->By->Int->Int->Int->Bool->Option R) (k2:LL->By->Int->Int->Int->Bool->Option R),Pu LF s k0 k1 k2 =
     cond (ltI 0 (H9 45 s)) (Er LF LF s (H9 45 s) 0 [] (λs'5 k'6 l'7=>cond (L3 (A4 (k'6+1)) (s'5.length:Int) s'5.length)
      (vl (cut s'5 (A4 (k'6+1)) (s'5.length:Int)) λs'8=>cond (ltI 256 (l'7.length:Int)) (k1 3 l'7 s'8 128 0 72 false) (O0 LF LF l'7 s'8 128 0 72 false k1 k2)) none))
      (O0 LF LF [] s 128 0 72 false k1 k2):=by
    intro R k0 k1 k2
    unfold Pu
    rw [A6,cond_false]
    refine Eq.trans (asc R _ _) ?_
    rw [ha,if_neg (by simp),h0,hu]
    rfl
   by_cases hd:0<N1 s
   ·have hmem:45∈s:=by
     apply Classical.byContradiction
     intro h
     have:=(d2 h).2
     omega
    have hI:=d1 hmem
    generalize N1 s=m at *
    have hcopy:=λ(R:Type) (K:By->Int->LL->Option R)=>Ay9 (k0:=K) s (by omega) m (by omega) m 0 LF [] (by omega) (by omega) rfl
    rw [List.drop_zero] at hcopy
    have e1:A4 ((m:Int)+1)=((m+1:Nat):Int):=by rw [A8];rfl
    have hlen:((s.take m).map (·.toNat)).length=m:=by rw [List.length_map,List.length_take];omega
    have top2:∀ (R:Type) (k0:Int->Option R) (k1:Int->LL->By->Int->Int->Int->Bool->Option R) (k2:LL->By->Int->Int->Int->Bool->Option R),Pu LF s k0 k1 k2 =
      cond (ltI 256 (m:Int)) (k1 3 (G3 ((s.take m).map (·.toNat))) (s.drop (m+1)) 128 0 72 false) (O0 LF LF (G3 ((s.take m).map (·.toNat))) (s.drop (m+1)) 128 0 72 false k1 k2):=by
     intro R k0 k1 k2
     rw [top,hI,B4,cond_true]
     refine Eq.trans (hcopy R _) ?_
     rw [e1,M7,Wq,List.take_length,List.nil_append,L9,hlen]
     rfl
    by_cases h256:256<m
    ·rw [if_pos h256]
     refine .inr (.inl ⟨3,G3 ((s.take m).map (·.toNat)),s.drop (m+1),128,0,72,false,rfl,λR k0 k1 k2=>?_⟩)
     rw [top2,B4]
     rfl
    ·rw [if_neg h256,if_neg (show ¬ m=0 by omega)]
     exact .inr (key _ (s.drop (m+1)) (by rw [hlen];omega) (by rw [List.length_drop];omega) (λR k0 k1 k2=>by rw [top2,A6];rfl))
   ·have hz:N1 s=0:=by omega
    have hI:¬ 0<H9 45 s:=by
     by_cases hm:45∈s
     all_goals grind
    rw [hz,P5,if_pos rfl]
    refine .inr (key [] s (by simp) (by omega) (λR k0 k1 k2=>?_))
    rw [top,A6]
    rfl
theorem LJ (l:List Nat):(G3 l).isEmpty=l.isEmpty:=by cases l<;>rfl
theorem Bz7 (s:By) (h0:A2 s.length=true):∃ r H,Pu LF s (λr0=>rv (.tup [.fl 0,.s (.int .i64 r0)]) [.arr true 3 1 []]) (λr0 l1 s2 n3 n4 n5 b6=>rv (.tup [.fl 2,.s (.int .i64 r0)]) [.arr true 3 1 l1,.box [.s (.str s2),.fl 0,.s (.int .i64 n3),.s (.int .i64 n4),.s (.int .i64 n5),.s (.bool b6)],.arr true 3 1 []]) (λl0 s1 n2 n3 n4 b5=>rv (.tup [.fl 0,.s (.int .i64 (0:Int))]) [.arr true 3 1 l0,.box [.s (.str s1),.fl 0,.s (.int .i64 n2),.s (.int .i64 n3),.s (.int .i64 n4),.s (.bool b5)]])=rv r H/\
  r.stab [1,0] H = .tup [.s (.sl (S6 s).1.isEmpty (S6 s).1.isEmpty 1 (ZN (S6 s).1)),.s (.int .i64 ((S6 s).2:Nat))]:=by
 rcases Aa1 s h0 with ⟨e,h1,h2⟩ | ⟨e,l,s',n',i',b',st',h1,h2⟩ | ⟨h1,s',n',i',b',st',h2⟩
 ·refine ⟨_,_,h2 _ _ _ _,?_⟩
  rw [h1]
  rfl
 ·refine ⟨_,_,h2 _ _ _ _,?_⟩
  rw [h1]
  rfl
 ·refine ⟨_,_,h2 _ _ _ _,?_⟩
  rw [h1,FN]
  simp [PV.stab,Oo,Vy,PV.snap,K2,LJ]
end
section
open Go
theorem Vi:∀ (f:Nat) (l:By),Lib.validGoD f l=(Bm f l).isSome
 | 0,_=>rfl
 | f+1,l=>by
  unfold Lib.validGoD Bm
  split
  ·rfl
  ·split
   ·rfl
   ·rw [Vi f,Option.isSome_map]
theorem Ag3 (l:By):Lib.validD l=(Wd l).isSome:=Vi _ l
theorem FZ:∀ (f:Nat) (s:ByteArray) (pos:Nat) (p:List Nat),pos<=s.size->Bm f (s.data.toList.drop pos)=some p->s.size-pos<=f->Lib.runeCountFrom s f pos=p.length
 | 0,s,pos,p,hp,h,hf=>by
  simp only [Bm,Option.some.injEq] at h
  subst h;rfl
 | f+1,s,pos,p,hp,h,hf=>by
  have hsz:s.data.toList.length=s.size:=by rw [Array.length_toList];rfl
  unfold Bm at h
  rw [Lib.decodeL_drop] at h
  by_cases hps:pos<s.size
  ·rw [if_neg (by rw [<-List.length_eq_zero_iff,List.length_drop];omega)] at h
   split at h
   ·cases h
   ·cases hq:Bm f (List.drop (Utf8.decode s pos).2 (List.drop pos s.data.toList)) with
    | none=>rw [hq] at h;cases h
    | some q=>
     rw [hq] at h
     simp only [Option.map_some,Option.some.injEq] at h
     subst h
     have hw:=Lib.decode_width_pos s pos hps
     have hwl:pos+(Utf8.decode s pos).2<=s.size:=by
      have:=Lib.decodeL_le (s.data.toList.drop pos) (by rw [ne_eq,<-List.length_eq_zero_iff,List.length_drop];omega)
      rw [Lib.decodeL_drop,List.length_drop] at this
      omega
     rw [List.drop_drop] at hq
     unfold Lib.runeCountFrom
     rw [if_pos hps,FZ f s _ q hwl hq (by omega)]
     grind
  ·rw [if_pos (by rw [<-List.length_eq_zero_iff,List.length_drop];omega)] at h
   simp only [Option.some.injEq] at h
   subst h
   rw [Lib.runeCountFrom_end s _ _ hps];rfl
theorem BW {l:By} {p:List Nat} (h:Wd l=some p):Lib.runeCountL l=p.length:=by
 unfold Lib.runeCountL Lib.runeCount
 have hs:(ByteArray.mk l.toArray).size=l.length:=by simp [ByteArray.size]
 refine FZ _ _ 0 p (Nat.zero_le _) ?_ (by omega)
 rw [hs,List.drop_zero]
 simpa [Wd] using h
end
section
open Go Go.Proofs
theorem PP (l:List Nat):Ec (l.map λn:Nat=>(n:Int))=Gw l:=by
 have h1:(l.map λn:Nat=>(n:Int)).all ptI=l.all Ij:=by
  rw [List.all_map]
  congr 1
 have h2:(l.map λn:Nat=>(n:Int)).map Int.toNat=l:=by
  rw [List.map_map]
  exact (List.map_congr_left λa _=>by simp).trans (List.map_id l)
 unfold Ec
 rw [List.length_map,h1,h2]
 by_cases h:256<l.length
 ·rw [if_pos h];unfold Gw;rw [if_pos h]
 ·rw [if_neg h]
  cases hp:l.all Ij with
  | true=>rw [if_pos rfl]
  | false=>
   rw [if_neg (by simp)]
   unfold Gw
   grind
theorem PO (l:List Nat):(G3 l).map elI=l.map λn:Nat=>(n:Int):=by
 unfold G3
 rw [List.map_map]
 exact List.map_congr_left λa _=>rfl
theorem Lt (l:List Nat):(G3 l).all Uv=true:=by
 unfold G3
 rw [List.all_map,List.all_eq_true]
 intro x _
 rfl
theorem ZE {R:Type} {k0:Unit->Option R} {k1:By->Bool->LL->Bool->Option R} (s:By) (z:Bool) (p:List Nat) (hp:p.length<=1000000000):∀ (r i n:Nat) (b:Bool),i+r=p.length->r<n->
  R1 LF n s z (G3 p) b (p.length:Int) (i:Int) k0 k1=if (p.drop i).any (λp=>Nat.ble 65 p&&Nat.ble p 90) then k0 () else k1 s z (G3 p) (b && !((p.drop i).any λp=>Nat.ble 128 p)):=by
 intro r
 induction r with
 | zero=>
  intro i n b hi hn
  obtain ⟨n,rfl⟩:∃ m,n=m+1:=⟨n-1,by omega⟩
  rw [R1]
  rw [A6,List.drop_of_length_le (by omega)]
  simp
 | succ r ih=>
  intro i n b hi hn
  obtain ⟨n,rfl⟩:∃ m,n=m+1:=⟨n-1,by omega⟩
  rw [R1]
  have e1:A4 ((i:Int)+1)=((i+1:Nat):Int):=by rw [A8];rfl
  have hd:p.drop i=p.getD i 0::p.drop (i+1):=by
   rw [List.getD_eq_getElem?_getD,List.getElem?_eq_getElem (by omega),Option.getD_some,List.getElem_cons_drop]
  rw [B4,L9,J2,Int.toNat_natCast,LT (by omega),XT _ _ (by omega),hd,List.any_cons,List.any_cons,e1]
  simp only [cond_true,vl]
  generalize p.getD i 0=q
  have go:∀ c:Bool,R1 LF n s z (G3 p) c (p.length:Int) ((i+1:Nat):Int) k0 k1=_:=λc=>ih (i+1) n c (by omega) (by omega)
  by_cases h1:q<65
  ·rw [B4,show Nat.ble 65 q=false by rw [Bool.eq_false_iff,ne_eq,Nat.ble_eq];omega]
   have h2:Nat.ble 128 q=false:=by rw [Bool.eq_false_iff,ne_eq,Nat.ble_eq];omega
   rw [show ltI (q:Int) (128:Int)=true from B4,h2]
   simp only [Bool.not_true,cond_false,Bool.false_and,Bool.false_or]
   cases b<;>simp only [cond_true,cond_false]<;>rw [go]
  ·rw [A6,show Nat.ble 65 q=true by rw [Nat.ble_eq];omega]
   simp only [Bool.not_false,cond_true,Bool.true_and]
   by_cases h2:90<q
   ·rw [B4,show Nat.ble q 90=false by rw [Bool.eq_false_iff,ne_eq,Nat.ble_eq];omega]
    simp only [Bool.not_true,cond_false,Bool.false_or]
    by_cases h3:q<128
    ·rw [show ltI (q:Int) (128:Int)=true from B4,show Nat.ble 128 q=false by rw [Bool.eq_false_iff,ne_eq,Nat.ble_eq];omega]
     cases b<;>simp only [cond_true,cond_false,Bool.false_or]<;>rw [go]
    ·rw [show ltI (q:Int) (128:Int)=false from A6,show Nat.ble 128 q=true by rw [Nat.ble_eq];omega]
     cases b<;>simp only [cond_true,cond_false,Bool.true_or,Bool.not_true,Bool.and_false]<;>rw [go]<;>simp
   ·rw [A6,show Nat.ble q 90=true by rw [Nat.ble_eq];omega]
    simp
theorem XE:∀ (m:Nat) (s:By) (pts:List Nat) (n i b:Nat) (f:Bool),s.length<=m->pts.length<=256->(P0 s pts n i b f).1.length<=256:=by
 intro m
 induction m with
 | zero=>
  intro s pts n i b f hs hp
  obtain rfl:=List.length_eq_zero_iff.1 (Nat.le_zero.1 hs)
  rw [Na]
  exact hp
 | succ m ih=>
  intro s pts n i b f hs hp
  by_cases h:s=[]
  ·grind
  ·by_cases hq:(C6 b s i 1 0).2.2=0
   ·rw [Ul h _ _ _ _ _ hq]
    have hlt:=So b s i 1 0 hq
    split
    ·split
     ·grind
     ·rename_i h2
      exact ih _ _ _ _ _ _ (by omega) (by rw [EZ];omega)
    grind
   ·rw [Zw h _ _ _ _ _ hq]
    grind
theorem A95 (s:By):(S6 s).1.length<=256:=by
 unfold S6
 split
 ·grind
 ·split
  ·grind
  ·split
   ·grind
   ·rename_i h
    exact XE _ _ _ _ _ _ _ (Nat.le_refl _) (by rw [List.length_map,List.length_take];omega)
theorem ZF {R:Type} {k0:Bool->Option R} (s:By) (h0:A2 s.length=true):Am3 LF s k0=k0 (Lk s):=by
 have hLF:=F6
 unfold Am3 Lk
 rw [h0,cond_true]
 by_cases h:(S6 s).2=0
 ·have e:(((S6 s).2:Int) != (0:Int))=false:=by rw [h];rfl
  rw [e,cond_false,FN,L9,h]
  have hl:=A95 s
  refine Eq.trans (ZE s _ (S6 s).1 (by omega) (S6 s).1.length 0 LF true (by omega) (by omega)) ?_
  rw [List.drop_zero]
  cases h1:(S6 s).1.any (λp=>Nat.ble 65 p&&Nat.ble p 90) with
  | true=>simp
  | false=>
   rw [if_neg (by simp),Lt,PO,PP]
   simp only [cond_true,vl,Bool.true_and,Bool.not_false]
   cases h2:(S6 s).1.any (λp=>Nat.ble 128 p) with
   | false=>simp
   | true=>
    simp only [Bool.not_true,Bool.not_false,cond_true,Bool.and_true,beq_self_eq_true,Bool.true_and]
    by_cases h3:(Gw (S6 s).1).2=0
    all_goals grind
 grind
theorem Ax2 {R:Type} {k0:Unit->Option R} {k1:By->Option R} (s:By) (hs:s.length<=1000000000):∀ (r i n:Nat),i+r=s.length->r<n->
  N3 LF n s (s.length:Int) (i:Int) k0 k1=if (s.drop i).all U7 then k1 s else k0 ():=by
 intro r
 induction r with
 | zero=>
  intro i n hi hn
  obtain ⟨n,rfl⟩:∃ m,n=m+1:=⟨n-1,by omega⟩
  rw [N3]
  rw [A6,List.drop_of_length_le (by omega)]
  rfl
 | succ r ih=>
  intro i n hi hn
  obtain ⟨n,rfl⟩:∃ m,n=m+1:=⟨n-1,by omega⟩
  rw [N3]
  have e1:A4 ((i:Int)+1)=((i+1:Nat):Int):=by rw [A8];rfl
  rw [B4,J2,K6,M8 s i (by omega),e1,List.all_cons]
  simp only [cond_true]
  rw [ih (i+1) n (by omega) (by omega)]
  generalize s.getD i 0=b
  have hb:=Uz b
  have q1:((b.toNat:Int) != 45) = !(b==45):=congrArg _ (Np b 45 (by omega))
  have q2:((b.toNat:Int) != 95) = !(b==95):=congrArg _ (Np b 95 (by omega))
  rw [q1,q2]
  have t:∀ {x:Bool},U7 b=x->(if (U7 b&&(s.drop (i+1)).all U7)=true then k1 s else k0 ())=if (x&&(s.drop (i+1)).all U7)=true then k1 s else k0 ():=λh=>by rw [h]
  cases hl:U7 b with
  | true=>
   rw [hb] at hl
   simp only [Bool.true_and]
   by_cases h1:b=45
   ·subst h1
    simp (disch:=decide) [ltI]
   ·by_cases h2:b=95
    ·subst h2
     simp (disch:=decide) [ltI]
    ·rcases hl with hl | hl | hl | hl
     ·rw [show ltI (b.toNat:Int) 97=false from A6,show ltI (122:Int) b.toNat=false from A6];rfl
     ·rw [show ltI (b.toNat:Int) 97=true from B4,show ltI (b.toNat:Int) 48=false from A6,show ltI (57:Int) b.toNat=false from A6];rfl
     ·exact absurd hl h1
     ·exact absurd hl h2
  | false=>
   have hn:¬ ((97<=b.toNat/\b.toNat<=122)\/(48<=b.toNat/\b.toNat<=57)\/b=45\/b=95):=λh=>by rw [hb.2 h] at hl;cases hl
   have n1:(b==45)=false:=by simpa using λh=>hn (.inr (.inr (.inl h)))
   have n2:(b==95)=false:=by simpa using λh=>hn (.inr (.inr (.inr h)))
   rw [n1,n2]
   simp only [Bool.not_false,cond_true,Bool.false_and,Bool.false_eq_true,if_false]
   by_cases h1:b.toNat<48
   ·rw [show ltI (b.toNat:Int) 97=true from B4,show ltI (b.toNat:Int) 48=true from B4];rfl
   ·by_cases h2:b.toNat<97
    ·rw [show ltI (b.toNat:Int) 97=true from B4,show ltI (b.toNat:Int) 48=false from A6,show ltI (57:Int) b.toNat=true from B4];rfl
    ·rw [show ltI (b.toNat:Int) 97=false from A6,show ltI (122:Int) b.toNat=true from B4,show ltI (b.toNat:Int) 48=false from A6,show ltI (57:Int) b.toNat=true from B4];rfl
theorem Ax3 {R:Type} {k0:Bool->Option R} (s:By) (h0:A2 s.length=true):By0 LF s k0=k0 (N8 s):=by
 have hs:=N5 h0
 have hLF:=F6
 unfold By0 N8
 by_cases h1:s=[]
 ·simp_all
 ·have hl:0<s.length:=List.length_pos_iff.2 h1
  have he:s.isEmpty=false:=by simpa using h1
  rw [A6,cond_false,he]
  by_cases h2:63<s.length
  ·rw [B4,show Nat.ble s.length 63=false by rw [Bool.eq_false_iff,ne_eq,Nat.ble_eq];omega]
   rfl
  ·rw [A6,cond_false,show Nat.ble s.length 63=true by rw [Nat.ble_eq];omega,J2]
   have q1:(bAt s 0==(45:Int))=(s.getD 0 0==45):=by rw [Ob];exact Np _ 45 (by omega)
   have e1:A4 ((s.length:Int)-1)=((s.length-1:Nat):Int):=by rw [A8];omega
   rw [q1,e1]
   simp only [cond_true,vl]
   rw [J2,K6,show ((((s.getD (s.length-1) 0).toNat:Nat):Int)==45)=(s.getD (s.length-1) 0==45) from Np _ 45 (by omega)]
   cases h3:(s.getD 0 0==45) with
   | true=>
    grind
   | false=>
    rw [show (s.getD 0 0 != 45)=true by unfold bne;rw [h3];rfl]
    simp only [cond_true,cond_false]
    cases h4:(s.getD (s.length-1) 0==45) with
    | true=>
     grind
    | false=>
     rw [show (s.getD (s.length-1) 0 != 45)=true by unfold bne;rw [h4];rfl]
     simp only [cond_false]
     refine Eq.trans (Ax2 s hs s.length 0 LF (by omega) (by omega)) ?_
     rw [List.drop_zero]
     cases h5:s.all U7 with
     | false=>simp
     | true=>
      rw [if_pos rfl,h0,cond_true]
      simp only [Bool.not_false,Bool.true_and,Bool.and_true]
      show cond (!(xnB.isPrefixOf s)) _ _=_
      cases h6:xnB.isPrefixOf s with
      | false=>rfl
      | true=>
       have hc:Dd s xnB=s.drop 4:=by unfold Dd;rw [h6];rfl
       show cond (A2 (Dd s xnB).length) (k0 (Lk (Dd s xnB))) none=_
       rw [hc,E2 (by rw [List.length_drop];omega)]
       rfl
theorem XN (pts:List Nat) (basic:Nat) (hl:pts.length<=256) (hb:basic<=256) (hall:∀ p∈pts,p<=1114111):∀ (f n:Nat) (s:UH),s.done=pts.countP (λp=>decide (p<n))->s.delta<=300->s.bias<=500->s.out.length+20*(pts.length-s.done)<=80000->n<=1114112->
  (U9 pts basic f n s).out.length<=80000:=by
 intro f
 have hLF:=F6
 induction f with
 | zero=>intro n s hd h1 h2 h3 h4;unfold U9;omega
 | succ f ih=>
  intro n s hd h1 h2 h3 h4
  have hcl:pts.countP (λp=>decide (p<n))<=pts.length:=List.countP_le_length
  by_cases hlt:s.done<pts.length
  ·obtain ⟨p0,hp0,hp1⟩:=A89 (n:=n) (l:=pts) (by omega)
   obtain ⟨g1,g2,g3⟩:=Jn n pts 1114112
   have g4:=g3 p0 hp0 hp1
   have g5:=hall p0 hp0
   have hmem:J7 n pts 1114112∈pts/\n<=J7 n pts 1114112:=by grind
   have he:U9 pts basic (f+1) n s=U9 pts basic f (J7 n pts 1114112+1) { M5 (J7 n pts 1114112) basic pts { s with delta:=s.delta+(J7 n pts 1114112-n)*(s.done+1) } with delta:=(M5 (J7 n pts 1114112) basic pts { s with delta:=s.delta+(J7 n pts 1114112-n)*(s.done+1) }).delta+1 }:=by
    rw [U9,if_pos hlt]
   rw [he]
   generalize J7 n pts 1114112=m at *
   have hmul:(m-n)*(s.done+1)<=1114112*256:=Nat.mul_le_mul (by omega) (by omega)
   have hin:=An7 false false pts basic m (by omega) hl pts.length 0 LF { s with delta:=s.delta+(m-n)*(s.done+1) } (by omega) (by omega) (by simp only;omega) h2 (by simp only;omega) (by simp only;omega) hb
   rw [List.drop_zero] at hin
   obtain ⟨_,q2,q3,q4,q5⟩:=hin
   have hcnt:0<pts.countP (· == m):=List.countP_pos_iff.2 ⟨m,hmem.1,by simp⟩
   rw [if_pos hcnt] at q5
   have hstep:=Zu hmem.2 pts g3
   generalize M5 m basic pts { s with delta:=s.delta+(m-n)*(s.done+1) } = s' at *
   simp only at q3 q4
   have hcl2:pts.countP (λp=>decide (p<m+1))<=pts.length:=List.countP_le_length
   exact ih (m+1) { s' with delta:=s'.delta+1 } (by simp only;omega) (by simp only;omega) q2 (by simp only;omega) (by omega)
  ·rw [U9,if_neg hlt];omega
theorem Ba2 (p:List Nat):(Gw p).1.length<=80000:=by
 unfold Gw
 split
 ·grind
 ·rename_i h
  split
  ·grind
  ·rename_i h2
   have hp:∀ q∈p,q<=1114111:=λq hq=>by
    have h2:p.all Ij=true:=by simpa using h2
    have:=List.all_eq_true.1 h2 q hq
    simp only [Ij,Bool.and_eq_true,Nat.ble_eq] at this
    omega
   have hbl:=Zb p
   have hbc:p.countP (λq=>decide (q<128))<=p.length:=List.countP_le_length
   refine XN p _ (by omega) (by omega) hp 256 128 _ hbl (by simp) (by simp) ?_ (by omega)
   grind
theorem LG {b:UInt8} (h:128<=b.toNat):X1 b=b:=by
 rcases P2 b with ⟨_,e⟩ | ⟨_,e⟩ | ⟨_,h2,_⟩
 all_goals omega
theorem LH {b:UInt8} (h:b.toNat<128):(X1 b).toNat<128:=by
 rcases P2 b with ⟨_,e⟩ | ⟨_,e⟩ | ⟨_,h2,e⟩
 all_goals grind
theorem Ar5 (n:Nat) (b0 b1 b2 b3:UInt8) (h:128<=b0.toNat):Lib.decodeN n b0.toNat (X1 b1).toNat (X1 b2).toNat (X1 b3).toNat=Lib.decodeN n b0.toNat b1.toNat b2.toNat b3.toNat:=by
 have k1:∀ b:UInt8,b.toNat / 64=2->X1 b=b:=λb hb=>LG (by omega)
 have k2:∀ b:UInt8,¬ b.toNat / 64=2->¬ (X1 b).toNat / 64=2:=λb hb h=>by
  by_cases h2:128<=b.toNat
  ·rw [LG h2] at h;exact hb h
  ·have:=LH (b:=b) (by omega)
   omega
 unfold Lib.decodeN
 grind
theorem Bs3 (l:By) (hne:l≠[]):(Lib.decodeL (C0 l)).2=(Lib.decodeL l).2/\(¬ ((Lib.decodeL l).1=65533/\(Lib.decodeL l).2=1)->¬ ((Lib.decodeL (C0 l)).1=65533/\(Lib.decodeL (C0 l)).2=1)):=by
 cases l with
 | nil=>exact absurd rfl hne
 | cons b t=>
  by_cases hb:b.toNat<128
  ·have e1:=Lib.decodeL_ascii b t hb
   have e2:Lib.decodeL (C0 (b::t))=((X1 b).toNat,1):=Lib.decodeL_ascii (X1 b) (C0 t) (LH hb)
   rw [e1,e2]
   refine ⟨rfl,λ_ h=>?_⟩
   have:=LH hb
   omega
  ·have e:Lib.decodeL (C0 (b::t))=Lib.decodeL (b::t):=by
    rw [Lib.decodeL_N,Lib.decodeL_N,Aa,Hh,Hh,Hh,Hh]
    have e0:X1 ((b::t).getD 0 0)=b:=LG (b:=b) (show 128<=b.toNat by omega)
    rw [e0]
    exact Ar5 (b::t).length b ((b::t).getD 1 0) ((b::t).getD 2 0) ((b::t).getD 3 0) (show 128<=b.toNat by omega)
   grind
theorem FP:∀ (f:Nat) (l:By),(Bm f l).isSome=true->(Bm f (C0 l)).isSome=true
 | 0,_,_=>rfl
 | f+1,l,h=>by
  unfold Bm at h ⊢
  by_cases hl:l=[]
  ·subst hl;rfl
  ·rw [if_neg hl] at h
   rw [if_neg (by rw [FL];exact hl)]
   obtain ⟨d1,d2⟩:=Bs3 l hl
   split at h
   ·cases h
   ·rename_i hv
    rw [if_neg (d2 hv),Option.isSome_map,d1,ZB]
    rw [Option.isSome_map] at h
    exact FP f _ h
theorem Bh0 {l:By} (h:(Wd l).isSome=true):(Wd (C0 l)).isSome=true:=by
 unfold Wd at h ⊢
 rw [Aa]
 exact FP _ _ h
theorem Av9 (t:By) (ht:t.length<=1000000000):∀ (f pos:Nat) (P q:List Nat) (n:Nat),pos<=t.length->t.length-pos<=f->f<n->P.length<=pos->Bm f (t.drop pos)=some q->
  ∃ m,∀ (R:Type) (k0:LL->By->Nat->Option R),Bv LF n (G3 P) t pos k0=k0 (G3 (P++q)) t m:=by
 intro f
 induction f with
 | zero=>
  intro pos P q n h1 h2 h3 h4 h5
  obtain ⟨n,rfl⟩:∃ m,n=m+1:=⟨n-1,by omega⟩
  simp only [Bm,Option.some.injEq] at h5
  subst h5
  refine ⟨pos,λR k0=>?_⟩
  rw [Bv]
  rw [decide_eq_false (by omega),cond_false,List.append_nil]
 | succ f ih=>
  intro pos P q n h1 h2 h3 h4 h5
  obtain ⟨n,rfl⟩:∃ m,n=m+1:=⟨n-1,by omega⟩
  by_cases hp:pos<t.length
  ·have hne:t.drop pos≠[]:=by rw [ne_eq,<-List.length_eq_zero_iff,List.length_drop];omega
   have hd:=Lib.decodeL_drop ⟨t.toArray⟩ pos
   have hd':Utf8.decode ⟨List.toArray t⟩ pos=Lib.decodeL (t.drop pos):=by rw [<-hd]
   unfold Bm at h5
   rw [if_neg hne] at h5
   split at h5
   ·cases h5
   ·have hw:=Lib.decodeL_width (t.drop pos)
    have hle:=Lib.decodeL_le (t.drop pos) hne
    have hr:=Lib.decodeL_rune (t.drop pos)
    rw [List.length_drop] at hle
    rw [List.drop_drop] at h5
    generalize Lib.decodeL (t.drop pos)=dd at *
    obtain ⟨c,wd⟩:=dd
    simp only at *
    cases hq:Bm f (t.drop (pos+wd)) with
    | none=>rw [hq] at h5;cases h5
    | some q'=>
     rw [hq] at h5
     simp only [Option.map_some,Option.some.injEq] at h5
     subst h5
     obtain ⟨m,e⟩:=ih (pos+wd) (P++[c]) q' n (by omega) (by omega) (by omega) (by simp;omega) hq
     refine ⟨m,λR k0=>?_⟩
     rw [Bv]
     rw [decide_eq_true hp,cond_true,hd',L9,I9 (by omega)]
     simp only [vl,cond_true]
     have e1:A4 (c:Int)=(c:Int):=A8
     have hrow:G3 P++[[SV.int .i64 (A4 (c:Int))]]=G3 (P++[c]):=by rw [e1,RT];rfl
     rw [hrow,e,List.append_assoc]
     rfl
  ·have hnil:t.drop pos=[]:=by rw [<-List.length_eq_zero_iff,List.length_drop];omega
   unfold Bm at h5
   rw [hnil,if_pos rfl] at h5
   simp only [Option.some.injEq] at h5
   subst h5
   refine ⟨pos,λR k0=>?_⟩
   rw [Bv]
   rw [decide_eq_false hp,cond_false,List.append_nil]
theorem YO (s:By) (h0:A2 s.length=true):(∀ (R:Type) (k0:By->Int->Option R) (k1:By->Int->LL->By->Nat->Option R),RD LF s k0 k1=k0 (O7 s).1 ((O7 s).2:Nat))\/
  (∃ l t m,∀ (R:Type) (k0:By->Int->Option R) (k1:By->Int->LL->By->Nat->Option R),RD LF s k0 k1=k1 (O7 s).1 ((O7 s).2:Nat) l t m):=by
 have hs:=N5 h0
 have hLF:=F6
 unfold O7
 cases hp:Wd s with
 | none=>
  refine .inl λR k0 k1=>?_
  unfold RD
  rw [h0,hp]
  rfl
 | some p=>
  have hrc:=BW hp
  have top:∀ (R:Type) (k0:By->Int->Option R) (k1:By->Int->LL->By->Nat->Option R),RD LF s k0 k1=cond (ltI 256 (p.length:Int)) (k0 [] 3) (cond (ltI (p.length:Int) (s.length:Int)) (Bv LF LF [] (C0 s) 0 (λl'5 s'6 m'7=>cond (List.all l'5 Uv)
      (cond (((Ec (List.map elI l'5)).2:Int) != (0:Int))
       (k1 ([]:List UInt8) 14 l'5 s'6 m'7)
       (cond (N0 4 (List.length ((Ec (List.map elI l'5))).1))
        (cond (A2 (List.length (xnB++((Ec (List.map elI l'5))).1)))
         (cond (not (N8 (xnB++((Ec (List.map elI l'5))).1)))
         (k1 ([]:List UInt8) 14 l'5 s'6 m'7)
         (k1 (xnB++((Ec (List.map elI l'5))).1) 0 l'5 s'6 m'7))
         (none))
        (none)))
      (none)))
     (cond (A2 (List.length (C0 s)))
      (cond (not (N8 (C0 s)))
      (k0 ([]:List UInt8) 14)
      (k0 (C0 s) 0))
      (none))):=by
   intro R k0 k1
   unfold RD
   rw [h0,hp,hrc]
   rfl
  simp only
  by_cases h1:256<p.length
  ·rw [if_pos h1]
   refine .inl λR k0 k1=>?_
   rw [top,B4]
   rfl
  ·rw [if_neg h1]
   by_cases h2:p.length<s.length
   ·rw [if_pos h2]
    have hlow:=Bh0 (l:=s) (by rw [hp];rfl)
    cases hq:Wd (C0 s) with
    | none=>rw [hq] at hlow;cases hlow
    | some q=>
     have hll:=Aa s
     obtain ⟨m,e⟩:=Av9 (C0 s) (by omega) (C0 s).length 0 [] q LF (by omega) (by omega) (by omega) (by simp) (by rw [List.drop_zero];exact hq)
     refine .inr ⟨G3 q,C0 s,m,λR k0 k1=>?_⟩
     rw [top,A6,cond_false,B4,cond_true]
     refine Eq.trans (e R _) ?_
     have hel:=Ba2 q
     rw [List.nil_append,Lt,PO,PP,cond_true,O8 (by omega),cond_true,E2 (by rw [List.length_append];simp only [xnB,List.length_cons,List.length_nil];omega),cond_true]
     simp only
     by_cases h3:(Gw q).2=0
     ·rw [h3,if_pos rfl]
      cases h4:N8 (xnB++(Gw q).1) with
      | true=>rfl
      | false=>rfl
     ·rw [if_neg h3]
      have:(((Gw q).2:Int) != (0:Int))=true:=by simpa using h3
      rw [this]
      rfl
   ·rw [if_neg h2]
    refine .inl λR k0 k1=>?_
    rw [top,A6,cond_false,A6,cond_false,E2 (by rw [Aa];exact hs),cond_true]
    cases N8 (C0 s)<;>rfl
theorem Bx0 (s:By) (h0:A2 s.length=true):∃ r H,RD LF s (λr0 r1=>rv (.tup [.s (.str r0),.s (.int .i64 r1)]) []) (λr0 r1 l2 s3 m4=>rv (.tup [.s (.str r0),.s (.int .i64 r1)]) [.arr true 3 1 l2,.iter s3 m4])=rv r H/\
  r.stab [0,0] H = .tup [.s (.str (O7 s).1),.s (.int .i64 ((O7 s).2:Nat))]:=by
 rcases YO s h0 with h | ⟨l,t,m,h⟩
 ·exact ⟨_,_,h _ _ _,rfl⟩
 ·exact ⟨_,_,h _ _ _,rfl⟩
end
end Go.Proofs.YthcoijldbdfboaaGreatDoor.E
