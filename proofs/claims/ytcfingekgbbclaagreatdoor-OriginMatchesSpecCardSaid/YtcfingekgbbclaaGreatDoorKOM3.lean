/-
  Parts of the proof, merged by a program of the prover's own; no condition.
-/
import Derived.Test.YtcfingekgbbclaaGreatDoorKOM2
import Derived.Deep.Draws
import Derived.KernelRfl
import Derived.Laws.RangeString
import Derived.Lib.IndexMore
import Derived.Lib.ItoaNum
import Derived.Lib.Join
import Derived.Lib.LaidTab
import Derived.Lib.LaidU8
import Derived.Lib.LastIndexLaws
import Derived.Lib.RuneCount
import Derived.Lib.TrailingZeros
import Derived.Lib.ValidU
import Derived.Sort.Grow
import Derived.Test.YtcfingekgbbclaaGreatDoorProg
open List renaming length->a8,getD->b9,flatten->c9,replicate->j0,isEmpty->j8,getD_eq_getElem?_getD->p4,drop_of_length_le->p5,isPrefixOf->p7,map->s7,getElem?_eq_getElem->s9,drop_zero->w8,all->x3,getD_cons_zero->x4,length_singleton->x8,isPrefixOf_iff_prefix->x9,take->y7,length_append->y9,take_of_length_le->aa2,drop_append_of_le_length->aa5,set->aa6,isSuffixOf->aa8,length_map->aa9,length_pos_iff->ab0,count_eq_zero->ab2,cons_append->ab5,getElem_mem->ab6,length_cons->ab7,prefix_iff_eq_take->ab8,suffix_iff_eq_drop->ab9,dropLast_eq_take->ac4,mem_of_mem_drop->ac8,drop->ad0,getD_cons_succ->ad1,mem_cons->ad2,count_cons->af0,length_nil->af1,map_append->af2
open Int renaming toNat->b8,toNat_natCast->j4,eq_ofNat_of_zero_le->k9,tmod->x7,tdiv->aa0,natCast_mul->ae9
open Eq renaming trans->j1
open Option renaming isSome->j2,isSome_some->s8,getD_some->w6
open Go.Lib renaming decDigits->j5,cut->w9,index->y5,decDigits_one->ab3,decodeL->ac6,join->ac7,occAt->ad7,index_spec->af4
open Bool renaming not_true->j6,not_false->j7,and_eq_true->x5,false_eq_true->ab1,eq_iff_iff->ac2,and_true->af8
open UInt8 renaming ofNat->j9,le_iff_toNat_le->aa4,toNat->ai2
open Go.IntKind renaming wrap->p6,bits->v7,signed->aa1
open Nat renaming mod_eq_of_lt->p9,ble->v8,pow_succ->y8,le_refl->aa7,beq->ab4,le_mul_of_pos_right->ac0,le_trans->ac1,min_eq_left->ac3,one_mul->ac9,lt_of_le_of_lt->ad3,lt_of_lt_of_le->ad4,or_lt_two_pow->ad5,pow_pos->ae8,div_le_self->af3,mul_le_mul->af5,add_comm->ag8,blt->ag9,mul_comm->ah0,zero_add->ah1
open BitVec renaming ofInt->x6,ofInt_natCast->ac5
open Go.Fn renaming func->z7
open Option.some renaming injEq->aa3
open Go.Proofs.Tryz renaming f84->ad6,f114->ad8,f118->ad9,f124->ae0,f135->ae1,f146->ae2,f147->ae3,f152->ae4,f170->ae5,f179->ae6,f189->ae7,f64->af6,f71->af7,f108->ag0,f113->ag1,f117->ag2,f138->ag3,f145->ag4,f164->ag5,f173->ag6,f180->ag7,f17->ah4,f56->ah5,f67->ah6,f87->ah7,f88->ah8,f95->ah9,f96->ai0,f98->ai1
open Prod.mk renaming injEq->af9
open BEq renaming comm->ah2
open Go.Fence renaming wide->ai3
namespace Go.Proofs.YtcfingekgbbclaaGreatDoor.E
set_option linter.all false
section
open Go
section
variable {Z R : Type} {C : Cfg} {Q : G0} {Y : Yh Z} {c a b : Code} {L : St Z} {k : Out -> St Z -> Option R} {id : Nat}
theorem A0{b:Bool}{x y d e:Option R}(f:x=d)(g:y=e):cond b x y=cond b d e:=by rw[f,g]
end
def Cd9{α:Type}(z:α)(f:Nat->α->α):Nat->α
 | 0=>z
 | n+1=>f n (Cd9 z f n)
def A2{b:Type}:List (Nat × b)->Nat->Option b
 | [],_=>none
 | (a,l)::r,n=>cond (ab4 n a) (some l) (A2 r n)
def bds(n:Nat):List PV:=j0 n .bad
def tps(n:Nat):List PV:=j0 n (.tup [])
def gp:List (Nat × PV)->Nat->List PV
 | [],n=>bds n
 | (m,v)::r,n=>bds m++v::gp r n
abbrev LL:=List (List SV)
abbrev By:=List UInt8
def A1(n:Int):Int:=p6 .i64 n
def De8(n:Int):Int:=p6 .u64 n
def BN(n:Int):Int:=p6 .u32 n
def Df(n:Int):Int:=p6 .u16 n
def wu8(n:Int):Int:=p6 .u8 n
def Ap3(k:IntKind)(a b:Int):Int:=k.wrap (x6 k.bits a &&& x6 k.bits b).toNat
def bOr(k:IntKind)(a b:Int):Int:=k.wrap (x6 k.bits a ||| x6 k.bits b).toNat
def Rg(k:IntKind)(a b:Int):Int:=k.wrap (a*2 ^ min b.toNat k.bits)
def Nn(k:IntKind)(a b:Int):Int:=a.fdiv (2 ^ min b.toNat k.bits)
def inR(n:Int)(m:Nat):Bool:=decide (0<=n)&&decide (n<m)
def Kn:TI:=⟨true,false,[.int .i64]⟩
def Pi:TI:=⟨true,false,[.str]⟩
def okE(t:TI)(l:LL)(i o:Nat):Bool:=decide (i<l.length)&&okS t (l.getD i []) o
def gC(l:LL)(i j:Nat):SV:=(l.getD i []).getD j .nilp
def gE(l:LL)(i j:Nat):Int:=(gC l i j).gI
def gX(l:LL)(i j:Nat):By:=(gC l i j).gS
def bAt(s:By)(n:Int):Int:=((s.getD n.toNat 0).toNat:Int)
def I1(l h:Int)(n:Nat):Bool:=decide (0<=l)&&decide (l<=h)&&decide (h<=n)
def cut{a:Type}(s:List a)(l h:Int):List a:=(s.take h.toNat).drop l.toNat
def Dl9:Code->Bool | .rangeFunc _ _ _ _=>true|_=>false
def rgX:Code->Operand | .rangeFunc x _ _ _=>x|_=>.tmp 0
def rgP:Code->Array Tmp | .rangeFunc _ p _ _=>p|_=>#[]
theorem TW:∀(p:List Nat),cd p .skip = .skip
 | []=>rfl
 | 0::_=>rfl
 | 1::_=>rfl
 | (_+2)::_=>rfl
theorem Ge:∀(p q:List Nat) (c:Code),cd (p++q) c=cd q (cd p c)
 | [],q,c=>rfl
 | i::p,q,c=>by
  rw[ab5]
  match i,c with
  | 0,.seq a b=>exact Ge p q a
  | 1,.seq a b=>exact Ge p q b
  | 0,.cond _ a b=>exact Ge p q a
  | 1,.cond _ a b=>exact Ge p q b
  | 0,.block _ a=>exact Ge p q a
  | 0,.loop a=>exact Ge p q a
  | 0,.scope a=>exact Ge p q a
  | 0,.rangeFunc _ _ a b=>exact Ge p q a
  | 1,.rangeFunc _ _ a b=>exact Ge p q b
  | 0,.skip|0,.region _ _ _|0,.exit _|0,.label _|0,.goto _|0,.ret|0,.refuse _=>exact(TW q).symm
  | 1,.skip|1,.region _ _ _|1,.exit _|1,.scope _|1,.label _|1,.goto _|1,.ret|1,.refuse _|1,.block _ _|1,.loop _=>exact(TW q).symm
  | _+2,.skip|_+2,.region _ _ _|_+2,.exit _|_+2,.scope _|_+2,.label _|_+2,.goto _|_+2,.ret|_+2,.refuse _|_+2,.block _ _|_+2,.loop _|_+2,.seq _ _|_+2,.cond _ _ _|_+2,.rangeFunc _ _ _ _=>exact(TW q).symm
section
variable {Z R : Type} {C : Cfg} {L : G0} {Y : Yh Z} {B : Code} {Q : St Z} {k : Out -> St Z -> Option R}
theorem Di9(p:List Nat)(h:Dl9 (cd p B)=true):A9 C L Y (cd p B) Q k=Tq C L (opnd C Q.sl (rgX (cd p B))) Q (λa=>Jf (rgP (cd p B)) a (bd C L Y (cd (p++[0]) B)) (bd C L Y (cd (p++[1]) B))) (λa=>Al (rgP (cd p B)) a (bd C L Y (cd (p++[0]) B)) (bd C L Y (cd (p++[1]) B))) k:=by rw[Ge,Ge];cases b:cd p B<;>rw[b] at h<;>first|rfl|cases h
theorem Ax7{c:Bool}{x y:Option R}(h:x=y):need c x=cond c y none:=by rw[h];rfl
end
abbrev pS(l:List UInt8):PV:=.s (.str l)
abbrev pB(b:Bool):PV:=.s (.bool b)
abbrev pI(n:Int):PV:=.s (.int .i64 n)
abbrev p8(n:Int):PV:=.s (.int .u8 n)
abbrev p16(n:Int):PV:=.s (.int .u16 n)
abbrev p32(n:Int):PV:=.s (.int .u32 n)
abbrev p64(n:Int):PV:=.s (.int .u64 n)
abbrev vl{a b:Type}(e:a)(f:a->b):b:=f e
theorem A4{a R:Type}{e:a}{f g:a->Option R}(h:∀x,f x=g x):vl e f=vl e g:=h e
def D6(m n:Nat):Bool:=decide (m+n<4611686018427387904)
theorem fx1{A R:Type}{f g:A->R}(b:∀a,f a=g a):f=g:=funext b
theorem fx2{A B R:Type}{f g:A->B->R}(c:∀a b,f a b=g a b):f=g:=funext λa=>fx1 (c a)
theorem fx3{A B C R:Type}{f g:A->B->C->R}(d:∀a b c,f a b c=g a b c):f=g:=funext λa=>fx2 (d a)
theorem fx4{A B C D R:Type}{f g:A->B->C->D->R}(e:∀a b c d,f a b c d=g a b c d):f=g:=funext λa=>fx3 (e a)
theorem fx5{A B C D E R:Type}{f g:A->B->C->D->E->R}(h:∀a b c d e,f a b c d e=g a b c d e):f=g:=funext λa=>fx4 (h a)
theorem fx6{A B C D E H R:Type}{f g:A->B->C->D->E->H->R}(i:∀a b c d e h,f a b c d e h=g a b c d e h):f=g:=funext λa=>fx5 (i a)
theorem fx7{A B C D E H I R:Type}{f g:A->B->C->D->E->H->I->R}(j:∀a b c d e h i,f a b c d e h i=g a b c d e h i):f=g:=funext λa=>fx6 (j a)
theorem fx8{A B C D E H I J R:Type}{f g:A->B->C->D->E->H->I->J->R}(k:∀a b c d e h i j,f a b c d e h i j=g a b c d e h i j):f=g:=funext λa=>fx7 (k a)
theorem fx9{A B C D E H I J K R:Type}{f g:A->B->C->D->E->H->I->J->K->R}(l:∀a b c d e h i j k,f a b c d e h i j k=g a b c d e h i j k):f=g:=funext λa=>fx8 (l a)
theorem Cs3{A B C D E H I J K L R:Type}{f g:A->B->C->D->E->H->I->J->K->L->R}(m:∀a b c d e h i j k l,f a b c d e h i j k l=g a b c d e h i j k l):f=g:=funext λa=>fx9 (m a)
def Dk0{α a:Type}(z:α)(f:a->List a->α->α):List a->α
 | []=>z
 | x::xs=>f x xs (Dk0 z f xs)
def Rd(n:Nat):PV->PV
 | .s (.sl z t k a)=>if n=0 then .s (.sl z t k a) else if k=n then .s (.sl z t k a) else .s (.sl z t (cond z n k) a)
 | v=>v
def Om:List Nat->List PV->List PV
 | n::r,v::l=>Rd n v::Om r l
 | _,l=>l
def Da8(a:List Nat):PV->PV
 | .agg l=>.agg (Om a l)
 | v=>Rd (a.headD 0) v
def B8:List (List Nat)->List PV->List PV
 | s::r,v::l=>Da8 s v::B8 r l
 | _,l=>l
section
variable {L : Ctx} {sh : Nat -> Option Shp} {w : World}
theorem DX{n:Nat}{v:PV}{V:Value}(h:VP L sh w v V):VP L sh w (Rd n v) V:=by
 unfold Rd;split
 ·rename_i z t k a;split
  ·exact h
  ·split
   ·exact h
   ·cases z with
    | false=>exact h
    | true=>
     have b:=h.inv_s;cases b with
     | nil=>exact .s _ _ (.nil _ _)
 ·exact h
theorem Vl:∀(a:List Nat) (l:List PV),(Om a l).length=l.length
 | [],_=>rfl
 | _::_,[]=>rfl
 | n::r,v::l=>by simp[Om,Vl r l]
theorem IE:∀(a:List Nat) (l:List PV) (j:Nat) (h:j<l.length) (b:j<(Om a l).length),∃n,(Om a l)[j]=Rd n l[j]
 | [],l,j,h,b=>⟨0,by
  have e:Om [] l=l:=by cases l<;>rfl
  simp only[e];unfold Rd;split
  ·rename_i c;rw[c];simp
  ·rfl⟩
 | n::r,v::l,0,h,b=>⟨n,rfl⟩
 | n::r,v::l,j+1,h,b=>by
  obtain⟨m,e⟩:=IE r l j (by simpa using h) (by simpa[Om] using b);exact⟨m,by simpa[Om] using e⟩
theorem Cr9{b:List Nat}{v:PV}{V:Value}(h:VP L sh w v V):VP L sh w (Da8 b v) V:=by
 unfold Da8;split
 ·rename_i l;obtain⟨A,rfl,hA,f⟩:=h.inv_agg;refine VP.mk_agg (by rw[Vl];exact hA) λj c=>?_
  have a:j<l.length:=by rw[Vl] at c;exact c
  obtain⟨U,e,k⟩:=f j a;obtain⟨m,d⟩:=IE b l j a c;exact⟨U,e,by rw[d];exact DX k⟩
 ·exact DX h
theorem ZM:∀(a:List (List Nat)) (l:List PV),(B8 a l).length=l.length
 | [],_=>rfl
 | _::_,[]=>rfl
 | n::r,v::l=>by simp[B8,ZM r l]
theorem Cs0:∀(a:List (List Nat)) (l:List PV) (V:Array Value),CR L sh w l V->CR L sh w (B8 a l) V:=by
 intro a l V h;refine⟨by rw[ZM];exact h.1,?_⟩;have key:∀(a:List (List Nat)) (l:List PV) (b:Nat->Option Value),(∀j (h:j<l.length),∃U,b j=some U/\VP L sh w (l[j]) U)->∀j (h:j<(B8 a l).length),∃U,b j=some U/\VP L sh w ((B8 a l)[j]) U:=by
  intro a
  induction a with
  | nil=>intro l b d j c;exact d j (by cases l<;>exact c)
  | cons s r f=>
   intro l b d j c;cases l with
   | nil=>simp[B8] at c
   | cons v l=>
    cases j with
    | zero=>
     obtain⟨U,e,k⟩:=d 0 (by simp);exact⟨U,e,Cr9 k⟩
    | succ j=>
     have:=f l (λj=>b (j+1)) (λj h=>d (j+1) (by simpa using h)) j (by simpa[B8] using c);simpa[B8] using this
 exact key a l (λj=>V[j]?) h.2
end
theorem B0.fix{P:Program}{G:GT}{g:Nat}{pf:List PV->Tr}(szs:List (List Nat))(h:B0 P G g pf):B0 P G g (λargs=>pf (B8 szs args)):=
 λargs ret Hc hpf C hP hGe Γ w Vs hnm hH hG hc=>h (B8 szs args) ret Hc hpf C hP hGe Γ w Vs hnm hH hG (Cs0 szs args Vs hc)
theorem J0{v:PV}{H:List Blk}{ret:PV}{a:List Blk}(h:L4 (.ret v H)=some (ret,a)):ret=v/\a=H:=by simp only[L4,Hd,aa3,af9] at h;grind
theorem C0{c:Bool}{t:Tr}{ret:PV}{a:List Blk}(h:L4 (.need c t)=some (ret,a)):c=true/\L4 t=some (ret,a):=by
 cases c with
 | true=>exact⟨rfl,h⟩
 | false=>cases h
theorem Cj3{c:Bool}{a b:Tr}{ret:PV}{d:List Blk}(h:L4 (.split c a b)=some (ret,d)):(c=true/\L4 a=some (ret,d))\/(c=false/\L4 b=some (ret,d)):=by
 cases c with
 | true=>exact .inl ⟨rfl,h⟩
 | false=>exact .inr ⟨rfl,h⟩
theorem C70:∃n:Nat,100000000000000000000<=n:=⟨_,aa7 _⟩
noncomputable def LF:Nat:=Classical.choose C70
theorem C2:100000000000000000000<=LF:=Classical.choose_spec C70
attribute [irreducible] LF
theorem Bo5(b:UInt8):Le (D8 b)=b:=by simp[Le,D8,SV.gI]
theorem X2(l:List UInt8):(l.map D8).map Le=l:=by
 rw[List.map_map];have:Le ∘ D8=id:=by funext b;exact Bo5 b
 rw[this,List.map_id]
theorem Bq4(b:UInt8):Nm (D8 b)=true:=by have:=b.toNat_lt;simp only[Nm,D8,x5,decide_eq_true_eq];omega
theorem W4(l:List UInt8):(l.map D8).all Nm=true:=by rw[List.all_map];simp[Function.comp_def,Bq4]
theorem De7(n:Nat):p6 .u8 (n:Int)=((n % 256:Nat):Int):=by simp[p6,v7,aa1]
theorem Bl9(n:Nat):p6 .u16 (n:Int)=((n % 65536:Nat):Int):=by simp[p6,v7,aa1]
theorem C38(n:Nat):p6 .u32 (n:Int)=((n % 4294967296:Nat):Int):=by simp[p6,v7,aa1]
theorem C39(n:Nat):p6 .u64 (n:Int)=((n % 18446744073709551616:Nat):Int):=by simp[p6,v7,aa1]
theorem C37(n:Int)(a:-9223372036854775808<=n)(b:n<9223372036854775808):p6 .i64 n=n:=by simp[p6,v7,aa1];split<;>omega
theorem B87(n m:Nat):Int.fdiv (n:Int) (m:Int)=((n / m:Nat):Int):=by rw[Int.fdiv_eq_ediv_of_nonneg _ (by omega)];rfl
theorem L3(n m:Nat):aa0 (n:Int) (m:Int)=((n / m:Nat):Int):=by rw[Int.tdiv_eq_ediv_of_nonneg (by omega)];rfl
theorem Bx(n m:Nat):x7 (n:Int) (m:Int)=((n % m:Nat):Int):=by rw[Int.tmod_eq_emod_of_nonneg (by omega)];rfl
theorem Da1(w a b:Nat)(c:a<2 ^ w)(d:b<2 ^ w):(x6 w (a:Int) ||| x6 w (b:Int)).toNat=a ||| b:=by simp[ac5,p9 c,p9 d]
theorem C81(w a b:Nat)(c:a<2 ^ w)(d:b<2 ^ w):(x6 w (a:Int) &&& x6 w (b:Int)).toNat=a &&& b:=by simp[ac5,p9 c,p9 d]
theorem Dc0(a b i:Nat)(h:a<2 ^ i):a ||| (b*2 ^ i)=a+b*2 ^ i:=by rw[ah0 b,Nat.or_comm,ag8];exact(Nat.two_pow_add_eq_or_of_lt h b).symm
theorem Ba8(n:Nat):D8 (j9 n)=[SV.int .u8 ((n % 256:Nat):Int)]:=by simp[D8]
end
section
open Go Go.ChangeShapes Go.RowKit Go.Sort Go.WideShapes
theorem Rs{P:Program}{f:Nat}{fn:Func}{d:Array Value}{w:World}{R:Value->World->Prop}(m:P.funcs[f]? = some fn)(j:fn.body.isSome=true)(p:(fn.name == "runtime.NumGoroutine")=false)
  (h:Calls P f d w λe w'=>∃V,e = .returned V/\R V w'):R7 P ((callFunc f d).run P w) R:=by
 obtain⟨c,j⟩:=Option.isSome_iff_exists.1 j;intro q n o a next Q b
 have g:(callFunc f d).run P w = .ok (.enter f d) w:=by
  have k:¬ fn.name = "runtime.NumGoroutine":=by simpa using p
  simp[callFunc,m,j,k,Result.andThen]
 rw[g];simp only[Oper.uponIn_enter];refine⟨λh=>(by simp[H6,ai3] at h),?_⟩;have key:CallsIn ai3 (n-1) P f d w λe w'=>∃V,e = .returned V/\R V w':=callsIn_wide.2 h
 have i:CallsIn (H6 q) (n-1) P f d w λe w'=>∃V,e = .returned V/\R V w':=key
 refine i.mono ?_;rintro e w' ⟨V,rfl,l⟩;exact b V w' l
theorem B78{C:Cfg}{d:Ctx}{w w':World}{ret:PV}{V:Value}(a:∀b,d.nm b=none)(f:HR d [] w)(c:Below w.heap.size w w')(j:VP d (A5 []) w' ret V)(i:ret.nms=[]):Dn C I0 d [] w noΦ ret [] () V w':=by
 refine⟨d,noΦ,⟨c.os,c.tape,c.output,c.size,λ_ h=>h,λ_ h=>.inl h,λb g h=>(by rw[a] at h;cases h),λ_ h=>h.elim,λg e _ _=>c.block g e,rfl,aa7 _,λb h=>(by simp at h)⟩,
  ⟨λb k g h=>(by rw[a] at h;cases h),λb g h=>(by rw[a] at h;cases h),λg e=>ad4 (f.stlt g e) c.size,λb h=>(by simp at h),λb h=>(by simp at h)⟩,j,by rw[i];simp,λ_ h=>h,λb g h=>(by rw[a] at h;cases h)⟩
theorem Of(w:World)(n:Nat):Below w.heap.size w (w.drewN n):=⟨rfl,rfl,rfl,aa7 _,λ_ _=>rfl⟩
theorem HA(w:World)(os:Array Obj):Below w.heap.size w (grow w os):=by refine⟨rfl,rfl,rfl,by simp[grow],λk a=>?_⟩;simp only[grow];grind
theorem Ap5(w:World)(s:ByteArray)(pos:Nat):Below w.heap.size w (w.iter s pos):=(Below.refl _ w).alloc (aa7 _) _
section
variable {Γ : Ctx} {sh : Nat -> Option Shp} {w : World}
theorem CR.arr1{a:PV}{A:Array Value}(h:CR Γ sh w [a] A):∃U,A = #[U]/\VP Γ sh w a U:=by obtain⟨U,e,k⟩:=h.2 0 (by simp);refine⟨U,?_,k⟩;have hs:A.size=1:=h.1;grind
theorem CR.arr2{a b:PV}{A:Array Value}(h:CR Γ sh w [a,b] A):∃U V,A = #[U,V]/\VP Γ sh w a U/\VP Γ sh w b V:=by obtain⟨U,e,k⟩:=h.2 0 (by simp);obtain⟨V,e',k'⟩:=h.2 1 (by simp);refine⟨U,V,?_,k,k'⟩;have hs:A.size=2:=h.1;grind
theorem CR.arr3{a b c:PV}{A:Array Value}(h:CR Γ sh w [a,b,c] A):∃U V W,A = #[U,V,W]/\VP Γ sh w a U/\VP Γ sh w b V/\VP Γ sh w c W:=by obtain⟨U,e,k⟩:=h.2 0 (by simp);obtain⟨V,e',k'⟩:=h.2 1 (by simp);obtain⟨W,e'',k''⟩:=h.2 2 (by simp);refine⟨U,V,W,?_,k,k',k''⟩;have hs:A.size=3:=h.1;grind
theorem VP.mk_str(l:List UInt8):VP Γ sh w (.s (.str l)) (.string ⟨l.toArray⟩):=by have:=VP.s (Γ:=Γ) (sh:=sh) (w:=w) _ _ (VS.str (St:=Γ.St) (w:=w) ⟨l.toArray⟩);omega
theorem VP.mk_int(k:IntKind)(n:Int):VP Γ sh w (.s (.int k n)) (.int k n):=.s _ _ (.int k n)
theorem VP.mk_bool(b:Bool):VP Γ sh w (.s (.bool b)) (.bool b):=.s _ _ (.bool b)
theorem VP.mk_tup3{a b c:PV}{U V W:Value}(h:VP Γ sh w a U)(k:VP Γ sh w b V)(l:VP Γ sh w c W):VP Γ sh w (.tup [a,b,c]) (.tuple #[U,V,W]):=
 VP.mk_tup rfl λj hj=>by grind
end
theorem J1{P:Program}{G:GT}{g:Nat}{fn:Func}{k:List PV->Tr}(q:P.funcs[g]? = some fn)(d:fn.body.isSome=true)(t:(fn.name == "runtime.NumGoroutine")=false)
  (h:∀args ret b,L4 (k args)=some (ret,b)->b=[]/\ret.nms=[]/\∀C:Cfg,C.P=P->C.G=G->∀a w c,GOK C a.St w->(∀g,a.St g->g<w.heap.size)->CR a (A5 []) w args c->
   Calls P g c w λe w'=>∃V,e = .returned V/\Below w.heap.size w w'/\VP a (A5 []) w' ret V):B0 P G g k:=by
 intro args ret b i C n m a w c f j r o;obtain⟨rfl,u,l⟩:=h args ret b i;exact Rs q d t ((l C n m a w c r j.stlt o).mono λe w' ⟨V,p,d,v⟩=>⟨V,p,B78 f j d v u⟩)
def PV.stab(szs:List Nat)(H:List Blk):PV->PV
 | .tup l=>.tup (Om szs (L5 H l))
 | v=>Rd (szs.headD 0) (v.snap H)
theorem VP.stab{Γ:Ctx}{H:List Blk}{w:World}(szs:List Nat)(hH:HR Γ H w){v:PV}{V:Value}(h:VP Γ (A5 H) w v V):VP Γ.all (A5 H) w (v.stab szs H) V:=by
 by_cases ht:∃l,v = .tup l
 ·obtain⟨l,rfl⟩:=ht;obtain⟨A,rfl,hA,hc⟩:=h.inv_tup;simp only[PV.stab];have hl:(Om szs (L5 H l)).length=l.length:=by rw[Vl,Hk,aa9]
  refine VP.mk_tup (by rw[hl];exact hA) λj hj=>?_
  obtain⟨U,e,k⟩:=hc j (by omega);refine⟨U,e,?_⟩;have hj':j<(L5 H l).length:=by rw[Hk,aa9];omega
  obtain⟨n,en⟩:=IE szs (L5 H l) j hj' hj;rw[en];have e2:(L5 H l)[j]=(l[j]'(by omega)).snap H:=by
   simp only[Hk,List.getElem_map]
  rw[e2];exact DX (k.snap hH)
 ·have e:v.stab szs H=Rd (szs.headD 0) (v.snap H):=by
   cases v with
   | tup l=>exact absurd ⟨l,rfl⟩ ht
   | _=>rfl
  rw[e];exact DX (h.snap hH)
theorem I6(n:List Nat){C₀:Cfg}{g:Nat}{pf:List PV->Tr}(M:XOK C₀)(K:Np C₀)(P:C₀.P.follows .mixedOrders=true)
  (h:∀args ret p,L4 (pf args)=some (ret,p)->C3 args=[]/\p=[]/\ret.nms=[]/\∃d c k,evC C₀ d Unit noY g args [] ()=some (c,k,())/\c.stab n k=ret):B0 C₀.P C₀.G g pf:=by
 intro args ret p A C L t Γ w F z J I N;obtain⟨y,rfl,m,d,c,k,u,rfl⟩:=h args ret p A;have G:=Pr (C₀:=C₀) (g:=g) (pf:=λa=>match evC C₀ d Unit noY g a [] () with|some (r,H,_)=>cond (C3 a).isEmpty (.ret r H) .fail|none=>.fail) M K P (λa r H j=>by
  split at j
  ·rename_i S H' _ R;cases D:(C3 a).isEmpty with
   | true=>
    rw[D] at j;simp only[cond_true,L4,Hd,aa3,af9] at j;grind
   | false=>rw[D] at j;cases j
  ·cases j)
 refine(G args c k (by dsimp only;rw[u];dsimp only;rw[y];rfl) C L t Γ w F z J I N).mono ?_;rintro V w' ⟨o,B,e,i,Q,hvn,v,O⟩;let Γ2:Ctx:={ o.all with nm:=λ_=>none }
 have x:∀g,Γ2.St g->g<w'.heap.size:=λg f=>by
  rcases f with f|⟨b,l⟩
  ·exact i.stlt g f
  ·exact(i.lt b g l).2.1
 refine⟨Γ2,B,⟨e.os,e.tape,e.output,e.size,λg f=>.inl (e.sub g f),λg f=>?_,λb g h=>by simp[Γ2] at h,e.foot,e.frame,e.yv,aa7 _,λb l=>by simp at l⟩,
  Kw (λ_=>rfl) x,?_,by rw[m];simp,v,λb g h=>by simp[Γ2] at h⟩
 ·rcases f with f|⟨b,l⟩
  ·exact e.stnew g f
  ·rcases e.own b g l with⟨q,_⟩|q
   ·simp at q
   ·exact .inr q
 ·exact VP.mono (Γ:=o.all) (Γ':=Γ2) (w:=w') (w':=w') (sh:=A5 k) (ok:=λ_=>False) ⟨λ_ _=>rfl,λ_ h=>h,λ_ h=>h.elim,λ_ h=>h.elim,λ_ _ h=>h.elim,rfl⟩ (Q.stab n i) (by rw[m];simp)
def Tr.Good(szs:List Nat)(args:List PV)(e:Option (PV × List Blk × Unit)):Tr->Prop
 | .ret v H=>C3 args=[]/\H=[]/\v.nms=[]/\∃r H0,e=some (r,H0,())/\r.stab szs H0=v
 | .need c t=>c=true->Good szs args e t
 | .split c a b=>(c=true->Good szs args e a)/\(c=false->Good szs args e b)
 | .fail=>True
theorem Tr.Good.res{szs:List Nat}{args:List PV}{e:Option (PV × List Blk × Unit)}{ret:PV}{Hc:List Blk}:∀{t:Tr},t.Good szs args e->L4 t=some (ret,Hc)->C3 args=[]/\Hc=[]/\ret.nms=[]/\∃r H0,e=some (r,H0,())/\r.stab szs H0=ret
 | .ret v H,h,hr=>by
  obtain⟨rfl,rfl⟩:=J0 hr;exact h
 | .need c t,h,hr=>by
  obtain⟨h0,hr⟩:=C0 hr;exact res (h h0) hr
 | .split c a b,h,hr=>by
  rcases Cj3 hr with⟨h0,hr⟩|⟨h0,hr⟩
  ·exact res (h.1 h0) hr
  ·exact res (h.2 h0) hr
theorem xf(b:List Nat)(a:Cfg){g:Nat}(d:List PV->Tr){e:List (List Nat)}{l:List (Nat × (List PV->Tr))}{c:List Nat}(m:a.X=Aj7 l)(q:L7 a.P a.G l)(o:a.okf=okL c)(k:Ay1 a c=true)(n:a.P.follows .mixedOrders=true)
  (h:∀args,(d args).Good b args (evC a 1 Unit noY g args [] ())) (i:a.Y=BJ []:=by rfl) (j:a.S=BJ []:=by rfl):B0 a.P a.G g (λargs=>d (B8 e args)):=
 B0.fix e (I6 b (L7.ok m q i j) (I4 o k) n λargs ret y p=>by
  obtain⟨t,u,v,r,f,w,x⟩:=(h args).res p;exact⟨t,u,v,1,r,f,w,x⟩)
end
section
open Go
def Av3(n:Nat)(ret:PV)(H:List Blk):Bool:=ret.nms.all (ag9 · n)&&H.all λb=>b.nms.all (ag9 · n)
theorem Dn.head{C:Cfg}{Z:Type}{I:Z->(Nat->Prop)->(Nat->Prop)->World->Prop}{Γ:Ctx}{H Hc T:List Blk}{w w':World}{Φ:Nat->Prop}{s':Z}{ret:PV}{V:Value}
  (h:Dn C I Γ H w Φ ret (Hc++T) s' V w') (hl:H.length<=Hc.length) (hok:Av3 Hc.length ret Hc=true):Dn C I Γ H w Φ ret Hc s' V w':=by
 obtain⟨Γ1,Φ1,hs,hH1,hv,hvn,hi1,hd1⟩:=h;simp only[Av3,x5,List.all_eq_true,Nat.blt_eq] at hok;let Γ2:Ctx:={ Γ1 with nm:=λb=>if b<Hc.length then Γ1.nm b else none }
 have hnm:∀b g,Γ2.nm b=some g->b<Hc.length/\Γ1.nm b=some g:=λb g h=>by grind
 have get:∀b (h:b<Hc.length) (h':b<(Hc++T).length),(Hc++T)[b]=Hc[b]:=λb h h'=>List.getElem_append_left h
 have shp:∀b,b<Hc.length->A5 Hc b=A5 (Hc++T) b:=λb hb=>by
  simp only[A5];grind
 have M:Z8 Γ1 (A5 (Hc++T)) w' Γ2 (A5 Hc) w' (· < Hc.length):=⟨λ_ _=>rfl,λ_ h=>h,λb hb=>by simp only[Γ2];rw[if_pos hb],λb hb=>shp b hb,λ_ _ _ _=>rfl,rfl⟩
 refine⟨Γ2,Φ1,⟨hs.os,hs.tape,hs.output,hs.size,hs.sub,hs.stnew,λb g h=>hs.own b g (hnm b g h).2,hs.foot,hs.frame,hs.yv,hl,λb hb hf=>?_⟩,
  ⟨λb b' g h1 h2=>hH1.inj b b' g (hnm b g h1).2 (hnm b' g h2).2,λb g h=>by have:=hH1.lt b g (hnm b g h).2;exact⟨(hnm b g h).1,this.2⟩,hH1.stlt,λb hb c hc=>hok.2 _ (ab6 hb) c hc,λb hb=>?_⟩,
  hv.mono M (λb hb=>hok.1 b hb),λc hc=>hok.1 c hc,hi1,λb g h=>hd1 b g (hnm b g h).2⟩
 ·obtain⟨m1,m2,m3⟩:=hs.keep b hb hf;have hb2:b<Hc.length:=ad4 hb hl;exact⟨by simp only[Γ2];rw[if_pos hb2];exact m1,by rw[shp b hb2];exact m2,m3⟩
 ·have hb':b<(Hc++T).length:=by rw[y9];omega
  have:=hH1.blk b hb';rw[get b hb hb'] at this;exact this.mono M (M.nm b hb) (λ_ _=>rfl) (λc hc=>hok.2 _ (ab6 hb) c hc)
theorem Fh{C₀:Cfg}{g:Nat}{m:List PV->List Blk->Tr}(v:XOK C₀)(t:Np C₀)(D:C₀.P.follows .mixedOrders=true)
  (h:∀args H ret a,L4 (m args H)=some (ret,a)->v8 H.length a.length=true/\Av3 a.length ret a=true/\∀(Z:Type) (e:Yh Z) (s:Z),∃d b,evC C₀ d Z e g args H s=some (ret,b,s)/\b.take a.length=a):BP C₀.P C₀.G g m:=by
 intro C u p Z I e R r L args H s ret a i S T w n j q z A y x F;obtain⟨B,f,o⟩:=h args H ret a i;obtain⟨d,b,c,K⟩:=o Z e s;rw[<-List.take_append_drop a.length b,K] at c;refine(Js v t D d Z I e R r L g args H s ret (a++b.drop a.length) s c S T w n j q (z.congr p.symm) A y x F).mono ?_;rintro V w' G;obtain⟨k,l,J,M,N,O,P,Q⟩:=G.head (Nat.le_of_ble_eq_true B) f;exact⟨k,l,J.congr u.symm,M,N,O,P,Q⟩
def Fy:List Int:=(List.range 32).map λi=>((if i % 2=0 then Lib.accLo (i / 2) else Lib.accHi (i / 2):Nat):Int)
def GX:GT:=⟨λg=>cond (ab4 g 2) (some (.u8,Lib.firstTab)) (cond (ab4 g 3) (some (.u8,Fy)) (cond (ab4 g 1) (some (.u64,Lib.pow10Tab)) (cond (ab4 g 5) (some (.u8,Lib.deBruijn64tab.map λn:Nat=>(n:Int))) none))),λg=>ab4 g 0⟩
def Dj7:List (Nat × Nat × Nat × Nat)->Nat->Nat->Nat × Nat
 | [],_,_=>(0,0)
 | (t,j,e,k)::r,b,a=>cond (ab4 t b&&ab4 j a) (e,k) (Dj7 r b a)
def C84:List (Nat × Nat)->Nat->Option Nat
 | [],_=>none
 | (a,b)::r,i=>cond (ab4 a i) (some b) (C84 r i)
noncomputable def B4(g:Nat)(f:List Nat)(d:Nat->Option (List Nat))(X:List (Nat × (List PV->Tr)))(b:Nat->Option (List Nat):=λ_=>none)(h:List Nat:=[])(a:Nat->Option (List Nat):=λ_=>none)(c:Option (List Nat):=none)(Y:List (Nat × (List PV->List Blk->Tr)):=[])(S:List (Nat × (List PV->List Blk->Option (Bool × List (List PV)))):=[])(e:List Nat:=[])(nt:List (Nat × Nat × Nat × Nat):=[])(rw:List (Nat × Nat):=[]):Cfg:=
 { P:=Tryz.prog,G:=GX,X:=Aj7 X,lend:=okL e,okf:=okL f,lf:=g,keep:=d,keepR:=b,xp:=okL h,keepE:=a,keepT:=c,Y:=BJ Y,S:=BJ S,nilT:=Dj7 nt,rowR:=C84 rw }
theorem follows:Tryz.prog.follows .mixedOrders=true:=by kernel_rfl
theorem Bw2{n:Nat}:F8 n=true↔n<=68719476736:=by simp[F8]
theorem F2{n:Nat}(h:n<=68719476736):F8 n=true:=Bw2.2 h
theorem B5{a b:Int}(h:a<b):ltI a b=true:=by rw[Ln];simpa using h
theorem E4{a b:Int}(h:b<=a):ltI a b=false:=by rw[Ln];simpa using h
theorem Lo{a b:Int}:ltI a b=true↔a<b:=by rw[Ln];simp
theorem Jy{a b:Int}:ltI a b=false↔b<=a:=by rw[Ln];simp
theorem C6{n:Int}(a:-9223372036854775808<=n)(b:n<9223372036854775808):A1 n=n:=C37 n a b
theorem XH{n:Int}(a:0<=n)(b:n<18446744073709551616):De8 n=n:=by obtain⟨m,rfl⟩:=k9 a;unfold De8;rw[C39,p9 (by omega)]
theorem Bm1{n:Int}(a:0<=n)(b:n<4294967296):BN n=n:=by obtain⟨m,rfl⟩:=k9 a;unfold BN;rw[C38,p9 (by omega)]
theorem Bm0{n:Int}(a:0<=n)(b:n<65536):Df n=n:=by obtain⟨m,rfl⟩:=k9 a;unfold Df;rw[Bl9,p9 (by omega)]
theorem XI{n:Int}(a:0<=n)(b:n<256):wu8 n=n:=by obtain⟨m,rfl⟩:=k9 a;unfold wu8;rw[De7,p9 (by omega)]
theorem A8{a b:Int}(h:a<b:=by omega):ltI a b=true:=B5 h
theorem A6{a b:Int}(h:b<=a:=by omega):ltI a b=false:=E4 h
theorem A7{n:Int}(h:-9223372036854775808<=n:=by omega)(g:n<9223372036854775808:=by omega):A1 n=n:=C6 h g
theorem Mv{n:Int}(h:0<=n:=by omega)(g:n<4294967296:=by omega):BN n=n:=Bm1 h g
theorem Jk{n:Int}(h:0<=n:=by omega)(g:n<65536:=by omega):Df n=n:=Bm0 h g
theorem L6{n:Int}(h:0<=n:=by omega)(g:n<256:=by omega):wu8 n=n:=XI h g
theorem S6{d:Sort _}{c:Prop}[Decidable c]{a b:d}(h:c:=by omega):(if c then a else b)=a:=if_pos h
theorem G1{d:Sort _}{c:Prop}[Decidable c]{a b:d}(h:¬c:=by omega):(if c then a else b)=b:=if_neg h
theorem Ak9(n:Nat):Df (n:Int)=((n % 65536:Nat):Int):=Bl9 n
theorem Qy(k:IntKind)(a m:Nat)(h:m<=k.bits):Nn k (a:Int) (m:Int)=((a / 2 ^ m:Nat):Int):=by
 unfold Nn;rw[j4,ac3 h];have:(2:Int) ^ m=((2 ^ m:Nat):Int):=by simp
 rw[this,B87]
theorem Ck0{n:Nat}(h:n<256):[SV.int .u8 (n:Int)]=D8 (j9 n):=by rw[Ba8,p9 h]
theorem Z7{l h:Int}{n:Nat}(a:0<=l)(b:l<=h)(c:h<=n):I1 l h n=true:=by simp[I1,a,b,c]
theorem J6{i:Int}{n:Nat}(a:0<=i)(b:i<n):inR i n=true:=by simp[inR,a,b]
theorem H5{l h:Int}{n:Nat}(a:0<=l:=by omega)(b:l<=h:=by omega)(c:h<=n:=by omega):I1 l h n=true:=Z7 a b c
theorem E6{i:Int}{n:Nat}(a:0<=i:=by omega)(b:i<n:=by omega):inR i n=true:=J6 a b
end
section
open Go Go.Proofs
def EJ(r:Option (PV × List Blk × Unit)):Bool:=match r with
 | some (.s (.bool true),_,_)=>true
 | _=>false
theorem VW{r:Option (PV × List Blk × Unit)}(h:EJ r=true):∃H,r=some (.s (.bool true),H,()):=by
 unfold EJ at h;split at h
 ·exact⟨_,rfl⟩
 ·cases h
theorem Bd0{C₀:Cfg}{g d:Nat}(f:XOK C₀)(c:Np C₀)(i:C₀.P.follows .mixedOrders=true)(h:EJ (evC C₀ d Unit noY g [] [] ())=true):B0 C₀.P C₀.G g (λargs=>match args with|[]=>.ret (.s (.bool true)) []|_=>.fail):=
 XN f c i λargs ret j b=>by
  cases args with
  | nil=>
   obtain⟨rfl,rfl⟩:=J0 b;obtain⟨H,e⟩:=VW h;exact⟨rfl,rfl,rfl,d,_,H,e,rfl⟩
  | cons a r=>cases b
end
section
open Go
def D4(l:List By):LL:=l.map λs=>[SV.str s]
def C9(l:List Nat):LL:=l.map λn=>[SV.int .u16 (Int.ofNat n)]
def P0(c:UInt8):By->By->List By
 | a,[]=>[a]
 | a,b::r=>if b=c then a::P0 c [] r else P0 c (a++[b]) r
def pcs(c:UInt8)(s:By):List By:=P0 c [] s
theorem Io(c:UInt8):∀(s a:By),(P0 c a s).length=s.count c+1
 | [],a=>rfl
 | b::r,a=>by
  simp only[P0,af0];by_cases h:b=c
  ·simp[h,Io c r]
  ·simp[h,Io c r]
theorem Xo(c:UInt8):∀(s a:By),c∉s->P0 c a s=[a++s]
 | [],a,_=>by simp[P0]
 | b::r,a,h=>by
  simp only[ad2,not_or] at h;simp only[P0];rw[if_neg (λe=>h.1 e.symm),Xo c r _ h.2];simp
theorem DI(c:UInt8):∀(p a s:By),c∉p->P0 c a (p++c::s)=(a++p)::P0 c [] s
 | [],a,s,_=>by simp[P0]
 | b::r,a,s,h=>by
  simp only[ad2,not_or] at h;simp only[ab5,P0];rw[if_neg (λe=>h.1 e.symm),DI c r _ s h.2];simp
theorem A98(c:UInt8)(s a:By):P0 c a s≠[]:=by intro h;have:=Io c s a;rw[h] at this;simp at this
theorem Ph(c:UInt8):∀(s a:By),c∉a->∀x∈P0 c a s,c∉x/\x.length<=a.length+s.length
 | [],a,h,x,d=>by
  simp only[P0,List.mem_singleton] at d;subst d;exact⟨h,by simp⟩
 | b::r,a,h,x,d=>by
  simp only[P0] at d;split at d
  ·rcases ad2.1 d with rfl|d
   ·exact⟨h,by simp⟩
   ·have:=Ph c r [] (by simp) x d;refine⟨this.1,?_⟩;have:=this.2;simp at this ⊢;omega
  ·rename_i e;have:=Ph c r (a++[b]) (by simp[h,Ne.symm e]) x d;refine⟨this.1,?_⟩;have:=this.2;simp at this ⊢;omega
def Bp(b:UInt8):UInt8:=if 65<=b/\b<=90 then b+32 else b
def B6(s:By):By:=s.map Bp
def dig(b:UInt8):Nat:=
 if 48<=b.toNat/\b.toNat<=57 then b.toNat-48 else if 97<=b.toNat/\b.toNat<=102 then b.toNat-87 else if 65<=b.toNat/\b.toNat<=70 then b.toNat-55 else 99
def Cb:Nat:=1099511627776
def E8(base:Nat):Nat->By->Option Nat
 | n,[]=>some n
 | n,b::r=>if dig b<base then E8 base (min (n*base+dig b) Cb) r else none
def Bn(s:By):Bool:=s.getD 0 0==48&&(s.getD 1 0==120||s.getD 1 0==88)
def Ad(s:By):Option Nat:=
 if s=[] then none else if Bn s then E8 16 0 (s.drop 2) else if 1<s.length/\s.getD 0 0=48 then E8 8 0 (s.drop 1) else E8 10 0 s
def C8(s:By):List By:=if 1<(pcs 46 s).length/\(pcs 46 s).getLastD []=[] then (pcs 46 s).dropLast else pcs 46 s
def Jx(s:By):By:=(C8 s).getLastD []
def G2(s:By):Bool:=if Bn (Jx s) then (E8 16 0 ((Jx s).drop 2)).isSome else !(Jx s).isEmpty&&(E8 10 0 (Jx s)).isSome
def Wk(free:Nat):Nat->List By->Option Nat
 | _,[]=>none
 | v,p::r=>match Ad p with
  | none=>none
  | some n=>match r with
   | []=>if n<2 ^ free then some (v*2 ^ free+n) else none
   | r=>if n<=255 then Wk free (v*256+n) r else none
def pnB(s:By):Option Nat:=if 4<(C8 s).length then none else Wk (8*(5-(C8 s).length)) 0 (C8 s)
def oct(s:By):Option Nat:=match E8 10 0 s with
 | some n=>if n<=255/\j5 n=s then some n else none
 | none=>none
def JF:Nat->List By->Option Nat
 | v,[]=>some v
 | v,p::r=>match oct p with
  | some n=>JF (v*256+n) r
  | none=>none
def v4B(s:By):Option Nat:=if (pcs 46 s).length=4 then JF 0 (pcs 46 s) else none
def Hp(v:Nat):By:=j5 (v / 16777216)++46::(j5 (v / 65536 % 256)++46::(j5 (v / 256 % 256)++46::j5 (v % 256)))
def Gp:Nat->By->Option Nat
 | n,[]=>some n
 | n,b::r=>if dig b<16 then Gp (n*16+dig b) r else none
def grp(s:By):Option Nat:=if s=[]\/4<s.length then none else Gp 0 s
def Du(last:Bool):List By->Option (List Nat)
 | []=>some []
 | x::r=>match grp x with
  | some v=>(Du last r).map (v::·)
  | none=>match v4B x with
   | some v=>if last=true/\r=[] then some [v / 65536,v % 65536] else none
   | none=>none
def P3(s:By)(last:Bool):Option (List Nat):=if s=[] then some [] else Du last (pcs 58 s)
def v6B(s:By):Option (List Nat):=
 match P3 (w9 s [58,58]).1 (!(w9 s [58,58]).2.2),P3 (w9 s [58,58]).2.1 true with
 | some x,some y=>if (w9 s [58,58]).2.2 then (if x.length+y.length<=7 then some (x++j0 (8-x.length-y.length) 0++y) else none)
   else if x.length+y.length=8 then some (x++y) else none
 | _,_=>none
def Pd(l:List Nat):Nat:=(l.takeWhile (· == 0)).length
def zGo:List Nat->Nat->Nat->Nat->Nat × Nat
 | [],_,z,m=>(z,m)
 | x::r,i,z,m=>if m<Pd (x::r) then zGo r (i+1) i (Pd (x::r)) else zGo r (i+1) z m
def Re(n:Nat):UInt8:=if n<10 then j9 (48+n) else j9 (87+n)
def R3(v:Nat):By:=if h:v<16 then [Re v] else R3 (v / 16)++[Re (v % 16)]
 termination_by v
 decreasing_by omega
def T0(l:List Nat):By:=ac7 (l.map R3) [58]
def Nj(a:List Nat):By:=if (zGo a 0 0 0).2<2 then T0 a else T0 (a.take (zGo a 0 0 0).1)++58::58::T0 (a.drop ((zGo a 0 0 0).1+(zGo a 0 0 0).2))
def U3(n:Nat):Bool:=v8 n 1114111&&(ag9 n 55296||ag9 57343 n)
def Zg(d k:Nat):Nat:=if h:455<d then Zg (d / 35) (k+36) else k+36*d / (d+38)
 termination_by d
 decreasing_by omega
def P6(delta count:Nat)(first:Bool):Nat:=
 let d:=if first then delta / 700 else delta / 2
 Zg (d+d / count) 0
def thr(k a:Nat):Nat:=max 1 (min 26 (36*(k+1)-a))
theorem U8(k a:Nat):1<=thr k a/\thr k a<=26:=by unfold thr;omega
def Ac(d:Nat):UInt8:=if d<26 then j9 (97+d) else j9 (22+d)
def Nk(b:UInt8):Option Nat:=
 if 97<=b.toNat/\b.toNat<=122 then some (b.toNat-97) else if 65<=b.toNat/\b.toNat<=90 then some (b.toNat-65) else if 48<=b.toNat/\b.toNat<=57 then some (b.toNat-22) else none
def O6(q k a:Nat):By:=
 if h:q<thr k a then [Ac q] else Ac (thr k a+(q-thr k a) % (36-thr k a))::O6 ((q-thr k a) / (36-thr k a)) (k+1) a
 termination_by q
 decreasing_by
  have:=U8 k a;exact ad3 (af3 _ _) (by omega)
structure PI where
 delta:Nat
 bias:Nat
 done:Nat
 out:By
def H7(n a:Nat):List Nat->PI->PI
 | [],s=>s
 | p::r,s=>if p<n then H7 n a r { s with delta:=s.delta+1 }
  else if p=n then H7 n a r { delta:=0,bias:=P6 s.delta (s.done+1) (s.done==a),done:=s.done+1,out:=s.out++O6 s.delta 0 s.bias }
  else H7 n a r s
def H3(n:Nat):List Nat->Nat->Nat
 | [],m=>m
 | p::r,m=>H3 n r (if n<=p then min m p else m)
def Q2(b:List Nat)(a:Nat):Nat->Nat->PI->PI
 | 0,_,s=>s
 | f+1,n,s=>if s.done<b.length then
   let m:=H3 n b 1114112;let c:=H7 m a b { s with delta:=s.delta+(m-n)*(s.done+1) }
   Q2 b a f (m+1) { c with delta:=c.delta+1 }
  else s
def I3(a:List Nat):By:=(a.filter (· < 128)).map j9
def Co(a:List Nat):By × Nat:=
 if 256<a.length then ([],3) else if !(a.all U3) then ([],2)
 else ((Q2 a (I3 a).length 256 128 { delta:=0,bias:=72,done:=(I3 a).length,out:=if (I3 a).isEmpty then [] else I3 a++[45] }).out,0)
def D7(a:Nat):By->Nat->Nat->Nat->Nat × By × Nat
 | [],i,w,k=>(0,[],4)
 | b::r,i,w,k=>match Nk b with
  | none=>(0,[],4)
  | some x=>if Cb<i+x*w then (0,[],19) else if x<thr k a then (i+x*w,r,0)
   else if Cb<w*(36-thr k a) then (0,[],19) else D7 a r (i+x*w) (w*(36-thr k a)) (k+1)
theorem Qe(a:Nat):∀(s:By) (i w k:Nat),(D7 a s i w k).2.2=0->(D7 a s i w k).2.1.length<s.length
 | [],i,w,k,h=>by simp[D7] at h
 | b::r,i,w,k,h=>by
  unfold D7 at h ⊢;cases d:Nk b with
  | none=>simp[d] at h
  | some x=>
   simp only[d] at h ⊢;split at h
   ·simp at h
   ·rename_i e;rw[if_neg e];split at h
    ·rename_i c;rw[if_pos c];simp
    ·rename_i c;rw[if_neg c];split at h
     ·simp at h
     ·rename_i f;rw[if_neg f];have:=Qe a r _ _ _ h;simp only[ab7];omega
def U2(l:List Nat)(i n:Nat):List Nat:=l.take i++n::l.drop i
def G9(s:By)(b:List Nat)(n i a:Nat)(first:Bool):List Nat × Nat:=
 if e:s=[] then (b,0) else
  let q:=D7 a s i 1 0
  if d:q.2.2=0 then
   let count:=b.length+1;let c:=n+q.1 / count
   if U3 c then (if 256<count then ([],3) else G9 q.2.1 (U2 b (q.1 % count) c) c (q.1 % count+1) (P6 (q.1-i) count first) false)
   else ([],2)
  else ([],q.2.2)
 termination_by s.length
 decreasing_by exact Qe a s i 1 0 d
def G5:By->Nat
 | []=>0
 | b::r=>if 45∈r then G5 r+1 else 0
def N0(s:By):List Nat × Nat:=
 if 1024<s.length then ([],3) else if s.any (λb=>v8 128 b.toNat) then ([],4)
 else if 256<G5 s then ([],3)
 else G9 (if G5 s=0 then s else s.drop (G5 s+1)) ((s.take (G5 s)).map (·.toNat)) 128 0 72 true
def Y8:Nat->By->Option (List Nat)
 | 0,_=>some []
 | f+1,l=>if l=[] then some [] else if (ac6 l).1=65533/\(ac6 l).2=1 then none else (Y8 f (l.drop (ac6 l).2)).map ((ac6 l).1::·)
def Cy(s:By):Option (List Nat):=Y8 s.length s
def Dk(s:By):Bool:=
 (N0 s).2==0&&!((N0 s).1.any λp=>v8 65 p&&v8 p 90)&&((N0 s).1.any λp=>v8 128 p)&&(Co (N0 s).1).2==0&&(Co (N0 s).1).1==s
def T3(b:UInt8):Bool:=(v8 97 b.toNat&&v8 b.toNat 122)||(v8 48 b.toNat&&v8 b.toNat 57)||b==45||b==95
def xnB:By:=[120,110,45,45]
def K6(s:By):Bool:=
 !s.isEmpty&&v8 s.length 63&&s.getD 0 0 !=45&&s.getD (s.length-1) 0 !=45&&s.all T3&&(!(xnB.isPrefixOf s)||Dk (s.drop 4))
def I5(s:By):By × Nat:=match Cy s with
 | none=>([],4)
 | some p=>if 256<p.length then ([],3)
  else if p.length<s.length then (match Cy (B6 s) with
   | none=>([],14)
   | some q=>if (Co q).2=0 then (if K6 (xnB++(Co q).1) then (xnB++(Co q).1,0) else ([],14)) else ([],14))
  else if K6 (B6 s) then (B6 s,0) else ([],14)
def R2:By->Option By
 | []=>some []
 | b::r=>if b=37 then (match r with
   | x::y::a=>if dig x<16/\dig y<16 then (R2 a).map (j9 (16*dig x+dig y)::·) else none
   | _=>none)
  else (R2 r).map (b::·)
structure B2 where
 kind:Nat
 name:By
 v4:Nat
 v6:List Nat
 deriving DecidableEq
def z8:List Nat:=[0,0,0,0,0,0,0,0]
def K4:B2:=⟨0,[],0,z8⟩
def F7:List By->List By × Nat
 | []=>([],0)
 | x::r=>if (I5 x).2=0 then ((I5 x).1::(F7 r).1,(F7 r).2) else ([],(I5 x).2)
def I2(s:By):By:=if s.getLast? = some 46 then s.dropLast else s
def C7(s:By):B2 × Nat:=
 if 1024<s.length then (K4,3)
 else if s.head? = some 91 then (if s.getLast? = some 93/\2<=s.length then (match v6B ((s.take (s.length-1)).drop 1) with
   | some a=>(⟨3,[],0,a⟩,0)
   | none=>(K4,14)) else (K4,14))
 else match R2 s with
  | none=>(K4,14)
  | some t=>if G2 (I2 t) then (match pnB (I2 t) with
    | some v=>(⟨2,[],v,z8⟩,0)
    | none=>(K4,14))
   else if (F7 (pcs 46 (I2 t))).2=0 then (
    let name:=ac7 (F7 (pcs 46 (I2 t))).1 [46]
    if 253<name.length then (K4,3) else if G2 name then (K4,14) else (⟨1,name,0,z8⟩,0))
   else (K4,(F7 (pcs 46 (I2 t))).2)
def S8(s:By):Bool:=v8 s.length 253&&!(G2 s)&&(pcs 46 s).all K6
def M7(h:B2):Bool:=
 if h.kind=1 then S8 h.name&&h.v4==0&&h.v6==z8 else if h.kind=2 then h.name.isEmpty&&h.v6==z8 else if h.kind=3 then h.name.isEmpty&&h.v4==0 else false
def Gn(h:B2):By:=if M7 h then (if h.kind=1 then h.name else if h.kind=2 then Hp h.v4 else 91::(Nj h.v6++[93])) else []
def Em(a b:By):Bool:=S8 a&&S8 b&&(a==b||(46::a).isSuffixOf b)
def A3(n:Nat):Bool:=decide (n<=1000000000)
theorem OU{n:Nat}:A3 n=true↔n<=1000000000:=by simp[A3]
def isS:List SV->Bool|[.str _]=>true|_=>false
def elS(a:List SV):By:=(a.getD 0 .nilp).gS
def M4(o:Option Nat):Nat:=o.getD 0
def u8n(c:Int):UInt8:=j9 c.toNat
def WX(s p:By):By:=if p.isSuffixOf s then s.take (s.length-p.length) else s
def Gi(s p:By):By:=if p.isPrefixOf s then s.drop p.length else s
def ltN(v:Int)(n:Nat):Bool:=match v with
 | .ofNat m=>v8 (m+1) n
 | .negSucc _=>false
theorem E2{v:Int}{n:Nat}:ltN v n=true↔0<=v/\v<(n:Int):=by
 cases v with
 | ofNat m=>
  simp only[ltN,Nat.ble_eq,Int.ofNat_eq_natCast];omega
 | negSucc m=>
  refine⟨λh=>(by cases h),λh=>?_⟩;have:=Int.negSucc_lt_zero m;omega
def Hs(b:Nat):List PV->Tr
 | [.s (.int .i64 n)]=>.need (ltN n b) (.ret (.s (.str (j5 (b8 n)))) [])
 | _=>.fail
def Ks(b:Nat)(args:List PV):Tr:=Hs b (B8 [[0]] args)
def gvs(s:By)(last:Bool):List Nat:=(P3 s last).getD []
def v6c(i:Nat)(s:By):Nat:=((v6B s).getD z8).getD i 0
def n8(a b c d e f g h:Int):List Nat:=[a.toNat,b.toNat,c.toNat,d.toNat,e.toNat,f.toNat,g.toNat,h.toNat]
def ok8(a b c d e f g h:Int):Bool:=[a,b,c,d,e,f,g,h].all λx=>ltN x 65536
def Vz:List SV->Bool|[.int .u16 n]=>ltN n 65536|_=>false
def elN(a:List SV):Nat:=(a.getD 0 .nilp).gI.toNat
def HW(s:By):Int:=y5 s [58,58]
def ptI(n:Int):Bool:=match n with | .ofNat m=>U3 m | .negSucc _=>false
def D9(b:UInt8):Int:=match Nk b with|some n=>n|none=>-1
def K5(k b:Int):Int:=max 1 (min 26 (k+36-b))
def Nc:List SV->Bool|[.int .i64 _]=>true|_=>false
def elI(a:List SV):Int:=(a.getD 0 .nilp).gI
def V3(l:List Int):By × Nat:=if 256<l.length then ([],3) else if l.all ptI then Co (l.map b8) else ([],2)
def S9(b:Int):By->Int->Int->Int->Int × By × Int
 | [],i,w,k=>(4,[],i)
 | c::r,i,w,k=>if D9 c<0 then (4,c::r,i) else if 1099511627776<i+D9 c*w then (19,r,i+D9 c*w)
  else if D9 c<K5 k b then (0,r,i+D9 c*w) else if 1099511627776<w*(36-K5 k b) then (19,r,i+D9 c*w)
  else S9 b r (i+D9 c*w) (w*(36-K5 k b)) (k+36)
def JC(b:Int)(s:By)(i:Int):Int:=(S9 b s i 1 0).1
def JE(b:Int)(s:By)(i:Int):By:=(S9 b s i 1 0).2.1
def To(b:Int)(s:By)(i:Int):Int:=(S9 b s i 1 0).2.2
def Lj(l:List (List SV))(i:Nat)(n:Int):List (List SV):=l.take i++[SV.int .i64 n]::l.drop i
structure DS where
 rest:By
 n:Int
 i:Int
 b:Int
 st:Bool
 l:List (List SV)
def F0(s:DS):Int × DS:=
 if JC s.b s.rest s.i=0 then
  let c:Int:=s.l.length+1;let x:=To s.b s.rest s.i;let d:DS:={ rest:=JE s.b s.rest s.i,n:=s.n+aa0 x c,i:=x7 x c,b:=P6 (x-s.i).toNat c.toNat (!s.st),st:=true,l:=s.l }
  if ptI d.n then (if 256<c then (3,d) else (0,{ d with i:=d.i+1,l:=Lj s.l d.i.toNat d.n })) else (2,d)
 else (JC s.b s.rest s.i,{ s with rest:=JE s.b s.rest s.i,i:=To s.b s.rest s.i })
def L1(c:UInt8):By->Int
 | []=>-1
 | b::r=>if L1 c r<0 then (if b=c then 0 else -1) else L1 c r+1
def Lq(l:List Nat):List (List SV):=l.map λx:Nat=>[SV.int .i64 (x:Int)]
def Rf(s:By):List Nat:=(Cy s).getD []
def Eo(b:UInt8):Int:=if dig b<16 then dig b else -1
def Ew(s:By):By:=(R2 s).getD []
def P2(s:By):B2 × Nat:=if s.getLast? = some 93/\2<=s.length then (match v6B ((s.take (s.length-1)).drop 1) with
 | some a=>(⟨3,[],0,a⟩,0)
 | none=>(K4,14)) else (K4,14)
def mkH(b:Int)(c:By)(v4:Int)(a:List Nat):B2:=⟨if ltN b 4 then b.toNat else 0,c,v4.toNat,a⟩
def Mm(n:Int)(l:List By):Bool:=l.all λs=>!(ltI n (s.length:Int))
def Ca3(s:By):Bool:=([91]:By).isPrefixOf s
end
section
open Go Go.Proofs
set_option maxRecDepth 100000
section
def Rw:List PV->Tr
 | [.s (.str s),.s (.str p),.s (.int .i64 v),.s (.int .i64 n)]=>.need (A3 (a8 s)) (.need ((a8 p)==1) (.need (v==(0:Int)) (.need (n==((-1):Int)) (.ret (.vw 0 0 (a8 (pcs (b9 p 0 0) s))) [.arr false 9 1 (D4 (pcs (b9 p 0 0) s))]))))
 | _=>.fail
def Yf(args:List PV):Tr:=Rw (B8 [[0],[0],[0],[0]] args)
def Sg:List PV->Tr
 | [.s (.str s),.s (.str p)]=>.need (A3 (a8 s)) (.need ((a8 p)==1) (.ret (.vw 0 0 (a8 (pcs (b9 p 0 0) s))) [.arr false 9 1 (D4 (pcs (b9 p 0 0) s))]))
 | _=>.fail
def MM(args:List PV):Tr:=Sg (B8 [[0],[0]] args)
def QJ:List PV->Tr
 | [.s (.str s),.s (.str p)]=>.need (A3 (a8 s)) (.ret (.s (.bool (p7 p s))) [])
 | _=>.fail
def QI(args:List PV):Tr:=QJ (B8 [[0],[0]] args)
def PX:List PV->Tr
 | [.s (.str s),.s (.str p)]=>.need (A3 (a8 s)) (.ret (.s (.bool (p7 p s))) [])
 | _=>.fail
def EW(args:List PV):Tr:=PX (B8 [[0],[0]] args)
def QL:List PV->Tr
 | [.s (.str s),.s (.str p)]=>.need (A3 (a8 s)) (.ret (.s (.bool (aa8 p s))) [])
 | _=>.fail
def Am6(args:List PV):Tr:=QL (B8 [[0],[0]] args)
def PY:List PV->Tr
 | [.s (.str s),.s (.str p)]=>.need (A3 (a8 s)) (.ret (.s (.bool (aa8 p s))) [])
 | _=>.fail
def B36(args:List PV):Tr:=PY (B8 [[0],[0]] args)
def FI:List PV->Tr
 | [.s (.str s),.s (.str p)]=>.need (A3 (a8 s)) (.ret (.s (.str (WX s p))) [])
 | _=>.fail
def Bd9(args:List PV):Tr:=FI (B8 [[0],[0]] args)
def GK:List PV->Tr
 | [.s (.str s),.s (.str p)]=>.need (A3 (a8 s)) (.ret (.s (.str (WX s p))) [])
 | _=>.fail
def Bf3(args:List PV):Tr:=GK (B8 [[0],[0]] args)
def FE:List PV->Tr
 | [.s (.str s),.s (.str p)]=>.need (A3 (a8 s)) (.ret (.tup [.s (.str (Gi s p)),.s (.bool (p7 p s))]) [])
 | _=>.fail
def Bd6(args:List PV):Tr:=FE (B8 [[0],[0]] args)
def PJ:List PV->Tr
 | [.s (.str s),.s (.str p)]=>.need (A3 (a8 s)) (.ret (.tup [.s (.str (Gi s p)),.s (.bool (p7 p s))]) [])
 | _=>.fail
def Al9(args:List PV):Tr:=PJ (B8 [[0],[0]] args)
def RW:List PV->Tr
 | [.s (.str s),.s (.str p)]=>.need (A3 (a8 s)) (.ret (.s (.int .i64 (y5 s p))) [])
 | _=>.fail
def GG(args:List PV):Tr:=RW (B8 [[0],[0]] args)
def RU:List PV->Tr
 | [.s (.str s),.s (.str p)]=>.need ((a8 p)==1) (.ret (.s (.int .i64 (↑(List.count (b9 p 0 0) s):Int))) [])
 | _=>.fail
def Ao0(args:List PV):Tr:=RU (B8 [[0],[0]] args)
def ER:List PV->Tr
 | [.s (.str s),.s (.int .i64 n)]=>.fail
 | _=>.fail
def Jl(args:List PV):Tr:=ER (B8 [[0],[0]] args)
def Ye:List PV->Tr
 | [.s (.str s),.s (.str p),.s (.int .i64 v),.s (.int .i64 n)]=>.need (A3 (a8 s)) (.need ((a8 p)==1) (.need (v==(0:Int)) (.need (n==((-1):Int)) (.ret (.s (.sl false false 1 (D4 (pcs (b9 p 0 0) s)))) []))))
 | _=>.fail
def XV(args:List PV):Tr:=Ye (B8 [[0],[0],[0],[0]] args)
def Yz:List PV->Tr
 | [.s (.str s),.s (.str p)]=>.need (A3 (a8 s)) (.need ((a8 p)==1) (.ret (.s (.sl false false 1 (D4 (pcs (b9 p 0 0) s)))) []))
 | _=>.fail
def Uu(args:List PV):Tr:=Yz (B8 [[0],[0]] args)
def QD:List PV->Tr
 | [.s (.int .i64 n)]=>.need (ltN n 4294967296) (.ret (.s (.str (j5 (b8 n)))) [])
 | _=>.fail
def Am4(args:List PV):Tr:=QD (B8 [[0]] args)
def QH:List PV->Tr
 | [.s (.str s)]=>.need (A3 (a8 s)) (.ret (.s (.str (B6 s))) [])
 | _=>.fail
def Am5(args:List PV):Tr:=QH (B8 [[0]] args)
def PU:List PV->Tr
 | [.s (.str s)]=>.need (A3 (a8 s)) (.ret (.s (.bool (Bn s))) [])
 | _=>.fail
def Am1(args:List PV):Tr:=PU (B8 [[0]] args)
def PL:List PV->Tr
 | [.s (.str s),.s (.int .i64 base)]=>.need (A3 (a8 s)) (.need (ltN base 17) (.ret (.tup [.s (.int .i64 (↑(M4 (E8 (b8 base) 0 s)):Int)),.s (.bool (j2 (E8 (b8 base) 0 s)))]) []))
 | _=>.fail
def PK(args:List PV):Tr:=PL (B8 [[0],[0]] args)
def Am7:List PV->Tr
 | [.s (.str s)]=>.need (A3 (a8 s)) (.ret (.tup [.s (.int .i64 (↑(M4 (Ad s)):Int)),.s (.bool (j2 (Ad s)))]) [])
 | _=>.fail
def B39(args:List PV):Tr:=Am7 (B8 [[0]] args)
def FK:List PV->Tr
 | [.s (.str s)]=>.need (A3 (a8 s)) (.ret (.s (.sl false false 1 (D4 (C8 s)))) [])
 | _=>.fail
def QQ(args:List PV):Tr:=FK (B8 [[0]] args)
def Rx:List PV->Tr
 | [.s (.str s)]=>.need (A3 (a8 s)) (.ret (.s (.bool (G2 s))) [])
 | _=>.fail
def Pt(args:List PV):Tr:=Rx (B8 [[0]] args)
def QU:List PV->Tr
 | [.s (.str s)]=>.need (A3 (a8 s)) (.ret (.tup [.s (.int .u32 (↑(M4 (pnB s)):Int)),.s (.bool (j2 (pnB s)))]) [])
 | _=>.fail
def B41(args:List PV):Tr:=QU (B8 [[0]] args)
def Ao5:List PV->Tr
 | [.s (.str s)]=>.need (A3 (a8 s)) (.ret (.tup [.s (.int .u32 (↑(M4 (v4B s)):Int)),.s (.bool (j2 (v4B s)))]) [])
 | _=>.fail
def C73(args:List PV):Tr:=Ao5 (B8 [[0]] args)
def Ao4:List PV->Tr
 | [.s (.int .u32 v)]=>.need (ltN v 4294967296) (.ret (.s (.str (Hp (b8 v)))) [])
 | _=>.fail
def C72(args:List PV):Tr:=Ao4 (B8 [[0]] args)
def Ry:List PV->Tr
 | [.s (.str s)]=>.need (A3 (a8 s)) (.ret (.s (.bool ((not (j8 s))&&(j2 (E8 10 0 s))))) [])
 | _=>.fail
def MI(args:List PV):Tr:=Ry (B8 [[0]] args)
def RF:List PV->Tr
 | [.s (.str s)]=>.need (A3 (a8 s)) (.ret (.s (.str (B6 s))) [])
 | _=>.fail
def An6(args:List PV):Tr:=RF (B8 [[0]] args)
def Yt:List PV->Tr
 | [.s (.str s),.s (.int .u8 c)]=>.need (A3 (a8 s)) (.need (inR c 256) (.ret (.s (.sl false false 1 (D4 (pcs (u8n c) s)))) []))
 | _=>.fail
def Jm(args:List PV):Tr:=Yt (B8 [[0],[0]] args)
def Am0:List PV->Tr
 | [.s (.int .i64 n)]=>.need (ltN n 4294967296) (.ret (.s (.str (j5 (b8 n)))) [])
 | _=>.fail
def Yd(args:List PV):Tr:=Am0 (B8 [[0]] args)
def QZ:List PV->Tr
 | [.s (.int .u8 b)]=>.need (inR b 256) (.ret (.s (.int .i64 (↑(dig (u8n b)):Int))) [])
 | _=>.fail
def B43(args:List PV):Tr:=QZ (B8 [[0]] args)
def RH:List PV->Tr
 | [.s (.str s)]=>.need (A3 (a8 s)) (.ret (.tup [.s (.int .i64 (↑(M4 (Ad s)):Int)),.s (.bool (j2 (Ad s)))]) [])
 | _=>.fail
def An7(args:List PV):Tr:=RH (B8 [[0]] args)
def Yr:List PV->Tr
 | [.s (.str s)]=>.need (A3 (a8 s)) (.ret (.s (.sl false false 1 (D4 (C8 s)))) [])
 | _=>.fail
def FX(args:List PV):Tr:=Yr (B8 [[0]] args)
def Nv:List PV->Tr
 | [.s (.str s)]=>.need (A3 (a8 s)) (.ret (.s (.bool (G2 s))) [])
 | _=>.fail
def Sb(args:List PV):Tr:=Nv (B8 [[0]] args)
def FZ:List PV->Tr
 | [.s (.str s)]=>.need (A3 (a8 s)) (.ret (.tup [.s (.int .u32 (↑(M4 (pnB s)):Int)),.s (.bool (j2 (pnB s)))]) [])
 | _=>.fail
def Be8(args:List PV):Tr:=FZ (B8 [[0]] args)
def QY:List PV->Tr
 | [.s (.str s)]=>.need (A3 (a8 s)) (.ret (.tup [.s (.int .i64 (↑(M4 (oct s)):Int)),.s (.bool (j2 (oct s)))]) [])
 | _=>.fail
def B42(args:List PV):Tr:=QY (B8 [[0]] args)
def RP:List PV->Tr
 | [.s (.str s)]=>.need (A3 (a8 s)) (.ret (.tup [.s (.int .u32 (↑(M4 (v4B s)):Int)),.s (.bool (j2 (v4B s)))]) [])
 | _=>.fail
def B47(args:List PV):Tr:=RP (B8 [[0]] args)
def RO:List PV->Tr
 | [.s (.int .u32 v)]=>.need (ltN v 4294967296) (.ret (.s (.str (Hp (b8 v)))) [])
 | _=>.fail
def B46(args:List PV):Tr:=RO (B8 [[0]] args)
def PP:List PV->Tr
 | [.s (.str s)]=>.need (A3 (a8 s)) (.ret (.tup [.s (.int .u16 (↑(M4 (grp s)):Int)),.s (.bool (j2 (grp s)))]) [])
 | _=>.fail
def B32(args:List PV):Tr:=PP (B8 [[0]] args)
def EU:List PV->Tr
 | [.s (.str s),.s (.bool last)]=>.need (A3 (a8 s)) (.ret (.tup [.s (.sl (j8 (gvs s last)) (j8 (gvs s last)) 1 (C9 (gvs s last))),.s (.bool (j2 (P3 s last)))]) [])
 | _=>.fail
def Bd4(args:List PV):Tr:=EU (B8 [[0],[0]] args)
def Ao8:List PV->Tr
 | [.s (.str s)]=>.need (A3 (a8 s)) (.ret (.tup [.agg [.s (.int .u16 (↑(v6c 0 s):Int)),.s (.int .u16 (↑(v6c 1 s):Int)),.s (.int .u16 (↑(v6c 2 s):Int)),.s (.int .u16 (↑(v6c 3 s):Int)),.s (.int .u16 (↑(v6c 4 s):Int)),.s (.int .u16 (↑(v6c 5 s):Int)),.s (.int .u16 (↑(v6c 6 s):Int)),.s (.int .u16 (↑(v6c 7 s):Int))],.s (.bool (j2 (v6B s)))]) [])
 | _=>.fail
def C76(args:List PV):Tr:=Ao8 (B8 [[0]] args)
def GP:List PV->Tr
 | [.agg [.s (.int .u16 a),.s (.int .u16 b),.s (.int .u16 c),.s (.int .u16 d),.s (.int .u16 e),.s (.int .u16 f),.s (.int .u16 g),.s (.int .u16 h)]]=>.need (ok8 a b c d e f g h) (.ret (.tup [.s (.int .i64 (↑((zGo (n8 a b c d e f g h) 0 0 0)).1:Int)),.s (.int .i64 (↑((zGo (n8 a b c d e f g h) 0 0 0)).2:Int))]) [])
 | _=>.fail
def Bf5(args:List PV):Tr:=GP (B8 [[0,0,0,0,0,0,0,0]] args)
def B52:List PV->Tr
 | [.s (.int .u64 x)]=>.need (x==(16:Int)) (.ret (.s (.int .i64 (4:Int))) [])
 | _=>.fail
def C93(args:List PV):Tr:=B52 (B8 [[0]] args)
def EY:List PV->Tr
 | [.s (.int .i64 x)]=>.need (x==(16:Int)) (.ret (.s (.bool true)) [])
 | _=>.fail
def QC(args:List PV):Tr:=EY (B8 [[0]] args)
def ES:List PV->Tr
 | [.s (.sl c a 0 ds),.s (.int .u64 v),.s (.int .i64 b),.s (.bool neg),.s (.bool app)]=>.need (ltN v 65536) (.need (b==(16:Int)) (.need (not neg) (.need (not app) (.ret (.tup [.s (.sl true true 1 List.nil),.s (.str (R3 (b8 v)))]) []))))
 | _=>.fail
def PN(args:List PV):Tr:=ES (B8 [[0],[0],[0],[0],[0]] args)
def EX:List PV->Tr
 | [.s (.int .u64 v),.s (.int .i64 b)]=>.need (ltN v 65536) (.need (b==(16:Int)) (.ret (.s (.str (R3 (b8 v)))) []))
 | _=>.fail
def QB(args:List PV):Tr:=EX (B8 [[0],[0]] args)
def PO:List PV->Tr
 | [.s (.int .u64 v),.s (.int .i64 b)]=>.need (ltN v 65536) (.need (b==(16:Int)) (.ret (.s (.str (R3 (b8 v)))) []))
 | _=>.fail
def B31(args:List PV):Tr:=PO (B8 [[0],[0]] args)
def GJ:List PV->Tr
 | [.s (.sl b a 1 l),.s (.str p)]=>.need (x3 l isS) (.need (A3 (a8 (ac7 (s7 elS l) p))) (.need (A3 (a8 l)) (.ret (.s (.str (ac7 (s7 elS l) p))) [])))
 | _=>.fail
def RZ(args:List PV):Tr:=GJ (B8 [[1],[0]] args)
def RV:List PV->Tr
 | [.s (.str s),.s (.str p)]=>.need (A3 (a8 s)) (.ret (.tup [.s (.str ((w9 s p)).1),.s (.str (((w9 s p)).2).1),.s (.bool (((w9 s p)).2).2)]) [])
 | _=>.fail
def Ao1(args:List PV):Tr:=RV (B8 [[0],[0]] args)
def Ao7:List PV->Tr
 | [.s (.sl b a 1 l)]=>.need (x3 l Vz) (.need (v8 (a8 l) 8) (.ret (.s (.str (T0 (s7 elN l)))) []))
 | _=>.fail
def C75(args:List PV):Tr:=Ao7 (B8 [[1]] args)
def Ao6:List PV->Tr
 | [.agg [.s (.int .u16 a),.s (.int .u16 b),.s (.int .u16 c),.s (.int .u16 d),.s (.int .u16 e),.s (.int .u16 f),.s (.int .u16 g),.s (.int .u16 h)]]=>.need (ok8 a b c d e f g h) (.ret (.s (.str (Nj (n8 a b c d e f g h)))) [])
 | _=>.fail
def C74(args:List PV):Tr:=Ao6 (B8 [[0,0,0,0,0,0,0,0]] args)
def RC:List PV->Tr
 | [.s (.str s)]=>.need (A3 (a8 s)) (.ret (.tup [.s (.int .u16 (↑(M4 (grp s)):Int)),.s (.bool (j2 (grp s)))]) [])
 | _=>.fail
def B44(args:List PV):Tr:=RC (B8 [[0]] args)
def FO:List PV->Tr
 | [.s (.str s),.s (.bool last)]=>.need (A3 (a8 s)) (.ret (.tup [.s (.sl (j8 (gvs s last)) (j8 (gvs s last)) 1 (C9 (gvs s last))),.s (.bool (j2 (P3 s last)))]) [])
 | _=>.fail
def Be1(args:List PV):Tr:=FO (B8 [[0],[0]] args)
def Rz:List PV->Tr
 | [.s (.str s)]=>.need (A3 (a8 s)) (.ret (.s (.int .i64 (HW s))) [])
 | _=>.fail
def MJ(args:List PV):Tr:=Rz (B8 [[0]] args)
def RS:List PV->Tr
 | [.s (.str s)]=>.need (A3 (a8 s)) (.ret (.tup [.agg [.s (.int .u16 (↑(v6c 0 s):Int)),.s (.int .u16 (↑(v6c 1 s):Int)),.s (.int .u16 (↑(v6c 2 s):Int)),.s (.int .u16 (↑(v6c 3 s):Int)),.s (.int .u16 (↑(v6c 4 s):Int)),.s (.int .u16 (↑(v6c 5 s):Int)),.s (.int .u16 (↑(v6c 6 s):Int)),.s (.int .u16 (↑(v6c 7 s):Int))],.s (.bool (j2 (v6B s)))]) [])
 | _=>.fail
def B49(args:List PV):Tr:=RS (B8 [[0]] args)
def FR:List PV->Tr
 | [.s (.int .u16 v)]=>.need (ltN v 65536) (.ret (.s (.str (R3 (b8 v)))) [])
 | _=>.fail
def Be4(args:List PV):Tr:=FR (B8 [[0]] args)
def RQ:List PV->Tr
 | [.agg [.s (.int .u16 a),.s (.int .u16 b),.s (.int .u16 c),.s (.int .u16 d),.s (.int .u16 e),.s (.int .u16 f),.s (.int .u16 g),.s (.int .u16 h)]]=>.need (ok8 a b c d e f g h) (.ret (.s (.str (Nj (n8 a b c d e f g h)))) [])
 | _=>.fail
def B48(args:List PV):Tr:=RQ (B8 [[0,0,0,0,0,0,0,0]] args)
def Yn:List PV->Tr
 | [.s (.int .i64 n)]=>.ret (.s (.bool (ptI n))) []
 | _=>.fail
def Nu(args:List PV):Tr:=Yn (B8 [[0]] args)
def Ym:List PV->Tr
 | [.s (.int .i64 d),.s (.int .i64 c),.s (.bool f)]=>.need (ltN d 1152921504606846976) (.need (ltN c 1000000) (.need (ltI (0:Int) c) (.ret (.s (.int .i64 (↑(P6 (b8 d) (b8 c) f):Int))) [])))
 | _=>.fail
def Nt(args:List PV):Tr:=Ym (B8 [[0],[0],[0]] args)
def QS:List PV->Tr
 | [.s (.int .i64 d)]=>.need (ltN d 36) (.ret (.s (.int .u8 (↑(ai2 (Ac (b8 d))):Int))) [])
 | _=>.fail
def An0(args:List PV):Tr:=QS (B8 [[0]] args)
def QX:List PV->Tr
 | [.s (.int .u8 b)]=>.need (inR b 256) (.ret (.s (.int .i64 (D9 (u8n b)))) [])
 | _=>.fail
def An2(args:List PV):Tr:=QX (B8 [[0]] args)
def QW:List PV->Tr
 | [.s (.int .i64 b)]=>.ret (.fnr (z7 188) [] [.ptr 1 0 0,.ptr 0 0 0]) [.box [.s (.int .i64 b)],.box [.s (.int .i64 (0:Int))]]
 | _=>.fail
def FL(args:List PV):Tr:=QW (B8 [[0]] args)
def Pv:List PV->List Blk->Tr
 | [.ptr 0 0 0,.ptr 1 0 0],[.box [.s (.int .i64 k)],.box [.s (.int .i64 b)]]=>.need (ltN k 1000000000000) (.need (ltN b 1000000) (.ret (.s (.int .i64 (K5 k b))) [.box [.s (.int .i64 (Int.add k (36:Int)))],.box [.s (.int .i64 b)]]))
 | _,_=>.fail
def QP:List PV->List Blk->Tr
 | [.fl 0,.s (.int .i64 q),.s (.int .i64 b)],[.arr z 5 1 l]=>.need (ltN q 1152921504606846976) (.need (ltN b 1000000) (.need (v8 (a8 l) 100000) (.ret (.fl 0) [.arr z 5 1 (List.append l (s7 D8 (O6 (b8 q) 0 (b8 b))))])))
 | _,_=>.fail
def QT:List PV->Tr
 | [.s (.sl b a 1 p)]=>.need (x3 p Nc) (.ret (.tup [.s (.str ((V3 (s7 elI p))).1),.s (.int .i64 (↑((V3 (s7 elI p))).2:Int))]) [])
 | _=>.fail
def An1(args:List PV):Tr:=QT (B8 [[1]] args)
def RY:List PV->List Blk->Tr
 | [.fl 0,.s (.int .i64 i),.fl 1],[.arr z 3 1 l,.arr false 3 1 [[.int .i64 n]]]=>.need (ltN i (Nat.add (a8 l) 1)) (.need (v8 (a8 l) 100000) (.ret (.fl 0) [.arr z 3 1 (Lj l (b8 i) n),.arr false 3 1 [[.int .i64 n]]]))
 | _,_=>.fail
def PM:List PV->List Blk->Tr
 | [.ptr 0 0 0],[.box [.s (.str a),.fl 1,.s (.int .i64 n),.s (.int .i64 i),.s (.int .i64 b),.s (.bool c)],.arr z 3 1 l]=>.need (A3 (a8 a)) (.need (ltN b 1000000) (.need (ltN i 1099511627777) (.ret (.s (.int .i64 (JC b a i))) [.box [.s (.str (JE b a i)),.fl 1,.s (.int .i64 n),.s (.int .i64 (To b a i)),.s (.int .i64 b),.s (.bool c)],.arr z 3 1 l])))
 | _,_=>.fail
def DT:List PV->List Blk->Tr
 | [.ptr 0 0 0],[.box [.s (.str a),.fl 1,.s (.int .i64 n),.s (.int .i64 i),.s (.int .i64 b),.s (.bool c)],.arr z 3 1 l]=>.need (A3 (a8 a)) (.need (ltN b 1000000) (.need (ltN i 1099511627777) (.need (ltN n 1152921504606846976) (.need (v8 (a8 l) 100000) (.ret (.s (.int .i64 ((F0 (DS.mk a n i b c l))).1)) [.box [.s (.str (DS.rest ((F0 (DS.mk a n i b c l))).2)),.fl 1,.s (.int .i64 (DS.n ((F0 (DS.mk a n i b c l))).2)),.s (.int .i64 (DS.i ((F0 (DS.mk a n i b c l))).2)),.s (.int .i64 (DS.b ((F0 (DS.mk a n i b c l))).2)),.s (.bool (DS.st ((F0 (DS.mk a n i b c l))).2))],.arr z 3 1 (DS.l ((F0 (DS.mk a n i b c l))).2)])))))
 | _,_=>.fail
def Yi:List PV->Tr
 | [.s (.str s),.s (.int .u8 c)]=>.need (A3 (a8 s)) (.need (inR c 256) (.ret (.s (.int .i64 (L1 (u8n c) s))) []))
 | _=>.fail
def XX(args:List PV):Tr:=Yi (B8 [[0],[0]] args)
def FD:List PV->Tr
 | [.s (.str s),.s (.int .u8 c)]=>.need (A3 (a8 s)) (.need (inR c 256) (.ret (.s (.int .i64 (L1 (u8n c) s))) []))
 | _=>.fail
def DU(args:List PV):Tr:=FD (B8 [[0],[0]] args)
def QR:List PV->Tr
 | [.s (.str s)]=>.need (A3 (a8 s)) (.ret (.tup [.s (.sl (j8 ((N0 s)).1) (j8 ((N0 s)).1) 1 (Lq ((N0 s)).1)),.s (.int .i64 (↑((N0 s)).2:Int))]) [])
 | _=>.fail
def B40(args:List PV):Tr:=QR (B8 [[0]] args)
def XT:List PV->Tr
 | [.s (.str t)]=>.fail
 | _=>.fail
def Uo(args:List PV):Tr:=XT (B8 [[0]] args)
def FG:List PV->Tr
 | [.s (.str t),.s (.str p),.s (.int .i64 n)]=>.ret (.fnr (z7 152) [] [.ptr 1 0 0,.ptr 0 0 0,.ptr 2 0 0]) [.box [.s (.str t)],.box [.s (.str p)],.box [.s (.int .i64 n)]]
 | _=>.fail
def QK(args:List PV):Tr:=FG (B8 [[0],[0],[0]] args)
def SC:List PV->Tr
 | [.s (.str t),.s (.str p)]=>.ret (.fnr (z7 152) [] [.ptr 1 0 0,.ptr 0 0 0,.ptr 2 0 0]) [.box [.s (.str t)],.box [.s (.str p)],.box [.s (.int .i64 (0:Int))]]
 | _=>.fail
def Ao2(args:List PV):Tr:=SC (B8 [[0],[0]] args)
def DV:List PV->List Blk->Option (Bool × List (List PV))
 | [.yd,.ptr 0 0 0,.ptr 1 0 0,.ptr 2 0 0],[.box [.s (.str p)],.box [.s (.str t)],.box [.s (.int .i64 n)]]=>some (((A3 (a8 t))&&(((a8 p)==1)&&(n==(0:Int)))),s7 (λ(x:By)=>([.s (.str x)]:List PV)) (pcs (b9 p 0 0) t))
 | _,_=>none
def Ys:List PV->Tr
 | [.s (.int .i64 n)]=>.ret (.s (.bool (ptI n))) []
 | _=>.fail
def Uq(args:List PV):Tr:=Ys (B8 [[0]] args)
def Yo:List PV->Tr
 | [.s (.int .i64 d),.s (.int .i64 c),.s (.bool f)]=>.need (ltN d 1152921504606846976) (.need (ltN c 1000000) (.need (ltI (0:Int) c) (.ret (.s (.int .i64 (↑(P6 (b8 d) (b8 c) f):Int))) [])))
 | _=>.fail
def FM(args:List PV):Tr:=Yo (B8 [[0],[0],[0]] args)
def RL:List PV->Tr
 | [.s (.int .i64 k),.s (.int .i64 b)]=>.need (ltN k 10000000000) (.need (ltN b 1000000) (.ret (.s (.int .i64 (K5 (Int.mul (36:Int) k) b))) []))
 | _=>.fail
def An9(args:List PV):Tr:=RL (B8 [[0],[0]] args)
def FN:List PV->Tr
 | [.s (.int .i64 d)]=>.need (ltN d 36) (.ret (.s (.int .u8 (↑(ai2 (Ac (b8 d))):Int))) [])
 | _=>.fail
def Be0(args:List PV):Tr:=FN (B8 [[0]] args)
def RT:List PV->Tr
 | [.s (.int .u8 b)]=>.need (inR b 256) (.ret (.s (.int .i64 (D9 (u8n b)))) [])
 | _=>.fail
def B50(args:List PV):Tr:=RT (B8 [[0]] args)
def RA:List PV->Tr
 | [.s (.sl b a 1 p)]=>.need (x3 p Nc) (.ret (.tup [.s (.str ((V3 (s7 elI p))).1),.s (.int .i64 (↑((V3 (s7 elI p))).2:Int))]) [])
 | _=>.fail
def An3(args:List PV):Tr:=RA (B8 [[1]] args)
def FY:List PV->Tr
 | [.s (.str s)]=>.need (A3 (a8 s)) (.ret (.tup [.s (.sl (j8 ((N0 s)).1) (j8 ((N0 s)).1) 1 (Lq ((N0 s)).1)),.s (.int .i64 (↑((N0 s)).2:Int))]) [])
 | _=>.fail
def Be7(args:List PV):Tr:=FY (B8 [[0]] args)
def FF:List PV->Tr
 | [.s (.str s)]=>.need (A3 (a8 s)) (.ret (.s (.bool (Dk s))) [])
 | _=>.fail
def Bd7(args:List PV):Tr:=FF (B8 [[0]] args)
def QN:List PV->Tr
 | [.s (.str s)]=>.need (A3 (a8 s)) (.ret (.s (.bool (K6 s))) [])
 | _=>.fail
def QM(args:List PV):Tr:=QN (B8 [[0]] args)
def Zc:List PV->Tr
 | [.s (.str s)]=>.need (A3 (a8 s)) (.ret (.s (.bool (j2 (Cy s)))) [])
 | _=>.fail
def YG(args:List PV):Tr:=Zc (B8 [[0]] args)
def Za:List PV->Tr
 | [.s (.str s)]=>.need (A3 (a8 s)) (.ret (.s (.int .i64 (↑(Lib.runeCountL s):Int))) [])
 | _=>.fail
def YE(args:List PV):Tr:=Za (B8 [[0]] args)
def QG:List PV->Tr
 | [.s (.str s)]=>.need (A3 (a8 s)) (.ret (.tup [.s (.str ((I5 s)).1),.s (.int .i64 (↑((I5 s)).2:Int))]) [])
 | _=>.fail
def B38(args:List PV):Tr:=QG (B8 [[0]] args)
def RK:List PV->Tr
 | [.s (.str s)]=>.need (A3 (a8 s)) (.ret (.tup [.s (.sl (j8 (Rf s)) (j8 (Rf s)) 1 (Lq (Rf s))),.s (.bool (j2 (Cy s)))]) [])
 | _=>.fail
def B45(args:List PV):Tr:=RK (B8 [[0]] args)
def GA:List PV->Tr
 | [.s (.str s)]=>.need (A3 (a8 s)) (.ret (.s (.bool (Dk s))) [])
 | _=>.fail
def Be9(args:List PV):Tr:=GA (B8 [[0]] args)
def FW:List PV->Tr
 | [.s (.str s)]=>.need (A3 (a8 s)) (.ret (.s (.bool (K6 s))) [])
 | _=>.fail
def RG(args:List PV):Tr:=FW (B8 [[0]] args)
def FU:List PV->Tr
 | [.s (.str s)]=>.need (A3 (a8 s)) (.ret (.tup [.s (.str ((I5 s)).1),.s (.int .i64 (↑((I5 s)).2:Int))]) [])
 | _=>.fail
def Be6(args:List PV):Tr:=FU (B8 [[0]] args)
def PT:List PV->Tr
 | [.s (.int .u8 b)]=>.need (inR b 256) (.ret (.s (.int .i64 (Eo (u8n b)))) [])
 | _=>.fail
def B35(args:List PV):Tr:=PT (B8 [[0]] args)
def PS:List PV->Tr
 | [.s (.str s)]=>.need (A3 (a8 s)) (.ret (.tup [.s (.str (Ew s)),.s (.bool (j2 (R2 s)))]) [])
 | _=>.fail
def B34(args:List PV):Tr:=PS (B8 [[0]] args)
def EV:List PV->Tr
 | [.s (.str s)]=>.need (A3 (a8 s)) (.need (Ca3 s) (.ret (.tup [.agg [.s (.int .i64 (↑(B2.kind ((P2 s)).1):Int)),.s (.str (B2.name ((P2 s)).1)),.s (.int .u32 (↑(B2.v4 ((P2 s)).1):Int)),.s (.int .u16 (↑(b9 (B2.v6 ((P2 s)).1) 0 0):Int)),.s (.int .u16 (↑(b9 (B2.v6 ((P2 s)).1) 1 0):Int)),.s (.int .u16 (↑(b9 (B2.v6 ((P2 s)).1) 2 0):Int)),.s (.int .u16 (↑(b9 (B2.v6 ((P2 s)).1) 3 0):Int)),.s (.int .u16 (↑(b9 (B2.v6 ((P2 s)).1) 4 0):Int)),.s (.int .u16 (↑(b9 (B2.v6 ((P2 s)).1) 5 0):Int)),.s (.int .u16 (↑(b9 (B2.v6 ((P2 s)).1) 6 0):Int)),.s (.int .u16 (↑(b9 (B2.v6 ((P2 s)).1) 7 0):Int))],.s (.int .i64 (↑((P2 s)).2:Int))]) []))
 | _=>.fail
def Bd5(args:List PV):Tr:=EV (B8 [[0]] args)
def Yg:List PV->Tr
 | [.s (.str s)]=>.need (A3 (a8 s)) (.ret (.tup [.agg [.s (.int .i64 (↑(B2.kind ((C7 s)).1):Int)),.s (.str (B2.name ((C7 s)).1)),.s (.int .u32 (↑(B2.v4 ((C7 s)).1):Int)),.s (.int .u16 (↑(b9 (B2.v6 ((C7 s)).1) 0 0):Int)),.s (.int .u16 (↑(b9 (B2.v6 ((C7 s)).1) 1 0):Int)),.s (.int .u16 (↑(b9 (B2.v6 ((C7 s)).1) 2 0):Int)),.s (.int .u16 (↑(b9 (B2.v6 ((C7 s)).1) 3 0):Int)),.s (.int .u16 (↑(b9 (B2.v6 ((C7 s)).1) 4 0):Int)),.s (.int .u16 (↑(b9 (B2.v6 ((C7 s)).1) 5 0):Int)),.s (.int .u16 (↑(b9 (B2.v6 ((C7 s)).1) 6 0):Int)),.s (.int .u16 (↑(b9 (B2.v6 ((C7 s)).1) 7 0):Int))],.s (.int .i64 (↑((C7 s)).2:Int))]) [])
 | _=>.fail
def XW(args:List PV):Tr:=Yg (B8 [[0]] args)
def Am3:List PV->Tr
 | [.s (.str s)]=>.need (A3 (a8 s)) (.ret (.s (.bool (S8 s))) [])
 | _=>.fail
def B37(args:List PV):Tr:=Am3 (B8 [[0]] args)
def QA:List PV->Tr
 | [.agg [.s (.int .i64 j),.s (.str i),.s (.int .u32 v4),.s (.int .u16 a),.s (.int .u16 b),.s (.int .u16 c),.s (.int .u16 d),.s (.int .u16 e),.s (.int .u16 f),.s (.int .u16 g),.s (.int .u16 h)]]=>.need (A3 (a8 i)) (.need (ltN v4 4294967296) (.need (ok8 a b c d e f g h) (.ret (.s (.bool (M7 (mkH j i v4 (n8 a b c d e f g h))))) [])))
 | _=>.fail
def PZ(args:List PV):Tr:=QA (B8 [[0,0,0,0,0,0,0,0,0,0,0]] args)
def PW:List PV->Tr
 | [.agg [.s (.int .i64 j),.s (.str i),.s (.int .u32 v4),.s (.int .u16 a),.s (.int .u16 b),.s (.int .u16 c),.s (.int .u16 d),.s (.int .u16 e),.s (.int .u16 f),.s (.int .u16 g),.s (.int .u16 h)]]=>.need (A3 (a8 i)) (.need (ltN v4 4294967296) (.need (ok8 a b c d e f g h) (.ret (.s (.str (Gn (mkH j i v4 (n8 a b c d e f g h))))) [])))
 | _=>.fail
def Am2(args:List PV):Tr:=PW (B8 [[0,0,0,0,0,0,0,0,0,0,0]] args)
def PQ:List PV->Tr
 | [.s (.str p),.s (.str s)]=>.need (A3 (a8 p)) (.need (A3 (a8 s)) (.ret (.s (.bool (Em p s))) []))
 | _=>.fail
def B33(args:List PV):Tr:=PQ (B8 [[0],[0]] args)
def An5:List PV->Tr
 | [.s (.int .u8 b)]=>.need (inR b 256) (.ret (.s (.int .i64 (Eo (u8n b)))) [])
 | _=>.fail
def C71(args:List PV):Tr:=An5 (B8 [[0]] args)
def FQ:List PV->Tr
 | [.s (.str s)]=>.need (A3 (a8 s)) (.ret (.tup [.s (.str (Ew s)),.s (.bool (j2 (R2 s)))]) [])
 | _=>.fail
def Be3(args:List PV):Tr:=FQ (B8 [[0]] args)
def Sa:List PV->Tr
 | [.s (.str s)]=>.need (A3 (a8 s)) (.ret (.tup [.agg [.s (.int .i64 (↑(B2.kind ((C7 s)).1):Int)),.s (.str (B2.name ((C7 s)).1)),.s (.int .u32 (↑(B2.v4 ((C7 s)).1):Int)),.s (.int .u16 (↑(b9 (B2.v6 ((C7 s)).1) 0 0):Int)),.s (.int .u16 (↑(b9 (B2.v6 ((C7 s)).1) 1 0):Int)),.s (.int .u16 (↑(b9 (B2.v6 ((C7 s)).1) 2 0):Int)),.s (.int .u16 (↑(b9 (B2.v6 ((C7 s)).1) 3 0):Int)),.s (.int .u16 (↑(b9 (B2.v6 ((C7 s)).1) 4 0):Int)),.s (.int .u16 (↑(b9 (B2.v6 ((C7 s)).1) 5 0):Int)),.s (.int .u16 (↑(b9 (B2.v6 ((C7 s)).1) 6 0):Int)),.s (.int .u16 (↑(b9 (B2.v6 ((C7 s)).1) 7 0):Int))],.s (.int .i64 (↑((C7 s)).2:Int))]) [])
 | _=>.fail
def MK(args:List PV):Tr:=Sa (B8 [[0]] args)
def RE:List PV->Tr
 | [.s (.str s)]=>.need (A3 (a8 s)) (.ret (.s (.bool (S8 s))) [])
 | _=>.fail
def An4(args:List PV):Tr:=RE (B8 [[0]] args)
def FT:List PV->Tr
 | [.agg [.s (.int .i64 j),.s (.str i),.s (.int .u32 v4),.s (.int .u16 a),.s (.int .u16 b),.s (.int .u16 c),.s (.int .u16 d),.s (.int .u16 e),.s (.int .u16 f),.s (.int .u16 g),.s (.int .u16 h)]]=>.need (A3 (a8 i)) (.need (ltN v4 4294967296) (.need (ok8 a b c d e f g h) (.ret (.s (.bool (M7 (mkH j i v4 (n8 a b c d e f g h))))) [])))
 | _=>.fail
def RD(args:List PV):Tr:=FT (B8 [[0,0,0,0,0,0,0,0,0,0,0]] args)
def FS:List PV->Tr
 | [.agg [.s (.int .i64 j),.s (.str i),.s (.int .u32 v4),.s (.int .u16 a),.s (.int .u16 b),.s (.int .u16 c),.s (.int .u16 d),.s (.int .u16 e),.s (.int .u16 f),.s (.int .u16 g),.s (.int .u16 h)]]=>.need (A3 (a8 i)) (.need (ltN v4 4294967296) (.need (ok8 a b c d e f g h) (.ret (.s (.str (Gn (mkH j i v4 (n8 a b c d e f g h))))) [])))
 | _=>.fail
def Be5(args:List PV):Tr:=FS (B8 [[0,0,0,0,0,0,0,0,0,0,0]] args)
def FP:List PV->Tr
 | [.s (.str p),.s (.str s)]=>.need (A3 (a8 p)) (.need (A3 (a8 s)) (.ret (.s (.bool (Em p s))) []))
 | _=>.fail
def Be2(args:List PV):Tr:=FP (B8 [[0],[0]] args)
def Yj:List PV->Tr
 | [.s (.int .i64 n),.s (.sl b a 1 l)]=>.need (x3 l isS) (.need (A3 (a8 l)) (.ret (.s (.bool (Mm n (s7 elS l)))) []))
 | _=>.fail
def XY(args:List PV):Tr:=Yj (B8 [[0],[1]] args)
end
section
variable {Z R : Type} (Y : Nat) (W : G0) (Q : Yh Z) (s : Z) (k : Out -> St Z -> Option R)
noncomputable def TD(Y:Nat):Cfg:=B4 Y [125] (A2 []) [] (A2 [(1,[6]),(0,[3,0,0])]) [] (A2 []) (some [6]) [] [] []
noncomputable def Cb0{R:Type}(Y:Nat)(d b:By)(a:Int)(c:By->By->Int->Option R):Option R:=c d b a
theorem Cb1(d:Nat)(a sep1 sepSave2):evC (TD Y) (d+1) Z Q 125 [pS a,pS sep1,pI sepSave2] [] s=Cb0 Y a sep1 sepSave2 (λa c b=>some (.fnr (z7 152) [] [.ptr 1 0 0,.ptr 0 0 0,.ptr 2 0 0],[.box [pS a],.box [pS c],.box [pI b]],s)):=by refine(evE (fn:=Tryz.f125) (by kernel_rfl)).trans ?_;generalize evC (TD Y) d=W;unfold Cb0;kernel_rfl
noncomputable def Ar6(Y:Nat):Cfg:=B4 Y [91] (A2 []) [(125,QK)] (A2 [(1,[4]),(0,[0,0])]) [] (A2 []) (some [4]) [] [] []
noncomputable def Dd1{R:Type}(Y:Nat)(c a:By)(b:By->By->Option R):Option R:=b c a
theorem C19(d:Nat)(a sep1):evC (Ar6 Y) (d+1) Z Q 91 [pS a,pS sep1] [] s=Dd1 Y a sep1 (λa b=>some (.fnr (z7 152) [] [.ptr 1 0 0,.ptr 0 0 0,.ptr 2 0 0],[.box [pS a],.box [pS b],.box [pI (0:Int)]],s)):=by refine(evE (fn:=Tryz.f91) (by kernel_rfl)).trans ?_;generalize evC (Ar6 Y) d=W;unfold Dd1;kernel_rfl
noncomputable abbrev MR:Code:=C4 af6
noncomputable def Oh(Y:Nat):Cfg:=B4 Y [64] (A2 []) [(90,Pt),(91,Ao2),(92,QM)] (A2 [(7,[2]),(6,[2]),(5,[2,13]),(4,[2,0]),(3,[2,9]),(2,[2]),(1,[0,1,7]),(0,[0,1])]) [90,92] (A2 [(0,[2]),(1,[2])]) (some [2]) [] [(152,DV)] []
noncomputable def EA{R:Type}(Y:Nat)(a:By)(xs:List By)(self:Unit->Option R)(c:Unit->Option R)(b:Unit->Option R):Option R:=cond (A3 a.length) (cond (not (K6 a)) (b ()) (self ())) none
noncomputable def IM{R:Type}(Y:Nat)(L:List By)(b:Unit->Option R)(c:Unit->Option R):Option R:=Dk0 (α:=Unit->Option R) (λ_=>b ()) (λa xs self _=>EA Y a xs self  b c) L ()
theorem ZX{R:Type}(Y:Nat)(a:By)(xs:List By)(b:Unit->Option R)(c:Unit->Option R):IM Y (a::xs)  b c=EA Y a xs (λ_=>IM Y xs  b c)  b c:=rfl
theorem Bq0(L:List By):Al #[13] (gp [(2,.ptr 0 0 0),(9,.fnr (z7 152) [] [.bad,.bad,.bad])] 4) (bd (Oh Y) W Q (cd [1,1,0,1,0,0] MR)) (bd (Oh Y) W Q (cd [1,1,0,1,0,1] MR)) (L.map (λ(a:By)=>([pS a]:List PV))) [.box [pB false],.dead,.dead,.dead] s (rgK (gp [(2,.ptr 0 0 0),(9,.fnr (z7 152) [] [.bad,.bad,.bad])] 4) (λH=>Ar H [2,1,3] [.box [.bad],.box [.bad],.box [.bad]]) k) =
 IM Y L  (λ_=>k .normal ⟨gp [(2,.ptr 0 0 0),(9,.fnr (z7 152) [] [.bad,.bad,.bad])] 4,[.box [pB false],.box [.bad],.box [.bad],.box [.bad]],s⟩) (λ_=>k .ret ⟨gp [(2,.ptr 0 0 0),(9,.fnr (z7 152) [] [.bad,.bad,.bad])] 4,[.box [pB false],.box [.bad],.box [.bad],.box [.bad]],s⟩):=by
 induction L with
 | nil=>rfl
 | cons a xs b=>rw[ZX];unfold EA;exact(j1 (by kernel_rfl) (A0 (A0 rfl b) rfl))
noncomputable def UF{R:Type}(Y:Nat)(a:By)(b:Unit->Option R)(c:Unit->Option R):Option R:=cond ((A3 a.length)&&((1==1)&&((0:Int)==0))) (IM Y (pcs (b9 ([46]:List UInt8) 0 0) a)  b c) none
abbrev ZW(b:Code):Prop:=∀(k:Out->St Z->Option R) s0,A9 (Oh Y) W Q b ⟨gp [(2,.ptr 0 0 0),(9,.fnr (z7 152) [] [.ptr 2 0 0,.ptr 1 0 0,.ptr 3 0 0])] 4,[.box [pB false],.box [pS s0],.box [pS ([46]:List UInt8)],.box [pI (0:Int)]],s⟩ k=UF Y s0 (λ_=>k .normal ⟨gp [(2,.ptr 0 0 0),(9,.fnr (z7 152) [] [.bad,.bad,.bad])] 4,[.box [pB false],.box [.bad],.box [.bad],.box [.bad]],s⟩) (λ_=>k .ret ⟨gp [(2,.ptr 0 0 0),(9,.fnr (z7 152) [] [.bad,.bad,.bad])] 4,[.box [pB false],.box [.bad],.box [.bad],.box [.bad]],s⟩)
theorem Bp9:ZW (R:=R) Y W Q s (cd [1,1,0,1,0] MR):=by intro k a;unfold UF;exact((Di9 [1,1,0,1,0] (by kernel_rfl)).trans (by kernel_rfl)).trans (Ax7 (Bq0 Y W Q s k (pcs (b9 ([46]:List UInt8) 0 0) a) ))
noncomputable def hvn{R:Type}(Y:Nat)(a:By)(b:Unit->Option R)(c:Bool->Bool->Option R):Option R:=cond (ltI 253 (a.length:Int)) (b ()) (cond (A3 a.length) (cond (G2 a) (b ()) (UF Y a (λ_=>c true true) (λ_=>c false false))) none)
theorem Da9(a:Code)(c:ZW (R:=PV × List Blk × Z) Y W Q s a)(b:By):A9 (Oh Y) W Q (cd [] (G4 [1,1,0,1,0] a MR)) ⟨[pS b]++tps 16,[],s⟩ (F1 (Oh Y) af6)=hvn Y b (λ_=>some (pB false,[.box [pB false]],s)) (λe d=>some (pB e,[.box [pB d],.box [.bad],.box [.bad],.box [.bad]],s)):=by unfold hvn;exact(j1 (by kernel_rfl) (A0 rfl (A0 (A0 rfl ((c (E1 0 (E0 (Oh Y) W Q (cd [1,1,1] MR) (F1 (Oh Y) af6))) b).trans (by kernel_rfl))) rfl)))
theorem Db0(d:Nat)(name0):evC (Oh Y) (d+1) Z Q 64 [pS name0] [] s=hvn Y name0 (λ_=>some (pB false,[.box [pB false]],s)) (λb a=>some (pB b,[.box [pB a],.box [.bad],.box [.bad],.box [.bad]],s)):=
 (evE (fn:=af6) (by kernel_rfl)).trans (j1 (by kernel_rfl) (Da9 Y (evC (Oh Y) d) Q s (cd [1,1,0,1,0] MR) (Bp9 Y (evC (Oh Y) d) Q s) name0))
noncomputable abbrev Uw:Code:=C4 ae4
noncomputable def Ah(Y:Nat):Cfg:=B4 Y [152] (A2 [(5,[0,0,0,0]),(1,[0,1])]) [(153,Uo),(154,GG)] (A2 [(10,[]),(9,[0,0,0,0]),(8,[0,0,0,0,3,34]),(7,[0,0,0,0,3,0]),(6,[0,0,0,0,3,25]),(5,[0,0,0,0,3]),(4,[0,1]),(3,[0,1,3,18]),(2,[0,1,3]),(1,[0,1,11]),(0,[0,0,0,0,7])]) [154] (A2 [(2,[0,1]),(3,[0,0,0,0]),(0,[]),(1,[0,1])]) (some []) [] [] []
noncomputable def KN{Z R:Type}(Q:Yh Z)(Y n:Nat)(d a:By)(c:Int)(s:Z)(b:By->By->Int->Z->Option R):Option R:=match n with|0=>none|n+1=>cond (ltI 0 (a.length:Int)) none (b d a c s)
theorem Aj1(n:Nat)(b c:By)(a:Int)(s:Z):C5 3 ((Ah Y).keep 1) (bd (Ah Y) W Q (cd [0,1,0,0,0,0] Uw)) n ⟨gp [(0,.yd),(1,.ptr 1 0 0)] 49,[.box [pS b],.box [pS c],.box [pI a]],s⟩ k =
 KN Q Y n b c a s (λb c a s=>k (.exit 0) ⟨gp [] 52,[.box [pS b],.box [pS c],.box [pI a]],s⟩):=by
 induction n generalizing b c a s with
 | zero=>rfl
 | succ n d=>rw[KN];kernel_rfl
noncomputable def S7{Z R:Type}(Q:Yh Z)(Y n:Nat)(c a:By)(g:Int)(s:Z)(i:By->By->Int->Z->Option R)(j:By->By->Int->Z->Option R):Option R:=match n with
 | 0=>none
 | n+1=>
  cond (A3 a.length)
   (cond (ltI (y5 a c) (0:Int))
   (i c a g s)
   (vl (A1 ((y5 a c)+g)) λe=>
    cond (I1 0 e a.length)
    (ydK (Q [pS (cut a 0 e)] s) λd b=>
     (cond (not d)
     (j c a g b)
     (vl (A1 ((y5 a c)+(c.length:Int))) λf=>
      cond (I1 f (a.length:Int) a.length)
      (vl (cut a f (a.length:Int)) λh=>
       S7 Q Y n c h g b i j)
      none)))
    none))
   none
theorem Aj2(n:Nat)(b c:By)(a:Int)(s:Z):C5 3 ((Ah Y).keep 5) (bd (Ah Y) W Q (cd [1,0,0,0] Uw)) n ⟨gp [(0,.yd),(0,.ptr 0 0 0),(0,.ptr 1 0 0),(0,.ptr 2 0 0)] 48,[.box [pS b],.box [pS c],.box [pI a]],s⟩ k =
 S7 Q Y n b c a s (λb c a s=>k (.exit 2) ⟨gp [(0,.yd),(1,.ptr 1 0 0)] 49,[.box [pS b],.box [pS c],.box [pI a]],s⟩) (λb c a s=>k .ret ⟨gp [] 52,[.box [pS b],.box [pS c],.box [pI a]],s⟩):=by
 induction n generalizing b c a s with
 | zero=>rfl
 | succ n d=>rw[S7];simp only[<-d];kernel_rfl
noncomputable def Aj0{Z R:Type}(Q:Yh Z)(Y:Nat)(p t:By)(n:Int)(s:Z)(j:By->By->Int->Z->Option R):Option R:=
 cond ((p.length:Int)==0)
 (KN Q Y Y p t n s (λm o l q=>j m o l q))
 (S7 Q Y Y p t n s (λr a c e=>ydK (Q [pS a] e) λi b=>
  (j r a c b)) (λf g d h=>j f g d h))
theorem Ci3(d:Nat)(p t n s):evC (Ah Y) (d+1) Z Q 152 [.yd,.ptr 0 0 0,.ptr 1 0 0,.ptr 2 0 0] [.box [pS p],.box [pS t],.box [pI n]] s=Aj0 Q Y p t n s (λb c a s=>some (.tup [],[.box [pS b],.box [pS c],.box [pI a]],s)):=by refine(evE (fn:=ae4) (by kernel_rfl)).trans ?_;generalize evC (Ah Y) d=W;unfold Aj0;exact(j1 (by kernel_rfl) (A0 ((Aj1 Y W Q (E1 0 (E0 (Ah Y) W Q (cd [0,1,0,1] Uw) (E0 (Ah Y) W Q (cd [1] Uw) (F1 (Ah Y) ae4)))) Y p t n s).trans (by kernel_rfl)) ((Aj2 Y W Q (E1 2 (E0 (Ah Y) W Q (cd [1,1] Uw) (F1 (Ah Y) ae4))) Y p t n s).trans (by kernel_rfl))))
end
section
variable {Z R : Type} (L : Nat) (Q : G0) (Y : Yh Z) (s : Z) (k : Out -> St Z -> Option R)
noncomputable abbrev Cg:Code:=C4 ae6
noncomputable def Z1(L:Nat):Cfg:=B4 L [179] (A2 [(5,[0,1,0,0,10,0])]) [] (A2 [(16,[2,0]),(15,[0,3,10,0]),(10,[0,3,10,0]),(12,[0,3,10,0]),(14,[0,3,10,0]),(8,[2,0]),(13,[0,3,1,8,0,32]),(11,[0,3,1,8,0,18]),(9,[0,3,1,8,0,5]),(7,[0,3,1,8,0]),(6,[0,3,0,9,0]),(5,[0,3,10,0,0]),(4,[0,3,10,0]),(3,[0,3]),(2,[2,0]),(1,[0,12]),(0,[0])]) [] (A2 [(0,[4]),(1,[0,3,10,0]),(2,[0,3,10,0])]) (some [2,0]) [] [] []
noncomputable def Vo{R:Type}(i:By)(v1 c g h:Int)(d:Bool)(e:By->Int->Int->Int->Option R)(f:Unit->Option R):Option R:=cond d (vl (wu8 ((wu8 (c-65))+10)) λa=>vl (bOr .u16 (Rg .u16 v1 (4:Int)) (Df a)) λb=>e i b g h) (f ())
abbrev NM(b:Code):Prop:=∀(k:Out->St Z->Option R) c v1 b2 a n4 b5,A9 (Z1 L) Q Y b ⟨gp [(0,pS c),(3,p16 v1),(1,p8 b2),(8,pI a),(0,pI n4),(32,pB b5)] 15,[],s⟩ k=Vo c v1 b2 a n4 b5 (λc v1 d a=>k .normal ⟨gp [(0,pS c),(3,p16 v1),(10,pI d),(0,pI a)] 48,[],s⟩) (λ_=>k .ret ⟨gp [(2,p16 (0:Int)),(0,pB false)] 61,[],s⟩)
theorem Au0:NM (R:=R) L Q Y s (cd [1,1,1,0,1,0,0,1,1,0,0,1,1,0,1,1,1,1,1] Cg):=by intro k e v1 a c d b;unfold Vo;kernel_rfl
noncomputable def Vp{R:Type}(o:By)(v1 a l m:Int)(r:Bool)(f:By->Int->Int->Int->Option R)(q:Unit->Option R):Option R:=cond r (vl (wu8 ((wu8 (a-97))+10)) λg=>vl (bOr .u16 (Rg .u16 v1 (4:Int)) (Df g)) λh=>f o h l m) (cond (not (ltI a 65)) (Vo o v1 a l m (not (ltI 70 a)) (λn p i j=>f n p i j) (λ_=>q ())) (Vo o v1 a l m false (λd e b c=>f d e b c) (λ_=>q ())))
abbrev AE(b:Code):Prop:=∀(k:Out->St Z->Option R) c v1 b2 a n4 b5,A9 (Z1 L) Q Y b ⟨gp [(0,pS c),(3,p16 v1),(1,p8 b2),(8,pI a),(0,pI n4),(18,pB b5)] 29,[],s⟩ k=Vp c v1 b2 a n4 b5 (λc v1 d a=>k .normal ⟨gp [(0,pS c),(3,p16 v1),(10,pI d),(0,pI a)] 48,[],s⟩) (λ_=>k .ret ⟨gp [(2,p16 (0:Int)),(0,pB false)] 61,[],s⟩)
theorem Au1(a:Code)(b:NM (R:=R) L Q Y s a):AE (R:=R) L Q Y s (cd [1,1,1,0,1,0,0,1,1,0,0,1,1,0,1,1,1] (G4 [1,1,1,0,1,0,0,1,1,0,0,1,1,0,1,1,1,1,1] a Cg)):=by intro k g v1 c e f d;unfold Vp;simp only[<-b k];kernel_rfl
theorem Au2:AE (R:=R) L Q Y s (cd [1,1,1,0,1,0,0,1,1,0,0,1,1,0,1,1,1] Cg):=by intro k e v1 a c d b;exact j1 (by kernel_rfl) (Au1 L Q Y s (cd [1,1,1,0,1,0,0,1,1,0,0,1,1,0,1,1,1,1,1] Cg) (Au0 L Q Y s) k e v1 a c d b)
noncomputable def Vq{R:Type}(p:By)(v1 a n o:Int)(r:Bool)(j:By->Int->Int->Int->Option R)(q:Unit->Option R):Option R:=cond r (vl (Df (wu8 (a-48))) λl=>vl (bOr .u16 (Rg .u16 v1 (4:Int)) l) λm=>j p m n o) (cond (not (ltI a 97)) (Vp p v1 a n o (not (ltI 102 a)) (λf h b c=>j f h b c) (λ_=>q ())) (Vp p v1 a n o false (λg i d e=>j g i d e) (λ_=>q ())))
abbrev Qh(b:Code):Prop:=∀(k:Out->St Z->Option R) c v1 b2 a n4 b5,A9 (Z1 L) Q Y b ⟨gp [(0,pS c),(3,p16 v1),(1,p8 b2),(8,pI a),(0,pI n4),(5,pB b5)] 42,[],s⟩ k=Vq c v1 b2 a n4 b5 (λc v1 d a=>k .normal ⟨gp [(0,pS c),(3,p16 v1),(10,pI d),(0,pI a)] 48,[],s⟩) (λ_=>k .ret ⟨gp [(2,p16 (0:Int)),(0,pB false)] 61,[],s⟩)
theorem Au3(a:Code)(b:AE (R:=R) L Q Y s a):Qh (R:=R) L Q Y s (cd [1,1,1,0,1,0,0,1,1,0,0,1,1,0,1] (G4 [1,1,1,0,1,0,0,1,1,0,0,1,1,0,1,1,1] a Cg)):=by intro k g v1 c e f d;unfold Vq;simp only[<-b k];kernel_rfl
theorem Au4:Qh (R:=R) L Q Y s (cd [1,1,1,0,1,0,0,1,1,0,0,1,1,0,1] Cg):=by intro k e v1 a c d b;exact j1 (by kernel_rfl) (Au3 L Q Y s (cd [1,1,1,0,1,0,0,1,1,0,0,1,1,0,1,1,1] Cg) (Au2 L Q Y s) k e v1 a c d b)
noncomputable def Er{R:Type}(L n:Nat)(b:By)(v1 q a:Int)(o:Unit->Option R)(p:Int->Option R):Option R:=match n with|0=>none|n+1=>cond (ltI a q) (cond (inR a b.length) (cond (not (ltI (bAt b a) (48:Int))) (Vq b v1 (bAt b a) q a (not (ltI 57 (bAt b a))) (λi l c d=>vl (A1 (d+1)) λe=>Er L n i l c e o p) (λ_=>o ())) (Vq b v1 (bAt b a) q a false (λj m f g=>vl (A1 (g+1)) λh=>Er L n j m f h o p) (λ_=>o ()))) none) (p v1)
theorem Au5(a:Code)(b:Qh (R:=R) L Q Y s a)(n:Nat)(d:By)(v1 i c:Int):C5 0 ((Z1 L).keep 5) (bd (Z1 L) Q Y (cd [1,1,1,0,1,0,0] (G4 [1,1,1,0,1,0,0,1,1,0,0,1,1,0,1] a Cg))) n ⟨gp [(0,pS d),(3,p16 v1),(10,pI i),(0,pI c)] 48,[],s⟩ k =
 Er L n d v1 i c (λ_=>k .ret ⟨gp [(2,p16 (0:Int)),(0,pB false)] 61,[],s⟩) (λv0=>k (.exit 0) ⟨gp [(4,p16 v0)] 60,[],s⟩):=by
 induction n generalizing d v1 i c with
 | zero=>rfl
 | succ n q=>rw[Er];exact let p:=(E1 2 (E1 1 (E0 (Z1 L) Q Y (cd [1,1,1,0,1,0,0,1,1,1] Cg) (lpK 0 ((Z1 L).keep 5) (bd (Z1 L) Q Y (cd [1,1,1,0,1,0,0] (G4 [1,1,1,0,1,0,0,1,1,0,0,1,1,0,1] a Cg))) n k))));(j1 (by kernel_rfl) (A0 (A0 (A0 ((b p d v1 (bAt d c) i c (not (ltI 57 (bAt d c)))).trans (congr (congr rfl (fx4 λj m e r=>(j1 (by kernel_rfl) (A4 λf=>(q j m e f))))) (by kernel_rfl))) ((b p d v1 (bAt d c) i c false).trans (congr (congr rfl (fx4 λl o g t=>(j1 (by kernel_rfl) (A4 λh=>(q l o g h))))) (by kernel_rfl)))) rfl) rfl))
noncomputable def B93{R:Type}(L:Nat)(c:By)(b:Int->Bool->Option R):Option R:=cond (c==[]) (b 0 false) (cond (ltI 4 (c.length:Int)) (b 0 false) (Er L L c 0 (c.length:Int) 0 (λ_=>b 0 false) (λa=>b a true)))
theorem Cs5(a:Code)(b:Qh (R:=PV × List Blk × Z) L Q Y s a)(c:By):A9 (Z1 L) Q Y (cd [] (G4 [1,1,1,0,1,0,0,1,1,0,0,1,1,0,1] a Cg)) ⟨[pS c]++tps 64,[],s⟩ (F1 (Z1 L) ae6)=B93 L c (λd e=>some (.tup [p16 d,pB e],[],s)):=by unfold B93;exact(j1 (by kernel_rfl) (A0 rfl (A0 rfl ((Au5 L Q Y s (E1 0 (E0 (Z1 L) Q Y (cd [1,1,1,1] Cg) (F1 (Z1 L) ae6))) a b L c 0 (c.length:Int) 0).trans (by kernel_rfl)))))
theorem Cs6(d:Nat)(s0):evC (Z1 L) (d+1) Z Y 179 [pS s0] [] s=B93 L s0 (λa b=>some (.tup [p16 a,pB b],[],s)):=
 (evE (fn:=ae6) (by kernel_rfl)).trans (j1 (by kernel_rfl) (Cs5 L (evC (Z1 L) d) Y s (cd [1,1,1,0,1,0,0,1,1,0,0,1,1,0,1] Cg) (Au4 L (evC (Z1 L) d) Y s) s0))
noncomputable abbrev Bf7:Code:=C4 ag5
noncomputable def Kx(L:Nat):Cfg:=B4 L [164] (A2 [(6,[1,2,0,0,0,10,0,0])]) [(109,Uu),(179,B32),(180,C73)] (A2 [(16,[4,0]),(15,[1,4,0,10,0,0]),(14,[6]),(13,[4,0]),(12,[6,5,39]),(11,[1,4,0,0,3,0]),(10,[1,4,0,10,0,0]),(9,[1,4,0,0,0,0,7,0,0,9]),(8,[1,4,0,0,0,0,0,6,0,0]),(7,[1,4,0,0,0,8,0,0]),(6,[1,4,0,10,0,0,0]),(5,[1,4,0,10,0,0]),(4,[1,4,0]),(3,[0,0,4]),(2,[4,0]),(1,[0,0,13]),(0,[0,0])]) [179,180] (A2 [(0,[6]),(1,[1,4,0,10,0,0])]) (some [4,0]) [] [] []
noncomputable def Dv{R:Type}(L n:Nat)(a:Bool)(c:LL)(l b:Int)(d:LL)(f:LL->Option R)(g:LL->Option R):Option R:=match n with|0=>none|n+1=>cond (ltI b l) (cond (inR b c.length) (cond (okE Pi c (b8 b) 0) (cond (A3 (a8 (gX c (b8 b) 0))) (vl (↑(M4 (grp (gX c (b8 b) 0))):Int) λh=>cond (j2 (grp (gX c (b8 b) 0))) (cond (F8 (d.length+1)) (Dv L n a c l (A1 (b+1)) (d++[[(SV.int .u16 h)]]) f g) none) (cond (A3 (a8 (gX c (b8 b) 0))) (vl (↑(M4 (v4B (gX c (b8 b) 0))):Int) λe=>cond (not (j2 (v4B (gX c (b8 b) 0)))) (f d) (cond (not a) (f d) (vl (A1 ((c.length:Int)-1)) λi=>cond (ltI b i) (f d) (vl (Nn .u32 e (16:Int)) λj=>cond (F8 (d.length+2)) (g (d++[[(SV.int .u16 (Df j))],[(SV.int .u16 (Df e))]])) none)))) none)) none) none) none) (g d)
theorem ZS(n last0 l1 n2 n3 l4):C5 1 ((Kx L).keep 6) (bd (Kx L) Q Y (cd [1,0,1,1,1,1,0,1,0,0] Bf7)) n ⟨gp [(1,pB last0),(4,.fl 0),(0,.s (.sl false false 1 l1)),(10,.s (.sl false false 1 l1)),(0,pI n2),(0,pI n3)] 42,[.arr true 24 1 l4],s⟩ k =
 Dv L n last0 l1 n2 n3 l4 (λa=>k .ret ⟨gp [(4,.fl 1),(0,pB false)] 57,[.arr true 24 1 a,.arr true 24 1 []],s⟩) (λa=>k (.exit 0) ⟨gp [(6,.fl 0)] 56,[.arr true 24 1 a],s⟩):=by
 induction n generalizing last0 l1 n2 n3 l4 with
 | zero=>rfl
 | succ n b=>rw[Dv];simp only[<-b];kernel_rfl
noncomputable def Bh2{R:Type}(L:Nat)(e:By)(a:Bool)(f:LL->Option R)(g:LL->Option R):Option R:=cond (e==[]) (f []) (cond (A3 e.length) (cond (1==1) (vl (D4 (pcs (b9 ([58]:List UInt8) 0 0) e)) λb=>Dv L L a b (b.length:Int) 0 [] (λd=>g d) (λc=>f c)) none) none)
theorem B94(d:Nat)(s0 last1):evC (Kx L) (d+1) Z Y 164 [pS s0,pB last1] [] s=Bh2 L s0 last1 (λb=>some (.tup [.fl 0,pB true],[.arr true 24 1 b],s)) (λb=>some (.tup [.fl 1,pB false],[.arr true 24 1 b,.arr true 24 1 []],s)):=by refine(evE (fn:=ag5) (by kernel_rfl)).trans ?_;generalize evC (Kx L) d=Q;unfold Bh2;exact(j1 (by kernel_rfl) (A0 rfl (A0 (A0 (A4 λa=>((ZS L Q Y s (E1 0 (E0 (Kx L) Q Y (cd [1,0,1,1,1,1,1] Bf7) (F1 (Kx L) ag5))) L last1 a (a.length:Int) 0 []).trans (by kernel_rfl))) rfl) rfl)))
noncomputable abbrev B68:Code:=C4 ae1
noncomputable def BT(L:Nat):Cfg:=B4 L [135] (A2 []) [(54,Ao1),(164,Bd4)] (A2 [(10,[2,0]),(9,[2,1]),(8,[2,1,5]),(7,[2,0]),(6,[2,1,3,1,45]),(5,[2,1,2,0,0,0,0,0]),(4,[2,1,2,0,0,0,0]),(3,[2,1,1,0,0,0]),(2,[2,1,0,0,0]),(1,[0,1,1]),(0,[0,1])]) [54] (A2 []) (some [2,0]) [] [] []
noncomputable def Po{R:Type}(p o d:LL)(q:LL->LL->Option R):Option R:=cond (decide (d.length=8)) (cond (decide (8<=d.length)) (vl ((y7 0 d)++((y7 8 p)++(ad0 (0+(min p.length 8)) d))) λc=>vl (A1 ((8:Int)-(o.length:Int))) λb=>cond (decide (c.length=8)) (cond (I1 b (8:Int) 8) (cond (decide (((b8 b)+(8-(b8 b)))<=c.length)) (vl ((y7 (b8 b) c)++((y7 (8-(b8 b)) o)++(ad0 ((b8 b)+(min o.length (8-(b8 b)))) c))) λa=>cond ((decide (8=(a.length*1)))&&(okS ⟨true,true,[.int .u16,.int .u16,.int .u16,.int .u16,.int .u16,.int .u16,.int .u16,.int .u16]⟩ (c9 a) 0)) (vl (SV.gI (b9 (c9 a) 0 SV.nilp)) λf=>vl (SV.gI (b9 (c9 a) 1 SV.nilp)) λg=>vl (SV.gI (b9 (c9 a) 2 SV.nilp)) λh=>vl (SV.gI (b9 (c9 a) 3 SV.nilp)) λi=>vl (SV.gI (b9 (c9 a) 4 SV.nilp)) λj=>vl (SV.gI (b9 (c9 a) 5 SV.nilp)) λl=>vl (SV.gI (b9 (c9 a) 6 SV.nilp)) λm=>vl (SV.gI (b9 (c9 a) 7 SV.nilp)) λn=>cond (decide (8=(d.length*1))) (vl (R8 1 d.length [(SV.int .u16 f),(SV.int .u16 g),(SV.int .u16 h),(SV.int .u16 i),(SV.int .u16 j),(SV.int .u16 l),(SV.int .u16 m),(SV.int .u16 n)]) λe=>q e a) none) none) none) none) none) none) none
abbrev Ak3(b:Code):Prop:=∀(k:Out->St Z->Option R) x_z0 x1 y_z2 y3 b4 l5,A9 (BT L) Q Y b ⟨gp [(2,.ptr 0 0 0),(1,.ptr 1 0 0),(3,.s (.sl x_z0 x_z0 1 x1)),(1,.s (.sl y_z2 y_z2 1 y3)),(45,pB b4)] 11,[.arr false 25 1 l5,.arr false 25 1 l5],s⟩ k=Po x1 y3 l5 (λa c=>k .ret ⟨gp [(2,.ptr 0 0 0),(0,pB true)] 64,[.arr false 25 1 a,.arr false 25 1 c],s⟩)
theorem B14:Ak3 (R:=R) L Q Y s (cd [1,1,1,1,1,1,1] B68):=by intro k a e b f c d;unfold Po;kernel_rfl
noncomputable def v6p{R:Type}(L:Nat)(h:By)(g:Int->Int->Int->Int->Int->Int->Int->Int->Bool->LL->LL->Option R):Option R:=cond (A3 h.length) (vl ((w9 h ([58,58]:List UInt8))).1 λj=>vl (((w9 h ([58,58]:List UInt8))).2).1 λe=>cond (A3 j.length) (vl (C9 (gvs j (not (((w9 h ([58,58]:List UInt8))).2).2))) λf=>cond (A3 e.length) (vl (A1 ((f.length:Int)+(↑(a8 (C9 (gvs e true))):Int))) λi=>cond (not (j2 (P3 j (not (((w9 h ([58,58]:List UInt8))).2).2)))) (g 0 0 0 0 0 0 0 0 false (j0 8 [(SV.int .u16 (0:Int))]) (j0 8 [(SV.int .u16 (0:Int))])) (cond (not (j2 (P3 e true))) (g 0 0 0 0 0 0 0 0 false (j0 8 [(SV.int .u16 (0:Int))]) (j0 8 [(SV.int .u16 (0:Int))])) (cond (not (((w9 h ([58,58]:List UInt8))).2).2) (cond (i !=8) (g 0 0 0 0 0 0 0 0 false (j0 8 [(SV.int .u16 (0:Int))]) (j0 8 [(SV.int .u16 (0:Int))])) (cond (((w9 h ([58,58]:List UInt8))).2).2 (cond (ltI 7 i) (g 0 0 0 0 0 0 0 0 false (j0 8 [(SV.int .u16 (0:Int))]) (j0 8 [(SV.int .u16 (0:Int))])) (Po f (C9 (gvs e true)) (j0 8 [(SV.int .u16 (0:Int))]) (λa l=>cond ((decide (8=(a.length*1)))&&(okS ⟨true,true,[.int .u16,.int .u16,.int .u16,.int .u16,.int .u16,.int .u16,.int .u16,.int .u16]⟩ (c9 a) 0)) (g (SV.gI (b9 (c9 a) 0 SV.nilp)) (SV.gI (b9 (c9 a) 1 SV.nilp)) (SV.gI (b9 (c9 a) 2 SV.nilp)) (SV.gI (b9 (c9 a) 3 SV.nilp)) (SV.gI (b9 (c9 a) 4 SV.nilp)) (SV.gI (b9 (c9 a) 5 SV.nilp)) (SV.gI (b9 (c9 a) 6 SV.nilp)) (SV.gI (b9 (c9 a) 7 SV.nilp)) true a l) none))) (Po f (C9 (gvs e true)) (j0 8 [(SV.int .u16 (0:Int))]) (λb m=>cond ((decide (8=(b.length*1)))&&(okS ⟨true,true,[.int .u16,.int .u16,.int .u16,.int .u16,.int .u16,.int .u16,.int .u16,.int .u16]⟩ (c9 b) 0)) (g (SV.gI (b9 (c9 b) 0 SV.nilp)) (SV.gI (b9 (c9 b) 1 SV.nilp)) (SV.gI (b9 (c9 b) 2 SV.nilp)) (SV.gI (b9 (c9 b) 3 SV.nilp)) (SV.gI (b9 (c9 b) 4 SV.nilp)) (SV.gI (b9 (c9 b) 5 SV.nilp)) (SV.gI (b9 (c9 b) 6 SV.nilp)) (SV.gI (b9 (c9 b) 7 SV.nilp)) true b m) none)))) (cond (((w9 h ([58,58]:List UInt8))).2).2 (cond (ltI 7 i) (g 0 0 0 0 0 0 0 0 false (j0 8 [(SV.int .u16 (0:Int))]) (j0 8 [(SV.int .u16 (0:Int))])) (Po f (C9 (gvs e true)) (j0 8 [(SV.int .u16 (0:Int))]) (λc n=>cond ((decide (8=(c.length*1)))&&(okS ⟨true,true,[.int .u16,.int .u16,.int .u16,.int .u16,.int .u16,.int .u16,.int .u16,.int .u16]⟩ (c9 c) 0)) (g (SV.gI (b9 (c9 c) 0 SV.nilp)) (SV.gI (b9 (c9 c) 1 SV.nilp)) (SV.gI (b9 (c9 c) 2 SV.nilp)) (SV.gI (b9 (c9 c) 3 SV.nilp)) (SV.gI (b9 (c9 c) 4 SV.nilp)) (SV.gI (b9 (c9 c) 5 SV.nilp)) (SV.gI (b9 (c9 c) 6 SV.nilp)) (SV.gI (b9 (c9 c) 7 SV.nilp)) true c n) none))) (Po f (C9 (gvs e true)) (j0 8 [(SV.int .u16 (0:Int))]) (λd o=>cond ((decide (8=(d.length*1)))&&(okS ⟨true,true,[.int .u16,.int .u16,.int .u16,.int .u16,.int .u16,.int .u16,.int .u16,.int .u16]⟩ (c9 d) 0)) (g (SV.gI (b9 (c9 d) 0 SV.nilp)) (SV.gI (b9 (c9 d) 1 SV.nilp)) (SV.gI (b9 (c9 d) 2 SV.nilp)) (SV.gI (b9 (c9 d) 3 SV.nilp)) (SV.gI (b9 (c9 d) 4 SV.nilp)) (SV.gI (b9 (c9 d) 5 SV.nilp)) (SV.gI (b9 (c9 d) 6 SV.nilp)) (SV.gI (b9 (c9 d) 7 SV.nilp)) true d o) none)))))) none) none) none
theorem De3(b:Code)(a:Ak3 (R:=PV × List Blk × Z) L Q Y s b)(f:By):A9 (BT L) Q Y (cd [] (G4 [1,1,1,1,1,1,1] b B68)) ⟨[pS f]++tps 67,[],s⟩ (F1 (BT L) ae1)=v6p L f (λj l m n o p q r r8 i l10=>some (.tup [.agg [p16 j,p16 l,p16 m,p16 n,p16 o,p16 p,p16 q,p16 r],pB r8],[.arr false 25 1 i,.arr false 25 1 l10],s)):=by unfold v6p;exact let h:=(F1 (BT L) ae1);(j1 (by kernel_rfl) (A0 (A4 λe=>(A4 λc=>(A0 (A4 λd=>(A0 (A4 λg=>(A0 rfl (A0 rfl (A0 (A0 rfl (A0 (A0 rfl ((a h (j8 (gvs e (not (((w9 f ([58,58]:List UInt8))).2).2))) d (j8 (gvs c true)) (C9 (gvs c true)) (ltI 7 g) (j0 8 [(SV.int .u16 (0:Int))])).trans (by kernel_rfl))) ((a h (j8 (gvs e (not (((w9 f ([58,58]:List UInt8))).2).2))) d (j8 (gvs c true)) (C9 (gvs c true)) false (j0 8 [(SV.int .u16 (0:Int))])).trans (by kernel_rfl)))) (A0 (A0 rfl ((a h (j8 (gvs e (not (((w9 f ([58,58]:List UInt8))).2).2))) d (j8 (gvs c true)) (C9 (gvs c true)) (ltI 7 g) (j0 8 [(SV.int .u16 (0:Int))])).trans (by kernel_rfl))) ((a h (j8 (gvs e (not (((w9 f ([58,58]:List UInt8))).2).2))) d (j8 (gvs c true)) (C9 (gvs c true)) false (j0 8 [(SV.int .u16 (0:Int))])).trans (by kernel_rfl))))))) rfl)) rfl))) rfl))
theorem De4(d:Nat)(s0):evC (BT L) (d+1) Z Y 135 [pS s0] [] s=v6p L s0 (λb c e f g h i j r8 a l10=>some (.tup [.agg [p16 b,p16 c,p16 e,p16 f,p16 g,p16 h,p16 i,p16 j],pB r8],[.arr false 25 1 a,.arr false 25 1 l10],s)):=
 (evE (fn:=ae1) (by kernel_rfl)).trans (j1 (by kernel_rfl) (De3 L (evC (BT L) d) Y s (cd [1,1,1,1,1,1,1] B68) (B14 L (evC (BT L) d) Y s) s0))
noncomputable abbrev Qa:Code:=C4 ah9
noncomputable def Y0(L:Nat):Cfg:=B4 L [95] (A2 [(6,[1,0,0,0,0,0,0,0]),(3,[1,0,0,0,0,2])]) [] (A2 [(11,[2,0]),(10,[1,2,0,2]),(9,[1,2,0,2]),(8,[1,2,0,0,0,0,18]),(7,[1,2,0,0,0,0]),(6,[1,2,0,0,0,0,13]),(5,[1,2,0,0,0,0]),(4,[1,2,0,0,1]),(3,[1,2,0,2,0]),(2,[1,2,0,2]),(1,[1,2,0]),(0,[1])]) [] (A2 [(0,[4,0]),(1,[1,2,0,2]),(2,[1,2,0,0,0,0]),(3,[1,2,0,0,0,0])]) (some [2,0]) [] [] []
noncomputable def Hr{R:Type}(L n:Nat)(b a c d:Int)(e:LL)(f:Int->Int->Int->Int->LL->Option R):Option R:=match n with|0=>none|n+1=>cond (ltI (A1 (c+d)) (8:Int)) (cond (inR (A1 (c+d)) 8) (cond (okE ⟨true,false,[.int .u16]⟩ e (b8 (A1 (c+d))) 0) (vl (gE e (b8 (A1 (c+d))) 0) λg=>cond (g==0) (Hr L n b a c (A1 (d+1)) e f) (f b a c d e)) none) none) (f b a c d e)
theorem Al6(n b a c e d):C5 1 ((Y0 L).keep 6) (bd (Y0 L) Q Y (cd [1,1,0,1,0,0,1,1,0,0,1,1,0,0,0] Qa)) n ⟨gp [(1,.ptr 0 0 0),(2,pI b),(0,pI a),(0,pI c),(0,pI e),(0,pI c)] 24,[.arr false 25 1 d],s⟩ k =
 Hr L n b a c e d (λb a c e d=>k (.exit 2) ⟨gp [(1,.ptr 0 0 0),(2,pI b),(0,pI a),(0,pI c),(0,pI e),(0,pI c)] 24,[.arr false 25 1 d],s⟩):=by
 induction n generalizing b a c e d with
 | zero=>rfl
 | succ n f=>rw[Hr];simp only[<-f];kernel_rfl
noncomputable def Ed{R:Type}(L n:Nat)(e b j:Int)(i:LL)(h:Int->Int->LL->Option R):Option R:=match n with|0=>none|n+1=>cond (ltI j 8) (Hr L L e b j 0 i (λd a c g f=>cond (ltI a g) (Ed L n c g (A1 (c+1)) f h) (Ed L n d a (A1 (c+1)) f h))) (h e b i)
theorem Al7(n b a n2 l3):C5 1 ((Y0 L).keep 3) (bd (Y0 L) Q Y (cd [1,1,0,1,0,0] Qa)) n ⟨gp [(1,.ptr 0 0 0),(2,pI b),(0,pI a),(2,pI n2)] 24,[.arr false 25 1 l3],s⟩ k =
 Ed L n b a n2 l3 (λb a i=>k (.exit 0) ⟨gp [(4,pI b),(0,pI a)] 27,[.arr false 25 1 i],s⟩):=by
 induction n generalizing b a n2 l3 with
 | zero=>rfl
 | succ n h=>rw[Ed];exact(j1 (by kernel_rfl) (A0 ((Al6 L Q Y s (E1 2 (E0 (Y0 L) Q Y (cd [1,1,0,1,0,0,1,1,0,0,1,1,1] Qa) (E1 1 (E0 (Y0 L) Q Y (cd [1,1,0,1,0,0,1,1,1] Qa) (lpK 1 ((Y0 L).keep 3) (bd (Y0 L) Q Y (cd [1,1,0,1,0,0] Qa)) n k))))) L b a n2 0 l3).trans (congr rfl (fx5 λe c d g f=>(j1 (by kernel_rfl) (A0 (h d g (A1 (d+1)) f) (h e c (A1 (d+1)) f)))))) rfl))
noncomputable def Bn2{R:Type}(L:Nat)(d e f g h i j l:Int)(m:Int->Int->LL->Option R):Option R:=Ed L L 0 0 0 [[(SV.int .u16 d)],[(SV.int .u16 e)],[(SV.int .u16 f)],[(SV.int .u16 g)],[(SV.int .u16 h)],[(SV.int .u16 i)],[(SV.int .u16 j)],[(SV.int .u16 l)]] (λb a c=>m b a c)
theorem Cp1(d:Nat)(a0 a1 a2 a3 a4 a5 a6 a7):evC (Y0 L) (d+1) Z Y 95 [.agg [p16 a0,p16 a1,p16 a2,p16 a3,p16 a4,p16 a5,p16 a6,p16 a7]] [] s=Bn2 L a0 a1 a2 a3 a4 a5 a6 a7 (λb c a=>some (.tup [pI b,pI c],[.arr false 25 1 a],s)):=by refine(evE (fn:=ah9) (by kernel_rfl)).trans ?_;generalize evC (Y0 L) d=Q;unfold Bn2;exact(j1 (by kernel_rfl) ((Al7 L Q Y s (E1 0 (E0 (Y0 L) Q Y (cd [1,1,1] Qa) (F1 (Y0 L) ah9))) L 0 0 0 [[(SV.int .u16 a0)],[(SV.int .u16 a1)],[(SV.int .u16 a2)],[(SV.int .u16 a3)],[(SV.int .u16 a4)],[(SV.int .u16 a5)],[(SV.int .u16 a6)],[(SV.int .u16 a7)]]).trans (by kernel_rfl)))
noncomputable abbrev C80:Code:=C4 ai0
noncomputable def HO(L:Nat):Cfg:=B4 L [96] (A2 [(3,[2,0,2,0,0])]) [(128,B31),(111,RZ)] (A2 [(7,[2]),(6,[3,2,0,0]),(5,[3,2,0,0]),(4,[3,1,0,0,0]),(3,[3,2,0,0,0]),(2,[3,2,0,0]),(1,[0,2]),(0,[0])]) [128,111] (A2 [(0,[3]),(1,[3,2,0,0])]) (some [2]) [] [] []
noncomputable def Ul{R:Type}(L n:Nat)(h g:Bool)(c:LL)(f b:Int)(d:LL)(e:LL->Option R):Option R:=match n with|0=>none|n+1=>cond (ltI b f) (cond (inR b c.length) (cond (okE ⟨true,false,[.int .u16]⟩ c (b8 b) 0) (vl (De8 (gE c (b8 b) 0)) λa=>cond (ltN a 65536) (cond ((16:Int)==16) (cond (F8 (d.length+1)) (Ul L n h g c f (A1 (b+1)) (d++[[(SV.str (R3 (b8 a)))]]) e) none) none) none) none) none) (e d)
theorem B13(n z0 t1 l2 n3 n4 l5):C5 1 ((HO L).keep 3) (bd (HO L) Q Y (cd [1,1,0,1,0,0] C80)) n ⟨gp [(3,.fl 0),(2,.s (.sl z0 t1 1 l2)),(0,pI n3),(0,pI n4)] 12,[.arr true 9 1 l5],s⟩ k =
 Ul L n z0 t1 l2 n3 n4 l5 (λb=>k (.exit 0) ⟨gp [(3,.fl 0)] 17,[.arr true 9 1 b],s⟩):=by
 induction n generalizing z0 t1 l2 n3 n4 l5 with
 | zero=>rfl
 | succ n a=>rw[Ul];simp only[<-a];kernel_rfl
noncomputable def v6j{R:Type}(L:Nat)(c b:Bool)(e:LL)(f:By->LL->Option R):Option R:=Ul L L c b e (e.length:Int) 0 [] (λa=>cond (x3 a isS) (cond (A3 (a8 (ac7 (s7 elS a) ([58]:List UInt8)))) (cond (A3 a.length) (vl (ac7 (s7 elS a) ([58]:List UInt8)) λd=>f d a) none) none) none)
theorem De1(d:Nat)(l_z0 l_t1 l2):evC (HO L) (d+1) Z Y 96 [.s (.sl l_z0 l_t1 1 l2)] [] s=v6j L l_z0 l_t1 l2 (λb a=>some (pS b,[.arr true 9 1 a],s)):=by refine(evE (fn:=ai0) (by kernel_rfl)).trans ?_;generalize evC (HO L) d=Q;unfold v6j;exact(j1 (by kernel_rfl) ((B13 L Q Y s (E1 0 (E0 (HO L) Q Y (cd [1,1,1] C80) (F1 (HO L) ai0))) L l_z0 l_t1 l2 (l2.length:Int) 0 []).trans (by kernel_rfl)))
noncomputable def B74(L:Nat):Cfg:=B4 L [68] (A2 []) [(95,Bf5),(96,C75)] (A2 [(4,[2]),(3,[2]),(2,[1,1,0,6]),(1,[1,1,0]),(0,[1])]) [95,96] (A2 []) (some [2]) [] [] []
noncomputable def v6f{R:Type}(L:Nat)(c d e f g h i j:Int)(p:By->LL->Option R):Option R:=cond (ok8 c d e f g h i j) (vl (↑((zGo (n8 c d e f g h i j) 0 0 0)).1:Int) λa=>vl (↑((zGo (n8 c d e f g h i j) 0 0 0)).2:Int) λb=>cond (ltI b 2) (cond (x3 [[(SV.int .u16 c)],[(SV.int .u16 d)],[(SV.int .u16 e)],[(SV.int .u16 f)],[(SV.int .u16 g)],[(SV.int .u16 h)],[(SV.int .u16 i)],[(SV.int .u16 j)]] Vz) (cond (v8 8 8) (vl (T0 (s7 elN [[(SV.int .u16 c)],[(SV.int .u16 d)],[(SV.int .u16 e)],[(SV.int .u16 f)],[(SV.int .u16 g)],[(SV.int .u16 h)],[(SV.int .u16 i)],[(SV.int .u16 j)]])) λo=>p o [[(SV.int .u16 c)],[(SV.int .u16 d)],[(SV.int .u16 e)],[(SV.int .u16 f)],[(SV.int .u16 g)],[(SV.int .u16 h)],[(SV.int .u16 i)],[(SV.int .u16 j)]]) none) none) (cond (I1 0 a 8) (cond (x3 (y7 ((b8 a)-0) [[(SV.int .u16 c)],[(SV.int .u16 d)],[(SV.int .u16 e)],[(SV.int .u16 f)],[(SV.int .u16 g)],[(SV.int .u16 h)],[(SV.int .u16 i)],[(SV.int .u16 j)]]) Vz) (cond (v8 (a8 (y7 ((b8 a)-0) [[(SV.int .u16 c)],[(SV.int .u16 d)],[(SV.int .u16 e)],[(SV.int .u16 f)],[(SV.int .u16 g)],[(SV.int .u16 h)],[(SV.int .u16 i)],[(SV.int .u16 j)]])) 8) (vl (T0 (s7 elN (y7 ((b8 a)-0) [[(SV.int .u16 c)],[(SV.int .u16 d)],[(SV.int .u16 e)],[(SV.int .u16 f)],[(SV.int .u16 g)],[(SV.int .u16 h)],[(SV.int .u16 i)],[(SV.int .u16 j)]]))) λl=>cond (D6 l.length 2) (vl (l++[58,58]) λm=>cond (I1 (A1 (a+b)) (8:Int) 8) (cond (x3 (y7 (8-(b8 (A1 (a+b)))) (ad0 (b8 (A1 (a+b))) [[(SV.int .u16 c)],[(SV.int .u16 d)],[(SV.int .u16 e)],[(SV.int .u16 f)],[(SV.int .u16 g)],[(SV.int .u16 h)],[(SV.int .u16 i)],[(SV.int .u16 j)]])) Vz) (cond (v8 (a8 (y7 (8-(b8 (A1 (a+b)))) (ad0 (b8 (A1 (a+b))) [[(SV.int .u16 c)],[(SV.int .u16 d)],[(SV.int .u16 e)],[(SV.int .u16 f)],[(SV.int .u16 g)],[(SV.int .u16 h)],[(SV.int .u16 i)],[(SV.int .u16 j)]]))) 8) (vl (T0 (s7 elN (y7 (8-(b8 (A1 (a+b)))) (ad0 (b8 (A1 (a+b))) [[(SV.int .u16 c)],[(SV.int .u16 d)],[(SV.int .u16 e)],[(SV.int .u16 f)],[(SV.int .u16 g)],[(SV.int .u16 h)],[(SV.int .u16 i)],[(SV.int .u16 j)]])))) λn=>cond (D6 m.length n.length) (p (m++n) [[(SV.int .u16 c)],[(SV.int .u16 d)],[(SV.int .u16 e)],[(SV.int .u16 f)],[(SV.int .u16 g)],[(SV.int .u16 h)],[(SV.int .u16 i)],[(SV.int .u16 j)]]) none) none) none) none) none) none) none) none)) none
theorem Dd9(d:Nat)(a0 a1 a2 a3 a4 a5 a6 a7):evC (B74 L) (d+1) Z Y 68 [.agg [p16 a0,p16 a1,p16 a2,p16 a3,p16 a4,p16 a5,p16 a6,p16 a7]] [] s=v6f L a0 a1 a2 a3 a4 a5 a6 a7 (λb a=>some (pS b,[.arr false 25 1 a],s)):=by refine(evE (fn:=Tryz.f68) (by kernel_rfl)).trans ?_;generalize evC (B74 L) d=Q;unfold v6f;kernel_rfl
noncomputable abbrev Ch:Code:=C4 ae2
noncomputable def Z3(L:Nat):Cfg:=B4 L [146] (A2 [(5,[0,1,0,0,0])]) [] (A2 [(15,[2,0]),(6,[0,3,0]),(10,[0,3,0]),(12,[0,3,0]),(14,[0,3,0]),(8,[2,0]),(13,[0,3,0,0,44]),(11,[0,3,0,0,30]),(9,[0,3,0,0,17]),(7,[0,3,0,0]),(5,[0,3,0,12]),(4,[0,3,0]),(3,[0,3]),(2,[2,0]),(1,[0,13]),(0,[0])]) [] (A2 [(0,[4]),(1,[0,3,0]),(2,[0,3,0])]) (some [2,0]) [] [] []
noncomputable def Wq{R:Type}(j:By)(i f d:Int)(e:Bool)(g:By->Int->Int->Option R)(h:Unit->Option R):Option R:=cond e (vl (A1 (wu8 (d-65))) λa=>vl (A1 ((A1 (i*16))+a)) λb=>vl (A1 (b+10)) λc=>g j c f) (h ())
abbrev OJ(b:Code):Prop:=∀(k:Out->St Z->Option R) d c a b3 b4,A9 (Z3 L) Q Y b ⟨gp [(0,pS d),(3,pI c),(0,pI a),(0,p8 b3),(44,pB b4)] 15,[],s⟩ k=Wq d c a b3 b4 (λd c a=>k .normal ⟨gp [(0,pS d),(3,pI c),(0,pI a)] 61,[],s⟩) (λ_=>k .ret ⟨gp [(2,p16 (0:Int)),(0,pB false)] 63,[],s⟩)
theorem A23:OJ (R:=R) L Q Y s (cd [1,1,1,0,1,0,0,1,0,0,1,0,1,1,1,1,1] Ch):=by intro k e d c a b;unfold Wq;kernel_rfl
noncomputable def Wr{R:Type}(o:By)(m f a:Int)(q:Bool)(g:By->Int->Int->Option R)(p:Unit->Option R):Option R:=cond q (vl (A1 (wu8 (a-97))) λh=>vl (A1 ((A1 (m*16))+h)) λi=>vl (A1 (i+10)) λj=>g o j f) (cond (not (ltI a 65)) (Wq o m f a (not (ltI 70 a)) (λn l b=>g n l b) (λ_=>p ())) (Wq o m f a false (λe d c=>g e d c) (λ_=>p ())))
abbrev AY(b:Code):Prop:=∀(k:Out->St Z->Option R) d c a b3 b4,A9 (Z3 L) Q Y b ⟨gp [(0,pS d),(3,pI c),(0,pI a),(0,p8 b3),(30,pB b4)] 29,[],s⟩ k=Wr d c a b3 b4 (λd c a=>k .normal ⟨gp [(0,pS d),(3,pI c),(0,pI a)] 61,[],s⟩) (λ_=>k .ret ⟨gp [(2,p16 (0:Int)),(0,pB false)] 63,[],s⟩)
theorem A24(a:Code)(b:OJ (R:=R) L Q Y s a):AY (R:=R) L Q Y s (cd [1,1,1,0,1,0,0,1,0,0,1,0,1,1,1] (G4 [1,1,1,0,1,0,0,1,0,0,1,0,1,1,1,1,1] a Ch)):=by intro k g f e c d;unfold Wr;simp only[<-b k];kernel_rfl
theorem A25:AY (R:=R) L Q Y s (cd [1,1,1,0,1,0,0,1,0,0,1,0,1,1,1] Ch):=by intro k e d c a b;exact j1 (by kernel_rfl) (A24 L Q Y s (cd [1,1,1,0,1,0,0,1,0,0,1,0,1,1,1,1,1] Ch) (A23 L Q Y s) k e d c a b)
noncomputable def Ws{R:Type}(n:By)(m h a:Int)(p:Bool)(i:By->Int->Int->Option R)(o:Unit->Option R):Option R:=cond p (vl (A1 (wu8 (a-48))) λj=>vl (A1 ((A1 (m*16))+j)) λl=>i n l h) (cond (not (ltI a 97)) (Wr n m h a (not (ltI 102 a)) (λf d b=>i f d b) (λ_=>o ())) (Wr n m h a false (λg e c=>i g e c) (λ_=>o ())))
abbrev Qr(b:Code):Prop:=∀(k:Out->St Z->Option R) d c a b3 b4,A9 (Z3 L) Q Y b ⟨gp [(0,pS d),(3,pI c),(0,pI a),(0,p8 b3),(17,pB b4)] 42,[],s⟩ k=Ws d c a b3 b4 (λd c a=>k .normal ⟨gp [(0,pS d),(3,pI c),(0,pI a)] 61,[],s⟩) (λ_=>k .ret ⟨gp [(2,p16 (0:Int)),(0,pB false)] 63,[],s⟩)
theorem A26(a:Code)(b:AY (R:=R) L Q Y s a):Qr (R:=R) L Q Y s (cd [1,1,1,0,1,0,0,1,0,0,1,0,1] (G4 [1,1,1,0,1,0,0,1,0,0,1,0,1,1,1] a Ch)):=by intro k g f e c d;unfold Ws;simp only[<-b k];kernel_rfl
theorem A27:Qr (R:=R) L Q Y s (cd [1,1,1,0,1,0,0,1,0,0,1,0,1] Ch):=by intro k e d c a b;exact j1 (by kernel_rfl) (A26 L Q Y s (cd [1,1,1,0,1,0,0,1,0,0,1,0,1,1,1] Ch) (A25 L Q Y s) k e d c a b)
noncomputable def Fa{R:Type}(L n:Nat)(b:By)(o a:Int)(l:Unit->Option R)(m:Int->Option R):Option R:=match n with|0=>none|n+1=>cond (ltI a (b.length:Int)) (cond (inR a b.length) (cond (not (ltI (bAt b a) (48:Int))) (Ws b o a (bAt b a) (not (ltI 57 (bAt b a))) (λi e c=>vl (A1 (c+1)) λf=>Fa L n i e f l m) (λ_=>l ())) (Ws b o a (bAt b a) false (λj g d=>vl (A1 (d+1)) λh=>Fa L n j g h l m) (λ_=>l ()))) none) (m o)
theorem A28(a:Code)(b:Qr (R:=R) L Q Y s a)(n:Nat)(d:By)(i c:Int):C5 0 ((Z3 L).keep 5) (bd (Z3 L) Q Y (cd [1,1,1,0,1,0,0] (G4 [1,1,1,0,1,0,0,1,0,0,1,0,1] a Ch))) n ⟨gp [(0,pS d),(3,pI i),(0,pI c)] 61,[],s⟩ k =
 Fa L n d i c (λ_=>k .ret ⟨gp [(2,p16 (0:Int)),(0,pB false)] 63,[],s⟩) (λn0=>k (.exit 0) ⟨gp [(4,pI n0)] 62,[],s⟩):=by
 induction n generalizing d i c with
 | zero=>rfl
 | succ n q=>rw[Fa];exact let m:=(E1 2 (E1 1 (E0 (Z3 L) Q Y (cd [1,1,1,0,1,0,0,1,1] Ch) (lpK 0 ((Z3 L).keep 5) (bd (Z3 L) Q Y (cd [1,1,1,0,1,0,0] (G4 [1,1,1,0,1,0,0,1,0,0,1,0,1] a Ch))) n k))));(j1 (by kernel_rfl) (A0 (A0 (A0 ((b m d i c (bAt d c) (not (ltI 57 (bAt d c)))).trans (congr (congr rfl (fx3 λj e o=>(j1 (by kernel_rfl) (A4 λf=>(q j e f))))) (by kernel_rfl))) ((b m d i c (bAt d c) false).trans (congr (congr rfl (fx3 λl g p=>(j1 (by kernel_rfl) (A4 λh=>(q l g h))))) (by kernel_rfl)))) rfl) rfl))
noncomputable def Ce3{R:Type}(L:Nat)(c:By)(b:Int->Bool->Option R):Option R:=cond (ltI (c.length:Int) (1:Int)) (b 0 false) (cond (ltI 4 (c.length:Int)) (b 0 false) (Fa L L c 0 0 (λ_=>b 0 false) (λa=>b (Df a) true)))
theorem Cy9(a:Code)(b:Qr (R:=PV × List Blk × Z) L Q Y s a)(c:By):A9 (Z3 L) Q Y (cd [] (G4 [1,1,1,0,1,0,0,1,0,0,1,0,1] a Ch)) ⟨[pS c]++tps 66,[],s⟩ (F1 (Z3 L) ae2)=Ce3 L c (λd e=>some (.tup [p16 d,pB e],[],s)):=by unfold Ce3;exact(j1 (by kernel_rfl) (A0 rfl (A0 rfl ((A28 L Q Y s (E1 0 (E0 (Z3 L) Q Y (cd [1,1,1,1] Ch) (F1 (Z3 L) ae2))) a b L c 0 0).trans (by kernel_rfl)))))
theorem Cz0(d:Nat)(s0):evC (Z3 L) (d+1) Z Y 146 [pS s0] [] s=Ce3 L s0 (λa b=>some (.tup [p16 a,pB b],[],s)):=
 (evE (fn:=ae2) (by kernel_rfl)).trans (j1 (by kernel_rfl) (Cy9 L (evC (Z3 L) d) Y s (cd [1,1,1,0,1,0,0,1,0,0,1,0,1] Ch) (A27 L (evC (Z3 L) d) Y s) s0))
noncomputable abbrev El:Code:=C4 ad8
noncomputable def Q5(L:Nat):Cfg:=B4 L [114] (A2 [(6,[1,2,0,0,0,0])]) [(88,Jm),(145,B47),(146,B44)] (A2 [(15,[4,0]),(7,[1,4,0,0]),(14,[1,4,0,0]),(13,[4,0]),(12,[1,4,0,0,2,47]),(11,[1,4,0,0,2,0]),(10,[1,4,0,0]),(9,[1,4,0,0,0,31]),(8,[1,4,0,0,0,0]),(6,[1,4,0,0,11]),(5,[1,4,0,0]),(4,[1,4,0]),(3,[0,0,4]),(2,[4,0]),(1,[0,0,12]),(0,[0,0])]) [145,146] (A2 [(0,[6]),(1,[1,4,0,0])]) (some [4,0]) [] [] []
noncomputable def Kd{R:Type}(a:Bool)(g:LL)(f d:Int)(e:Bool)(c:LL)(h:Bool->LL->Int->LL->Option R)(i:Bool->LL->Int->Int->Bool->LL->Option R):Option R:=cond e (vl (Nn .u32 d (16:Int)) λb=>cond (F8 (c.length+2)) (h a g f (c++[[(SV.int .u16 (Df b))],[(SV.int .u16 (Df d))]])) none) (i a g f d e c)
abbrev Tt(b:Code):Prop:=∀(k:Out->St Z->Option R) a d c g e f,A9 (Q5 L) Q Y b ⟨gp [(1,pB a),(4,.fl 0),(0,.s (.sl false false 1 d)),(0,pI c),(0,p32 g),(31,pB e)] 23,[.arr true 24 1 f],s⟩ k=Kd a d c g e f (λa d c h=>k (.exit 1) ⟨gp [(1,pB a),(4,.fl 0),(0,.s (.sl false false 1 d)),(0,pI c)] 56,[.arr true 24 1 h],s⟩) (λa d c g e f=>k .normal ⟨gp [(1,pB a),(4,.fl 0),(0,.s (.sl false false 1 d)),(0,pI c),(0,p32 g),(31,pB e)] 23,[.arr true 24 1 f],s⟩)
theorem Ac9:Tt (R:=R) L Q Y s (cd [1,1,1,1,0,1,0,0,1,0,0,0,1,1] El):=by intro k a e c f b d;unfold Kd;kernel_rfl
noncomputable def Ke{R:Type}(a:Bool)(c:LL)(b:Int)(e:LL)(f:LL->Option R)(g:Bool->LL->Int->LL->Option R):Option R:=cond (inR b c.length) (cond (okE Pi c (b8 b) 0) (cond (A3 (a8 (gX c (b8 b) 0))) (vl (↑(M4 (grp (gX c (b8 b) 0))):Int) λd=>cond (not (j2 (grp (gX c (b8 b) 0)))) (f e) (cond (F8 (e.length+1)) (g a c b (e++[[(SV.int .u16 d)]])) none)) none) none) none
abbrev Tu(b:Code):Prop:=∀(k:Out->St Z->Option R) a d c v3 b4 l5,A9 (Q5 L) Q Y b ⟨gp [(1,pB a),(4,.fl 0),(0,.s (.sl false false 1 d)),(0,pI c),(0,p32 v3),(31,pB b4)] 23,[.arr true 24 1 l5],s⟩ k=Ke a d c l5 (λe=>k .ret ⟨gp [(4,.fl 1),(0,pB false)] 59,[.arr true 24 1 e,.arr true 24 1 []],s⟩) (λa d c f=>k .normal ⟨gp [(1,pB a),(4,.fl 0),(0,.s (.sl false false 1 d)),(0,pI c)] 56,[.arr true 24 1 f],s⟩)
theorem Ad0:Tu (R:=R) L Q Y s (cd [1,1,1,1,0,1,0,0,1,0,0,1] El):=by intro k a e c f b d;unfold Ke;kernel_rfl
noncomputable def P8{R:Type}(L n:Nat)(a:Bool)(m:LL)(l:Int)(l3:LL)(o:LL->Option R)(p:LL->Option R):Option R:=match n with|0=>none|n+1=>cond (ltI l (m.length:Int)) (cond (inR l m.length) (cond (okE Pi m (b8 l) 0) (cond (A3 (a8 (gX m (b8 l) 0))) (vl (↑(M4 (v4B (gX m (b8 l) 0))):Int) λq=>cond (j2 (v4B (gX m (b8 l) 0))) (cond a (vl (A1 ((m.length:Int)-1)) λa9=>Kd a m l q (l==a9) l3 (λb X r B=>vl (A1 (r+1)) λP=>P8 L n b X P B o p) (λc a0 t b3 b0 C=>Ke c a0 t C (λD=>o D) (λd a1 u F=>vl (A1 (u+1)) λS=>P8 L n d a1 S F o p))) (Kd a m l q false l3 (λe a2 v G=>vl (A1 (v+1)) λT=>P8 L n e a2 T G o p) (λf a3 w b4 b1 H=>Ke f a3 w H (λI=>o I) (λg a4 x J=>vl (A1 (x+1)) λU=>P8 L n g a4 U J o p)))) (Kd a m l q false l3 (λh a5 y K=>vl (A1 (y+1)) λV=>P8 L n h a5 V K o p) (λi a6 z b5 b2 M=>Ke i a6 z M (λN=>o N) (λj a7 A O=>vl (A1 (A+1)) λW=>P8 L n j a7 W O o p)))) none) none) none) (p l3)
theorem Ad1(b:Code)(c:Tt (R:=R) L Q Y s b)(a:Code)(d:Tu (R:=R) L Q Y s a)(n:Nat)(e:Bool)(v:LL)(q:Int)(u:LL):C5 1 ((Q5 L).keep 6) (bd (Q5 L) Q Y (cd [1,1,1,1,0,1,0,0] (G4 [1,1,1,1,0,1,0,0,1,0,0,1] a (G4 [1,1,1,1,0,1,0,0,1,0,0,0,1,1] b El)))) n ⟨gp [(1,pB e),(4,.fl 0),(0,.s (.sl false false 1 v)),(0,pI q)] 56,[.arr true 24 1 u],s⟩ k =
 P8 L n e v q u (λl0=>k .ret ⟨gp [(4,.fl 1),(0,pB false)] 59,[.arr true 24 1 l0,.arr true 24 1 []],s⟩) (λl0=>k (.exit 0) ⟨gp [(6,.fl 0)] 58,[.arr true 24 1 l0],s⟩):=by
 induction n generalizing e v q u with
 | zero=>rfl
 | succ n t=>rw[P8];exact let K0:=(E1 1 (E0 (Q5 L) Q Y (cd [1,1,1,1,0,1,0,0,1,1] El) (lpK 1 ((Q5 L).keep 6) (bd (Q5 L) Q Y (cd [1,1,1,1,0,1,0,0] (G4 [1,1,1,1,0,1,0,0,1,0,0,1] a (G4 [1,1,1,1,0,1,0,0,1,0,0,0,1,1] b El)))) n k)));let K1:=(E0 (Q5 L) Q Y a K0);(j1 (by kernel_rfl) (A0 (A0 (A0 (A0 (A4 λr=>(A0 (A0 (A4 λb0=>((c K1 e v q r (q==b0) u).trans (congr (congr rfl (fx4 λf V b1 C=>(j1 (by kernel_rfl) (A4 λN=>(t f V N C))))) (fx6 λg W z a6 w D=>(j1 (by kernel_rfl) ((d K0 g W z a6 w D).trans (congr (congr rfl (by kernel_rfl)) (fx4 λh X b2 F=>(j1 (by kernel_rfl) (A4 λO=>(t h X O F))))))))))) ((c K1 e v q r false u).trans (congr (congr rfl (fx4 λi a0 b3 G=>(j1 (by kernel_rfl) (A4 λP=>(t i a0 P G))))) (fx6 λj a1 A a7 x H=>(j1 (by kernel_rfl) ((d K0 j a1 A a7 x H).trans (congr (congr rfl (by kernel_rfl)) (fx4 λl a2 b4 I=>(j1 (by kernel_rfl) (A4 λS=>(t l a2 S I))))))))))) ((c K1 e v q r false u).trans (congr (congr rfl (fx4 λm a3 b5 J=>(j1 (by kernel_rfl) (A4 λT=>(t m a3 T J))))) (fx6 λo a4 B a9 y K=>(j1 (by kernel_rfl) ((d K0 o a4 B a9 y K).trans (congr (congr rfl (by kernel_rfl)) (fx4 λp a5 b6 M=>(j1 (by kernel_rfl) (A4 λU=>(t p a5 U M)))))))))))) rfl) rfl) rfl) rfl))
noncomputable def Ac8{R:Type}(L:Nat)(e:By)(a:Bool)(f:LL->Option R)(g:LL->Option R):Option R:=cond (e==[]) (f []) (cond (A3 e.length) (vl (D4 (pcs (u8n (58:Int)) e)) λd=>P8 L L a d 0 [] (λb=>g b) (λc=>f c)) none)
theorem Ce4(a:Code)(c:Tt (R:=PV × List Blk × Z) L Q Y s a)(b:Code)(d:Tu (R:=PV × List Blk × Z) L Q Y s b)(h:By)(e:Bool):A9 (Q5 L) Q Y (cd [] (G4 [1,1,1,1,0,1,0,0,1,0,0,1] b (G4 [1,1,1,1,0,1,0,0,1,0,0,0,1,1] a El))) ⟨[pS h,pB e]++tps 63,[],s⟩ (F1 (Q5 L) ad8)=Ac8 L h e (λg=>some (.tup [.fl 0,pB true],[.arr true 24 1 g],s)) (λg=>some (.tup [.fl 1,pB false],[.arr true 24 1 g,.arr true 24 1 []],s)):=by unfold Ac8;exact(j1 (by kernel_rfl) (A0 rfl (A0 (A4 λf=>((Ad1 L Q Y s (E1 0 (E0 (Q5 L) Q Y (cd [1,1,1,1,1] El) (F1 (Q5 L) ad8))) a c b d L e f 0 []).trans (by kernel_rfl))) rfl)))
theorem Ce5(d:Nat)(s0 last1):evC (Q5 L) (d+1) Z Y 114 [pS s0,pB last1] [] s=Ac8 L s0 last1 (λa=>some (.tup [.fl 0,pB true],[.arr true 24 1 a],s)) (λa=>some (.tup [.fl 1,pB false],[.arr true 24 1 a,.arr true 24 1 []],s)):=
 (evE (fn:=ad8) (by kernel_rfl)).trans (j1 (by kernel_rfl) (Ce4 L (evC (Q5 L) d) Y s (cd [1,1,1,1,0,1,0,0,1,0,0,0,1,1] El) (Ac9 L (evC (Q5 L) d) Y s) (cd [1,1,1,1,0,1,0,0,1,0,0,1] El) (Ad0 L (evC (Q5 L) d) Y s) s0 last1))
noncomputable abbrev MT:Code:=C4 ag1
noncomputable def Cl(L:Nat):Cfg:=B4 L [113] (A2 [(2,[0,1,0])]) [] (A2 [(6,[2]),(3,[0,2]),(5,[2]),(4,[0,2,17]),(2,[0,2,4]),(1,[0,2]),(0,[0])]) [] (A2 [(0,[]),(1,[0,2])]) (some [2]) [] [] []
noncomputable def T8{R:Type}(L n:Nat)(b:By)(a:Int)(c:Int->Option R)(d:Unit->Option R):Option R:=match n with|0=>none|n+1=>cond (ltI (A1 (a+1)) (b.length:Int)) (cond (inR a b.length) (cond ((bAt b a)==58) (cond (inR (A1 (a+1)) b.length) (vl (bAt b (A1 (a+1))) λe=>cond (e==58) (c a) (T8 L n b (A1 (a+1)) c d)) none) (T8 L n b (A1 (a+1)) c d)) none) (d ())
theorem LQ(n s0 i1):C5 0 ((Cl L).keep 2) (bd (Cl L) Q Y (cd [1,0,1,0,0] MT)) n ⟨gp [(0,pS s0),(2,pI i1)] 19,[],s⟩ k =
 T8 L n s0 i1 (λn0=>k .ret ⟨gp [(2,pI n0)] 20,[],s⟩) (λ_=>k (.exit 0) ⟨gp [] 23,[],s⟩):=by
 induction n generalizing s0 i1 with
 | zero=>rfl
 | succ n a=>rw[T8];simp only[<-a];kernel_rfl
noncomputable def EH{R:Type}(L:Nat)(c:By)(b:Int->Option R):Option R:=T8 L L c 0 (λa=>b a) (λ_=>b (-1))
theorem A11(d:Nat)(s0):evC (Cl L) (d+1) Z Y 113 [pS s0] [] s=EH L s0 (λa=>some (pI a,[],s)):=by refine(evE (fn:=ag1) (by kernel_rfl)).trans ?_;generalize evC (Cl L) d=Q;unfold EH;exact(j1 (by kernel_rfl) ((LQ L Q Y s (E1 0 (E0 (Cl L) Q Y (cd [1,1] MT) (F1 (Cl L) ag1))) L s0 0).trans (by kernel_rfl)))
noncomputable abbrev Sq:Code:=C4 ad6
noncomputable def Z4(L:Nat):Cfg:=B4 L [84] (A2 [(21,[2,0,0,6,2]),(17,[2,0,0,4,1,1]),(8,[2,0,0,1,1])]) [(113,MJ),(114,Be1)] (A2 [(24,[2,0]),(22,[2,1,6,2]),(23,[2,1,6,2]),(21,[2,1,6,2,73]),(20,[2,1,6,2]),(18,[2,1,4,1,1]),(19,[2,1,4,1,1]),(17,[2,1,4,1,1,62]),(16,[2,1,4,1,1]),(15,[2,0]),(14,[2,1,4,1,59]),(13,[2,1,4,0,0,0]),(12,[0,1,1,0,3,0]),(11,[2,0]),(9,[2,1,1,1]),(10,[2,1,1,1]),(8,[2,1,1,1,24]),(7,[2,1,1,1]),(6,[2,0]),(5,[2,1,1,23]),(4,[2,1,1,0]),(3,[0,1,1,0,12]),(2,[0,1,1,0]),(1,[0,1,1]),(0,[0,1])]) [113] (A2 [(4,[2,1]),(5,[2,1,6,2]),(2,[2,1,6]),(3,[2,1,4,1,1]),(0,[2,1]),(1,[2,1,1,1])]) (some [2,0]) [] [] []
noncomputable def Mi{R:Type}(L n:Nat)(b:Bool)(c:LL)(a:Int)(g d:LL)(f:LL->LL->Option R):Option R:=match n with|0=>none|n+1=>cond (ltI a 8) (cond (inR a c.length) (cond (okE ⟨true,false,[.int .u16]⟩ c (b8 a) 0) (cond (inR a 8) (cond (decide ((b8 a)<d.length)) (vl (aa6 d (b8 a) (F9 (b9 d (b8 a) []) 0 [(SV.int .u16 (gE c (b8 a) 0))])) λe=>Mi L n b c (A1 (a+1)) g e f) none) none) none) none) (f g d)
theorem A89(n l_z0 a i2 l3 l4):C5 2 ((Z4 L).keep 8) (bd (Z4 L) Q Y (cd [1,1,1,0,1,0,1,1,0,1,0,0] Sq)) n ⟨gp [(2,.ptr 0 0 0),(1,.ptr 1 0 0),(1,.s (.sl l_z0 l_z0 1 a)),(1,pI i2)] 93,[.arr false 25 1 l3,.arr false 25 1 l4],s⟩ k =
 Mi L n l_z0 a i2 l3 l4 (λc a=>k (.exit 0) ⟨gp [(2,.ptr 0 0 0),(1,.ptr 1 0 0)] 97,[.arr false 25 1 c,.arr false 25 1 a],s⟩):=by
 induction n generalizing l_z0 a i2 l3 l4 with
 | zero=>rfl
 | succ n b=>rw[Mi];simp only[<-b];kernel_rfl
noncomputable def Mj{R:Type}(L n:Nat)(e:Bool)(d:LL)(b:Bool)(i:LL)(a:Int)(h f:LL)(g:Bool->LL->LL->LL->Option R):Option R:=match n with|0=>none|n+1=>cond (ltI a (d.length:Int)) (cond (inR a d.length) (cond (okE ⟨true,false,[.int .u16]⟩ d (b8 a) 0) (cond (inR a 8) (cond (decide ((b8 a)<f.length)) (vl (aa6 f (b8 a) (F9 (b9 f (b8 a) []) 0 [(SV.int .u16 (gE d (b8 a) 0))])) λc=>Mj L n e d b i (A1 (a+1)) h c g) none) none) none) none) (g b i h f)
theorem A90(n l_z0 l1 r_z2 r3 i4 l5 l6):C5 2 ((Z4 L).keep 17) (bd (Z4 L) Q Y (cd [1,1,1,1,1,1,1,0,1,0,0] Sq)) n ⟨gp [(2,.ptr 0 0 0),(1,.ptr 1 0 0),(4,.s (.sl l_z0 l_z0 1 l1)),(1,.s (.sl r_z2 r_z2 1 r3)),(1,pI i4)] 88,[.arr false 25 1 l5,.arr false 25 1 l6],s⟩ k =
 Mj L n l_z0 l1 r_z2 r3 i4 l5 l6 (λa e c d=>k (.exit 2) ⟨gp [(2,.ptr 0 0 0),(1,.ptr 1 0 0),(6,.s (.sl a a 1 e))] 90,[.arr false 25 1 c,.arr false 25 1 d],s⟩):=by
 induction n generalizing l_z0 l1 r_z2 r3 i4 l5 l6 with
 | zero=>rfl
 | succ n b=>rw[Mj];simp only[<-b];kernel_rfl
noncomputable def Ml{R:Type}(L n:Nat)(e:Bool)(c:LL)(b:Int)(h f:LL)(g:LL->LL->Option R):Option R:=match n with|0=>none|n+1=>cond (ltI b (c.length:Int)) (vl (A1 ((8:Int)-(c.length:Int))) λa=>cond (inR b c.length) (cond (okE ⟨true,false,[.int .u16]⟩ c (b8 b) 0) (cond (inR (A1 (a+b)) 8) (cond (decide ((b8 (A1 (a+b)))<f.length)) (vl (aa6 f (b8 (A1 (a+b))) (F9 (b9 f (b8 (A1 (a+b))) []) 0 [(SV.int .u16 (gE c (b8 b) 0))])) λd=>Ml L n e c (A1 (b+1)) h d g) none) none) none) none) (g h f)
theorem A91(n r_z0 r1 i2 l3 l4):C5 2 ((Z4 L).keep 21) (bd (Z4 L) Q Y (cd [1,1,1,1,1,1,1,1,0,1,0,0] Sq)) n ⟨gp [(2,.ptr 0 0 0),(1,.ptr 1 0 0),(6,.s (.sl r_z0 r_z0 1 r1)),(2,pI i2)] 87,[.arr false 25 1 l3,.arr false 25 1 l4],s⟩ k =
 Ml L n r_z0 r1 i2 l3 l4 (λb c=>k (.exit 4) ⟨gp [(2,.ptr 0 0 0),(1,.ptr 1 0 0)] 97,[.arr false 25 1 b,.arr false 25 1 c],s⟩):=by
 induction n generalizing r_z0 r1 i2 l3 l4 with
 | zero=>rfl
 | succ n a=>rw[Ml];simp only[<-a];kernel_rfl
noncomputable def Ch7{R:Type}(L:Nat)(e:By)(j:Int->Int->Int->Int->Int->Int->Int->Int->Bool->LL->LL->Option R):Option R:=cond (A3 e.length) (cond (ltI (HW e) (0:Int)) (cond (A3 e.length) (cond (not (j2 (P3 e true))) (j 0 0 0 0 0 0 0 0 false (j0 8 [(SV.int .u16 (0:Int))]) (j0 8 [(SV.int .u16 (0:Int))])) (cond ((↑(a8 (C9 (gvs e true))):Int)!=8) (j 0 0 0 0 0 0 0 0 false (j0 8 [(SV.int .u16 (0:Int))]) (j0 8 [(SV.int .u16 (0:Int))])) (Mi L L (j8 (gvs e true)) (C9 (gvs e true)) 0 (j0 8 [(SV.int .u16 (0:Int))]) (j0 8 [(SV.int .u16 (0:Int))]) (λn a=>cond ((decide (8=(a.length*1)))&&(okS ⟨true,true,[.int .u16,.int .u16,.int .u16,.int .u16,.int .u16,.int .u16,.int .u16,.int .u16]⟩ (c9 a) 0)) (vl (SV.gI (b9 (c9 a) 0 SV.nilp)) λo=>vl (SV.gI (b9 (c9 a) 1 SV.nilp)) λp=>vl (SV.gI (b9 (c9 a) 2 SV.nilp)) λq=>vl (SV.gI (b9 (c9 a) 3 SV.nilp)) λr=>vl (SV.gI (b9 (c9 a) 4 SV.nilp)) λt=>vl (SV.gI (b9 (c9 a) 5 SV.nilp)) λu=>vl (SV.gI (b9 (c9 a) 6 SV.nilp)) λv=>vl (SV.gI (b9 (c9 a) 7 SV.nilp)) λw=>cond (decide (8=(n.length*1))) (vl (R8 1 n.length [(SV.int .u16 o),(SV.int .u16 p),(SV.int .u16 q),(SV.int .u16 r),(SV.int .u16 t),(SV.int .u16 u),(SV.int .u16 v),(SV.int .u16 w)]) λb=>cond ((decide (8=(b.length*1)))&&(okS ⟨true,true,[.int .u16,.int .u16,.int .u16,.int .u16,.int .u16,.int .u16,.int .u16,.int .u16]⟩ (c9 b) 0)) (j (SV.gI (b9 (c9 b) 0 SV.nilp)) (SV.gI (b9 (c9 b) 1 SV.nilp)) (SV.gI (b9 (c9 b) 2 SV.nilp)) (SV.gI (b9 (c9 b) 3 SV.nilp)) (SV.gI (b9 (c9 b) 4 SV.nilp)) (SV.gI (b9 (c9 b) 5 SV.nilp)) (SV.gI (b9 (c9 b) 6 SV.nilp)) (SV.gI (b9 (c9 b) 7 SV.nilp)) true b a) none) none) none)))) none) (cond (I1 0 (HW e) e.length) (vl (cut e 0 (HW e)) λf=>cond (A3 f.length) (vl (A1 ((HW e)+2)) λG=>cond (I1 G (e.length:Int) e.length) (vl (cut e G (e.length:Int)) λg=>cond (A3 g.length) (cond (not (j2 (P3 f false))) (j 0 0 0 0 0 0 0 0 false (j0 8 [(SV.int .u16 (0:Int))]) (j0 8 [(SV.int .u16 (0:Int))])) (cond (not (j2 (P3 g true))) (j 0 0 0 0 0 0 0 0 false (j0 8 [(SV.int .u16 (0:Int))]) (j0 8 [(SV.int .u16 (0:Int))])) (vl (A1 ((↑(a8 (C9 (gvs f false))):Int)+(↑(a8 (C9 (gvs g true))):Int))) λI=>cond (ltI 7 I) (j 0 0 0 0 0 0 0 0 false (j0 8 [(SV.int .u16 (0:Int))]) (j0 8 [(SV.int .u16 (0:Int))])) (Mj L L (j8 (gvs f false)) (C9 (gvs f false)) (j8 (gvs g true)) (C9 (gvs g true)) 0 (j0 8 [(SV.int .u16 (0:Int))]) (j0 8 [(SV.int .u16 (0:Int))]) (λh H l m=>Ml L L h H 0 l m (λi c=>cond ((decide (8=(c.length*1)))&&(okS ⟨true,true,[.int .u16,.int .u16,.int .u16,.int .u16,.int .u16,.int .u16,.int .u16,.int .u16]⟩ (c9 c) 0)) (vl (SV.gI (b9 (c9 c) 0 SV.nilp)) λx=>vl (SV.gI (b9 (c9 c) 1 SV.nilp)) λy=>vl (SV.gI (b9 (c9 c) 2 SV.nilp)) λz=>vl (SV.gI (b9 (c9 c) 3 SV.nilp)) λA=>vl (SV.gI (b9 (c9 c) 4 SV.nilp)) λB=>vl (SV.gI (b9 (c9 c) 5 SV.nilp)) λC=>vl (SV.gI (b9 (c9 c) 6 SV.nilp)) λD=>vl (SV.gI (b9 (c9 c) 7 SV.nilp)) λF=>cond (decide (8=(i.length*1))) (vl (R8 1 i.length [(SV.int .u16 x),(SV.int .u16 y),(SV.int .u16 z),(SV.int .u16 A),(SV.int .u16 B),(SV.int .u16 C),(SV.int .u16 D),(SV.int .u16 F)]) λd=>cond ((decide (8=(d.length*1)))&&(okS ⟨true,true,[.int .u16,.int .u16,.int .u16,.int .u16,.int .u16,.int .u16,.int .u16,.int .u16]⟩ (c9 d) 0)) (j (SV.gI (b9 (c9 d) 0 SV.nilp)) (SV.gI (b9 (c9 d) 1 SV.nilp)) (SV.gI (b9 (c9 d) 2 SV.nilp)) (SV.gI (b9 (c9 d) 3 SV.nilp)) (SV.gI (b9 (c9 d) 4 SV.nilp)) (SV.gI (b9 (c9 d) 5 SV.nilp)) (SV.gI (b9 (c9 d) 6 SV.nilp)) (SV.gI (b9 (c9 d) 7 SV.nilp)) true d c) none) none) none)))))) none) none) none) none)) none
theorem C14(d:Nat)(s0):evC (Z4 L) (d+1) Z Y 84 [pS s0] [] s=Ch7 L s0 (λl m n o p q r t r8 h l10=>some (.tup [.agg [p16 l,p16 m,p16 n,p16 o,p16 p,p16 q,p16 r,p16 t],pB r8],[.arr false 25 1 h,.arr false 25 1 l10],s)):=by refine(evE (fn:=ad6) (by kernel_rfl)).trans ?_;generalize evC (Z4 L) d=Q;unfold Ch7;exact(j1 (by kernel_rfl) (A0 (A0 (A0 (A0 rfl (A0 rfl ((A89 L Q Y s (E1 0 (E0 (Z4 L) Q Y (cd [1,1,1,0,1,0,1,1,1] Sq) (E0 (Z4 L) Q Y (cd [1,1,1,1] Sq) (F1 (Z4 L) ad6)))) L (j8 (gvs s0 true)) (C9 (gvs s0 true)) 0 (j0 8 [(SV.int .u16 (0:Int))]) (j0 8 [(SV.int .u16 (0:Int))])).trans (by kernel_rfl)))) rfl) (A0 (A4 λf=>(A0 (A4 λi=>(A0 (A4 λg=>(A0 (A0 rfl (A0 rfl (A4 λj=>(A0 rfl ((A90 L Q Y s (E1 2 (E0 (Z4 L) Q Y (cd [1,1,1,1,1,1,1,1] Sq) (F1 (Z4 L) ad6))) L (j8 (gvs f false)) (C9 (gvs f false)) (j8 (gvs g true)) (C9 (gvs g true)) 0 (j0 8 [(SV.int .u16 (0:Int))]) (j0 8 [(SV.int .u16 (0:Int))])).trans (congr rfl (fx4 λa e b c=>(j1 (by kernel_rfl) ((A91 L Q Y s (E1 4 (E0 (Z4 L) Q Y (cd [1,1,1,1,1,1,1,1,1] Sq) (F1 (Z4 L) ad6))) L a e 0 b c).trans (by kernel_rfl)))))))))) rfl)) rfl)) rfl)) rfl)) rfl))
noncomputable abbrev Bg0:Code:=C4 ai1
noncomputable def La(L:Nat):Cfg:=B4 L [98] (A2 [(3,[2,0,0])]) [] (A2 [(6,[2]),(4,[3,0]),(5,[3,0]),(3,[3,0,6]),(2,[3,0]),(1,[0,2]),(0,[0])]) [] (A2 [(0,[3]),(1,[3,0])]) (some [2]) [] [] []
noncomputable def Ae{R:Type}(L n:Nat)(a:By)(v1:Int)(f:By->Option R):Option R:=match n with|0=>none|n+1=>cond (ltI 0 v1) (vl (Df ((x7 v1 (16:Int))+1)) λb=>cond (I1 (x7 v1 (16:Int)) b 16) (vl (cut ([48,49,50,51,52,53,54,55,56,57,97,98,99,100,101,102]:List UInt8) (x7 v1 (16:Int)) b) λd=>cond (D6 d.length a.length) (vl (Df (aa0 v1 (16:Int))) λg=>Ae L n (d++a) g f) none) none) (cond (a==[]) (vl (Df ((x7 v1 (16:Int))+1)) λc=>cond (I1 (x7 v1 (16:Int)) c 16) (vl (cut ([48,49,50,51,52,53,54,55,56,57,97,98,99,100,101,102]:List UInt8) (x7 v1 (16:Int)) c) λe=>cond (D6 e.length a.length) (vl (Df (aa0 v1 (16:Int))) λh=>Ae L n (e++a) h f) none) none) (f a))
theorem Ad3(n a v1):C5 0 ((La L).keep 3) (bd (La L) Q Y (cd [1,1,0,1,0,0] Bg0)) n ⟨gp [(3,pS a),(0,p16 v1)] 18,[],s⟩ k =
 Ae L n a v1 (λa=>k (.exit 0) ⟨gp [(3,pS a)] 19,[],s⟩):=by
 induction n generalizing a v1 with
 | zero=>rfl
 | succ n b=>rw[Ae];simp only[<-b];kernel_rfl
noncomputable def Bk3{R:Type}(L:Nat)(b:Int)(c:By->Option R):Option R:=Ae L L ([]:List UInt8) b (λa=>c a)
theorem Ce9(d:Nat)(g0):evC (La L) (d+1) Z Y 98 [p16 g0] [] s=Bk3 L g0 (λa=>some (pS a,[],s)):=by refine(evE (fn:=ai1) (by kernel_rfl)).trans ?_;generalize evC (La L) d=Q;unfold Bk3;exact(j1 (by kernel_rfl) ((Ad3 L Q Y s (E1 0 (E0 (La L) Q Y (cd [1,1,1] Bg0) (F1 (La L) ai1))) L ([]:List UInt8) g0).trans (by kernel_rfl)))
noncomputable abbrev Od:Code:=C4 af7
noncomputable def W8(L:Nat):Cfg:=B4 L [71] (A2 [(12,[1,0,0,0,2,0]),(6,[1,0,0,0,0,0]),(3,[1,0,0,0,0])]) [(98,Be4)] (A2 [(20,[2]),(13,[1,1,0,2,0]),(19,[1,1,0,2,0]),(18,[1,1,0,2,0]),(17,[1,1,0,2,0,45]),(16,[1,1,0,2,0]),(15,[1,1,0,2,0]),(14,[1,1,0,2,0,29]),(12,[1,1,0,2,0,24]),(11,[1,1,0,2,0]),(10,[1,1,0,2]),(4,[1,1,0,0]),(9,[1,1,0,0]),(8,[1,1,0,0,0,22]),(7,[1,1,0,0,0]),(6,[1,1,0,0,0,17]),(5,[1,1,0,0,0]),(3,[1,1,0,0,4]),(2,[1,1,0,0]),(1,[1,1,0]),(0,[1])]) [98] (A2 [(4,[7]),(5,[1,1,0,2,0]),(0,[1,1,0]),(1,[1,1,0,0]),(2,[1,1,0,0,0]),(3,[1,1,0,0,0])]) (some [2]) [] [] []
noncomputable def Mh{R:Type}(L n:Nat)(b a c d:Int)(e:LL)(f:Int->Int->Int->Int->LL->Option R):Option R:=match n with|0=>none|n+1=>cond (ltI (A1 (c+d)) (8:Int)) (cond (inR (A1 (c+d)) 8) (cond (okE ⟨true,false,[.int .u16]⟩ e (b8 (A1 (c+d))) 0) (vl (gE e (b8 (A1 (c+d))) 0) λg=>cond (g==0) (Mh L n b a c (A1 (d+1)) e f) (f b a c d e)) none) none) (f b a c d e)
theorem A86(n b a c e d):C5 1 ((W8 L).keep 6) (bd (W8 L) Q Y (cd [1,1,0,1,0,0,1,0,0,1,0,0,0] Od)) n ⟨gp [(1,.ptr 0 0 0),(1,pI b),(0,pI a),(0,pI c),(0,pI e)] 57,[.arr false 25 1 d],s⟩ k =
 Mh L n b a c e d (λb a c e d=>k (.exit 2) ⟨gp [(1,.ptr 0 0 0),(1,pI b),(0,pI a),(0,pI c),(0,pI e)] 57,[.arr false 25 1 d],s⟩):=by
 induction n generalizing b a c e d with
 | zero=>rfl
 | succ n f=>rw[Mh];simp only[<-f];kernel_rfl
noncomputable def Ik{R:Type}(L n:Nat)(e b i:Int)(j:LL)(h:Int->Int->LL->Option R):Option R:=match n with|0=>none|n+1=>cond (ltI i 8) (Mh L L e b i 0 j (λd a c g f=>cond (ltI a g) (Ik L n c g (A1 (c+1)) f h) (Ik L n d a (A1 (c+1)) f h))) (h e b j)
theorem A87(n b a i2 l3):C5 1 ((W8 L).keep 3) (bd (W8 L) Q Y (cd [1,1,0,1,0,0] Od)) n ⟨gp [(1,.ptr 0 0 0),(1,pI b),(0,pI a),(0,pI i2)] 58,[.arr false 25 1 l3],s⟩ k =
 Ik L n b a i2 l3 (λb a i=>k (.exit 0) ⟨gp [(1,.ptr 0 0 0),(1,pI b),(0,pI a)] 59,[.arr false 25 1 i],s⟩):=by
 induction n generalizing b a i2 l3 with
 | zero=>rfl
 | succ n h=>rw[Ik];exact(j1 (by kernel_rfl) (A0 ((A86 L Q Y s (E1 2 (E0 (W8 L) Q Y (cd [1,1,0,1,0,0,1,0,0,1,1] Od) (E1 1 (E0 (W8 L) Q Y (cd [1,1,0,1,0,0,1,1] Od) (lpK 1 ((W8 L).keep 3) (bd (W8 L) Q Y (cd [1,1,0,1,0,0] Od)) n k))))) L b a i2 0 l3).trans (congr rfl (fx5 λe c d g f=>(j1 (by kernel_rfl) (A0 (h d g (A1 (d+1)) f) (h e c (A1 (d+1)) f)))))) rfl))
noncomputable def R6{R:Type}(L n:Nat)(e a:Int)(d:By)(b:Int)(c:LL)(l:By->LL->Option R):Option R:=match n with|0=>none|n+1=>cond (ltI b 8) (cond (b==e) (cond (D6 d.length 2) (vl (d++[58,58]) λp=>vl (A1 (a-1)) λm=>vl (A1 ((A1 (b+m))+1)) λo=>R6 L n e a p o c l) none) (cond (not (d==[])) (vl (A1 ((d.length:Int)-1)) λf=>cond (inR f d.length) (cond ((bAt d f)!=58) (cond (D6 d.length 1) (vl (d++[58]) λg=>cond (inR b 8) (cond (okE ⟨true,false,[.int .u16]⟩ c (b8 b) 0) (cond (ltN (gE c (b8 b) 0) 65536) (vl (R3 (b8 (gE c (b8 b) 0))) λh=>cond (D6 g.length h.length) (R6 L n e a (g++h) (A1 (b+1)) c l) none) none) none) none) none) (cond (inR b 8) (cond (okE ⟨true,false,[.int .u16]⟩ c (b8 b) 0) (cond (ltN (gE c (b8 b) 0) 65536) (vl (R3 (b8 (gE c (b8 b) 0))) λi=>cond (D6 d.length i.length) (R6 L n e a (d++i) (A1 (b+1)) c l) none) none) none) none)) none) (cond (inR b 8) (cond (okE ⟨true,false,[.int .u16]⟩ c (b8 b) 0) (cond (ltN (gE c (b8 b) 0) 65536) (vl (R3 (b8 (gE c (b8 b) 0))) λj=>cond (D6 d.length j.length) (R6 L n e a (d++j) (A1 (b+1)) c l) none) none) none) none))) (l d c)
theorem A88(n at0 most1 s2 i3 l4):C5 1 ((W8 L).keep 12) (bd (W8 L) Q Y (cd [1,1,1,1,0,1,0,0] Od)) n ⟨gp [(1,.ptr 0 0 0),(1,pI at0),(0,pI most1),(2,pS s2),(0,pI i3)] 55,[.arr false 25 1 l4],s⟩ k =
 R6 L n at0 most1 s2 i3 l4 (λc b=>k (.exit 4) ⟨gp [(7,pS c)] 56,[.arr false 25 1 b],s⟩):=by
 induction n generalizing at0 most1 s2 i3 l4 with
 | zero=>rfl
 | succ n a=>rw[R6];simp only[<-a];kernel_rfl
noncomputable def C11{R:Type}(L:Nat)(f g h i j l m n:Int)(o:By->LL->Option R):Option R:=Ik L L (-1) 1 0 [[(SV.int .u16 f)],[(SV.int .u16 g)],[(SV.int .u16 h)],[(SV.int .u16 i)],[(SV.int .u16 j)],[(SV.int .u16 l)],[(SV.int .u16 m)],[(SV.int .u16 n)]] (λb a e=>R6 L L b a ([]:List UInt8) 0 e (λd c=>o d c))
theorem C12(d:Nat)(a0 a1 a2 a3 a4 a5 a6 a7):evC (W8 L) (d+1) Z Y 71 [.agg [p16 a0,p16 a1,p16 a2,p16 a3,p16 a4,p16 a5,p16 a6,p16 a7]] [] s=C11 L a0 a1 a2 a3 a4 a5 a6 a7 (λf e=>some (pS f,[.arr false 25 1 e],s)):=by refine(evE (fn:=af7) (by kernel_rfl)).trans ?_;generalize evC (W8 L) d=Q;unfold C11;exact(j1 (by kernel_rfl) ((A87 L Q Y s (E1 0 (E0 (W8 L) Q Y (cd [1,1,1] Od) (F1 (W8 L) af7))) L (-1) 1 0 [[(SV.int .u16 a0)],[(SV.int .u16 a1)],[(SV.int .u16 a2)],[(SV.int .u16 a3)],[(SV.int .u16 a4)],[(SV.int .u16 a5)],[(SV.int .u16 a6)],[(SV.int .u16 a7)]]).trans (congr rfl (fx3 λb a c=>(j1 (by kernel_rfl) ((A88 L Q Y s (E1 4 (E0 (W8 L) Q Y (cd [1,1,1,1,1] Od) (F1 (W8 L) af7))) L b a ([]:List UInt8) 0 c).trans (by kernel_rfl)))))))
noncomputable def HE(L:Nat):Cfg:=B4 L [168] (A2 []) [] (A2 [(1,[2]),(0,[0])]) [] (A2 []) (some [2]) [] [] []
noncomputable def VJ{R:Type}(L:Nat)(n0:Int)(a:Bool->Option R):Option R:=cond (not (ltI n0 0)) (cond (not (ltI 1114111 n0)) (cond (ltI n0 55296) (a true) (a (ltI 57343 n0))) (a false)) (a false)
theorem Bt8(d:Nat)(n0):evC (HE L) (d+1) Z Y 168 [pI n0] [] s=VJ L n0 (λa=>some (pB a,[],s)):=by refine(evE (fn:=Tryz.f168) (by kernel_rfl)).trans ?_;generalize evC (HE L) d=Q;unfold VJ;kernel_rfl
noncomputable abbrev Ob:Code:=C4 ae5
noncomputable def W6(L:Nat):Cfg:=B4 L [170] (A2 [(6,[0,5,0])]) [] (A2 [(9,[6]),(8,[0,6]),(7,[0,6]),(6,[0,6,11]),(5,[0,6]),(4,[0]),(2,[0,0]),(3,[0,0]),(1,[0,0,6]),(0,[0,0,0])]) [] (A2 [(0,[0,6]),(1,[0,6])]) (some [6]) [] [] []
noncomputable def Ft{R:Type}(L n:Nat)(a b:Int)(e:Int->Int->Option R):Option R:=match n with|0=>none|n+1=>cond (ltI 455 a) (vl (A1 (aa0 a (35:Int))) λc=>vl (A1 (b+36)) λd=>Ft L n c d e) (e a b)
theorem VF(n a b):C5 0 ((W6 L).keep 6) (bd (W6 L) Q Y (cd [1,1,1,1,0,0,0] Ob)) n ⟨gp [(0,pI a),(6,pI b)] 23,[],s⟩ k =
 Ft L n a b (λa b=>k (.exit 0) ⟨gp [(0,pI a),(6,pI b)] 23,[],s⟩):=by
 induction n generalizing a b with
 | zero=>rfl
 | succ n c=>rw[Ft];simp only[<-c];kernel_rfl
noncomputable def Fs{R:Type}(L:Nat)(c b:Int)(i:Int->Option R):Option R:=cond (b !=0) (vl (A1 (aa0 c b)) λh=>Ft L L (A1 (c+h)) 0 (λa e=>vl (A1 ((36:Int)*a)) λf=>vl (A1 (a+38)) λd=>cond (d !=0) (vl (A1 (aa0 f d)) λg=>i (A1 (e+g))) none)) none
abbrev CO(b:Code):Prop:=∀(k:Out->St Z->Option R) delta0 count1,A9 (W6 L) Q Y b ⟨gp [(0,pI delta0),(0,pI count1)] 29,[],s⟩ k=Fs L delta0 count1 (λn0=>k .ret ⟨gp [(6,pI n0)] 24,[],s⟩)
theorem VE:CO (R:=R) L Q Y s (cd [1,1] Ob):=by intro k a b;unfold Fs;exact(j1 (by kernel_rfl) (A0 (A4 λc=>((VF L Q Y s (E1 0 (E0 (W6 L) Q Y (cd [1,1,1,1,1] Ob) k)) L (A1 (a+c)) 0).trans (by kernel_rfl))) rfl))
noncomputable def JJ{R:Type}(L:Nat)(b a:Int)(c:Bool)(h:Int->Option R):Option R:=cond c (vl (A1 (aa0 b (700:Int))) λf=>Fs L f a (λd=>h d)) (vl (A1 (aa0 b (2:Int))) λg=>Fs L g a (λe=>h e))
theorem Bs5(e:Code)(a:CO (R:=PV × List Blk × Z) L Q Y s e)(c b:Int)(d:Bool):A9 (W6 L) Q Y (cd [] (G4 [1,1] e Ob)) ⟨[pI c,pI b,pB d]++tps 28,[],s⟩ (F1 (W6 L) ae5)=JJ L c b d (λi=>some (pI i,[],s)):=by unfold JJ;exact let h:=(F1 (W6 L) ae5);(j1 (by kernel_rfl) (A0 (A4 λf=>((a h f b).trans (by kernel_rfl))) (A4 λg=>((a h g b).trans (by kernel_rfl)))))
theorem Bs6(d:Nat)(delta0 count1 first2):evC (W6 L) (d+1) Z Y 170 [pI delta0,pI count1,pB first2] [] s=JJ L delta0 count1 first2 (λa=>some (pI a,[],s)):=
 (evE (fn:=ae5) (by kernel_rfl)).trans (j1 (by kernel_rfl) (Bs5 L (evC (W6 L) d) Y s (cd [1,1] Ob) (VE L (evC (W6 L) d) Y s) delta0 count1 first2))
noncomputable def Ar1(L:Nat):Cfg:=B4 L [183] (A2 []) [] (A2 [(3,[2]),(2,[2]),(1,[0,3]),(0,[0])]) [] (A2 []) (some [2]) [] [] []
noncomputable def Cw9{R:Type}(L:Nat)(a:Int)(d:Int->Option R):Option R:=cond (ltI a 26) (vl (wu8 (A1 ((97:Int)+a))) λb=>d b) (vl (A1 ((A1 ((48:Int)+a))-26)) λc=>d (wu8 c))
theorem Cx0(d:Nat)(d0):evC (Ar1 L) (d+1) Z Y 183 [pI d0] [] s=Cw9 L d0 (λa=>some (p8 a,[],s)):=by refine(evE (fn:=Tryz.f183) (by kernel_rfl)).trans ?_;generalize evC (Ar1 L) d=Q;unfold Cw9;kernel_rfl
noncomputable abbrev So:Code:=C4 ae7
noncomputable def Iu(L:Nat):Cfg:=B4 L [189] (A2 []) [] (A2 [(7,[2]),(2,[2]),(4,[2]),(6,[2]),(5,[0,22]),(3,[0,12]),(1,[0,2]),(0,[0])]) [] (A2 [(0,[])]) (some [2]) [] [] []
noncomputable def Wl{R:Type}(a:Int)(g:Bool)(e:Int->Option R)(f:Int->Bool->Option R):Option R:=cond g (vl (A1 (wu8 (a-65))) λb=>e b) (cond (not (ltI a 48)) (cond (not (ltI 57 a)) (vl (A1 (wu8 (a-48))) λc=>vl (A1 (c+26)) λd=>e d) (f a (not (ltI 57 a)))) (f a false))
abbrev OE(b:Code):Prop:=∀(k:Out->St Z->Option R) a c,A9 (Iu L) Q Y b ⟨gp [(0,p8 a),(12,pB c)] 20,[],s⟩ k=Wl a c (λn0=>k .ret ⟨gp [(2,pI n0)] 31,[],s⟩) (λa c=>k .normal ⟨gp [(0,p8 a),(22,pB c)] 10,[],s⟩)
theorem A00:OE (R:=R) L Q Y s (cd [1,0,0,1,1,1] So):=by intro k a b;unfold Wl;kernel_rfl
noncomputable def Wm{R:Type}(a:Int)(l:Bool)(f:Int->Option R)(j:Int->Bool->Option R):Option R:=cond l (vl (A1 (wu8 (a-97))) λg=>f g) (cond (not (ltI a 65)) (Wl a (not (ltI 90 a)) (λh=>f h) (λb c=>j b c)) (Wl a false (λi=>f i) (λd e=>j d e)))
abbrev AV(b:Code):Prop:=∀(k:Out->St Z->Option R) a c,A9 (Iu L) Q Y b ⟨gp [(0,p8 a),(2,pB c)] 30,[],s⟩ k=Wm a c (λn0=>k .ret ⟨gp [(2,pI n0)] 31,[],s⟩) (λa c=>k .normal ⟨gp [(0,p8 a),(22,pB c)] 10,[],s⟩)
theorem A01(a:Code)(b:OE (R:=R) L Q Y s a):AV (R:=R) L Q Y s (cd [1,0,0,1] (G4 [1,0,0,1,1,1] a So)):=by intro k c d;unfold Wm;simp only[<-b k];kernel_rfl
theorem A02:AV (R:=R) L Q Y s (cd [1,0,0,1] So):=by intro k a b;exact j1 (by kernel_rfl) (A01 L Q Y s (cd [1,0,0,1,1,1] So) (A00 L Q Y s) k a b)
noncomputable def Cd4{R:Type}(L:Nat)(c:Int)(d:Int->Option R):Option R:=cond (not (ltI c 97)) (Wm c (not (ltI 122 c)) (λa=>d a) (λe f=>d (-1))) (Wm c false (λb=>d b) (λg h=>d (-1)))
theorem Cx9(b:Code)(a:AV (R:=PV × List Blk × Z) L Q Y s b)(c:Int):A9 (Iu L) Q Y (cd [] (G4 [1,0,0,1] b So)) ⟨[p8 c]++tps 33,[],s⟩ (F1 (Iu L) ae7)=Cd4 L c (λe=>some (pI e,[],s)):=by unfold Cd4;exact let d:=(E1 0 (E0 (Iu L) Q Y (cd [1,1] So) (F1 (Iu L) ae7)));(j1 (by kernel_rfl) (A0 ((a d c (not (ltI 122 c))).trans (by kernel_rfl)) ((a d c false).trans (by kernel_rfl))))
theorem Cy0(d:Nat)(b0):evC (Iu L) (d+1) Z Y 189 [p8 b0] [] s=Cd4 L b0 (λa=>some (pI a,[],s)):=
 (evE (fn:=ae7) (by kernel_rfl)).trans (j1 (by kernel_rfl) (Cx9 L (evC (Iu L) d) Y s (cd [1,0,0,1] So) (A02 L (evC (Iu L) d) Y s) b0))
end
section
variable {Z R : Type} (L : Nat) (Q : G0) (Y : Yh Z) (s : Z) (k : Out -> St Z -> Option R)
noncomputable def Aq8(L:Nat):Cfg:=B4 L [79] (A2 []) [] (A2 [(1,[4]),(0,[0,0])]) [] (A2 []) (some [4]) [] [] []
noncomputable def Cv2{R:Type}(L:Nat)(c a:By)(d:Bool->Option R):Option R:=cond (not (ltI (c.length:Int) (a.length:Int))) (cond (I1 0 (a.length:Int) c.length) (vl (cut c 0 (a.length:Int)) λb=>d (b==a)) none) (d false)
theorem Cv3(d:Nat)(s0 prefix1):evC (Aq8 L) (d+1) Z Y 79 [pS s0,pS prefix1] [] s=Cv2 L s0 prefix1 (λa=>some (pB a,[],s)):=by refine(evE (fn:=Tryz.f79) (by kernel_rfl)).trans ?_;generalize evC (Aq8 L) d=Q;unfold Cv2;kernel_rfl
noncomputable def Aq5(L:Nat):Cfg:=B4 L [59] (A2 []) [(79,QI)] (A2 [(1,[4]),(0,[0,0])]) [79] (A2 []) (some [4]) [] [] []
noncomputable def Tj{R:Type}(L:Nat)(b a:By)(c:Bool->Option R):Option R:=cond (A3 b.length) (c (p7 a b)) none
theorem Ct7(d:Nat)(s0 prefix1):evC (Aq5 L) (d+1) Z Y 59 [pS s0,pS prefix1] [] s=Tj L s0 prefix1 (λa=>some (pB a,[],s)):=by refine(evE (fn:=Tryz.f59) (by kernel_rfl)).trans ?_;generalize evC (Aq5 L) d=Q;unfold Tj;kernel_rfl
noncomputable def Aq9(L:Nat):Cfg:=B4 L [93] (A2 []) [] (A2 [(1,[4]),(0,[0,0])]) [] (A2 []) (some [4]) [] [] []
noncomputable def Cv4{R:Type}(L:Nat)(b a:By)(e:Bool->Option R):Option R:=cond (not (ltI (b.length:Int) (a.length:Int))) (vl (A1 ((b.length:Int)-(a.length:Int))) λc=>cond (I1 c (b.length:Int) b.length) (vl (cut b c (b.length:Int)) λd=>e (d==a)) none) (e false)
theorem Cv5(d:Nat)(s0 suffix1):evC (Aq9 L) (d+1) Z Y 93 [pS s0,pS suffix1] [] s=Cv4 L s0 suffix1 (λa=>some (pB a,[],s)):=by refine(evE (fn:=Tryz.f93) (by kernel_rfl)).trans ?_;generalize evC (Aq9 L) d=Q;unfold Cv4;kernel_rfl
noncomputable def Aq6(L:Nat):Cfg:=B4 L [65] (A2 []) [(93,Am6)] (A2 [(1,[4]),(0,[0,0])]) [93] (A2 []) (some [4]) [] [] []
noncomputable def Ct8{R:Type}(L:Nat)(b a:By)(c:Bool->Option R):Option R:=cond (A3 b.length) (c (aa8 a b)) none
theorem Ct9(d:Nat)(s0 suffix1):evC (Aq6 L) (d+1) Z Y 65 [pS s0,pS suffix1] [] s=Ct8 L s0 suffix1 (λa=>some (pB a,[],s)):=by refine(evE (fn:=Tryz.f65) (by kernel_rfl)).trans ?_;generalize evC (Aq6 L) d=Q;unfold Ct8;kernel_rfl
noncomputable def TF(L:Nat):Cfg:=B4 L [137] (A2 []) [(93,Am6)] (A2 [(3,[4]),(2,[4]),(1,[0,0,5]),(0,[0,0])]) [93] (A2 []) (some [4]) [] [] []
noncomputable def Bi7{R:Type}(L:Nat)(b a:By)(d:By->Option R):Option R:=cond (A3 b.length) (cond (aa8 a b) (vl (A1 ((b.length:Int)-(a.length:Int))) λc=>cond (I1 0 c b.length) (d (cut b 0 c)) none) (d b)) none
theorem Cb3(d:Nat)(s0 suffix1):evC (TF L) (d+1) Z Y 137 [pS s0,pS suffix1] [] s=Bi7 L s0 suffix1 (λa=>some (pS a,[],s)):=by refine(evE (fn:=Tryz.f137) (by kernel_rfl)).trans ?_;generalize evC (TF L) d=Q;unfold Bi7;kernel_rfl
noncomputable def TR(L:Nat):Cfg:=B4 L [107] (A2 []) [(137,Bd9)] (A2 [(1,[4]),(0,[0,0])]) [137] (A2 []) (some [4]) [] [] []
noncomputable def Bl5{R:Type}(L:Nat)(b a:By)(c:By->Option R):Option R:=cond (A3 b.length) (c (WX b a)) none
theorem Cj6(d:Nat)(s0 suffix1):evC (TR L) (d+1) Z Y 107 [pS s0,pS suffix1] [] s=Bl5 L s0 suffix1 (λa=>some (pS a,[],s)):=by refine(evE (fn:=Tryz.f107) (by kernel_rfl)).trans ?_;generalize evC (TR L) d=Q;unfold Bl5;kernel_rfl
noncomputable def TC(L:Nat):Cfg:=B4 L [74] (A2 []) [(79,QI)] (A2 [(3,[4,0]),(2,[4,0]),(1,[0,0,7]),(0,[0,0])]) [79] (A2 []) (some [4,0]) [] [] []
noncomputable def Bi2{R:Type}(L:Nat)(b a:By)(d:By->Bool->Option R):Option R:=cond (A3 b.length) (cond (not (p7 a b)) (d b false) (cond (I1 (a.length:Int) (b.length:Int) b.length) (vl (cut b (a.length:Int) (b.length:Int)) λc=>d c true) none)) none
theorem Ca8(d:Nat)(s0 prefix1):evC (TC L) (d+1) Z Y 74 [pS s0,pS prefix1] [] s=Bi2 L s0 prefix1 (λa b=>some (.tup [pS a,pB b],[],s)):=by refine(evE (fn:=Tryz.f74) (by kernel_rfl)).trans ?_;generalize evC (TC L) d=Q;unfold Bi2;kernel_rfl
noncomputable def Aq0(L:Nat):Cfg:=B4 L [57] (A2 []) [(74,Bd6)] (A2 [(1,[4,0]),(0,[0,0])]) [74] (A2 []) (some [4,0]) [] [] []
noncomputable def Cq5{R:Type}(L:Nat)(b a:By)(c:By->Bool->Option R):Option R:=cond (A3 b.length) (c (Gi b a) (p7 a b)) none
theorem Cq6(d:Nat)(s0 prefix1):evC (Aq0 L) (d+1) Z Y 57 [pS s0,pS prefix1] [] s=Cq5 L s0 prefix1 (λa b=>some (.tup [pS a,pB b],[],s)):=by refine(evE (fn:=Tryz.f57) (by kernel_rfl)).trans ?_;generalize evC (Aq0 L) d=Q;unfold Cq5;kernel_rfl
noncomputable abbrev YL:Code:=C4 ag3
noncomputable def Dp(L:Nat):Cfg:=B4 L [138] (A2 [(11,[0,0,0,0,4,0,0])]) [(165,Jl),(166,Ao0),(154,GG)] (A2 [(18,[8]),(17,[9,0]),(16,[0,0,0,0,5,0]),(15,[0,0,0,0,5,0]),(14,[0,0,0,0,5,0,0]),(13,[0,0,0,0,5,0,0,29]),(12,[0,0,0,0,5,0,0]),(11,[0,0,0,0,5,0,25]),(10,[0,0,0,0,5,0]),(9,[0,0,0,0,5]),(8,[0,0,0,0,5]),(7,[0,0,0,0]),(6,[0,0,0,0]),(5,[0,0,0,0,16]),(4,[8]),(3,[0,0,0,0,11]),(2,[8]),(1,[0,0,0,0,9]),(0,[0,0,0,0])]) [166,154] (A2 [(0,[0,8,0]),(1,[0,0,0,0,5,0])]) (some [8]) [] [] []
noncomputable def Ax{R:Type}(L n:Nat)(c b:By)(a l d:Int)(g:LL)(j:By->Int->LL->Option R):Option R:=match n with|0=>none|n+1=>cond (ltI d l) (cond (A3 c.length) (cond (ltI (y5 c b) (0:Int)) (j c d g) (vl (A1 ((y5 c b)+a)) λe=>cond (I1 0 e c.length) (cond (inR d g.length) (cond (decide ((b8 d)<g.length)) (vl (aa6 g (b8 d) (F9 (b9 g (b8 d) []) 0 [(SV.str (cut c 0 e))])) λh=>vl (A1 ((y5 c b)+(b.length:Int))) λf=>cond (I1 f (c.length:Int) c.length) (vl (cut c f (c.length:Int)) λi=>Ax L n i b a l (A1 (d+1)) h j) none) none) none) none)) none) (j c d g)
theorem Vr(n a sep1 sepSave2 n3 i4 l5):C5 1 ((Dp L).keep 11) (bd (Dp L) Q Y (cd [1,1,1,1,1,1,1,1,0,0,0] YL)) n ⟨gp [(0,pS a),(0,pS sep1),(0,pI sepSave2),(0,pI n3),(5,.fl 0),(0,pI i4)] 55,[.arr false 9 1 l5],s⟩ k =
 Ax L n a sep1 sepSave2 n3 i4 l5 (λa b d=>k (.exit 0) ⟨gp [(0,pS a),(8,.fl 0),(0,pI b)] 55,[.arr false 9 1 d],s⟩):=by
 induction n generalizing a sep1 sepSave2 n3 i4 l5 with
 | zero=>rfl
 | succ n c=>rw[Ax];simp only[<-c];kernel_rfl
noncomputable def II{R:Type}(L:Nat)(t d:By)(a u:Int)(w:Unit->Option R)(v:Nat->LL->Option R):Option R:=cond (u==0) (w ()) (cond (d==[]) none (cond (ltI u 0) (cond (d.length==1) (vl (↑(List.count (b9 d 0 0) t):Int) λn=>vl (A1 ((t.length:Int)+1)) λo=>vl (if (o<(A1 (n+1))) then o else (A1 (n+1))) λg=>cond (((decide ((0:Int)<=g))&&(decide (g<=g)))&&(F8 (b8 g))) (Ax L L t d a (A1 (g-1)) 0 (j0 (b8 g) [(SV.str ([]:List UInt8))]) (λq b e=>cond (inR b e.length) (cond (decide ((b8 b)<e.length)) (vl (aa6 e (b8 b) (F9 (b9 e (b8 b) []) 0 [(SV.str q)])) λi=>vl (A1 (b+1)) λl=>cond (I1 0 l i.length) (v ((b8 l)-0) i) none) none) none)) none) none) (vl (A1 ((t.length:Int)+1)) λp=>vl (if (p<u) then p else u) λh=>cond (((decide ((0:Int)<=h))&&(decide (h<=h)))&&(F8 (b8 h))) (Ax L L t d a (A1 (h-1)) 0 (j0 (b8 h) [(SV.str ([]:List UInt8))]) (λr c f=>cond (inR c f.length) (cond (decide ((b8 c)<f.length)) (vl (aa6 f (b8 c) (F9 (b9 f (b8 c) []) 0 [(SV.str r)])) λj=>vl (A1 (c+1)) λm=>cond (I1 0 m j.length) (v ((b8 m)-0) j) none) none) none)) none)))
theorem NN(d:Nat)(s0 sep1 sepSave2 n3):evC (Dp L) (d+1) Z Y 138 [pS s0,pS sep1,pI sepSave2,pI n3] [] s=II L s0 sep1 sepSave2 n3 (λ_=>some (.fl 0,[.arr true 9 1 []],s)) (λc f=>some (.vw 0 0 c,[.arr false 9 1 f],s)):=by refine(evE (fn:=ag3) (by kernel_rfl)).trans ?_;generalize evC (Dp L) d=Q;unfold II;exact let e:=(E1 0 (E0 (Dp L) Q Y (cd [1,1,1,1,1,1,1,1,1] YL) (F1 (Dp L) ag3)));(j1 (by kernel_rfl) (A0 rfl (A0 rfl (A0 (A0 (A4 λg=>(A4 λh=>(A4 λa=>(A0 ((Vr L Q Y s e L s0 sep1 sepSave2 (A1 (a-1)) 0 (j0 (b8 a) [(SV.str ([]:List UInt8))])).trans (by kernel_rfl)) rfl)))) rfl) (A4 λi=>(A4 λb=>(A0 ((Vr L Q Y s e L s0 sep1 sepSave2 (A1 (b-1)) 0 (j0 (b8 b) [(SV.str ([]:List UInt8))])).trans (by kernel_rfl)) rfl)))))))
noncomputable def HL(L:Nat):Cfg:=B4 L [109] (A2 []) [(138,XV)] (A2 [(1,[4]),(0,[0,0])]) [] (A2 []) (some [4]) [] [] []
noncomputable def WR{R:Type}(L:Nat)(c a:By)(d:LL->Option R):Option R:=cond (A3 c.length) (cond (a.length==1) (cond ((0:Int)==0) (cond (((-1):Int)==((-1):Int)) (vl (D4 (pcs (b9 a 0 0) c)) λb=>d b) none) none) none) none
theorem Bz2(d:Nat)(s0 sep1):evC (HL L) (d+1) Z Y 109 [pS s0,pS sep1] [] s=WR L s0 sep1 (λa=>some (.s (.sl false false 1 a),[],s)):=by refine(evE (fn:=Tryz.f109) (by kernel_rfl)).trans ?_;generalize evC (HL L) d=Q;unfold WR;kernel_rfl
noncomputable abbrev B59:Code:=C4 ah5
noncomputable def Sv(L:Nat):Cfg:=B4 L [56] (A2 [(3,[0,1,0,6,0])]) [] (A2 [(10,[2]),(9,[0,2,6,0]),(8,[0,2,6,0]),(7,[0,2,1,4,0]),(6,[0,2,1,4,0,10]),(5,[0,2,1,4,0]),(4,[0,2,0,5,0]),(3,[0,2,6,0,0]),(2,[0,2,6,0]),(1,[0,2]),(0,[0])]) [] (A2 [(0,[3]),(1,[0,2,6,0])]) (some [2]) [] [] []
noncomputable def Et{R:Type}(L n:Nat)(b:By)(e a:Int)(c:LL)(d:LL->Option R):Option R:=match n with|0=>none|n+1=>cond (ltI a e) (cond (inR a b.length) (cond (not (ltI (bAt b a) (65:Int))) (cond (not (ltI 90 (bAt b a))) (vl (wu8 ((bAt b a)+32)) λf=>cond (F8 (c.length+1)) (Et L n b e (A1 (a+1)) (c++[[(SV.int .u8 f)]]) d) none) (cond (F8 (c.length+1)) (Et L n b e (A1 (a+1)) (c++[[(SV.int .u8 (bAt b a))]]) d) none)) (cond (F8 (c.length+1)) (Et L n b e (A1 (a+1)) (c++[[(SV.int .u8 (bAt b a))]]) d) none)) none) (d c)
theorem Aw6(n s0 n1 n2 l3):C5 1 ((Sv L).keep 3) (bd (Sv L) Q Y (cd [1,1,0,1,0,0] B59)) n ⟨gp [(0,pS s0),(2,.fl 0),(6,pI n1),(0,pI n2)] 20,[.arr false 5 1 l3],s⟩ k =
 Et L n s0 n1 n2 l3 (λb=>k (.exit 0) ⟨gp [(3,.fl 0)] 28,[.arr false 5 1 b],s⟩):=by
 induction n generalizing s0 n1 n2 l3 with
 | zero=>rfl
 | succ n a=>rw[Et];simp only[<-a];kernel_rfl
noncomputable def Cv0{R:Type}(L:Nat)(b:By)(c:By->LL->Option R):Option R:=cond ((decide ((0:Int)<=(b.length:Int)))&&(F8 (b8 (b.length:Int)))) (Et L L b (b.length:Int) 0 [] (λa=>cond (x3 a Nm) (c (s7 Le a) a) none)) none
theorem Cv1(d:Nat)(s0):evC (Sv L) (d+1) Z Y 56 [pS s0] [] s=Cv0 L s0 (λb a=>some (pS b,[.arr false 5 1 a],s)):=by refine(evE (fn:=ah5) (by kernel_rfl)).trans ?_;generalize evC (Sv L) d=Q;unfold Cv0;exact(j1 (by kernel_rfl) (A0 ((Aw6 L Q Y s (E1 0 (E0 (Sv L) Q Y (cd [1,1,1] B59) (F1 (Sv L) ah5))) L s0 (s0.length:Int) 0 []).trans (by kernel_rfl)) rfl))
noncomputable def Aq3(L:Nat):Cfg:=B4 L [122] (A2 []) [(59,EW)] (A2 [(1,[2]),(0,[0])]) [59] (A2 []) (some [2]) [] [] []
noncomputable def Ct3{R:Type}(L:Nat)(a:By)(b:Bool->Option R):Option R:=cond (A3 a.length) (cond (p7 ([48,120]:List UInt8) a) (b true) (cond (A3 a.length) (b (p7 ([48,88]:List UInt8) a)) none)) none
theorem Ct4(d:Nat)(s0):evC (Aq3 L) (d+1) Z Y 122 [pS s0] [] s=Ct3 L s0 (λa=>some (pB a,[],s)):=by refine(evE (fn:=Tryz.f122) (by kernel_rfl)).trans ?_;generalize evC (Aq3 L) d=Q;unfold Ct3;kernel_rfl
noncomputable abbrev Ef:Code:=C4 ae0
noncomputable def V2(L:Nat):Cfg:=B4 L [124] (A2 [(3,[0,0,2,0,0,4,0])]) [] (A2 [(18,[4,0]),(17,[0,0,4,4,0]),(16,[0,0,4,4,0]),(15,[4,0]),(14,[0,0,4,1,2,0,39]),(9,[0,0,4,1,2,0]),(11,[0,0,4,1,2,0]),(13,[0,0,4,1,2,0]),(7,[4,0]),(12,[0,0,4,2,1,0,26]),(10,[0,0,4,2,1,0,15]),(8,[0,0,4,2,1,0,5]),(6,[0,0,4,2,1,0]),(5,[0,0,4,0,3,0]),(4,[0,0,4,0,3,0]),(3,[0,0,4,4,0,0]),(2,[0,0,4,4,0]),(1,[0,0,4]),(0,[0,0])]) [] (A2 [(0,[6]),(1,[0,0,4,4,0]),(2,[0,0,4,1,2,0])]) (some [4,0]) [] [] []
noncomputable def Va{R:Type}(m:By)(a i b j l:Int)(n:Bool)(g:By->Int->Int->Int->Int->Int->Option R)(h:Unit->Option R):Option R:=cond n (vl (A1 (wu8 (b-97))) λc=>vl (A1 (c+10)) λd=>g m a i d j l) (cond (not (ltI b 65)) (cond (not (ltI 70 b)) (vl (A1 (wu8 (b-65))) λe=>vl (A1 (e+10)) λf=>g m a i f j l) (h ())) (h ()))
abbrev NG(b:Code):Prop:=∀(k:Out->St Z->Option R) f a c b3 d e b6,A9 (V2 L) Q Y b ⟨gp [(0,pS f),(0,pI a),(4,pI c),(2,p8 b3),(1,pI d),(0,pI e),(15,pB b6)] 32,[],s⟩ k=Va f a c b3 d e b6 (λf a c g d e=>k .normal ⟨gp [(0,pS f),(0,pI a),(4,pI c),(1,pI g),(2,pI d),(0,pI e)] 48,[],s⟩) (λ_=>k .ret ⟨gp [(4,pI (0:Int)),(0,pB false)] 55,[],s⟩)
theorem As5:NG (R:=R) L Q Y s (cd [1,1,0,1,0,0,1,1,0,0,1,1,0,1,0,1,1,1] Ef):=by intro k g a d b e f c;unfold Va;kernel_rfl
noncomputable def Vb{R:Type}(v:By)(a q d r t:Int)(x:Bool)(m:By->Int->Int->Int->Int->Int->Option R)(w:Unit->Option R):Option R:=cond x (vl (A1 (wu8 (d-48))) λn=>m v a q n r t) (cond (not (ltI d 97)) (Va v a q d r t (not (ltI 102 d)) (λu c o l p f=>m u c o l p f) (λ_=>w ())) (Va v a q d r t false (λj b g e h i=>m j b g e h i) (λ_=>w ())))
abbrev Qf(b:Code):Prop:=∀(k:Out->St Z->Option R) f a c b3 d e b6,A9 (V2 L) Q Y b ⟨gp [(0,pS f),(0,pI a),(4,pI c),(2,p8 b3),(1,pI d),(0,pI e),(5,pB b6)] 42,[],s⟩ k=Vb f a c b3 d e b6 (λf a c g d e=>k .normal ⟨gp [(0,pS f),(0,pI a),(4,pI c),(1,pI g),(2,pI d),(0,pI e)] 48,[],s⟩) (λ_=>k .ret ⟨gp [(4,pI (0:Int)),(0,pB false)] 55,[],s⟩)
theorem As6(a:Code)(b:NG (R:=R) L Q Y s a):Qf (R:=R) L Q Y s (cd [1,1,0,1,0,0,1,1,0,0,1,1,0,1,0,1] (G4 [1,1,0,1,0,0,1,1,0,0,1,1,0,1,0,1,1,1] a Ef)):=by intro k i c f d g h e;unfold Vb;simp only[<-b k];kernel_rfl
theorem As7:Qf (R:=R) L Q Y s (cd [1,1,0,1,0,0,1,1,0,0,1,1,0,1,0,1] Ef):=by intro k g a d b e f c;exact j1 (by kernel_rfl) (As6 L Q Y s (cd [1,1,0,1,0,0,1,1,0,0,1,1,0,1,0,1,1,1] Ef) (As5 L Q Y s) k g a d b e f c)
noncomputable def Vd{R:Type}(j:By)(a g d h i:Int)(e:Unit->Option R)(f:By->Int->Int->Int->Int->Option R):Option R:=cond (not (ltI d a)) (e ()) (vl (A1 ((A1 (g*a))+d)) λb=>vl (if ((1099511627776:Int)<b) then (1099511627776:Int) else b) λc=>f j a c h i)
abbrev Zw(b:Code):Prop:=∀(k:Out->St Z->Option R) e a c d3 d n5,A9 (V2 L) Q Y b ⟨gp [(0,pS e),(0,pI a),(4,pI c),(1,pI d3),(2,pI d),(0,pI n5)] 48,[],s⟩ k=Vd e a c d3 d n5 (λ_=>k .ret ⟨gp [(4,pI (0:Int)),(0,pB false)] 55,[],s⟩) (λe a c f d=>k .normal ⟨gp [(0,pS e),(0,pI a),(4,pI c),(4,pI f),(0,pI d)] 48,[],s⟩)
theorem As8:Zw (R:=R) L Q Y s (cd [1,1,0,1,0,0,1,1,0,0,1,1,1] Ef):=by intro k f a c b d e;unfold Vd;kernel_rfl
noncomputable def Hv{R:Type}(L n:Nat)(g:By)(e H I f:Int)(h:Unit->Option R)(G:Int->Option R):Option R:=match n with|0=>none|n+1=>cond (ltI f I) (cond (inR f g.length) (cond (not (ltI (bAt g f) (48:Int))) (Vb g e H (bAt g f) I f (not (ltI 57 (bAt g f))) (λB a l i m o=>Vd B a l i m o (λ_=>h ()) (λC b p q r=>vl (A1 (r+1)) λt=>Hv L n C b p q t h G)) (λ_=>h ())) (Vb g e H (bAt g f) I f false (λD c u j v w=>Vd D c u j v w (λ_=>h ()) (λF d x y z=>vl (A1 (z+1)) λA=>Hv L n F d x y A h G)) (λ_=>h ()))) none) (G H)
theorem As9(b:Code)(d:Qf (R:=R) L Q Y s b)(a:Code)(e:Zw (R:=R) L Q Y s a)(n:Nat)(l:By)(c C D j:Int):C5 0 ((V2 L).keep 3) (bd (V2 L) Q Y (cd [1,1,0,1,0,0] (G4 [1,1,0,1,0,0,1,1,0,0,1,1,1] a (G4 [1,1,0,1,0,0,1,1,0,0,1,1,0,1,0,1] b Ef)))) n ⟨gp [(0,pS l),(0,pI c),(4,pI C),(4,pI D),(0,pI j)] 48,[],s⟩ k =
 Hv L n l c C D j (λ_=>k .ret ⟨gp [(4,pI (0:Int)),(0,pB false)] 55,[],s⟩) (λn0=>k (.exit 0) ⟨gp [(6,pI n0)] 54,[],s⟩):=by
 induction n generalizing l c C D j with
 | zero=>rfl
 | succ n M=>rw[Hv];exact let J:=(E1 1 (E0 (V2 L) Q Y (cd [1,1,0,1,0,0,1,1,1] Ef) (lpK 0 ((V2 L).keep 3) (bd (V2 L) Q Y (cd [1,1,0,1,0,0] (G4 [1,1,0,1,0,0,1,1,0,0,1,1,1] a (G4 [1,1,0,1,0,0,1,1,0,0,1,1,0,1,0,1] b Ef)))) n k)));let K:=(E1 2 (E0 (V2 L) Q Y a J));(j1 (by kernel_rfl) (A0 (A0 (A0 ((d K l c C (bAt l j) D j (not (ltI 57 (bAt l j)))).trans (congr (congr rfl (fx6 λF f p m q r=>(j1 (by kernel_rfl) ((e J F f p m q r).trans (congr (congr rfl (by kernel_rfl)) (fx5 λG g t u N=>(j1 (by kernel_rfl) (A4 λv=>(M G g t u v))))))))) (by kernel_rfl))) ((d K l c C (bAt l j) D j false).trans (congr (congr rfl (fx6 λH h w o x y=>(j1 (by kernel_rfl) ((e J H h w o x y).trans (congr (congr rfl (by kernel_rfl)) (fx5 λI i z A O=>(j1 (by kernel_rfl) (A4 λB=>(M I i z A B))))))))) (by kernel_rfl)))) rfl) rfl))
noncomputable def B81{R:Type}(L:Nat)(d:By)(a:Int)(c:Int->Bool->Option R):Option R:=Hv L L d a 0 (d.length:Int) 0 (λ_=>c 0 false) (λb=>c b true)
theorem Cr3(a:Code)(d:Qf (R:=PV × List Blk × Z) L Q Y s a)(b:Code)(e:Zw (R:=PV × List Blk × Z) L Q Y s b)(f:By)(c:Int):A9 (V2 L) Q Y (cd [] (G4 [1,1,0,1,0,0,1,1,0,0,1,1,1] b (G4 [1,1,0,1,0,0,1,1,0,0,1,1,0,1,0,1] a Ef))) ⟨[pS f,pI c]++tps 59,[],s⟩ (F1 (V2 L) ae0)=B81 L f c (λg h=>some (.tup [pI g,pB h],[],s)):=by unfold B81;exact(j1 (by kernel_rfl) ((As9 L Q Y s (E1 0 (E0 (V2 L) Q Y (cd [1,1,1] Ef) (F1 (V2 L) ae0))) a d b e L f c 0 (f.length:Int) 0).trans (by kernel_rfl)))
theorem Cr4(d:Nat)(s0 base1):evC (V2 L) (d+1) Z Y 124 [pS s0,pI base1] [] s=B81 L s0 base1 (λa b=>some (.tup [pI a,pB b],[],s)):=
 (evE (fn:=ae0) (by kernel_rfl)).trans (j1 (by kernel_rfl) (Cr3 L (evC (V2 L) d) Y s (cd [1,1,0,1,0,0,1,1,0,0,1,1,0,1,0,1] Ef) (As7 L (evC (V2 L) d) Y s) (cd [1,1,0,1,0,0,1,1,0,0,1,1,1] Ef) (As8 L (evC (V2 L) d) Y s) s0 base1))
noncomputable def B72(L:Nat):Cfg:=B4 L [123] (A2 []) [(122,Am1),(124,PK)] (A2 [(7,[2,0]),(2,[2,0]),(4,[2,0]),(6,[2,0]),(5,[0,14]),(3,[0,6]),(1,[0,3]),(0,[0])]) [122,124] (A2 [(0,[0])]) (some [2,0]) [] [] []
noncomputable def num{R:Type}(L:Nat)(a:By)(d:Int->Bool->Option R):Option R:=cond (a==[]) (d 0 false) (cond (A3 a.length) (cond (Bn a) (cond (I1 2 (a.length:Int) a.length) (vl (cut a 2 (a.length:Int)) λb=>cond (A3 b.length) (cond (ltN 16 17) (vl (↑(M4 (E8 16 0 b)):Int) λe=>d e (j2 (E8 16 0 b))) none) none) none) (cond (ltI 1 (a.length:Int)) (cond (inR 0 a.length) (cond ((bAt a (0:Int))==48) (cond (I1 1 (a.length:Int) a.length) (vl (cut a 1 (a.length:Int)) λc=>cond (A3 c.length) (cond (ltN 8 17) (vl (↑(M4 (E8 8 0 c)):Int) λf=>d f (j2 (E8 8 0 c))) none) none) none) (cond (A3 a.length) (cond (ltN 10 17) (vl (↑(M4 (E8 10 0 a)):Int) λg=>d g (j2 (E8 10 0 a))) none) none)) none) (cond (A3 a.length) (cond (ltN 10 17) (vl (↑(M4 (E8 10 0 a)):Int) λh=>d h (j2 (E8 10 0 a))) none) none))) none)
theorem Db6(d:Nat)(s0):evC (B72 L) (d+1) Z Y 123 [pS s0] [] s=num L s0 (λa b=>some (.tup [pI a,pB b],[],s)):=by refine(evE (fn:=Tryz.f123) (by kernel_rfl)).trans ?_;generalize evC (B72 L) d=Q;unfold num;kernel_rfl
noncomputable def TH(L:Nat):Cfg:=B4 L [121] (A2 []) [(109,Uu)] (A2 [(5,[2]),(4,[3]),(3,[3,0,13]),(2,[3,0]),(1,[3]),(0,[0])]) [] (A2 []) (some [2]) [] [] []
noncomputable def parts{R:Type}(L:Nat)(e:By)(c:LL->Option R):Option R:=cond (A3 e.length) (cond (1==1) (vl (D4 (pcs (b9 ([46]:List UInt8) 0 0) e)) λa=>vl (A1 ((a.length:Int)-1)) λb=>cond (ltI 0 b) (cond (inR b a.length) (cond (okE Pi a (b8 b) 0) (vl (gX a (b8 b) 0) λd=>cond (d==[]) (cond (I1 0 b a.length) (c (cut a 0 b)) none) (c a)) none) none) (c a)) none) none
theorem Cc9(d:Nat)(s0):evC (TH L) (d+1) Z Y 121 [pS s0] [] s=parts L s0 (λa=>some (.s (.sl false false 1 a),[],s)):=by refine(evE (fn:=Tryz.f121) (by kernel_rfl)).trans ?_;generalize evC (TH L) d=Q;unfold parts;kernel_rfl
noncomputable def Zp(L:Nat):Cfg:=B4 L [90] (A2 []) [(121,QQ),(122,Am1),(123,B39),(124,PK)] (A2 [(7,[2]),(6,[4,3]),(5,[2]),(4,[6]),(3,[4,13]),(2,[4]),(1,[3]),(0,[0])]) [122,123,124] (A2 []) (some [2]) [] [] []
noncomputable def EC{R:Type}(L:Nat)(c:By)(d:Bool->Option R):Option R:=cond (A3 c.length) (vl (A1 ((↑(a8 (D4 (C8 c))):Int)-1)) λb=>cond (inR b (a8 (D4 (C8 c)))) (cond (okE Pi (D4 (C8 c)) (b8 b) 0) (vl (gX (D4 (C8 c)) (b8 b) 0) λa=>cond (A3 a.length) (cond (Bn a) (cond (A3 a.length) (vl (↑(M4 (Ad a)):Int) λe=>d (j2 (Ad a))) none) (cond (A3 a.length) (cond (ltN 10 17) (vl (↑(M4 (E8 10 0 a)):Int) λf=>cond (j2 (E8 10 0 a)) (d (not (a==[]))) (d false)) none) none)) none) none) none) none
theorem Ay0(d:Nat)(s0):evC (Zp L) (d+1) Z Y 90 [pS s0] [] s=EC L s0 (λa=>some (pB a,[],s)):=by refine(evE (fn:=Tryz.f90) (by kernel_rfl)).trans ?_;generalize evC (Zp L) d=Q;unfold EC;kernel_rfl
noncomputable abbrev B61:Code:=C4 ag0
noncomputable def Sx(L:Nat):Cfg:=B4 L [108] (A2 [(6,[2,0,0,0,10,0,0])]) [(121,QQ),(123,B39)] (A2 [(20,[2,0]),(19,[4,0,10,0,0]),(18,[4,0,10,0,0]),(17,[2,0]),(16,[4,0,2,1,5,0,0,29]),(15,[4,0,2,1,5,0,0]),(14,[4,0,10,0,0]),(13,[2,0]),(12,[4,0,2,7,0,0,17]),(11,[4,0,2,7,0,0,15]),(10,[2,0]),(9,[4,0,0,1,7,0,0,10]),(8,[4,0,0,1,0,6,0,0]),(7,[4,0,0,0,8,0,0]),(6,[4,0,10,0,0,0]),(5,[4,0,10,0,0]),(4,[4,0]),(3,[2,0]),(2,[4,10]),(1,[4]),(0,[0])]) [123] (A2 [(0,[5]),(1,[4,0,10,0,0])]) (some [2,0]) [] [] []
noncomputable def Ig{R:Type}(L n:Nat)(a:LL)(v1 l d:Int)(e:Unit->Option R)(h:Int->Option R):Option R:=match n with|0=>none|n+1=>cond (ltI d l) (cond (inR d a.length) (cond (okE Pi a (b8 d) 0) (cond (A3 (a8 (gX a (b8 d) 0))) (vl (↑(M4 (Ad (gX a (b8 d) 0))):Int) λb=>cond (not (j2 (Ad (gX a (b8 d) 0)))) (e ()) (vl (A1 ((a.length:Int)-1)) λi=>cond (ltI d i) (cond (ltI 255 b) (e ()) (vl (bOr .i64 (Rg .i64 v1 (8:Int)) b) λj=>Ig L n a j l (A1 (d+1)) e h)) (vl (A1 ((5:Int)-(a.length:Int))) λc=>cond (decide ((0:Int)<=(A1 ((8:Int)*c)))) (vl (Rg .i64 (1:Int) (A1 ((8:Int)*c))) λf=>cond (not (ltI b f)) (e ()) (cond (decide ((0:Int)<=(A1 ((8:Int)*c)))) (vl (Rg .i64 v1 (A1 ((8:Int)*c))) λg=>Ig L n a (bOr .i64 g b) l (A1 (d+1)) e h) none)) none))) none) none) none) (h v1)
theorem Az9(n l0 v1 n2 n3):C5 0 ((Sx L).keep 6) (bd (Sx L) Q Y (cd [1,0,1,1,1,1,0,1,0,0] B61)) n ⟨gp [(4,.s (.sl false false 1 l0)),(0,pI v1),(10,.s (.sl false false 1 l0)),(0,pI n2),(0,pI n3)] 38,[],s⟩ k =
 Ig L n l0 v1 n2 n3 (λ_=>k .ret ⟨gp [(2,p32 (0:Int)),(0,pB false)] 53,[],s⟩) (λv0=>k (.exit 0) ⟨gp [(5,pI v0)] 51,[],s⟩):=by
 induction n generalizing l0 v1 n2 n3 with
 | zero=>rfl
 | succ n a=>rw[Ig];simp only[<-a];kernel_rfl
noncomputable def Cx4{R:Type}(L:Nat)(b:By)(c:Int->Bool->Option R):Option R:=cond (A3 b.length) (cond (ltI 4 (↑(a8 (D4 (C8 b))):Int)) (c 0 false) (Ig L L (D4 (C8 b)) 0 (↑(a8 (D4 (C8 b))):Int) 0 (λ_=>c 0 false) (λa=>c (BN a) true))) none
theorem Cx5(d:Nat)(s0):evC (Sx L) (d+1) Z Y 108 [pS s0] [] s=Cx4 L s0 (λa b=>some (.tup [p32 a,pB b],[],s)):=by refine(evE (fn:=ag0) (by kernel_rfl)).trans ?_;generalize evC (Sx L) d=Q;unfold Cx4;exact(j1 (by kernel_rfl) (A0 (A0 rfl ((Az9 L Q Y s (E1 0 (E0 (Sx L) Q Y (cd [1,0,1,1,1,1,1] B61) (F1 (Sx L) ag0))) L (D4 (C8 s0)) 0 (↑(a8 (D4 (C8 s0))):Int) 0).trans (by kernel_rfl))) rfl))
noncomputable abbrev C79:Code:=C4 ag7
noncomputable def HN(L:Nat):Cfg:=B4 L [180] (A2 [(6,[2,0,1,9,0,0])]) [(109,Uu),(124,PK),(51,Am4)] (A2 [(13,[2,0]),(12,[5,9,0,0]),(11,[5,9,0,0]),(10,[2,0]),(9,[5,2,6,0,0,19]),(8,[5,1,0,0,5,0,0]),(7,[5,1,7,0,0]),(6,[5,9,0,0,0]),(5,[5,9,0,0]),(4,[4,0]),(3,[2,0]),(2,[4,9]),(1,[4]),(0,[0])]) [124,51] (A2 [(0,[5]),(1,[5,9,0,0])]) (some [2,0]) [] [] []
noncomputable def Uk{R:Type}(L n:Nat)(v0:Int)(c:LL)(h b:Int)(d:Unit->Option R)(g:Int->Option R):Option R:=match n with|0=>none|n+1=>cond (ltI b h) (cond (inR b c.length) (cond (okE Pi c (b8 b) 0) (cond (A3 (a8 (gX c (b8 b) 0))) (cond (ltN 10 17) (vl (↑(M4 (E8 10 0 (gX c (b8 b) 0))):Int) λa=>cond (not (j2 (E8 10 0 (gX c (b8 b) 0)))) (d ()) (cond (ltI 255 a) (d ()) (cond (ltN a 4294967296) (vl (j5 (b8 a)) λf=>cond (not (f==(gX c (b8 b) 0))) (d ()) (vl (bOr .u32 (Rg .u32 v0 (8:Int)) (BN a)) λe=>Uk L n e c h (A1 (b+1)) d g)) none))) none) none) none) none) (g v0)
theorem B12(n v0 l1 n2 n3):C5 0 ((HN L).keep 6) (bd (HN L) Q Y (cd [1,1,1,1,0,1,0,0] C79)) n ⟨gp [(5,p32 v0),(9,.s (.sl false false 1 l1)),(0,pI n2),(0,pI n3)] 27,[],s⟩ k =
 Uk L n v0 l1 n2 n3 (λ_=>k .ret ⟨gp [(2,p32 (0:Int)),(0,pB false)] 41,[],s⟩) (λv0=>k (.exit 0) ⟨gp [(5,p32 v0)] 39,[],s⟩):=by
 induction n generalizing v0 l1 n2 n3 with
 | zero=>rfl
 | succ n a=>rw[Uk];simp only[<-a];kernel_rfl
noncomputable def v4p{R:Type}(L:Nat)(d:By)(b:Int->Bool->Option R):Option R:=cond (A3 d.length) (cond (1==1) (vl (D4 (pcs (b9 ([46]:List UInt8) 0 0) d)) λa=>cond ((a.length:Int)!=4) (b 0 false) (Uk L L 0 a (a.length:Int) 0 (λ_=>b 0 false) (λc=>b c true))) none) none
theorem Dd7(d:Nat)(s0):evC (HN L) (d+1) Z Y 180 [pS s0] [] s=v4p L s0 (λb c=>some (.tup [p32 b,pB c],[],s)):=by refine(evE (fn:=ag7) (by kernel_rfl)).trans ?_;generalize evC (HN L) d=Q;unfold v4p;exact(j1 (by kernel_rfl) (A0 (A0 (A4 λa=>(A0 rfl ((B12 L Q Y s (E1 0 (E0 (HN L) Q Y (cd [1,1,1,1,1] C79) (F1 (HN L) ag7))) L 0 a (a.length:Int) 0).trans (by kernel_rfl)))) rfl) rfl))
noncomputable abbrev C78:Code:=C4 ah6
noncomputable def HM(L:Nat):Cfg:=B4 L [67] (A2 [(3,[0,1,0,0])]) [(51,Am4)] (A2 [(6,[2]),(4,[0,2,0]),(5,[0,2,0]),(3,[0,2,0,1]),(2,[0,2,0]),(1,[0,2]),(0,[0])]) [51] (A2 [(0,[3]),(1,[0,2,0])]) (some [2]) [] [] []
noncomputable def Hq{R:Type}(L n:Nat)(v0:Int)(a:By)(e:Int)(f:By->Option R):Option R:=match n with|0=>none|n+1=>cond (not (ltI e 0)) (cond (decide ((0:Int)<=e)) (vl (Ap3 .u32 (Nn .u32 v0 e) (255:Int)) λb=>cond (ltN (A1 b) 4294967296) (vl (j5 (b8 (A1 b))) λc=>cond (D6 c.length 1) (vl (c++[46]) λd=>cond (D6 a.length d.length) (Hq L n v0 (a++d) (A1 (e-8)) f) none) none) none) none) (f a)
theorem B11(n v0 out1 i2):C5 0 ((HM L).keep 3) (bd (HM L) Q Y (cd [1,1,0,1,0,0] C78)) n ⟨gp [(0,p32 v0),(2,pS out1),(0,pI i2)] 18,[],s⟩ k =
 Hq L n v0 out1 i2 (λa=>k (.exit 0) ⟨gp [(3,pS a)] 19,[],s⟩):=by
 induction n generalizing v0 out1 i2 with
 | zero=>rfl
 | succ n b=>rw[Hq];simp only[<-b];kernel_rfl
noncomputable def v4f{R:Type}(L:Nat)(v0:Int)(d:By->Option R):Option R:=Hq L L v0 ([]:List UInt8) 24 (λa=>vl (A1 ((a.length:Int)-1)) λb=>cond (I1 0 b a.length) (vl (cut a 0 b) λc=>d c) none)
theorem Dd6(d:Nat)(v0):evC (HM L) (d+1) Z Y 67 [p32 v0] [] s=v4f L v0 (λa=>some (pS a,[],s)):=by refine(evE (fn:=ah6) (by kernel_rfl)).trans ?_;generalize evC (HM L) d=Q;unfold v4f;exact(j1 (by kernel_rfl) ((B11 L Q Y s (E1 0 (E0 (HM L) Q Y (cd [1,1,1] C78) (F1 (HM L) ah6))) L v0 ([]:List UInt8) 24).trans (by kernel_rfl)))
noncomputable abbrev MS:Code:=C4 ag2
noncomputable def Ck(L:Nat):Cfg:=B4 L [117] (A2 [(2,[0,1,0])]) [] (A2 [(6,[2]),(3,[0,2]),(5,[2]),(4,[0,2,15]),(2,[0,2,3]),(1,[0,2]),(0,[0])]) [] (A2 [(0,[0]),(1,[0,2])]) (some [2]) [] [] []
noncomputable def Ap{R:Type}(L n:Nat)(a:By)(b:Int)(c:Unit->Option R)(d:By->Option R):Option R:=match n with|0=>none|n+1=>cond (ltI b (a.length:Int)) (cond (inR b a.length) (cond (ltI (bAt a b) (48:Int)) (c ()) (cond (inR b a.length) (cond (ltI 57 (bAt a b)) (c ()) (Ap L n a (A1 (b+1)) c d)) none)) none) (d a)
theorem LP(n a i1):C5 0 ((Ck L).keep 2) (bd (Ck L) Q Y (cd [1,0,1,0,0] MS)) n ⟨gp [(0,pS a),(2,pI i1)] 18,[],s⟩ k =
 Ap L n a i1 (λ_=>k .ret ⟨gp [(2,pB false)] 19,[],s⟩) (λa=>k (.exit 0) ⟨gp [(0,pS a)] 21,[],s⟩):=by
 induction n generalizing a i1 with
 | zero=>rfl
 | succ n b=>rw[Ap];simp only[<-b];kernel_rfl
noncomputable def EG{R:Type}(L:Nat)(c:By)(b:Bool->Option R):Option R:=Ap L L c 0 (λ_=>b false) (λa=>b (not (a==[])))
theorem A10(d:Nat)(s0):evC (Ck L) (d+1) Z Y 117 [pS s0] [] s=EG L s0 (λa=>some (pB a,[],s)):=by refine(evE (fn:=ag2) (by kernel_rfl)).trans ?_;generalize evC (Ck L) d=Q;unfold EG;exact(j1 (by kernel_rfl) ((LP L Q Y s (E1 0 (E0 (Ck L) Q Y (cd [1,1] MS) (F1 (Ck L) ag2))) L s0 0).trans (by kernel_rfl)))
noncomputable abbrev B64:Code:=C4 ah4
noncomputable def Ta(L:Nat):Cfg:=B4 L [17] (A2 [(3,[0,1,0,0])]) [] (A2 [(9,[2]),(4,[0,2,0]),(8,[0,2,0]),(7,[0,2,0,0]),(6,[0,2,0,0,14]),(5,[0,2,0,0]),(3,[0,2,0,4]),(2,[0,2,0]),(1,[0,2]),(0,[0])]) [] (A2 [(0,[3]),(1,[0,2,0])]) (some [2]) [] [] []
noncomputable def Fb{R:Type}(L n:Nat)(b:By)(a:Int)(c:LL)(d:LL->Option R):Option R:=match n with|0=>none|n+1=>cond (ltI a (b.length:Int)) (cond (inR a b.length) (cond (not (ltI (bAt b a) (65:Int))) (cond (not (ltI 90 (bAt b a))) (vl (wu8 ((bAt b a)+32)) λe=>cond (F8 (c.length+1)) (Fb L n b (A1 (a+1)) (c++[[(SV.int .u8 e)]]) d) none) (cond (F8 (c.length+1)) (Fb L n b (A1 (a+1)) (c++[[(SV.int .u8 (bAt b a))]]) d) none)) (cond (F8 (c.length+1)) (Fb L n b (A1 (a+1)) (c++[[(SV.int .u8 (bAt b a))]]) d) none)) none) (d c)
theorem A40(n s0 i1 l2):C5 1 ((Ta L).keep 3) (bd (Ta L) Q Y (cd [1,1,0,1,0,0] B64)) n ⟨gp [(0,pS s0),(2,.fl 0),(0,pI i1)] 24,[.arr true 5 1 l2],s⟩ k =
 Fb L n s0 i1 l2 (λb=>k (.exit 0) ⟨gp [(3,.fl 0)] 25,[.arr true 5 1 b],s⟩):=by
 induction n generalizing s0 i1 l2 with
 | zero=>rfl
 | succ n a=>rw[Fb];simp only[<-a];kernel_rfl
noncomputable def Cz3{R:Type}(L:Nat)(c:By)(b:By->LL->Option R):Option R:=Fb L L c 0 [] (λa=>cond (x3 a Nm) (b (s7 Le a) a) none)
theorem Cz4(d:Nat)(s0):evC (Ta L) (d+1) Z Y 17 [pS s0] [] s=Cz3 L s0 (λb a=>some (pS b,[.arr true 5 1 a],s)):=by refine(evE (fn:=ah4) (by kernel_rfl)).trans ?_;generalize evC (Ta L) d=Q;unfold Cz3;exact(j1 (by kernel_rfl) ((A40 L Q Y s (E1 0 (E0 (Ta L) Q Y (cd [1,1,1] B64) (F1 (Ta L) ah4))) L s0 0 []).trans (by kernel_rfl)))
noncomputable abbrev YP:Code:=C4 ah8
noncomputable def Gc(L:Nat):Cfg:=B4 L [88] (A2 [(4,[0,0,2,0,0,0])]) [] (A2 [(9,[4]),(5,[0,0,3,0,0]),(8,[0,0,3,0,0]),(7,[0,0,3,1]),(6,[0,0,3,0,0,16]),(4,[0,0,3,0,0,3]),(3,[0,0,3,0,0]),(2,[0,0,3,0]),(1,[0,0,3]),(0,[0,0])]) [] (A2 [(0,[5]),(1,[0,0,3,0,0])]) (some [4]) [] [] []
noncomputable def U7{R:Type}(L n:Nat)(c:By)(d a b:Int)(e:LL)(f:LL->Option R):Option R:=match n with|0=>none|n+1=>cond (not (ltI (c.length:Int) b)) (cond (b==(c.length:Int)) (cond (I1 a b c.length) (cond (F8 (e.length+1)) (U7 L n c d (A1 (b+1)) (A1 (b+1)) (e++[[(SV.str (cut c a b))]]) f) none) none) (cond (inR b c.length) (cond ((bAt c b)==d) (cond (I1 a b c.length) (cond (F8 (e.length+1)) (U7 L n c d (A1 (b+1)) (A1 (b+1)) (e++[[(SV.str (cut c a b))]]) f) none) none) (U7 L n c d a (A1 (b+1)) e f)) none)) (f e)
theorem WC(n s0 at1 from2 i3 l4):C5 1 ((Gc L).keep 4) (bd (Gc L) Q Y (cd [1,1,1,0,1,0,0] YP)) n ⟨gp [(0,pS s0),(0,p8 at1),(3,.fl 0),(0,pI from2),(0,pI i3)] 27,[.arr true 9 1 l4],s⟩ k =
 U7 L n s0 at1 from2 i3 l4 (λb=>k (.exit 0) ⟨gp [(5,.fl 0)] 29,[.arr true 9 1 b],s⟩):=by
 induction n generalizing s0 at1 from2 i3 l4 with
 | zero=>rfl
 | succ n a=>rw[U7];simp only[<-a];kernel_rfl
noncomputable def JY{R:Type}(L:Nat)(d:By)(a:Int)(c:LL->Option R):Option R:=U7 L L d a 0 0 [] (λb=>c b)
theorem Bx0(d:Nat)(s0 at1):evC (Gc L) (d+1) Z Y 88 [pS s0,p8 at1] [] s=JY L s0 at1 (λa=>some (.fl 0,[.arr true 9 1 a],s)):=by refine(evE (fn:=ah8) (by kernel_rfl)).trans ?_;generalize evC (Gc L) d=Q;unfold JY;exact(j1 (by kernel_rfl) ((WC L Q Y s (E1 0 (E0 (Gc L) Q Y (cd [1,1,1,1] YP) (F1 (Gc L) ah8))) L s0 at1 0 0 []).trans (by kernel_rfl)))
noncomputable def Zo(L:Nat):Cfg:=B4 L [53] (A2 []) [(53,(Ks L))] (A2 [(3,[2]),(2,[2]),(1,[0,3]),(0,[0])]) [53] (A2 []) (some [2]) [] [] []
noncomputable def DY{R:Type}(L:Nat)(n0:Int)(g:By->Option R):Option R:=cond (ltI n0 10) (vl (wu8 (A1 ((48:Int)+n0))) λa=>cond (x3 [[(SV.int .u8 a)]] Nm) (vl (s7 Le [[(SV.int .u8 a)]]) λf=>g f) none) (vl (A1 (aa0 n0 (10:Int))) λb=>cond (ltN b L) (vl (j5 (b8 b)) λd=>vl (A1 ((48:Int)+(x7 n0 (10:Int)))) λc=>cond (x3 [[(SV.int .u8 (wu8 c))]] Nm) (vl (s7 Le [[(SV.int .u8 (wu8 c))]]) λe=>cond (D6 d.length e.length) (g (d++e)) none) none) none)
theorem At8(d:Nat)(n0):evC (Zo L) (d+1) Z Y 53 [pI n0] [] s=DY L n0 (λa=>some (pS a,[],s)):=by refine(evE (fn:=Tryz.f53) (by kernel_rfl)).trans ?_;generalize evC (Zo L) d=Q;unfold DY;kernel_rfl
noncomputable abbrev Sp:Code:=C4 ae3
noncomputable def Iv(L:Nat):Cfg:=B4 L [147] (A2 []) [] (A2 [(7,[2]),(2,[2]),(4,[2]),(6,[2]),(5,[0,23]),(3,[0,12]),(1,[0,2]),(0,[0])]) [] (A2 [(0,[])]) (some [2]) [] [] []
noncomputable def Wo{R:Type}(a:Int)(h:Bool)(f:Int->Option R)(g:Int->Bool->Option R):Option R:=cond h (vl (A1 (wu8 (a-97))) λb=>vl (A1 (b+10)) λc=>f c) (cond (not (ltI a 65)) (cond (not (ltI 70 a)) (vl (A1 (wu8 (a-65))) λd=>vl (A1 (d+10)) λe=>f e) (g a (not (ltI 70 a)))) (g a false))
abbrev OF(b:Code):Prop:=∀(k:Out->St Z->Option R) a c,A9 (Iv L) Q Y b ⟨gp [(0,p8 a),(12,pB c)] 21,[],s⟩ k=Wo a c (λn0=>k .ret ⟨gp [(2,pI n0)] 32,[],s⟩) (λa c=>k .normal ⟨gp [(0,p8 a),(23,pB c)] 10,[],s⟩)
theorem A07:OF (R:=R) L Q Y s (cd [1,0,0,1,1,1] Sp):=by intro k a b;unfold Wo;kernel_rfl
noncomputable def Wp{R:Type}(b:Int)(l:Bool)(f:Int->Option R)(j:Int->Bool->Option R):Option R:=cond l (vl (A1 (wu8 (b-48))) λg=>f g) (cond (not (ltI b 97)) (Wo b (not (ltI 102 b)) (λh=>f h) (λc d=>j c d)) (Wo b false (λi=>f i) (λe a=>j e a)))
abbrev AW(b:Code):Prop:=∀(k:Out->St Z->Option R) a c,A9 (Iv L) Q Y b ⟨gp [(0,p8 a),(2,pB c)] 31,[],s⟩ k=Wp a c (λn0=>k .ret ⟨gp [(2,pI n0)] 32,[],s⟩) (λa c=>k .normal ⟨gp [(0,p8 a),(23,pB c)] 10,[],s⟩)
theorem A08(a:Code)(b:OF (R:=R) L Q Y s a):AW (R:=R) L Q Y s (cd [1,0,0,1] (G4 [1,0,0,1,1,1] a Sp)):=by intro k c d;unfold Wp;simp only[<-b k];kernel_rfl
theorem A09:AW (R:=R) L Q Y s (cd [1,0,0,1] Sp):=by intro k a b;exact j1 (by kernel_rfl) (A08 L Q Y s (cd [1,0,0,1,1,1] Sp) (A07 L Q Y s) k a b)
noncomputable def Cd7{R:Type}(L:Nat)(c:Int)(d:Int->Option R):Option R:=cond (not (ltI c 48)) (Wp c (not (ltI 57 c)) (λa=>d a) (λe f=>d 99)) (Wp c false (λb=>d b) (λg h=>d 99))
theorem Cy3(b:Code)(a:AW (R:=PV × List Blk × Z) L Q Y s b)(c:Int):A9 (Iv L) Q Y (cd [] (G4 [1,0,0,1] b Sp)) ⟨[p8 c]++tps 34,[],s⟩ (F1 (Iv L) ae3)=Cd7 L c (λe=>some (pI e,[],s)):=by unfold Cd7;exact let d:=(E1 0 (E0 (Iv L) Q Y (cd [1,1] Sp) (F1 (Iv L) ae3)));(j1 (by kernel_rfl) (A0 ((a d c (not (ltI 57 c))).trans (by kernel_rfl)) ((a d c false).trans (by kernel_rfl))))
theorem Cy4(d:Nat)(b0):evC (Iv L) (d+1) Z Y 147 [p8 b0] [] s=Cd7 L b0 (λa=>some (pI a,[],s)):=
 (evE (fn:=ae3) (by kernel_rfl)).trans (j1 (by kernel_rfl) (Cy3 L (evC (Iv L) d) Y s (cd [1,0,0,1] Sp) (A09 L (evC (Iv L) d) Y s) b0))
noncomputable abbrev Ci:Code:=C4 ad9
noncomputable def O4(L:Nat):Cfg:=B4 L [118] (A2 [(10,[0,1,0,0,0,0])]) [(147,B43)] (A2 [(16,[2,0]),(11,[0,3,0,0]),(15,[0,3,0,0]),(14,[2,0]),(13,[0,3,0,0,0,44]),(12,[0,3,0,0,0]),(10,[0,3,0,0,36]),(9,[0,3,0,0]),(8,[0,3,0]),(5,[0,3]),(7,[0,3]),(6,[0,3,32]),(4,[0,3,22]),(3,[0,3]),(2,[2,0]),(1,[0,8]),(0,[0])]) [147] (A2 [(0,[5]),(1,[0,3,0,0])]) (some [2,0]) [] [] []
noncomputable def EK{R:Type}(a:By)(c:By->Option R):Option R:=cond (I1 2 (a.length:Int) a.length) (vl (cut a 2 (a.length:Int)) λb=>c b) none
abbrev OK(b:Code):Prop:=∀(k:Out->St Z->Option R) a,A9 (O4 L) Q Y b ⟨gp [(0,pS a),(3,pI (10:Int)),(22,pB true)] 32,[],s⟩ k=EK a (λa=>k .normal ⟨gp [(0,pS a),(3,pI (16:Int))] 55,[],s⟩)
theorem A43:OK (R:=R) L Q Y s (cd [1,1,1,0,1] Ci):=by intro k a;unfold EK;kernel_rfl
noncomputable def Ii{R:Type}(L n:Nat)(d:By)(h a:Int)(f:Unit->Option R)(g:Int->Option R):Option R:=match n with|0=>none|n+1=>cond (ltI a (d.length:Int)) (cond (inR a d.length) (cond (inR (bAt d a) 256) (vl (↑(dig (u8n (bAt d a))):Int) λb=>cond (not (ltI b 16)) (f ()) (vl (A1 ((A1 (h*16))+b)) λc=>vl (if ((1099511627776:Int)<c) then (1099511627776:Int) else c) λe=>Ii L n d e (A1 (a+1)) f g)) none) none) (g h)
theorem A48(n s0 n1 i2):C5 0 ((O4 L).keep 10) (bd (O4 L) Q Y (cd [1,1,1,1,1,0,1,0,0] Ci)) n ⟨gp [(0,pS s0),(3,pI (16:Int)),(0,pI n1),(0,pI i2)] 53,[],s⟩ k =
 Ii L n s0 n1 i2 (λ_=>k .ret ⟨gp [(2,pI (0:Int)),(0,pB false)] 56,[],s⟩) (λn0=>k (.exit 0) ⟨gp [(5,pI n0)] 54,[],s⟩):=by
 induction n generalizing s0 n1 i2 with
 | zero=>rfl
 | succ n a=>rw[Ii];simp only[<-a];kernel_rfl
noncomputable def EL{R:Type}(L:Nat)(c:By)(b:Int->Bool->Option R):Option R:=Ii L L c 0 0 (λ_=>b 0 false) (λa=>b a true)
abbrev OL(b:Code):Prop:=∀(k:Out->St Z->Option R) s0,A9 (O4 L) Q Y b ⟨gp [(0,pS s0),(3,pI (16:Int))] 55,[],s⟩ k=EL L s0 (λn0 a=>k .ret ⟨gp [(2,pI n0),(0,pB a)] 56,[],s⟩)
theorem A44:OL (R:=R) L Q Y s (cd [1,1,1,1] Ci):=by intro k a;unfold EL;exact(j1 (by kernel_rfl) ((A48 L Q Y s (E1 0 (E0 (O4 L) Q Y (cd [1,1,1,1,1,1] Ci) k)) L a 0 0).trans (by kernel_rfl)))
noncomputable def Qs{R:Type}(a:By)(f:Bool)(d:By->Int->Option R)(e:By->Bool->Option R):Option R:=cond f (cond (I1 2 (a.length:Int) a.length) (vl (cut a 2 (a.length:Int)) λc=>d c 16) none) (cond (not (ltI (a.length:Int) (2:Int))) (cond (inR 0 a.length) (cond ((bAt a (0:Int))==48) (cond (I1 1 (a.length:Int) a.length) (vl (cut a 1 (a.length:Int)) λb=>d b 8) none) (e a ((bAt a (0:Int))==48))) none) (e a false))
abbrev OM(b:Code):Prop:=∀(k:Out->St Z->Option R) c d,A9 (O4 L) Q Y b ⟨gp [(0,pS c),(3,pI (10:Int)),(22,pB d)] 32,[],s⟩ k=Qs c d (λc a=>k .normal ⟨gp [(0,pS c),(3,pI a)] 55,[],s⟩) (λc d=>k .normal ⟨gp [(0,pS c),(3,pI (10:Int)),(32,pB d)] 22,[],s⟩)
theorem A45:OM (R:=R) L Q Y s (cd [1,1,1,0,1] Ci):=by intro k b a;unfold Qs;kernel_rfl
noncomputable def Fc{R:Type}(L n:Nat)(f:By)(a i d:Int)(g:Unit->Option R)(h:Int->Option R):Option R:=match n with|0=>none|n+1=>cond (ltI d (f.length:Int)) (cond (inR d f.length) (cond (inR (bAt f d) 256) (vl (↑(dig (u8n (bAt f d))):Int) λb=>cond (not (ltI b a)) (g ()) (vl (A1 ((A1 (i*a))+b)) λc=>vl (if ((1099511627776:Int)<c) then (1099511627776:Int) else c) λe=>Fc L n f a e (A1 (d+1)) g h)) none) none) (h i)
theorem JX(n s0 base1 n2 i3):C5 0 ((O4 L).keep 10) (bd (O4 L) Q Y (cd [1,1,1,1,1,0,1,0,0] Ci)) n ⟨gp [(0,pS s0),(3,pI base1),(0,pI n2),(0,pI i3)] 53,[],s⟩ k =
 Fc L n s0 base1 n2 i3 (λ_=>k .ret ⟨gp [(2,pI (0:Int)),(0,pB false)] 56,[],s⟩) (λn0=>k (.exit 0) ⟨gp [(5,pI n0)] 54,[],s⟩):=by
 induction n generalizing s0 base1 n2 i3 with
 | zero=>rfl
 | succ n a=>rw[Fc];simp only[<-a];kernel_rfl
noncomputable def Qt{R:Type}(L:Nat)(d:By)(a:Int)(c:Int->Bool->Option R):Option R:=Fc L L d a 0 0 (λ_=>c 0 false) (λb=>c b true)
abbrev ON(b:Code):Prop:=∀(k:Out->St Z->Option R) s0 base1,A9 (O4 L) Q Y b ⟨gp [(0,pS s0),(3,pI base1)] 55,[],s⟩ k=Qt L s0 base1 (λn0 a=>k .ret ⟨gp [(2,pI n0),(0,pB a)] 56,[],s⟩)
theorem A46:ON (R:=R) L Q Y s (cd [1,1,1,1] Ci):=by intro k b a;unfold Qt;exact(j1 (by kernel_rfl) ((JX L Q Y s (E1 0 (E0 (O4 L) Q Y (cd [1,1,1,1,1,1] Ci) k)) L b a 0 0).trans (by kernel_rfl)))
noncomputable def Qu{R:Type}(L:Nat)(c:By)(b:Int->Bool->Option R):Option R:=Fc L L c 10 0 0 (λ_=>b 0 false) (λa=>b a true)
abbrev OO(b:Code):Prop:=∀(k:Out->St Z->Option R) s0 a,A9 (O4 L) Q Y b ⟨gp [(0,pS s0),(3,pI (10:Int)),(32,pB a)] 22,[],s⟩ k=Qu L s0 (λn0 a=>k .ret ⟨gp [(2,pI n0),(0,pB a)] 56,[],s⟩)
theorem A47:OO (R:=R) L Q Y s (cd [1,1,1,1] Ci):=by intro k a b;unfold Qu;exact(j1 (by kernel_rfl) ((JX L Q Y s (E1 0 (E0 (O4 L) Q Y (cd [1,1,1,1,1,1] Ci) k)) L a 10 0 0).trans (by kernel_rfl)))
noncomputable def Cf9{R:Type}(L:Nat)(a:By)(e:Int->Bool->Option R):Option R:=cond (a==[]) (e 0 false) (cond (not (ltI (a.length:Int) (2:Int))) (cond (inR 0 a.length) (cond ((bAt a (0:Int))==48) (cond (inR 1 a.length) (cond ((bAt a (1:Int))==120) (EK a (λB=>EL L B (λA z=>e A z))) (cond (inR 1 a.length) (Qs a ((bAt a (1:Int))==88) (λt b=>Qt L t b (λm f=>e m f)) (λu C=>Qu L u (λn g=>e n g))) none)) none) (Qs a false (λv c=>Qt L v c (λo h=>e o h)) (λw D=>Qu L w (λp i=>e p i)))) none) (Qs a false (λx d=>Qt L x d (λq j=>e q j)) (λy F=>Qu L y (λr l=>e r l))))
theorem Cz5(e:Code)(f:OK (R:=PV × List Blk × Z) L Q Y s e)(a:OM (R:=PV × List Blk × Z) L Q Y s e)(d:Code)(g:OL (R:=PV × List Blk × Z) L Q Y s d)(b:ON (R:=PV × List Blk × Z) L Q Y s d)(c:OO (R:=PV × List Blk × Z) L Q Y s d)(m:By):A9 (O4 L) Q Y (cd [] (G4 [1,1,1,1] d (G4 [1,1,1,0,1] e Ci))) ⟨[pS m]++tps 59,[],s⟩ (F1 (O4 L) ad9)=Cf9 L m (λz A=>some (.tup [pI z,pB A],[],s)):=by unfold Cf9;exact let l:=(F1 (O4 L) ad9);let x:=(E0 (O4 L) Q Y d l);(j1 (by kernel_rfl) (A0 rfl (A0 (A0 (A0 (A0 (A0 ((f x m).trans (congr rfl (fx1 λy=>(j1 (by kernel_rfl) ((g l y).trans (by kernel_rfl)))))) (A0 ((a x m ((bAt m (1:Int))==88)).trans (congr (congr rfl (fx2 λq h=>(j1 (by kernel_rfl) ((b l q h).trans (by kernel_rfl))))) (fx2 λr n=>(j1 (by kernel_rfl) ((c l r n).trans (by kernel_rfl)))))) rfl)) rfl) ((a x m false).trans (congr (congr rfl (fx2 λt i=>(j1 (by kernel_rfl) ((b l t i).trans (by kernel_rfl))))) (fx2 λu o=>(j1 (by kernel_rfl) ((c l u o).trans (by kernel_rfl))))))) rfl) ((a x m false).trans (congr (congr rfl (fx2 λv j=>(j1 (by kernel_rfl) ((b l v j).trans (by kernel_rfl))))) (fx2 λw p=>(j1 (by kernel_rfl) ((c l w p).trans (by kernel_rfl)))))))))
theorem Cz6(d:Nat)(s0):evC (O4 L) (d+1) Z Y 118 [pS s0] [] s=Cf9 L s0 (λa b=>some (.tup [pI a,pB b],[],s)):=
 (evE (fn:=ad9) (by kernel_rfl)).trans (j1 (by kernel_rfl) (Cz5 L (evC (O4 L) d) Y s (cd [1,1,1,0,1] Ci) (A43 L (evC (O4 L) d) Y s) (A45 L (evC (O4 L) d) Y s) (cd [1,1,1,1] Ci) (A44 L (evC (O4 L) d) Y s) (A46 L (evC (O4 L) d) Y s) (A47 L (evC (O4 L) d) Y s) s0))
noncomputable def HG(L:Nat):Cfg:=B4 L [116] (A2 []) [(88,Jm)] (A2 [(4,[2]),(3,[3]),(2,[3,13]),(1,[3]),(0,[0])]) [] (A2 []) (some [2]) [] [] []
noncomputable def WA{R:Type}(L:Nat)(f:By)(d:LL->Option R):Option R:=cond (A3 f.length) (vl (D4 (pcs (u8n (46:Int)) f)) λa=>cond (ltI 1 (a.length:Int)) (vl (A1 ((a.length:Int)-1)) λb=>cond (inR b a.length) (cond (okE Pi a (b8 b) 0) (vl (gX a (b8 b) 0) λe=>cond (e==[]) (vl (A1 ((a.length:Int)-1)) λc=>cond (I1 0 c a.length) (d (cut a 0 c)) none) (d a)) none) none) (d a)) none
theorem Bw4(d:Nat)(s0):evC (HG L) (d+1) Z Y 116 [pS s0] [] s=WA L s0 (λa=>some (.s (.sl false false 1 a),[],s)):=by refine(evE (fn:=Tryz.f116) (by kernel_rfl)).trans ?_;generalize evC (HG L) d=Q;unfold WA;kernel_rfl
noncomputable def Tb(L:Nat):Cfg:=B4 L [86] (A2 []) [(116,FX),(117,MI),(118,An7)] (A2 [(6,[2]),(5,[4,1]),(4,[2]),(3,[4,11]),(2,[4]),(1,[3]),(0,[0])]) [117,118] (A2 []) (some [2]) [] [] []
noncomputable def Wx{R:Type}(L:Nat)(d:By)(c:Bool->Option R):Option R:=cond (A3 d.length) (vl (A1 ((↑(a8 (D4 (C8 d))):Int)-1)) λb=>cond (inR b (a8 (D4 (C8 d)))) (cond (okE Pi (D4 (C8 d)) (b8 b) 0) (vl (gX (D4 (C8 d)) (b8 b) 0) λa=>cond (A3 a.length) (cond ((not (j8 a))&&(j2 (E8 10 0 a))) (c true) (cond (A3 a.length) (vl (↑(M4 (Ad a)):Int) λe=>cond (j2 (Ad a)) (cond (not (ltI (a.length:Int) (2:Int))) (cond (inR 1 a.length) (cond ((bAt a (1:Int))==120) (c true) (cond (inR 1 a.length) (c ((bAt a (1:Int))==88)) none)) none) (c false)) (c false)) none)) none) none) none) none
theorem Ad7(d:Nat)(s0):evC (Tb L) (d+1) Z Y 86 [pS s0] [] s=Wx L s0 (λa=>some (pB a,[],s)):=by refine(evE (fn:=Tryz.f86) (by kernel_rfl)).trans ?_;generalize evC (Tb L) d=Q;unfold Wx;kernel_rfl
noncomputable abbrev Bg2:Code:=C4 ah7
noncomputable def Lc(L:Nat):Cfg:=B4 L [87] (A2 [(6,[2,0,0,0,0])]) [(116,FX),(118,An7)] (A2 [(18,[2,0]),(7,[4,0,0]),(17,[4,0,0]),(16,[2,0]),(15,[4,0,0,0,38]),(14,[4,0,0]),(13,[2,0]),(12,[4,0,0,0,33]),(11,[4,0,0,0,26]),(10,[2,0]),(9,[4,0,0,0,21]),(8,[4,0,0,0,0]),(6,[4,0,0,10]),(5,[4,0,0]),(4,[4,0]),(3,[2,0]),(2,[4,8]),(1,[4]),(0,[0])]) [118] (A2 [(0,[5]),(1,[4,0,0])]) (some [2,0]) [] [] []
noncomputable def Dy{R:Type}(L n:Nat)(b:LL)(v1 a:Int)(e:Unit->Option R)(h:Int->Option R):Option R:=match n with|0=>none|n+1=>cond (ltI a (b.length:Int)) (cond (inR a b.length) (cond (okE Pi b (b8 a) 0) (cond (A3 (a8 (gX b (b8 a) 0))) (vl (↑(M4 (Ad (gX b (b8 a) 0))):Int) λc=>cond (not (j2 (Ad (gX b (b8 a) 0)))) (e ()) (vl (A1 ((b.length:Int)-1)) λi=>cond (a==i) (vl (A1 ((5:Int)-(b.length:Int))) λg=>cond (decide ((0:Int)<=(A1 ((8:Int)*g)))) (vl (Rg .i64 (1:Int) (A1 ((8:Int)*g))) λj=>cond (not (ltI c j)) (e ()) (Dy L n b (A1 (v1+c)) (A1 (a+1)) e h)) none) (cond (ltI 255 c) (e ()) (vl (A1 ((24:Int)-(A1 ((8:Int)*a)))) λd=>cond (decide ((0:Int)<=d)) (vl (A1 (v1+(Rg .i64 c d))) λf=>Dy L n b f (A1 (a+1)) e h) none)))) none) none) none) (h v1)
theorem Ae4(n p0 v1 i2):C5 0 ((Lc L).keep 6) (bd (Lc L) Q Y (cd [1,1,1,1,0,1,0,0] Bg2)) n ⟨gp [(4,.s (.sl false false 1 p0)),(0,pI v1),(0,pI i2)] 49,[],s⟩ k =
 Dy L n p0 v1 i2 (λ_=>k .ret ⟨gp [(2,p32 (0:Int)),(0,pB false)] 52,[],s⟩) (λv0=>k (.exit 0) ⟨gp [(5,pI v0)] 50,[],s⟩):=by
 induction n generalizing p0 v1 i2 with
 | zero=>rfl
 | succ n a=>rw[Dy];simp only[<-a];kernel_rfl
noncomputable def Bk8{R:Type}(L:Nat)(c:By)(b:Int->Bool->Option R):Option R:=cond (A3 c.length) (cond (ltI 4 (↑(a8 (D4 (C8 c))):Int)) (b 0 false) (Dy L L (D4 (C8 c)) 0 0 (λ_=>b 0 false) (λa=>b (BN a) true))) none
theorem Cg3(d:Nat)(s0):evC (Lc L) (d+1) Z Y 87 [pS s0] [] s=Bk8 L s0 (λa b=>some (.tup [p32 a,pB b],[],s)):=by refine(evE (fn:=ah7) (by kernel_rfl)).trans ?_;generalize evC (Lc L) d=Q;unfold Bk8;exact(j1 (by kernel_rfl) (A0 (A0 rfl ((Ae4 L Q Y s (E1 0 (E0 (Lc L) Q Y (cd [1,1,1,1,1] Bg2) (F1 (Lc L) ah7))) L (D4 (C8 s0)) 0 0).trans (by kernel_rfl))) rfl))
noncomputable abbrev B62:Code:=C4 ag6
noncomputable def Sy(L:Nat):Cfg:=B4 L [173] (A2 [(2,[0,1,0,0])]) [(53,Yd)] (A2 [(6,[2,0]),(3,[0,3]),(5,[2,0]),(4,[0,3,7]),(2,[0,3,1]),(1,[0,3]),(0,[0])]) [53] (A2 [(0,[]),(1,[0,3])]) (some [2,0]) [] [] []
noncomputable def Lv{R:Type}(L n:Nat)(e:By)(a:Int)(c:Int->Option R)(d:Unit->Option R):Option R:=match n with|0=>none|n+1=>cond (ltI a 256) (cond (ltN a 4294967296) (vl (j5 (b8 a)) λb=>cond (b==e) (c a) (Lv L n e (A1 (a+1)) c d)) none) (d ())
theorem A05(n s0 n1):C5 0 ((Sy L).keep 2) (bd (Sy L) Q Y (cd [1,0,1,0,0] B62)) n ⟨gp [(0,pS s0),(3,pI n1)] 9,[],s⟩ k =
 Lv L n s0 n1 (λn0=>k .ret ⟨gp [(2,pI n0),(0,pB true)] 10,[],s⟩) (λ_=>k (.exit 0) ⟨gp [] 14,[],s⟩):=by
 induction n generalizing s0 n1 with
 | zero=>rfl
 | succ n a=>rw[Lv];simp only[<-a];kernel_rfl
noncomputable def Cy1{R:Type}(L:Nat)(c:By)(b:Int->Bool->Option R):Option R:=Lv L L c 0 (λa=>b a true) (λ_=>b 0 false)
theorem Cy2(d:Nat)(s0):evC (Sy L) (d+1) Z Y 173 [pS s0] [] s=Cy1 L s0 (λa b=>some (.tup [pI a,pB b],[],s)):=by refine(evE (fn:=ag6) (by kernel_rfl)).trans ?_;generalize evC (Sy L) d=Q;unfold Cy1;exact(j1 (by kernel_rfl) ((A05 L Q Y s (E1 0 (E0 (Sy L) Q Y (cd [1,1] B62) (F1 (Sy L) ag6))) L s0 0).trans (by kernel_rfl)))
noncomputable abbrev B65:Code:=C4 ag4
noncomputable def Td(L:Nat):Cfg:=B4 L [145] (A2 [(6,[2,0,0,0,0])]) [(88,Jm),(173,B42)] (A2 [(12,[2,0]),(7,[4,0,0]),(11,[4,0,0]),(10,[2,0]),(9,[4,0,0,0,19]),(8,[4,0,0,0,0]),(6,[4,0,0,8]),(5,[4,0,0]),(4,[4,0]),(3,[2,0]),(2,[4,8]),(1,[4]),(0,[0])]) [173] (A2 [(0,[5]),(1,[4,0,0])]) (some [2,0]) [] [] []
noncomputable def Mg{R:Type}(L n:Nat)(b:LL)(v1 a:Int)(f:Unit->Option R)(g:Int->Option R):Option R:=match n with|0=>none|n+1=>cond (ltI a 4) (cond (inR a b.length) (cond (okE Pi b (b8 a) 0) (cond (A3 (a8 (gX b (b8 a) 0))) (vl (↑(M4 (oct (gX b (b8 a) 0))):Int) λc=>cond (not (j2 (oct (gX b (b8 a) 0)))) (f ()) (vl (BN (v1*256)) λd=>vl (BN (d+(BN c))) λe=>Mg L n b e (A1 (a+1)) f g)) none) none) none) (g v1)
theorem A85(n p0 v1 i2):C5 0 ((Td L).keep 6) (bd (Td L) Q Y (cd [1,1,1,1,0,1,0,0] B65)) n ⟨gp [(4,.s (.sl false false 1 p0)),(0,p32 v1),(0,pI i2)] 27,[],s⟩ k =
 Mg L n p0 v1 i2 (λ_=>k .ret ⟨gp [(2,p32 (0:Int)),(0,pB false)] 30,[],s⟩) (λv0=>k (.exit 0) ⟨gp [(5,p32 v0)] 28,[],s⟩):=by
 induction n generalizing p0 v1 i2 with
 | zero=>rfl
 | succ n a=>rw[Mg];simp only[<-a];kernel_rfl
noncomputable def C09{R:Type}(L:Nat)(d:By)(b:Int->Bool->Option R):Option R:=cond (A3 d.length) (vl (D4 (pcs (u8n (46:Int)) d)) λa=>cond ((a.length:Int)!=4) (b 0 false) (Mg L L a 0 0 (λ_=>b 0 false) (λc=>b c true))) none
theorem C10(d:Nat)(s0):evC (Td L) (d+1) Z Y 145 [pS s0] [] s=C09 L s0 (λb c=>some (.tup [p32 b,pB c],[],s)):=by refine(evE (fn:=ag4) (by kernel_rfl)).trans ?_;generalize evC (Td L) d=Q;unfold C09;exact(j1 (by kernel_rfl) (A0 (A4 λa=>(A0 rfl ((A85 L Q Y s (E1 0 (E0 (Td L) Q Y (cd [1,1,1,1,1] B65) (F1 (Td L) ag4))) L a 0 0).trans (by kernel_rfl)))) rfl))
noncomputable def Ar5(L:Nat):Cfg:=B4 L [70] (A2 []) [(53,Yd)] (A2 [(1,[2]),(0,[0])]) [53] (A2 []) (some [2]) [] [] []
noncomputable def C07{R:Type}(L:Nat)(v0:Int)(n:By->Option R):Option R:=vl (Nn .u32 v0 (24:Int)) λg=>cond (ltN (A1 g) 4294967296) (vl (j5 (b8 (A1 g))) λj=>cond (D6 j.length 1) (vl (j++[46]) λc=>vl (Nn .u32 v0 (16:Int)) λm=>vl (x7 m (256:Int)) λh=>cond (ltN (A1 h) 4294967296) (vl (j5 (b8 (A1 h))) λd=>cond (D6 c.length d.length) (cond (D6 (a8 (c++d)) 1) (vl ((c++d)++[46]) λe=>vl (x7 (Nn .u32 v0 (8:Int)) (256:Int)) λi=>cond (ltN (A1 i) 4294967296) (vl (j5 (b8 (A1 i))) λf=>cond (D6 e.length f.length) (cond (D6 (a8 (e++f)) 1) (vl ((e++f)++[46]) λl=>vl (x7 v0 (256:Int)) λa=>cond (ltN (A1 a) 4294967296) (vl (j5 (b8 (A1 a))) λb=>cond (D6 l.length b.length) (n (l++b)) none) none) none) none) none) none) none) none) none) none
theorem C08(d:Nat)(v0):evC (Ar5 L) (d+1) Z Y 70 [p32 v0] [] s=C07 L v0 (λa=>some (pS a,[],s)):=by refine(evE (fn:=Tryz.f70) (by kernel_rfl)).trans ?_;generalize evC (Ar5 L) d=Q;unfold C07;kernel_rfl
noncomputable def Zt(L:Nat):Cfg:=B4 L [109] (A2 []) [(138,Yf)] (A2 [(1,[4]),(0,[0,0])]) [] (A2 []) (some [4]) [] [] []
noncomputable def EN{R:Type}(L:Nat)(c a:By)(d:Nat->LL->Option R):Option R:=cond (A3 c.length) (cond (a.length==1) (cond ((0:Int)==0) (cond (((-1):Int)==((-1):Int)) (vl (D4 (pcs (b9 a 0 0) c)) λb=>d (a8 (pcs (b9 a 0 0) c)) b) none) none) none) none
theorem Ba2(d:Nat)(s0 sep1):evC (Zt L) (d+1) Z Y 109 [pS s0,pS sep1] [] s=EN L s0 sep1 (λa b=>some (.vw 0 0 a,[.arr false 9 1 b],s)):=by refine(evE (fn:=Tryz.f109) (by kernel_rfl)).trans ?_;generalize evC (Zt L) d=Q;unfold EN;kernel_rfl
end
end
section
open Go
attribute [simp] B5 E4 C6 XH Bm1 Bm0 XI Z7 J6 F2
attribute [simp] vl
@[simp] theorem E3{n:Nat}(h:n<=1000000000):A3 n=true:=OU.2 h
@[simp] theorem Rl{v:Int}{n:Nat}(h:0<=v)(a:v<n):ltN v n=true:=E2.2 ⟨h,a⟩
theorem K3{n:Nat}(h:n<=1000000000:=by omega):A3 n=true:=E3 h
theorem L2{v:Int}{n:Nat}(h:0<=v:=by omega)(g:v<n:=by omega):ltN v n=true:=Rl h g
@[simp] theorem E7{m n:Nat}(h:m+n<4611686018427387904):D6 m n=true:=by simp[D6,h]
abbrev rv(v:PV)(H:List Blk):Option (PV × List Blk × Unit):=some (v,H,())
theorem K7{n:Nat}(h:A3 n=true):n<=1000000000:=OU.1 h
theorem D2(s:By)(i:Nat)(h:i<s.length):s.drop i=s.getD i 0::s.drop (i+1):=by rw[p4,s9 h,w6,List.getElem_cons_drop]
theorem OZ(s:By)(i:Nat)(h:i<s.length):s.take (i+1)=s.take i++[s.getD i 0]:=by rw[List.take_add_one,p4,s9 h];rfl
theorem IZ(s:By)(i:Nat)(h:i<s.length):(B6 (s.take (i+1))).map D8=(B6 (s.take i)).map D8++[D8 (Bp (s.getD i 0))]:=by unfold B6;rw[OZ s i h,af2,af2];rfl
theorem T5(b:UInt8):(b.toNat<65/\Bp b=b)\/(90<b.toNat/\Bp b=b)\/(65<=b.toNat/\b.toNat<=90/\((Bp b).toNat=b.toNat+32)):=by
 unfold Bp;by_cases a:b.toNat<65
 ·refine .inl ⟨a,if_neg ?_⟩;intro h;have:=aa4.1 h.1;simp at this;omega
 ·by_cases c:90<b.toNat
  ·refine .inr (.inl ⟨c,if_neg ?_⟩);intro h;have:=aa4.1 h.2;simp at this;omega
  ·refine .inr (.inr ⟨by omega,by omega,?_⟩);rw[if_pos (by constructor<;>(rw[aa4];simp;omega)),UInt8.toNat_add];simp;omega
@[simp] theorem D0(s:By)(i:Nat):bAt s (i:Int)=((s.getD i 0).toNat:Int):=by simp[bAt]
@[simp] theorem Z9(s:By):bAt s 0=((s.getD 0 0).toNat:Int):=by simp[bAt]
@[simp] theorem Bf6(s:By):bAt s 1=((s.getD 1 0).toNat:Int):=by simp[bAt]
theorem En{c:Type}(s:List c)(a b:Nat):cut s (a:Int) (b:Int)=(s.take b).drop a:=by simp[cut]
@[simp] theorem O5{b:Type}(s:List b)(a:Int):cut s a (s.length:Int)=s.drop a.toNat:=by simp[cut]
@[simp] theorem J8{a:Type}(s:List a)(b:Int):cut s 0 b=s.take b.toNat:=by simp[cut]
@[simp] theorem F6(l:List By):(D4 l).length=l.length:=by simp[D4]
@[simp] theorem V8(l:List By)(i:Nat):gX (D4 l) i 0=l.getD i []:=by
 unfold gX gC D4;by_cases h:i<l.length
 ·simp[p4,s9 h,SV.gS]
 ·simp[p4,List.getElem?_eq_none (show l.length<=i by omega),SV.gS]
@[simp] theorem Q8{l:List By}{i:Nat}(h:i<l.length):okE Pi (D4 l) i 0=true:=by unfold okE D4;simp[p4,s9 h,h,Pi,okS,SV.has]
theorem Xq(a b:List By):D4 (a++b)=D4 a++D4 b:=by simp[D4]
theorem Iq(b:UInt8):u8n (b.toNat:Int)=b:=by simp[u8n]
theorem XA(b:UInt8):inR (b.toNat:Int) 256=true:=by have:=b.toNat_lt;exact E6
theorem C88{a b:UInt8}:((a.toNat:Int)==(b.toNat:Int))=(a==b):=by
 rw[ac2];simp only[beq_iff_eq];constructor
 ·intro h;exact UInt8.toNat_inj.1 (by omega)
 ·intro h;rw[h]
theorem P9(a:UInt8)(n:Nat)(h:n<256):((a.toNat:Int)==(n:Int))=(a==j9 n):=by rw[<-C88];simp[p9 h]
theorem Eh(p s:By):p.isPrefixOf s=(decide (p.length<=s.length)&&(s.take p.length==p)):=by
 rw[ac2];simp only[x9,x5,decide_eq_true_eq,beq_iff_eq];constructor
 ·intro h;exact⟨h.length_le,(ab8.1 h).symm⟩
 ·rintro⟨_,h⟩;exact ab8.2 h.symm
theorem Nd(p s:By):p.isSuffixOf s=(decide (p.length<=s.length)&&(s.drop (s.length-p.length)==p)):=by
 rw[ac2];simp only[List.isSuffixOf_iff_suffix,x5,decide_eq_true_eq,beq_iff_eq];constructor
 ·intro h;exact⟨h.length_le,(ab9.1 h).symm⟩
 ·rintro⟨_,h⟩;exact ab9.2 h.symm
theorem Cn(b:UInt8):(48<=b.toNat/\b.toNat<=57/\dig b=b.toNat-48)\/(97<=b.toNat/\b.toNat<=102/\dig b=b.toNat-87)\/(65<=b.toNat/\b.toNat<=70/\dig b=b.toNat-55)\/(¬(48<=b.toNat/\b.toNat<=57)/\¬(97<=b.toNat/\b.toNat<=102)/\¬(65<=b.toNat/\b.toNat<=70)/\dig b=99):=by
 unfold dig;split
 ·rename_i h;exact .inl ⟨h.1,h.2,rfl⟩
 ·split
  ·rename_i h;exact .inr (.inl ⟨h.1,h.2,rfl⟩)
  ·split
   ·rename_i h;exact .inr (.inr (.inl ⟨h.1,h.2,rfl⟩))
   ·exact .inr (.inr (.inr ⟨by assumption,by assumption,by assumption,rfl⟩))
theorem Ch9(m:Nat):(if (1099511627776:Int)<(m:Int) then (1099511627776:Int) else (m:Int))=((min m Cb:Nat):Int):=by unfold Cb;split<;>omega
theorem HX{base:Nat}:∀{s:By} {n v:Nat},n<=Cb->E8 base n s=some v->v<=Cb
 | [],n,v,h,e=>by simp only[E8,aa3] at e;omega
 | b::r,n,v,h,e=>by
  simp only[E8] at e;split at e
  ·exact HX (by omega) e
  ·cases e
theorem Bj2{s:By}{v:Nat}(h:Ad s=some v):v<=Cb:=by
 unfold Ad at h
 repeat' split at h
 all_goals first|(cases h;done)|exact HX (by unfold Cb;omega) h
theorem NF(base:Nat):∀(x y:By) (n:Nat),E8 base n (x++y)=(E8 base n x).bind λm=>E8 base m y
 | [],y,n=>rfl
 | b::r,y,n=>by
  simp only[ab5,E8];split
  ·exact NF base r y _
  ·rfl
theorem Iy(u:Nat)(h:¬u<10):j5 u=j5 (u / 10)++[j9 (48+u % 10)]:=by rw[j5,dif_neg h]
theorem C82(d:Nat)(h:d<10):dig (j9 (48+d))=d:=by
 unfold dig;have:(j9 (48+d)).toNat=48+d:=by simp;omega
 rw[this,S6];omega
theorem Bo0:∀u:Nat,u<=Cb->E8 10 0 (j5 u)=some u:=by
 intro u
 induction u using Nat.strongRecOn with
 | _ u a=>
  intro b;by_cases h:u<10
  ·rw[ab3 h];simp only[E8,C82 u h];rw[if_pos h];unfold Cb;simp;omega
  ·rw[Iy u h,NF,a (u / 10) (by omega) (by omega)];simp only[Option.bind_some,E8,C82 (u % 10) (by omega)];rw[S6];unfold Cb at *;simp;omega
theorem Fk:∀(k u:Nat),0<k->u<10 ^ k->(j5 u).length<=k
 | 0,u,h,_=>by omega
 | k+1,u,_,h=>by
  by_cases b:u<10
  ·rw[ab3 b];simp
  ·rw[Iy u b,y9,x8];have a:0<k:=by
    rcases Nat.eq_zero_or_pos k with rfl|a
    ·rw[ah1,Nat.pow_one] at h;omega
    ·exact a
   have:=Fk k (u / 10) a (by rw[y8] at h;omega);omega
theorem F5(u:Nat)(h:u<4294967296):(j5 u).length<=10:=Fk 10 u (by omega) (by omega)
theorem Wi{s:By}{n:Nat}:oct s=some n↔n<256/\j5 n=s:=by
 unfold oct;constructor
 ·intro h;split at h
  ·rename_i m c;split at h
   ·rename_i a;cases h;exact⟨by omega,a.2⟩
   ·cases h
  ·cases h
 ·rintro⟨b,rfl⟩;rw[Bo0 n (by unfold Cb;omega)];exact if_pos ⟨by omega,rfl⟩
theorem C77(a b:Nat)(c:a<9223372036854775808)(d:b<9223372036854775808):bOr .i64 (a:Int) (b:Int)=((a ||| b:Nat):Int):=by
 unfold bOr;rw[show v7 .i64=64 from rfl,Da1 64 a b (by omega) (by omega)];have:a ||| b<2 ^ 63:=ad5 (by omega) (by omega)
 exact A7
theorem Di6(a b:Nat)(c:a<4294967296)(d:b<4294967296):bOr .u32 (a:Int) (b:Int)=((a ||| b:Nat):Int):=by
 unfold bOr;rw[show v7 .u32=32 from rfl,Da1 32 a b (by omega) (by omega)];have:a ||| b<2 ^ 32:=ad5 (by omega) (by omega)
 exact Mv
theorem C97(a b:Nat)(c:a<4294967296)(d:b<4294967296):Ap3 .u32 (a:Int) (b:Int)=((a &&& b:Nat):Int):=by unfold Ap3;rw[show v7 .u32=32 from rfl,C81 32 a b (by omega) (by omega)];have:a &&& b<2 ^ 32:=Nat.and_lt_two_pow _ (by omega);exact Mv
theorem C96(x:Nat):x &&& 255=x % 256:=Nat.and_two_pow_sub_one_eq_mod x 8
theorem Ai1(a m:Nat)(h:a*2 ^ m<9223372036854775808)(b:m<=64):Rg .i64 (a:Int) (m:Int)=((a*2 ^ m:Nat):Int):=by
 unfold Rg;rw[j4,show v7 .i64=64 from rfl,ac3 b];have:(a:Int)*2 ^ m=((a*2 ^ m:Nat):Int):=by simp
 rw[this];exact A7
theorem Dk3(a m:Nat)(h:a*2 ^ m<4294967296)(b:m<=32):Rg .u32 (a:Int) (m:Int)=((a*2 ^ m:Nat):Int):=by
 unfold Rg;rw[j4,show v7 .u32=32 from rfl,ac3 b];have:(a:Int)*2 ^ m=((a*2 ^ m:Nat):Int):=by simp
 rw[this];exact Mv
theorem EE(v n m:Nat)(h:n<2 ^ m):v*2 ^ m ||| n=v*2 ^ m+n:=by rw[Nat.or_comm,Dc0 n v m h,ag8]
theorem Pa{c:UInt8}{s:By}(h:c∉s):pcs c s=[s]:=by unfold pcs;rw[Xo c s [] h];rfl
theorem VG{c:UInt8}{p r:By}(h:c∉p):pcs c (p++c::r)=p::pcs c r:=by unfold pcs;rw[DI c p [] r h];rfl
theorem Ib(c:UInt8)(s:By):(pcs c s).length=s.count c+1:=Io c s []
theorem Ay6(c:UInt8)(s:By):pcs c s≠[]:=A98 c s []
theorem Dj{c:UInt8}{s x:By}(h:x∈pcs c s):c∉x/\x.length<=s.length:=by have:=Ph c s [] (by simp) x h;simpa using this
theorem Gh(c:UInt8)(s:By):s.count c<=s.length:=List.count_le_length
theorem T1(c:UInt8):∀s:By,c∉s\/∃p r,s=p++c::r/\c∉p
 | []=>.inl (by simp)
 | b::s=>by
  by_cases h:b=c
  ·subst h;exact .inr ⟨[],s,rfl,by simp⟩
  ·rcases T1 c s with a|⟨p,r,rfl,d⟩
   ·exact .inl (by simp[a,Ne.symm h])
   ·exact .inr ⟨b::p,r,rfl,by simp[d,Ne.symm h]⟩
theorem Tk{c:UInt8}{s:By}(h:c∉s):y5 s [c]=-1:=by
 rcases af4 s [c] with a|⟨i,a,e,b,f⟩
 ·exact a.1
 ·exfalso;simp only[ad7,x9] at b;obtain⟨t,d⟩:=b;have:c∈s.drop i:=by rw[<-d];simp
  exact h (ac8 this)
theorem AJ{c:UInt8}{p r:By}(h:c∉p):y5 (p++c::r) [c]=(p.length:Int):=by
 rcases af4 (p++c::r) [c] with d|⟨i,d,m,f,g⟩
 ·exfalso;have:=d.2 p.length (by simp);simp[ad7] at this
 ·rw[d];have n:¬p.length<i:=by
   intro a;have:=g p.length a;simp[ad7] at this
  have k:¬i<p.length:=by
   intro a;simp only[ad7,x9] at f;obtain⟨t,b⟩:=f;have j:(p++c::r).drop i=p.drop i++c::r:=by rw[aa5 (by omega)]
   rw[j] at b;cases e:p.drop i with
   | nil=>have:=List.length_drop (i:=i) (l:=p);rw[e] at this;simp at this;omega
   | cons x y=>
    rw[e] at b;simp at b;have:x∈p:=ac8 (i:=i) (by rw[e];simp);rw[<-b.1] at this;exact h this
  omega
theorem Bt1(s:By):C8 s≠[]:=by
 unfold C8;split
 ·rename_i h;intro e;have:=congrArg a8 e;simp at this;omega
 ·exact Ay6 _ _
theorem Ls{s x:By}(h:x∈C8 s):x.length<=s.length:=by
 unfold C8 at h;split at h
 ·exact(Dj ((List.dropLast_sublist _).subset h)).2
 ·exact(Dj h).2
theorem Ao(s:By):1<=(C8 s).length/\(C8 s).length<=s.length+1:=by
 have a:=ab0.2 (Bt1 s);have b:=Ib 46 s;have c:=Gh 46 s;refine⟨a,?_⟩;unfold C8;split
 ·rw[List.length_dropLast];omega
 ·omega
theorem AP(s:By):(C8 s).getD ((C8 s).length-1) []=Jx s:=by unfold Jx;rw[List.getLastD_eq_getLast?,List.getLast?_eq_getElem?,p4]
theorem NU(s:By):Jx s∈C8 s:=by have h:=(Ao s).1;rw[<-AP,p4,s9 (by omega)];exact ab6 _
theorem Iz{base:Nat}:∀{s:By} {n i:Nat},i<s.length->base<=dig (s.getD i 0)->E8 base n s=none
 | [],n,i,h,_=>by simp at h
 | b::r,n,0,h,a=>by
  simp only[x4] at a;simp only[E8];rw[G1]
 | b::r,n,i+1,h,a=>by
  simp only[ad1] at a;simp only[E8];split
  ·exact Iz (i:=i) (by simpa using h) a
  ·rfl
theorem AK(s:By):Bn s=true↔s.getD 0 0=48/\(s.getD 1 0=120\/s.getD 1 0=88):=by simp[Bn]
theorem Qj{s:By}(h:Bn s=true):2<=s.length:=by
 rw[AK] at h
 match s with
 | []=>simp at h
 | [a]=>simp at h
 | a::b::r=>simp
theorem Cc1(l:By):(if Bn l then (E8 16 0 (l.drop 2)).isSome else !l.isEmpty&&(E8 10 0 l).isSome) =
  (if (!l.isEmpty&&(E8 10 0 l).isSome)=true then true else (if (Ad l).isSome=true then decide (2<=l.length)&&(l.getD 1 0==120||l.getD 1 0==88) else false)):=by
 by_cases b:Bn l=true
 ·have g:=Qj b;have j:=(AK l).1 b;have f:E8 10 0 l=none:=Iz (i:=1) (by omega) (by rcases j.2 with h|h<;>rw[h]<;>decide);have d:Ad l=E8 16 0 (l.drop 2):=by
   unfold Ad;rw[if_neg (by intro e;rw[e] at g;simp at g),if_pos b]
  rw[if_pos b,f,d];have c:(l.getD 1 0==120||l.getD 1 0==88)=true:=by simpa using j.2
  rw[c];simp[g]
 ·rw[if_neg b];cases n:(!l.isEmpty&&(E8 10 0 l).isSome) with
  | true=>rfl
  | false=>
   rw[if_neg (by simp)];cases d:Ad l with
   | none=>rfl
   | some v=>
    rw[show(some v).isSome=true from rfl,if_pos rfl]
    symm
    rw[Bool.and_eq_false_iff];by_cases c:2<=l.length
    ·right
     apply Classical.byContradiction;intro a;have a:l.getD 1 0=120\/l.getD 1 0=88:=by
      cases k:(l.getD 1 0==120||l.getD 1 0==88) with
      | false=>exact absurd k a
      | true=>simpa using k
     have m:¬l.getD 0 0=48:=λh=>b ((AK l).2 ⟨h,a⟩)
     have f:E8 10 0 l=none:=Iz (i:=1) (by omega) (by rcases a with h|h<;>rw[h]<;>decide);unfold Ad at d;rw[if_neg (by intro e;rw[e] at c;simp at c),if_neg b,if_neg (by intro h;exact m h.2),f] at d;cases d
    ·left;simpa using c
end
section
open Go Go.Proofs
theorem Br7{R:Type}{a:Bool->Option R}(s p:By)(b:A3 s.length=true):Cv2 LF s p a=a (p.isPrefixOf s):=by
 have:=K7 b;unfold Cv2;rw[Eh];by_cases h:p.length<=s.length
 ·simp_all
 ·simp (disch:=omega) [h]
theorem Bp7{R:Type}{a:Bool->Option R}(s p:By)(b:A3 s.length=true):Tj LF s p a=a (p.isPrefixOf s):=by unfold Tj;rw[b];rfl
theorem Br8{R:Type}{a:Bool->Option R}(s p:By)(b:A3 s.length=true):Cv4 LF s p a=a (p.isSuffixOf s):=by
 have:=K7 b;unfold Cv4;rw[Nd];by_cases h:p.length<=s.length
 ·have e:((s.length:Int)-(p.length:Int)).toNat=s.length-p.length:=by omega
  simp (disch:=omega) [h,e]
 ·simp (disch:=omega) [h]
theorem Bp8{R:Type}{a:Bool->Option R}(s p:By)(b:A3 s.length=true):Ct8 LF s p a=a (p.isSuffixOf s):=by unfold Ct8;rw[b];rfl
theorem Ax3{R:Type}{b:By->Option R}(s p:By)(a:A3 s.length=true):Bi7 LF s p b=b (WX s p):=by
 have:=K7 a;unfold Bi7 WX;rw[a];cases h:p.isSuffixOf s with
 | false=>simp
 | true=>
  have:p.length<=s.length:=by rw[Nd] at h;simp at h;exact h.1
  have e:((s.length:Int)-(p.length:Int)).toNat=s.length-p.length:=by omega
  simp (disch:=omega) [e]
theorem Ba5{R:Type}{a:By->Option R}(s p:By)(b:A3 s.length=true):Bl5 LF s p a=a (WX s p):=by unfold Bl5;rw[b];rfl
theorem Aw1{R:Type}{b:By->Bool->Option R}(s p:By)(a:A3 s.length=true):Bi2 LF s p b=b (Gi s p) (p.isPrefixOf s):=by
 have:=K7 a;unfold Bi2 Gi;rw[a];cases h:p.isPrefixOf s with
 | false=>simp
 | true=>
  have:p.length<=s.length:=by rw[Eh] at h;simp at h;exact h.1
  simp_all
theorem Bn7{R:Type}{a:By->Bool->Option R}(s p:By)(b:A3 s.length=true):Cq5 LF s p a=a (Gi s p) (p.isPrefixOf s):=by unfold Cq5;rw[b];rfl
theorem Aj3{R:Type}{a:LL->Option R}(s p:By)(b:A3 s.length=true)(c:(p.length==1)=true):WR LF s p a=a (D4 (pcs (p.getD 0 0) s)):=by unfold WR;rw[b,c];rfl
theorem Br4{R:Type}{k0:LL->Option R}(s:By)(o:s.length<=1000000000):∀(r i n:Nat),i+r=s.length->r<n->Et LF n s (s.length:Int) (i:Int) ((B6 (s.take i)).map D8) k0=k0 ((B6 s).map D8):=by
 intro r
 induction r with
 | zero=>
  intro i n g j;obtain⟨n,rfl⟩:∃m,n=m+1:=⟨n-1,by omega⟩
  rw[Et];rw[A6,aa2 (by omega)];rfl
 | succ r a=>
  intro i n g j;obtain⟨n,rfl⟩:∃m,n=m+1:=⟨n-1,by omega⟩
  rw[Et];have h:(B6 (s.take i)).length=i:=by simp[B6];omega
  have a:=a (i+1) n (by omega) (by omega);rw[IZ s i (by omega)] at a;rw[D0];have l:=(s.getD i 0).toNat_lt;generalize s.getD i 0=b at *;have c:((i:Int)+1)=((i+1:Nat):Int):=by omega
  simp (disch:=omega) only[B5,J6,cond_true,vl,aa9,h,F2,C6];rw[c];rcases T5 b with⟨d,e⟩|⟨d,e⟩|⟨d,k,e⟩
  ·simp (disch:=omega) only[B5,j6,cond_false];rw[e] at a;exact a
  ·simp (disch:=omega) only[E4,B5,j6,j7,cond_false,cond_true];rw[e] at a;exact a
  ·have f:wu8 ((b.toNat:Int)+32)=((Bp b).toNat:Int):=by
    rw[L6];omega
   simp (disch:=omega) only[E4,j7,cond_true,f];exact a
theorem Br5{R:Type}{k0:By->LL->Option R}(s:By)(b:A3 s.length=true):Cv0 LF s k0=k0 (B6 s) ((B6 s).map D8):=by have c:=K7 b;have:=C2;unfold Cv0;simp (disch:=omega) only[j4,F2,af8];rw[show(decide ((0:Int)<=(s.length:Int)))=true by simp];have:=Br4 (k0:=λa=>cond (x3 a Nm) (k0 (s7 Le a) a) none) s c s.length 0 LF (by omega) (by omega);simp only[List.take_zero,B6,List.map_nil] at this;rw[cond_true];refine j1 this ?_;rw[show(s7 Bp s).map D8=(B6 s).map D8 from rfl,W4,X2];rfl
theorem Bv7{R:Type}{k0:LL->Option R}(s:By)(o:s.length<=1000000000):∀(r i n:Nat),i+r=s.length->r<n->Fb LF n s (i:Int) ((B6 (s.take i)).map D8) k0=k0 ((B6 s).map D8):=by
 intro r
 induction r with
 | zero=>
  intro i n g j;obtain⟨n,rfl⟩:∃m,n=m+1:=⟨n-1,by omega⟩
  rw[Fb];rw[A6,aa2 (by omega)];rfl
 | succ r a=>
  intro i n g j;obtain⟨n,rfl⟩:∃m,n=m+1:=⟨n-1,by omega⟩
  rw[Fb];have h:(B6 (s.take i)).length=i:=by simp[B6];omega
  have a:=a (i+1) n (by omega) (by omega);rw[IZ s i (by omega)] at a;rw[D0];have l:=(s.getD i 0).toNat_lt;generalize s.getD i 0=b at *;have c:((i:Int)+1)=((i+1:Nat):Int):=by omega
  simp (disch:=omega) only[B5,J6,cond_true,vl,aa9,h,F2,C6];rw[c];rcases T5 b with⟨d,e⟩|⟨d,e⟩|⟨d,k,e⟩
  ·simp (disch:=omega) only[B5,j6,cond_false];rw[e] at a;exact a
  ·simp (disch:=omega) only[E4,B5,j6,j7,cond_false,cond_true];rw[e] at a;exact a
  ·have f:wu8 ((b.toNat:Int)+32)=((Bp b).toNat:Int):=by
    rw[L6];omega
   simp (disch:=omega) only[E4,j7,cond_true,f];exact a
theorem Bv8{R:Type}{k0:By->LL->Option R}(s:By)(b:A3 s.length=true):Cz3 LF s k0=k0 (B6 s) ((B6 s).map D8):=by have c:=K7 b;have:=C2;unfold Cz3;have:=Bv7 (k0:=λa=>cond (x3 a Nm) (k0 (s7 Le a) a) none) s c s.length 0 LF (by omega) (by omega);refine j1 this ?_;rw[W4,X2];rfl
theorem Bp4{R:Type}{c:Bool->Option R}(s:By)(d:A3 s.length=true):Ct3 LF s c=c (Bn s):=by
 unfold Ct3;have key:Bn s=(([48,120]:By).isPrefixOf s||([48,88]:By).isPrefixOf s):=by
  match s with
  | []=>rfl
  | [a]=>simp[Bn,p7]
  | a::b::r=>
   simp only[Bn,p7,x4,ad1,af8];rw[ah2 (a:=(48:UInt8)),ah2 (a:=(120:UInt8)),ah2 (a:=(88:UInt8))];cases (a==48)<;>simp
 grind
theorem Bo1{R:Type}{k0:Unit->Option R}{k1:Int->Option R}(s:By)(C:s.length<=1000000000)(base:Nat)(B:base<=16):∀(r i a n:Nat),i+r=s.length->r<n->a<=Cb->
  Hv LF n s (base:Int) (a:Int) (s.length:Int) (i:Int) k0 k1=match E8 base a (s.drop i) with|some v=>k1 (v:Int)|none=>k0 ():=by
 intro r
 induction r with
 | zero=>
  intro i a n u w q;obtain⟨n,rfl⟩:∃m,n=m+1:=⟨n-1,by omega⟩
  rw[Hv];rw[A6,p5 (by omega)];rfl
 | succ r l=>
  intro i a n u w q;obtain⟨n,rfl⟩:∃m,n=m+1:=⟨n-1,by omega⟩
  rw[Hv,D2 s i (by omega)];rw[D0];have t:=(s.getD i 0).toNat_lt;generalize s.getD i 0=b at *;have k:((i:Int)+1)=((i+1:Nat):Int):=by omega
  have o:Cb=1099511627776:=rfl;have step:∀d:Nat,d<base->(a*base+d<100000000000000/\A1 (A1 ((a:Int)*(base:Int))+(d:Int))=((a*base+d:Nat):Int)):=by
   intro d c;have h:a*base<=1099511627776*16:=af5 (by omega) (by omega);refine⟨by omega,?_⟩;have p:A1 ((a*base:Nat):Int)=((a*base:Nat):Int):=A7;rw[<-ae9,p,A7];rfl
  simp (disch:=omega) only[B5,J6,cond_true,vl,C6,Vd,Vb,Va];rw[k];simp only[E8];rcases Cn b with⟨h,j,e⟩|⟨h,j,e⟩|⟨h,j,e⟩|⟨h,j,A,e⟩
  ·have f:wu8 ((b.toNat:Int)-48)=((dig b:Nat):Int):=by rw[L6];omega
   simp (disch:=omega) only[B5,E4,j6,j7,cond_false,cond_true,f,C6];by_cases c:dig b<base
   ·rw[if_pos c,A8,(step _ c).2,Ch9];exact l (i+1) _ n (by omega) (by omega) (by omega)
   ·rw[if_neg c,A6];rfl
  ·have f:wu8 ((b.toNat:Int)-97)+10=((dig b:Nat):Int):=by rw[L6];omega
   have g:wu8 ((b.toNat:Int)-97)=((b.toNat:Int)-97):=L6;rw[g] at f;simp (disch:=omega) only[B5,E4,j6,j7,cond_false,cond_true,g,C6,f];by_cases c:dig b<base
   ·rw[if_pos c,A8,(step _ c).2,Ch9];exact l (i+1) _ n (by omega) (by omega) (by omega)
   ·rw[if_neg c,A6];rfl
  ·have f:wu8 ((b.toNat:Int)-65)+10=((dig b:Nat):Int):=by rw[L6];omega
   have g:wu8 ((b.toNat:Int)-65)=((b.toNat:Int)-65):=L6;rw[g] at f;simp (disch:=omega) only[B5,E4,j6,j7,cond_false,cond_true,g,C6,f];by_cases c:dig b<base
   ·rw[if_pos c,A8,(step _ c).2,Ch9];exact l (i+1) _ n (by omega) (by omega) (by omega)
   ·rw[if_neg c,A6];rfl
  ·rw[if_neg (show ¬dig b<base by omega)];by_cases x:b.toNat<48
   ·simp (disch:=omega) only[B5,E4,j6,j7,cond_false,cond_true]
   ·by_cases y:b.toNat<65
    ·simp (disch:=omega) only[B5,E4,j6,j7,cond_false,cond_true]
    ·by_cases z:b.toNat<97
     ·simp (disch:=omega) only[B5,E4,j6,j7,cond_false,cond_true]
     ·simp (disch:=omega) only[B5,E4,j6,j7,cond_false,cond_true]
theorem Bo2{R:Type}{k0:Int->Bool->Option R}(s:By)(base:Int)(c:A3 s.length=true)(d:ltN base 17=true):B81 LF s base k0=k0 (M4 (E8 base.toNat 0 s):Int) (E8 base.toNat 0 s).isSome:=by have f:=K7 c;have:=C2;obtain⟨a,e⟩:=E2.1 d;obtain⟨b,rfl⟩:=k9 a;unfold B81;have:=Bo1 (k0:=λ_=>k0 0 false) (k1:=λn=>k0 n true) s f b (by omega) s.length 0 0 LF (by omega) (by omega) (by unfold Cb;omega);refine j1 this ?_;rw[w8,j4];cases E8 b 0 s<;>rfl
theorem Cc0{R:Type}{f:Int->Bool->Option R}(s:By)(d:A3 s.length=true):num LF s f=f (M4 (Ad s):Int) (Ad s).isSome:=by
 have k:=K7 d;unfold num Ad;rw[d];by_cases a:s=[]
 ·subst a;rfl
 have c:(s==([]:By))=false:=by simpa using a
 have j:0<s.length:=ab0.2 a;rw[if_neg a,c];simp only[cond_true,cond_false,vl];cases h:Bn s with
 | true=>
  have:=Qj h;simp (disch:=first|omega|(simp;omega)) only[cond_true,if_true,Z7,O5,E3,Rl];rfl
 | false=>
  simp only[cond_false,ab1,if_false];have i:(E8 10 0 s)=E8 10 0 s:=rfl;by_cases g:1<s.length
  ·simp (disch:=omega) only[B5,J6,cond_true,Z9,g,true_and];have e:=P9 (s.getD 0 0) 48 (by omega);rw[show((48:Nat):Int)=48 from rfl] at e;rw[e];by_cases b:s.getD 0 0=48
   ·rw[if_pos b,b,show((48:UInt8)==j9 48)=true from rfl];simp (disch:=first|omega|(simp;omega)) only[Z7,O5,E3,Rl,cond_true];rfl
   ·rw[if_neg b,show(s.getD 0 0==j9 48)=false from beq_eq_false_iff_ne.2 b];rfl
  ·rw[A6,G1];rfl
theorem UY{R:Type}{b:Bool->Option R}(s:By)(a:A3 s.length=true):EC LF s b=b (G2 s):=by
 have i:=K7 a;have h:=Ao s;have g:=Ls (NU s);have d:=AP s;have c:((C8 s).length:Int)-1=(((C8 s).length-1:Nat):Int):=by omega
 unfold EC G2;rw[a];simp (disch:=omega) only[cond_true,vl,F6,c,C6,J6,j4,Q8,V8,d,E3];cases f:Bn (Jx s) with
 | true=>
  have:=Qj f;have e:Ad (Jx s)=E8 16 0 ((Jx s).drop 2):=by
   unfold Ad;grind
  simp[e]
 | false=>
  simp only[cond_false,ab1,if_false];cases E8 10 0 (Jx s) with
  | none=>simp
  | some v=>cases Jx s<;>rfl
theorem LZ{R:Type}{c:Bool->Option R}(s:By)(a:A3 s.length=true):Wx LF s c=c (G2 s):=by
 have j:=K7 a;have i:=Ao s;have h:=Ls (NU s);have e:=AP s;have d:((C8 s).length:Int)-1=(((C8 s).length-1:Nat):Int):=by omega
 unfold Wx G2;rw[a,Cc1];simp (disch:=omega) only[cond_true,vl,F6,d,C6,J6,j4,Q8,V8,e,E3];generalize Jx s=l at *;cases (!l.isEmpty&&(E8 10 0 l).isSome) with
 | true=>rfl
 | false=>
  simp only[cond_false,ab1,if_false];cases Ad l with
  | none=>rfl
  | some v=>
   simp only[s8,cond_true,if_true,Bf6];by_cases b:2<=l.length
   ·simp (disch:=omega) only[E4,J6,j7,cond_true,b,decide_true,Bool.true_and];have f:=P9 (l.getD 1 0) 120 (by omega);have g:=P9 (l.getD 1 0) 88 (by omega);grind
   ·rw[A8];simp[b]
theorem UC{R:Type}{e:By->Option R}(b:Nat)(j:b<=9223372036854775808)(n:Int)(f:ltN n (b+1)=true):DY b n e=e (j5 n.toNat):=by
 obtain⟨a,g⟩:=E2.1 f;obtain⟨m,rfl⟩:=k9 a;have key:∀d:Nat,d<10->wu8 (A1 (48+(d:Int)))=((48+d:Nat):Int):=by
  intro d i;rw[A7,L6];rfl
 have c:∀d:Nat,d<10->[[SV.int .u8 ((48+d:Nat):Int)]]=[j9 (48+d)].map D8:=by
  intro d i;rw[Ck0 (by omega)];rfl
 unfold DY;rw[j4];by_cases h:m<10
 ·rw[A8,key m h,ab3 h];simp only[cond_true,vl];rw[c m h,W4,X2];rfl
 ·have l:=Fk 19 (m / 10) (by omega) (by omega);rw[A6,show(10:Int)=((10:Nat):Int) from rfl,L3,Bx];simp (disch:=omega) only[cond_false,vl,C6,cond_true,j4];rw[L2];simp only[cond_true];have k:=key (m % 10) (by omega);rw[A7] at k;rw[k,c (m % 10) (by omega),W4,X2,E7 (by simp;omega),Iy m h];rfl
theorem Bu5{R:Type}{f:Int->Option R}{c:Unit->Option R}(s:By):∀(r m n:Nat),m+r=256->r<n->Lv LF n s (m:Int) f c=match oct s with|some v=>(if m<=v then f (v:Int) else c ())|none=>c ():=by
 intro r
 induction r with
 | zero=>
  intro m n g i;obtain⟨n,rfl⟩:∃m,n=m+1:=⟨n-1,by omega⟩
  rw[Lv];rw[A6];cases h:oct s with
  | none=>rfl
  | some v=>have:=(Wi.1 h).1;simp only[cond_false];rw[G1]
 | succ r j=>
  intro m n g i;obtain⟨n,rfl⟩:∃m,n=m+1:=⟨n-1,by omega⟩
  rw[Lv];have b:((m:Int)+1)=((m+1:Nat):Int):=by omega
  simp (disch:=omega) only[B5,Rl,cond_true,vl,C6,j4];by_cases a:j5 m=s
  ·rw[show(j5 m==s)=true by simpa using a,Wi.2 ⟨by omega,a⟩];simp
  ·rw[show(j5 m==s)=false by simpa using a,cond_false,b,j (m+1) n (by omega) (by omega)];cases h:oct s with
   | none=>rfl
   | some v=>
    have:=(Wi.1 h).2;have:v≠m:=by intro e;subst e;exact a this
    simp only[];by_cases d:m<=v
    ·rw[if_pos d,S6]
    ·rw[if_neg d,G1]
theorem Bu6{R:Type}{a:Int->Bool->Option R}(s:By)(b:A3 s.length=true):Cy1 LF s a=a (M4 (oct s):Int) (oct s).isSome:=by have:=C2;unfold Cy1;refine j1 (Bu5 s 256 0 LF (by omega) (by omega)) ?_;cases oct s<;>rfl
theorem Di7(s:By)(a b:Nat)(h:a<=b)(c:b<s.length):cut s (a:Int) ((b+1:Nat):Int)=cut s (a:Int) (b:Int)++[s.getD b 0]:=by rw[En,En,OZ s b c,aa5 (by rw[List.length_take];omega)]
theorem B79(s:By)(a:Nat):cut s (a:Int) (a:Int)=[]:=by rw[En];grind
theorem Ae7{R:Type}{k0:LL->Option R}(s:By)(p:s.length<=1000000000)(c:UInt8):∀(r i a n:Nat) (l:List By),i+r=s.length->r+1<n->a<=i->l.length<=i->
  U7 LF n s (c.toNat:Int) (a:Int) (i:Int) (D4 l) k0=k0 (D4 (l++P0 c (cut s (a:Int) (i:Int)) (s.drop i))):=by
 intro r
 induction r with
 | zero=>
  intro i a n l j o f k;obtain⟨n,rfl⟩:∃m,n=m+1:=⟨n-1,by omega⟩
  obtain⟨n,rfl⟩:∃m,n=m+1:=⟨n-1,by omega⟩
  have b:i=s.length:=by omega
  subst b;rw[U7];simp (disch:=omega) only[E4,j7,cond_true,beq_self_eq_true,Z7,F6,F2,C6];rw[U7];rw[A8,List.drop_length];simp only[j6,cond_false,P0,Xq];rfl
 | succ r g=>
  intro i a n l j o f k;obtain⟨n,rfl⟩:∃m,n=m+1:=⟨n-1,by omega⟩
  rw[U7];have d:((i:Int)+1)=((i+1:Nat):Int):=by omega
  have e:((i:Int)==(s.length:Int))=false:=by rw[beq_eq_false_iff_ne];omega
  simp (disch:=omega) only[E4,j7,cond_true,cond_false,e,J6,D0,C88,Z7,F6,F2,C6];rw[d,D2 s i (by omega)];simp only[P0];by_cases h:s.getD i 0=c
  ·rw[show(s.getD i 0==c)=true by simpa using h,if_pos h,cond_true];have:=g (i+1) (i+1) n (l++[cut s (a:Int) (i:Int)]) (by omega) (by omega) (by omega) (by simp<;>omega);rw[Xq] at this;refine j1 this ?_;rw[B79];simp
  ·rw[show(s.getD i 0==c)=false from beq_eq_false_iff_ne.2 h,if_neg h,cond_false];rw[g (i+1) a n l (by omega) (by omega) (by omega) (by omega),Di7 s a i f (by omega)]
theorem A76{R:Type}{k0:LL->Option R}(s:By)(c:Int)(a:A3 s.length=true)(d:inR c 256=true):JY LF s c k0=k0 (D4 (pcs (u8n c) s)):=by
 have f:=K7 a;have:=C2;simp only[inR,x5,decide_eq_true_eq] at d;have e:c=((u8n c).toNat:Int):=by
  unfold u8n;simp;omega
 unfold JY;generalize u8n c=b at *;subst e;have:=Ae7 (k0:=k0) s f b s.length 0 0 LF [] (by omega) (by omega) (by omega) (by simp);refine j1 this ?_;rw[B79];rfl
theorem Aj5(c:UInt8)(s:By):(D4 (pcs c s)).isEmpty=false:=by
 cases h:pcs c s with
 | nil=>exact absurd h (Ay6 c s)
 | cons a r=>rfl
theorem Ae8(s:By)(c:Int)(a:A3 s.length=true)(b:inR c 256=true):∃r H,JY LF s c (λl=>rv (.fl 0) [.arr true 9 1 l])=rv r H/\r.stab [1] H = .s (.sl false false 1 (D4 (pcs (u8n c) s))):=by refine⟨_,_,A76 s c a b,?_⟩;simp[PV.stab,Rd,PV.snap,Aj5]
theorem Ci0(d:List By)(x:By)(m:Nat):aa6 (D4 (d++j0 (m+1) [])) d.length (F9 (b9 (D4 (d++j0 (m+1) [])) d.length []) 0 [SV.str x])=D4 ((d++[x])++j0 m []):=by
 have a:b9 (D4 (d++j0 (m+1) [])) d.length []=[SV.str []]:=by
  unfold D4;grind
 rw[a];simp only[F9,List.set_cons_zero,Xq];rw[show d.length=(D4 d).length by simp,List.set_append_right _ _ (by omega),Nat.sub_self,List.replicate_succ];simp[D4]
theorem ZT{R:Type}{k0:By->Int->LL->Option R}(c:UInt8):∀(m n:Nat) (s:By) (d:List By),s.length<=1000000000->m=s.count c->d.length+m<=1000000000->m<n->
  ∃(f:List By) (e:By),pcs c s=f++[e]/\e.length<=s.length/\Ax LF n s [c] 0 ((d.length+m:Nat):Int) (d.length:Int) (D4 (d++j0 (m+1) [])) k0=k0 e ((d.length+m:Nat):Int) (D4 ((d++f)++[[]])):=by
 intro m
 induction m with
 | zero=>
  intro n s d k b x y;obtain⟨n,rfl⟩:∃m,n=m+1:=⟨n-1,by omega⟩
  have a:c∉s:=ab2.1 b.symm;refine⟨[],s,Pa a,aa7 _,?_⟩;rw[Ax];rw[A6];simp
 | succ m z=>
  intro n s d k b x y;obtain⟨n,rfl⟩:∃m,n=m+1:=⟨n-1,by omega⟩
  rcases T1 c s with a|⟨p,r,rfl,a⟩
  ·rw[ab2.2 a] at b;omega
  ·have i:m=r.count c:=by
    rw[List.count_append,af0,ab2.2 a] at b;simp at b;omega
   simp only[y9,ab7] at k;obtain⟨f,e,w,B,j⟩:=z n r (d++[p]) (by omega) i (by simp<;>omega) (by omega);refine⟨p::f,e,by rw[VG a,w];rfl,by simp<;>omega,?_⟩;rw[Ax];have l:((p.length:Int)+1)=((p.length+1:Nat):Int):=by omega
   have o:(d.length:Int)+1=((d.length+1:Nat):Int):=by omega
   have q:((p.length+1:Nat):Int).toNat=p.length+1:=by omega
   have A:(((p++c::r).length:Nat):Int)=((p.length+(r.length+1):Nat):Int):=by simp
   have t:(p++c::r).take p.length=p:=List.take_left' rfl;have u:(p++c::r).drop (p.length+1)=r:=by
    rw[show p++c::r=(p++[c])++r by simp,List.drop_left' (by simp)]
   rw[AJ a];have v:(D4 (d++j0 (m+1+1) [])).length=d.length+(m+2):=by simp<;>omega
   simp (disch:=first|omega|(simp;omega)) only[B5,E4,E3,cond_true,cond_false,vl,Int.add_zero,C6,Z7,J6,v,j4,x8,O5,J8,t,Ci0];rw[decide_eq_true (show d.length<d.length+(m+2) by omega),cond_true,show((1:Nat):Int)=1 from rfl,l];simp (disch:=first|omega|(simp;omega)) only[C6,Z7,cond_true,O5,q,u,o];have g:((((d++[p]).length+m:Nat):Int))=((d.length+(m+1):Nat):Int):=by simp<;>omega
   have h:(((d++[p]).length:Nat):Int)=((d.length+1:Nat):Int):=by simp
   rw[g,h] at j;rw[j];simp
theorem IJ{R:Type}{k0:Unit->Option R}{g:Nat->LL->Option R}(s p:By)(v n:Int)(w:A3 s.length=true)(x:(p.length==1)=true)(y:(v==0)=true)(z:(n==(-1))=true) :
  II LF s p v n k0 g=g (pcs (p.getD 0 0) s).length (D4 (pcs (p.getD 0 0) s)):=by
 have C:=K7 w;have:=C2;obtain⟨c,rfl⟩:∃c,p=[c]:=by
  match p,x with
  | [c],_=>exact⟨c,rfl⟩
 have:v=0:=by simpa using y
 subst this;have:n=-1:=by simpa using z
 subst this;have G:=Gh c s;have B:=Ib c s;obtain⟨d,D,u,F,h⟩:=ZT (R:=R) (k0:=λf a b=>cond (inR a (a8 b))
     (cond (decide ((b8 a)<(a8 b)))
      (vl (A1 (a+(1))) λe=>
      cond (I1 (0) e (a8 (aa6 b (b8 a) (F9 (b9 b (b8 a) []) 0 [(SV.str f)]))))
       (g ((b8 e)-0) (aa6 b (b8 a) (F9 (b9 b (b8 a) []) 0 [(SV.str f)])))
       (none))
      (none))
     (none)) c (s.count c) LF s [] C rfl (by simp<;>omega) (by omega)
 unfold II;have i:A1 ((s.count c:Int)+1)=((s.count c+1:Nat):Int):=A7;have j:A1 ((s.length:Int)+1)=((s.length+1:Nat):Int):=A7;have k:(if ((s.length+1:Nat):Int)<((s.count c+1:Nat):Int) then ((s.length+1:Nat):Int) else ((s.count c+1:Nat):Int))=((s.count c+1:Nat):Int):=G1;have l:((s.count c+1:Nat):Int)-1=(s.count c:Int):=by omega
 have m:(j0 (s.count c+1) [SV.str ([]:By)])=D4 ([]++j0 (s.count c+1) []):=by simp[D4]
 simp only[x4,vl,x8,i,j,k,j4,m];rw[show((-1:Int)==0)=false from rfl,show([c]==([]:By))=false from rfl,show ltI (-1) 0=true from rfl,decide_eq_true (show(0:Int)<=((s.count c+1:Nat):Int) by omega),decide_eq_true (show((s.count c+1:Nat):Int)<=((s.count c+1:Nat):Int) by omega),F2 (by omega),l,A7];simp only[cond_true,cond_false,beq_self_eq_true,Bool.and_self];simp only[af1,ah1] at h;refine j1 h ?_;have o:(D4 ((([]:List By)++d)++[[]]))=D4 (d++j0 (0+1) []):=by simp
 have A:d.length=s.count c:=by grind
 have q:=Ci0 d D 0;rw[<-A,o];have t:(D4 (d++j0 (0+1) ([]:By))).length=d.length+1:=by simp
 have r:A1 ((d.length:Int)+1)=((d.length+1:Nat):Int):=A7;simp only[j4,q,t,vl,r];rw[E6,decide_eq_true (show d.length<d.length+1 by omega),Z7 (by omega) (by omega) (by simp),u];simp
theorem ZU(s p:By)(v n:Int)(a:A3 s.length=true)(b:(p.length==1)=true)(c:(v==0)=true)(d:(n==(-1))=true) :
  ∃r H,II LF s p v n (λ_=>rv (.fl 0) [.arr true 9 1 []]) (λi l=>rv (.vw 0 0 i) [.arr false 9 1 l])=rv r H/\r.stab [1] H = .s (.sl false false 1 (D4 (pcs (p.getD 0 0) s))):=by
 refine⟨_,_,IJ s p v n a b c d,?_⟩;simp[PV.stab,Rd,PV.snap,aa2]
theorem WS{R:Type}{a:Nat->LL->Option R}(s p:By)(b:A3 s.length=true)(c:(p.length==1)=true):EN LF s p a=a (pcs (p.getD 0 0) s).length (D4 (pcs (p.getD 0 0) s)):=by unfold EN;rw[b,c];rfl
theorem OB{l:List By}{i:Nat}(h:i<l.length):l.getD i []∈l:=by grind
theorem Ay5{R:Type}{d:LL->Option R}(s:By)(b:A3 s.length=true):parts LF s d=d (D4 (C8 s)):=by
 have j:=K7 b;have g:=Ib 46 s;have i:=Gh 46 s;unfold parts;rw[b];have e:A1 (((pcs 46 s).length:Int)-1)=(((pcs 46 s).length-1:Nat):Int):=by rw[A7];omega
 simp only[cond_true,vl,x4,show((1:Nat)==1)=true from rfl,F6,e,j4];by_cases c:1<(pcs 46 s).length
 ·rw[A8,E6,Q8 (by omega),V8];have f:(pcs 46 s).getD ((pcs 46 s).length-1) []=(pcs 46 s).getLastD []:=by grind
  rw[f];by_cases a:(pcs 46 s).getLastD []=[]
  ·rw[a,show(([]:By)==[])=true from rfl,H5];have:C8 s=(pcs 46 s).dropLast:=by unfold C8;rw[if_pos ⟨c,a⟩]
   rw[this,ac4,J8,j4];simp[D4]
  ·rw[show((pcs 46 s).getLastD []==[])=false from beq_eq_false_iff_ne.2 a];have:C8 s=pcs 46 s:=by unfold C8;rw[if_neg (λh=>a h.2)]
   grind
 ·rw[A6];have:C8 s=pcs 46 s:=by unfold C8;rw[if_neg (λh=>c h.1)]
  grind
theorem Ad8{R:Type}{d:LL->Option R}(s:By)(b:A3 s.length=true):WA LF s d=d (D4 (C8 s)):=by
 have j:=K7 b;have g:=Ib 46 s;have i:=Gh 46 s;unfold WA;rw[b];have e:A1 (((pcs 46 s).length:Int)-1)=(((pcs 46 s).length-1:Nat):Int):=by rw[A7];omega
 simp only[cond_true,vl,show u8n 46=46 from rfl,F6,e,j4];by_cases c:1<(pcs 46 s).length
 ·rw[A8,E6,Q8 (by omega),V8];have f:(pcs 46 s).getD ((pcs 46 s).length-1) []=(pcs 46 s).getLastD []:=by grind
  rw[f];by_cases a:(pcs 46 s).getLastD []=[]
  ·rw[a,show(([]:By)==[])=true from rfl,H5];have:C8 s=(pcs 46 s).dropLast:=by unfold C8;rw[if_pos ⟨c,a⟩]
   rw[this,ac4,J8,j4];simp[D4]
  ·rw[show((pcs 46 s).getLastD []==[])=false from beq_eq_false_iff_ne.2 a];have:C8 s=pcs 46 s:=by unfold C8;rw[if_neg (λh=>a h.2)]
   grind
 ·rw[A6];have:C8 s=pcs 46 s:=by unfold C8;rw[if_neg (λh=>c h.1)]
  grind
theorem Je(l:List By)(i:Nat)(h:i<l.length):l.drop i=l.getD i []::l.drop (i+1):=by simp_all
theorem Bt6{R:Type}{g:Unit->Option R}{j:Int->Option R}(l:List By)(B:1<=l.length)(L:l.length<=4)(A:∀x∈l,x.length<=1000000000):∀(r i v n:Nat),i+r=l.length->0<r->r<n->v<256 ^ i->
  Ig LF n (D4 l) (v:Int) (l.length:Int) (i:Int) g j=match Wk (8*(5-l.length)) v (l.drop i) with|some w=>j (w:Int)|none=>g ():=by
 intro r
 induction r with
 | zero=>intro i v n _ h;omega
 | succ r J=>
  intro i v n K _ M H;obtain⟨n,rfl⟩:∃m,n=m+1:=⟨n-1,by omega⟩
  rw[Ig,Je l i (by omega)];have N:=A _ (OB (show i<l.length by omega));have f:Cb=1099511627776:=rfl;have C:256 ^ i<=16777216:=by
   have:i=0\/i=1\/i=2\/i=3:=by omega
   rcases this with rfl|rfl|rfl|rfl<;>decide
  simp (disch:=omega) only[B5,F6,J6,cond_true,j4,Q8,V8,E3,vl];simp only[Wk];have c:((i:Int)+1)=((i+1:Nat):Int):=by omega
  cases D:Ad (l.getD i []) with
  | none=>rfl
  | some q=>
   have F:=Bj2 D;have p:A1 ((l.length:Int)-1)=((l.length-1:Nat):Int):=by rw[A7];omega
   simp only[s8,j6,cond_false,M4,w6,p];by_cases G:r=0
   ·subst G;have t:l.drop (i+1)=[]:=p5 (by omega);have o:A1 (8*A1 (5-(l.length:Int)))=((8*(5-l.length):Nat):Int):=by
     rw[C6 (n:=5-(l.length:Int)) (by omega) (by omega),A7];omega
    have b:2 ^ (8*(5-l.length))*256 ^ i=4294967296:=by
     have:l.length=1\/l.length=2\/l.length=3\/l.length=4:=by omega
     grind
    have u:1*2 ^ (8*(5-l.length))<=4294967296:=by
     rw[<-b,ac9];exact ac0 _ (ae8 (by omega))
    rw[t,A6,o,decide_eq_true (show(0:Int)<=((8*(5-l.length):Nat):Int) by omega)];simp only[cond_false,cond_true];have k:=Ai1 1 (8*(5-l.length)) (by omega) (by omega);have I:v*2 ^ (8*(5-l.length))<4294967296:=by
     rw[<-b,ah0];exact Nat.mul_lt_mul_of_pos_left H (ae8 (by omega))
    have e:=Ai1 v (8*(5-l.length)) (by omega) (by omega);rw[show((1:Nat):Int)=1 from rfl] at k;rw[k,e,ac9];by_cases a:q<2 ^ (8*(5-l.length))
    ·rw[A8,if_pos a,C77 _ _ (by omega) (by omega),EE v q _ a];simp only[j6,cond_false];obtain⟨n,rfl⟩:∃m,n=m+1:=⟨n-1,by omega⟩
     rw[Ig];rw[c,A7,A6];rfl
    ·rw[A6,if_neg a];rfl
   ·obtain⟨y,z,d⟩:∃y z,l.drop (i+1)=y::z:=⟨_,_,Je l (i+1) (by omega)⟩
    rw[d,A8];simp only[cond_true];by_cases a:q<=255
    ·have e:=Ai1 v 8 (by omega) (by omega);rw[show((8:Nat):Int)=8 from rfl] at e;rw[A6,if_pos a,e,C77 _ _ (by omega) (by omega),EE v q 8 (by omega),c,A7];rw[<-d];exact J (i+1) _ n (by omega) (by omega) (by omega) (by rw[y8];omega)
    ·rw[A8,if_neg a];rfl
theorem Bj7(free m:Nat):∀(l:List By) (v w:Nat),v<256 ^ m->Wk free v l=some w->w<256 ^ (m+(l.length-1))*2 ^ free
 | [],v,w,b,h=>by cases h
 | p::r,v,w,b,h=>by
  simp only[Wk] at h;cases a:Ad p with
  | none=>simp[a] at h
  | some q=>
   simp only[a] at h;cases r with
   | nil=>
    simp only at h;split at h
    ·rename_i c;cases h;simp only[ab7,af1,Nat.add_sub_cancel,Nat.add_zero];have:(v+1)*2 ^ free<=256 ^ m*2 ^ free:=Nat.mul_le_mul_right _ b;grind
    grind
   | cons y z=>
    simp only at h;split at h
    ·rename_i c;have:=Bj7 free (m+1) (y::z) (v*256+q) w (by rw[y8];omega) h;grind
    grind
theorem Cd2{s:By}{w:Nat}(h:pnB s=some w):w<4294967296:=by
 unfold pnB at h;split at h
 ·cases h
 ·rename_i a;have b:=Ao s;have:=Bj7 _ 0 (C8 s) 0 w (by decide) h;have e:(C8 s).length=1\/(C8 s).length=2\/(C8 s).length=3\/(C8 s).length=4:=by omega
  grind
theorem Bt7{R:Type}{b:Int->Bool->Option R}(s:By)(a:A3 s.length=true):Cx4 LF s b=b (M4 (pnB s):Int) (pnB s).isSome:=by
 have f:=K7 a;have:=C2;have c:=Ao s;unfold Cx4;rw[a,F6];by_cases h:4<(C8 s).length
 ·rw[A8];unfold pnB;rw[if_pos h];rfl
 ·rw[A6];simp only[cond_true,cond_false];refine j1 (Bt6 (C8 s) c.1 (by omega) (λx g=>ac1 (Ls g) f) (C8 s).length 0 0 LF (by omega) (by omega) (by omega) (by decide)) ?_;have e:pnB s=Wk (8*(5-(C8 s).length)) 0 (C8 s):=by unfold pnB;rw[if_neg h]
  rw[w8,<-e];cases d:pnB s with
  | none=>rfl
  | some w=>
   have:=Cd2 d;simp only[M4,w6,s8];rw[Mv]
theorem A61{R:Type}{k0:Unit->Option R}{k1:Int->Option R}(l:List By)(F:1<=l.length)(L:l.length<=4)(D:∀x∈l,x.length<=1000000000):∀(r i v n:Nat),i+r=l.length->0<r->r<n->v<256 ^ i->
  Dy LF n (D4 l) ((v*2 ^ (32-8*i):Nat):Int) (i:Int) k0 k1=match Wk (8*(5-l.length)) v (l.drop i) with|some w=>k1 (w:Int)|none=>k0 ():=by
 intro r
 induction r with
 | zero=>intro i v n _ h;omega
 | succ r J=>
  intro i v n K _ M N;obtain⟨n,rfl⟩:∃m,n=m+1:=⟨n-1,by omega⟩
  rw[Dy,Je l i (by omega)];have O:=D _ (OB (show i<l.length by omega));have k:Cb=1099511627776:=rfl;have a:v*2 ^ (32-8*i)<4294967296:=by
   have:i=0\/i=1\/i=2\/i=3:=by omega
   rcases this with rfl|rfl|rfl|rfl
   all_goals omega
  simp (disch:=omega) only[B5,F6,J6,cond_true,j4,Q8,V8,E3,vl];simp only[Wk];have c:((i:Int)+1)=((i+1:Nat):Int):=by omega
  cases G:Ad (l.getD i []) with
  | none=>rfl
  | some q=>
   have H:=Bj2 G;have A:A1 ((l.length:Int)-1)=((l.length-1:Nat):Int):=by rw[A7];omega
   simp only[s8,j6,cond_false,M4,w6,A];by_cases I:r=0
   ·subst I;have B:l.drop (i+1)=[]:=p5 (by omega);have u:A1 (8*A1 (5-(l.length:Int)))=((8*(5-l.length):Nat):Int):=by
     rw[C6 (n:=5-(l.length:Int)) (by omega) (by omega),A7];omega
    have f:2 ^ (8*(5-l.length))*256 ^ i=4294967296:=by
     have:l.length=1\/l.length=2\/l.length=3\/l.length=4:=by omega
     grind
    have C:1*2 ^ (8*(5-l.length))<=4294967296:=by
     rw[<-f,ac9];exact ac0 _ (ae8 (by omega))
    have e:((i:Int)==((l.length-1:Nat):Int))=true:=by rw[beq_iff_eq];omega
    rw[B,e,u,decide_eq_true (show(0:Int)<=((8*(5-l.length):Nat):Int) by omega)];simp only[cond_true];have o:=Ai1 1 (8*(5-l.length)) (by omega) (by omega);rw[show((1:Nat):Int)=1 from rfl] at o;rw[o,ac9];by_cases b:q<2 ^ (8*(5-l.length))
    ·rw[A8,if_pos b];simp only[j6,cond_false];obtain⟨n,rfl⟩:∃m,n=m+1:=⟨n-1,by omega⟩
     rw[Dy];rw[c,C6 (n:=((i+1:Nat):Int)) (by omega) (by omega),F6,A6];have:32-8*i=8*(5-l.length):=by omega
     rw[this] at a ⊢;rw[cond_false,A7];rfl
    ·rw[A6,if_neg b];rfl
   ·obtain⟨y,z,d⟩:∃y z,l.drop (i+1)=y::z:=⟨_,_,Je l (i+1) (by omega)⟩
    have e:((i:Int)==((l.length-1:Nat):Int))=false:=by rw[beq_eq_false_iff_ne];omega
    rw[d,e];simp only[cond_false];by_cases b:q<=255
    ·have j:A1 (24-A1 (8*(i:Int)))=((24-8*i:Nat):Int):=by
      rw[C6 (n:=8*(i:Int)) (by omega) (by omega),A7];omega
     have g:q*2 ^ (24-8*i)<4294967296:=by
      have:i=0\/i=1\/i=2:=by omega
      clear a;rcases this with rfl|rfl|rfl
      ·show q*16777216<_;omega
      ·show q*65536<_;omega
      ·show q*256<_;omega
     have p:=Ai1 q (24-8*i) (by omega) (by omega);rw[A6,if_pos b,j,decide_eq_true (show(0:Int)<=((24-8*i:Nat):Int) by omega),p,c,C6 (n:=((i+1:Nat):Int)) (by omega) (by omega)];have t:A1 (((v*2 ^ (32-8*i):Nat):Int)+((q*2 ^ (24-8*i):Nat):Int))=(((v*256+q)*2 ^ (32-8*(i+1)):Nat):Int):=by
      rw[A7];have:i=0\/i=1\/i=2:=by omega
      clear a g p j;rcases this with rfl|rfl|rfl
      ·show((v*4294967296:Nat):Int)+((q*16777216:Nat):Int)=(((v*256+q)*16777216:Nat):Int);omega
      ·show((v*16777216:Nat):Int)+((q*65536:Nat):Int)=(((v*256+q)*65536:Nat):Int);omega
      ·show((v*65536:Nat):Int)+((q*256:Nat):Int)=(((v*256+q)*256:Nat):Int);omega
     rw[t,<-d];exact J (i+1) _ n (by omega) (by omega) (by omega) (by rw[y8];omega)
    ·rw[A8,if_neg b];rfl
theorem A62{R:Type}{k0:Int->Bool->Option R}(s:By)(a:A3 s.length=true):Bk8 LF s k0=k0 (M4 (pnB s):Int) (pnB s).isSome:=by
 have f:=K7 a;have:=C2;have c:=Ao s;unfold Bk8;rw[a,F6];by_cases h:4<(C8 s).length
 ·rw[A8];unfold pnB;rw[if_pos h];rfl
 ·rw[A6];simp only[cond_true,cond_false];have b:=A61 (k0:=λ_=>k0 0 false) (k1:=λv=>k0 (BN v) true) (C8 s) c.1 (by omega) (λx g=>ac1 (Ls g) f) (C8 s).length 0 0 LF (by omega) (by omega) (by omega) (by decide);rw[Nat.zero_mul] at b;refine j1 b ?_;have e:pnB s=Wk (8*(5-(C8 s).length)) 0 (C8 s):=by unfold pnB;rw[if_neg h]
  rw[w8,<-e];cases d:pnB s with
  | none=>rfl
  | some w=>
   have:=Cd2 d;simp only[M4,w6,s8];rw[Mv]
theorem Bj3:∀(l:List By) (v w m:Nat),v<256 ^ m->JF v l=some w->w<256 ^ (m+l.length)
 | [],v,w,m,b,h=>by simp only[JF,aa3] at h;subst h;simpa using b
 | p::r,v,w,m,b,h=>by
  simp only[JF] at h;cases a:oct p with
  | none=>simp[a] at h
  | some q=>
   simp only[a] at h;have c:=(Wi.1 a).1;have:=Bj3 r (v*256+q) w (m+1) (by rw[y8];omega) h;grind
theorem Cw1(s:By):oct s=match E8 10 0 s with|some n=>(if n<=255 then (if j5 n=s then some n else none) else none)|none=>none:=by unfold oct;grind
theorem Cl0{R:Type}{e:Unit->Option R}{f:Int->Option R}(l:List By)(z:l.length=4)(j:∀x∈l,x.length<=1000000000):∀(r i v n:Nat),i+r=4->r<n->v<256 ^ i->
  Uk LF n (v:Int) (D4 l) 4 (i:Int) e f=match JF v (l.drop i) with|some w=>f (w:Int)|none=>e ():=by
 intro r
 induction r with
 | zero=>
  intro i v n h k u;obtain⟨n,rfl⟩:∃m,n=m+1:=⟨n-1,by omega⟩
  rw[Uk];rw[A6,p5 (by omega)];rfl
 | succ r y=>
  intro i v n h k u;obtain⟨n,rfl⟩:∃m,n=m+1:=⟨n-1,by omega⟩
  rw[Uk,Je l i (by omega)];have A:=j _ (OB (show i<l.length by omega));have o:256 ^ i<=16777216:=by
   have:i=0\/i=1\/i=2\/i=3:=by omega
   grind
  simp (disch:=omega) only[B5,F6,J6,cond_true,j4,Q8,V8,E3,Rl,vl];simp only[JF];have b:((i:Int)+1)=((i+1:Nat):Int):=by omega
  rw[Cw1];cases p:E8 10 0 (l.getD i []) with
  | none=>rfl
  | some q=>
   have t:=HX (by unfold Cb;omega) p;have d:Cb=1099511627776:=rfl;simp only[s8,j6,cond_false,M4,w6,j4];by_cases c:q<=255
   ·rw[A6,if_pos c,L2];simp only[cond_false,cond_true];by_cases a:j5 q=l.getD i []
    ·have g:=Dk3 v 8 (by omega) (by omega);rw[show((8:Nat):Int)=8 from rfl] at g;rw[show(j5 q==l.getD i [])=true by simpa using a,if_pos a,g,Mv,Di6 _ _ (by omega) (by omega),EE v q 8 (by omega),b,A7];exact y (i+1) _ n (by omega) (by omega) (by rw[y8];omega)
    ·rw[show(j5 q==l.getD i [])=false from beq_eq_false_iff_ne.2 a,if_neg a];rfl
   ·rw[A8,if_neg c];rfl
theorem Cl1{R:Type}{b:Int->Bool->Option R}(s:By)(a:A3 s.length=true):v4p LF s b=b (M4 (v4B s):Int) (v4B s).isSome:=by
 have c:=K7 a;have:=C2;unfold v4p v4B;rw[a];simp only[cond_true,vl,x4,F6,show((1:Nat)==1)=true from rfl];by_cases h:(pcs 46 s).length=4
 ·rw[if_pos h,h,show(((4:Nat):Int)!=4)=false from rfl,cond_false];refine j1 (Cl0 (pcs 46 s) h (λx d=>ac1 (Dj d).2 c) 4 0 0 LF (by omega) (by omega) (by decide)) ?_;rw[w8];cases JF 0 (pcs 46 s)<;>rfl
 ·rw[if_neg h,show(((pcs 46 s).length:Int)!=4)=true by simp<;>omega];rfl
theorem Bx8{R:Type}{b:Unit->Option R}{c:Int->Option R}(l:List By)(y:l.length=4)(h:∀x∈l,x.length<=1000000000):∀(r i v n:Nat),i+r=4->r<n->v<256 ^ i->
  Mg LF n (D4 l) (v:Int) (i:Int) b c=match JF v (l.drop i) with|some w=>c (w:Int)|none=>b ():=by
 intro r
 induction r with
 | zero=>
  intro i v n g j t;obtain⟨n,rfl⟩:∃m,n=m+1:=⟨n-1,by omega⟩
  rw[Mg];rw[A6,p5 (by omega)];rfl
 | succ r u=>
  intro i v n g j t;obtain⟨n,rfl⟩:∃m,n=m+1:=⟨n-1,by omega⟩
  rw[Mg,Je l i (by omega)];have z:=h _ (OB (show i<l.length by omega));have k:256 ^ i<=16777216:=by
   have:i=0\/i=1\/i=2\/i=3:=by omega
   grind
  simp (disch:=omega) only[B5,F6,J6,cond_true,j4,Q8,V8,E3,Rl,vl];simp only[JF];have a:((i:Int)+1)=((i+1:Nat):Int):=by omega
  cases o:oct (l.getD i []) with
  | none=>rfl
  | some q=>
   have p:=(Wi.1 o).1;simp only[s8,j6,cond_false,M4,w6];have d:BN ((v:Int)*256)=((v*256:Nat):Int):=by rw[Mv];simp
   have e:BN (q:Int)=(q:Int):=Mv;have f:BN (((v*256:Nat):Int)+(q:Int))=((v*256+q:Nat):Int):=by rw[Mv];simp
   rw[d,e,f,a,A7];exact u (i+1) _ n (by omega) (by omega) (by rw[y8];omega)
theorem Bx9{R:Type}{b:Int->Bool->Option R}(s:By)(a:A3 s.length=true):C09 LF s b=b (M4 (v4B s):Int) (v4B s).isSome:=by
 have c:=K7 a;have:=C2;unfold C09 v4B;rw[a];simp only[cond_true,vl,show u8n 46=46 from rfl,F6];by_cases h:(pcs 46 s).length=4
 ·rw[if_pos h,h,show(((4:Nat):Int)!=4)=false from rfl,cond_false];refine j1 (Bx8 (pcs 46 s) h (λx d=>ac1 (Dj d).2 c) 4 0 0 LF (by omega) (by omega) (by decide)) ?_;rw[w8];cases JF 0 (pcs 46 s)<;>rfl
 ·rw[if_neg h,show(((pcs 46 s).length:Int)!=4)=true by simp<;>omega];rfl
theorem Ck9{R:Type}{j:By->Option R}(v:Int)(o:ltN v 4294967296=true):v4f LF v j=j (Hp v.toNat):=by
 obtain⟨c,p⟩:=E2.1 o;obtain⟨m,rfl⟩:=k9 c;have:=C2;obtain⟨f,q⟩:∃f,LF=f+1+1+1+1+1:=⟨LF-5,by omega⟩
 have step:∀(n:Nat) (i:Nat) (out:By) (K:By->Option R),i<=24->out.length<=1000->Hq LF (n+1) (m:Int) out (i:Int) K=Hq LF n (m:Int) (out++(j5 (m / 2 ^ i % 256)++[46])) ((i:Int)-8) K:=by
  intro n i out K y A;rw[Hq];have g:m / 2 ^ i<4294967296:=ad3 (af3 _ _) (by omega);have k:Ap3 .u32 (Nn .u32 (m:Int) (i:Int)) 255=((m / 2 ^ i % 256:Nat):Int):=by
   rw[Qy .u32 m i (by show i<=32;omega),show(255:Int)=((255:Nat):Int) from rfl,C97 _ _ g (by omega),C96]
  have z:=F5 (m / 2 ^ i % 256) (by omega);have l:A1 ((m / 2 ^ i % 256:Nat):Int)=((m / 2 ^ i % 256:Nat):Int):=A7;rw[A6,decide_eq_true (show(0:Int)<=(i:Int) by omega),k];simp only[vl,l,j4,j7,cond_true];rw[L2,E7 (by omega),E7 (by simp<;>omega),A7];rfl
 have b:∀(n:Nat) (out:By) (K:By->Option R),Hq LF (n+1) (m:Int) out (-8) K=K out:=by
  intro n out K;rw[Hq];simp_all
 have x:=F5 (m / 2 ^ 24 % 256) (by omega);have w:=F5 (m / 2 ^ 16 % 256) (by omega);have D:=F5 (m / 2 ^ 8 % 256) (by omega);have C:=F5 (m / 2 ^ 0 % 256) (by omega);have u:=F5 (m / 16777216 % 256) (by omega);have t:=F5 (m / 65536 % 256) (by omega);have B:=F5 (m / 256 % 256) (by omega);have r:=F5 (m % 256) (by omega);unfold v4f;rw[show Hq LF LF=Hq LF (f+1+1+1+1+1) by rw[<-q]];rw[show(24:Int)=((24:Nat):Int) from rfl,step _ 24 _ _ (by omega) (by simp)];rw[show((24:Nat):Int)-8=((16:Nat):Int) from rfl,step _ 16 _ _ (by omega) (by simp<;>omega)];rw[show((16:Nat):Int)-8=((8:Nat):Int) from rfl,step _ 8 _ _ (by omega) (by simp<;>omega)];rw[show((8:Nat):Int)-8=((0:Nat):Int) from rfl,step _ 0 _ _ (by omega) (by simp<;>omega)];rw[show((0:Nat):Int)-8=-8 from rfl,b];have h:m / 2 ^ 24 % 256=m / 16777216:=by omega
 have e:(([]:By)++(j5 (m / 2 ^ 24 % 256)++[46])++(j5 (m / 2 ^ 16 % 256)++[46])++(j5 (m / 2 ^ 8 % 256)++[46])++(j5 (m / 2 ^ 0 % 256)++[46]))=Hp m++[46]:=by
  unfold Hp;grind
 have a:(Hp m++[46]).length<=1000:=by rw[<-e];simp;omega
 rw[e];have d:((Hp m++[46]).length:Int)-1=((Hp m).length:Int):=by simp<;>omega
 simp only[vl,d];simp only[y9,x8] at a;rw[A7,Z7 (by omega) (by omega) (by simp<;>omega),J8,j4,j4];grind
theorem Bx7{R:Type}{b:By->Option R}(v:Int)(f:ltN v 4294967296=true):C07 LF v b=b (Hp v.toNat):=by
 obtain⟨a,g⟩:=E2.1 f;obtain⟨m,rfl⟩:=k9 a;have i:=F5 (m / 16777216) (by omega);have h:=F5 (m / 65536 % 256) (by omega);have l:=F5 (m / 256 % 256) (by omega);have k:=F5 (m % 256) (by omega);have c:Nn .u32 (m:Int) 24=((m / 16777216:Nat):Int):=Qy .u32 m 24 (by decide);have d:Nn .u32 (m:Int) 16=((m / 65536:Nat):Int):=Qy .u32 m 16 (by decide);have e:Nn .u32 (m:Int) 8=((m / 256:Nat):Int):=Qy .u32 m 8 (by decide);have t:∀x:Nat,x7 (x:Int) 256=((x % 256:Nat):Int):=λx=>Bx x 256
 have w:∀x:Nat,x<4294967296->A1 (x:Int)=(x:Int):=λx j=>A7
 unfold C07;simp only[vl,c,d,e,t];rw[w _ (by omega),w _ (by omega),w _ (by omega),w _ (by omega)];simp only[j4];rw[L2,L2,L2,L2];simp only[cond_true];rw[E7 (by omega),E7 (by simp<;>omega),E7 (by simp<;>omega),E7 (by simp<;>omega),E7 (by simp<;>omega),E7 (by simp<;>omega)];simp only[cond_true,Hp,j4];grind
theorem VO{R:Type}{g:Unit->Option R}{h:By->Option R}(s:By)(q:s.length<=1000000000):∀(r i n v:Nat),i+r=s.length->r<n->Ap LF n s (i:Int) g h=if (E8 10 v (s.drop i)).isSome then h s else g ():=by
 intro r
 induction r with
 | zero=>
  intro i n v k l;obtain⟨n,rfl⟩:∃m,n=m+1:=⟨n-1,by omega⟩
  rw[Ap];rw[A6,p5 (by omega)];rfl
 | succ r o=>
  intro i n v k l;obtain⟨n,rfl⟩:∃m,n=m+1:=⟨n-1,by omega⟩
  rw[Ap,D2 s i (by omega)];rw[D0];have j:=(s.getD i 0).toNat_lt;generalize s.getD i 0=b at *;have f:((i:Int)+1)=((i+1:Nat):Int):=by omega
  simp (disch:=omega) only[B5,J6,cond_true,C6];simp only[E8];rw[f,o (i+1) n (min (v*10+dig b) Cb) (by omega) (by omega)];rcases Cn b with⟨a,d,e⟩|⟨a,d,e⟩|⟨a,d,e⟩|⟨a,d,p,e⟩
  ·simp only[if_pos (show dig b<10 by omega)];rw[A6,A6];rfl
  ·simp only[if_neg (show ¬dig b<10 by omega)];rw[A6,A8];rfl
  ·simp only[if_neg (show ¬dig b<10 by omega)];rw[A6,A8];rfl
  ·simp only[if_neg (show ¬dig b<10 by omega)];by_cases c:b.toNat<48
   ·rw[A8];rfl
   ·rw[A6,A8];rfl
theorem VQ{R:Type}{a:Bool->Option R}(s:By)(b:A3 s.length=true):EG LF s a=a (!s.isEmpty&&(E8 10 0 s).isSome):=by
 have c:=K7 b;have:=C2;unfold EG;refine j1 (VO s c s.length 0 LF 0 (by omega) (by omega)) ?_;rw[w8];cases d:E8 10 0 s with
 | none=>simp
 | some v=>cases s<;>rfl
theorem Bu7{R:Type}{g:Int->Option R}(b:Int)(h:inR b 256=true):Cd7 LF b g=g (dig (u8n b):Int):=by
 simp only[inR,x5,decide_eq_true_eq] at h;have j:b=((u8n b).toNat:Int):=by
  unfold u8n;simp;omega
 generalize u8n b=c at *;subst j;have i:=c.toNat_lt;unfold Cd7;simp only[Wp,Wo,vl];rcases Cn c with⟨d,f,e⟩|⟨d,f,e⟩|⟨d,f,e⟩|⟨d,f,o,e⟩
 ·have a:A1 (wu8 ((c.toNat:Int)-48))=((dig c:Nat):Int):=by
   rw[L6,A7];omega
  simp (disch:=omega) only[B5,E4,j6,j7,cond_false,cond_true,a]
 ·have a:A1 (A1 (wu8 ((c.toNat:Int)-97))+10)=((dig c:Nat):Int):=by
   rw[L6,C6 (n:=(c.toNat:Int)-97) (by omega) (by omega),A7];omega
  simp (disch:=omega) only[B5,E4,j6,j7,cond_false,cond_true,a]
 ·have a:A1 (A1 (wu8 ((c.toNat:Int)-65))+10)=((dig c:Nat):Int):=by
   rw[L6,C6 (n:=(c.toNat:Int)-65) (by omega) (by omega),A7];omega
  simp (disch:=omega) only[B5,E4,j6,j7,cond_false,cond_true,a]
 ·rw[e];by_cases k:c.toNat<48
  ·simp (disch:=omega) only[B5,E4,j6,j7,cond_false,cond_true];rfl
  ·by_cases l:c.toNat<65
   ·simp (disch:=omega) only[B5,E4,j6,j7,cond_false,cond_true];rfl
   ·by_cases m:c.toNat<97
    ·simp (disch:=omega) only[B5,E4,j6,j7,cond_false,cond_true];rfl
    ·simp (disch:=omega) only[B5,E4,j6,j7,cond_false,cond_true];rfl
theorem Ad6{R:Type}{g:Unit->Option R}{h:Int->Option R}(s:By)(p:s.length<=1000000000):∀(r i a n:Nat),i+r=s.length->r<n->a<=Cb->
  Ii LF n s (a:Int) (i:Int) g h=match E8 16 a (s.drop i) with|some v=>h (v:Int)|none=>g ():=by
 intro r
 induction r with
 | zero=>
  intro i a n k l j;obtain⟨n,rfl⟩:∃m,n=m+1:=⟨n-1,by omega⟩
  rw[Ii];rw[A6,p5 (by omega)];rfl
 | succ r o=>
  intro i a n k l j;obtain⟨n,rfl⟩:∃m,n=m+1:=⟨n-1,by omega⟩
  rw[Ii,D2 s i (by omega)];rw[D0,Iq,XA];generalize s.getD i 0=b at *;have c:((i:Int)+1)=((i+1:Nat):Int):=by omega
  have f:Cb=1099511627776:=rfl;simp (disch:=omega) only[B5,J6,cond_true,vl,C6];simp only[E8];rw[c];by_cases e:dig b<16
  ·have d:A1 (A1 ((a:Int)*16)+(dig b:Int))=((a*16+dig b:Nat):Int):=by
    rw[C6 (n:=(a:Int)*16) (by omega) (by omega),A7];simp
   rw[if_pos e,A8];simp (disch:=omega) only[C6,j6,cond_false] at d ⊢;rw[d,Ch9];exact o (i+1) _ n (by omega) (by omega) (by omega)
  ·rw[if_neg e,A6];rfl
theorem A49{R:Type}{f:Unit->Option R}{g:Int->Option R}(s:By)(t:s.length<=1000000000)(base:Nat)(q:base<=16):∀(r i a n:Nat),i+r=s.length->r<n->a<=Cb->
  Fc LF n s (base:Int) (a:Int) (i:Int) f g=match E8 base a (s.drop i) with|some v=>g (v:Int)|none=>f ():=by
 intro r
 induction r with
 | zero=>
  intro i a n k l j;obtain⟨n,rfl⟩:∃m,n=m+1:=⟨n-1,by omega⟩
  rw[Fc];rw[A6,p5 (by omega)];rfl
 | succ r o=>
  intro i a n k l j;obtain⟨n,rfl⟩:∃m,n=m+1:=⟨n-1,by omega⟩
  rw[Fc,D2 s i (by omega)];rw[D0,Iq,XA];generalize s.getD i 0=b at *;have c:((i:Int)+1)=((i+1:Nat):Int):=by omega
  have e:Cb=1099511627776:=rfl;simp only[E8,vl];rw[A8,E6,c,C6 (n:=((i+1:Nat):Int)) (by omega) (by omega)];simp only[cond_true];by_cases d:dig b<base
  ·have p:a*base<=1099511627776*16:=af5 (by omega) (by omega);have e0:A1 ((a:Int)*(base:Int))=((a*base:Nat):Int):=by
    rw[<-ae9];exact A7
   have h:A1 (((a*base:Nat):Int)+(dig b:Int))=((a*base+dig b:Nat):Int):=by
    rw[A7];rfl
   rw[if_pos d,A8,e0,h,Ch9];exact o (i+1) _ n (by omega) (by omega) (by omega)
  ·rw[if_neg d,A6];rfl
theorem Bv9{R:Type}{a:Int->Bool->Option R}(s:By)(p:A3 s.length=true):Cf9 LF s a=a (M4 (Ad s):Int) (Ad s).isSome:=by
 have u:=K7 p;have:=C2;have o:∀x:By,x.length<=1000000000->Ii LF LF x 0 0 (λ_=>a 0 false) (λn=>a n true)=a (M4 (E8 16 0 x):Int) (E8 16 0 x).isSome:=by
  intro x f;refine j1 (Ad6 x f x.length 0 0 LF (by omega) (by omega) (by unfold Cb;omega)) ?_;rw[w8];cases E8 16 0 x<;>rfl
 have c:∀(x:By) (b:Nat),b<=16->x.length<=1000000000->Fc LF LF x (b:Int) 0 0 (λ_=>a 0 false) (λn=>a n true)=a (M4 (E8 b 0 x):Int) (E8 b 0 x).isSome:=by
  intro x b q f;refine j1 (A49 x f b q x.length 0 0 LF (by omega) (by omega) (by unfold Cb;omega)) ?_;rw[w8];cases E8 b 0 x<;>rfl
 have d:=λx=>c x 10 (by omega)
 have g:=λx=>c x 8 (by omega)
 have i:=λx=>c x 16 (by omega)
 rw[show((10:Nat):Int)=10 from rfl] at d;rw[show((8:Nat):Int)=8 from rfl] at g;rw[show((16:Nat):Int)=16 from rfl] at i;unfold Cf9 Ad;by_cases e:s=[]
 ·subst e;rfl
 have j:(s==([]:By))=false:=by simpa using e
 have t:0<s.length:=ab0.2 e;rw[if_neg e,j];simp only[cond_false,EK,EL,Qs,Qt,Qu,vl];have k:=P9 (s.getD 0 0) 48 (by omega);have l:=P9 (s.getD 1 0) 120 (by omega);have m:=P9 (s.getD 1 0) 88 (by omega);rw[show((48:Nat):Int)=48 from rfl] at k;rw[show((120:Nat):Int)=120 from rfl] at l;rw[show((88:Nat):Int)=88 from rfl] at m;simp only[Z9,Bf6,k,l,m,show j9 48=(48:UInt8) from rfl,show j9 120=(120:UInt8) from rfl,show j9 88=(88:UInt8) from rfl];by_cases r:2<=s.length
 ·simp (disch:=omega) only[E4,J6,Z7,j7,cond_true,O5,show 1<s.length by omega,true_and];unfold Bn;grind
 ·rw[A8];have f:Bn s=false:=by
   cases h:Bn s with
   | false=>rfl
   | true=>have:=Qj h;omega
  grind
end
end Go.Proofs.YtcfingekgbbclaaGreatDoor.E
