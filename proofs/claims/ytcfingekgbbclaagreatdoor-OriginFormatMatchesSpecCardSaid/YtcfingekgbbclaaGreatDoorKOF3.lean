/-
  Parts of the proof, merged by a program of the prover's own; no condition.
-/
import Derived.Test.YtcfingekgbbclaaGreatDoorKOF2
import Derived.Deep.Draws
import Derived.KernelRfl
import Derived.Laws.RangeString
import Derived.Lib.IndexMore
import Derived.Lib.ItoaNum
import Derived.Lib.Join
import Derived.Lib.LaidTab
import Derived.Lib.LaidU8
import Derived.Lib.LastIndexLaws
import Derived.Lib.RuneCount
import Derived.Lib.TrailingZeros
import Derived.Lib.ValidU
import Derived.Sort.Grow
import Derived.Test.YtcfingekgbbclaaGreatDoorProg
open List renaming length->a8,getD->b9,flatten->c9,replicate->j0,isEmpty->j8,getD_eq_getElem?_getD->p4,drop_of_length_le->p5,isPrefixOf->p7,map->s7,getElem?_eq_getElem->s9,drop_zero->w8,all->x3,getD_cons_zero->x4,length_singleton->x8,isPrefixOf_iff_prefix->x9,take->y7,length_append->y9,take_of_length_le->aa2,drop_append_of_le_length->aa5,set->aa6,isSuffixOf->aa8,length_map->aa9,length_pos_iff->ab0,count_eq_zero->ab2,cons_append->ab5,getElem_mem->ab6,length_cons->ab7,prefix_iff_eq_take->ab8,suffix_iff_eq_drop->ab9,dropLast_eq_take->ac4,mem_of_mem_drop->ac8,drop->ad0,getD_cons_succ->ad1,mem_cons->ad2,count_cons->af0,length_nil->af1,map_append->af2
open Int renaming toNat->b8,toNat_natCast->j4,eq_ofNat_of_zero_le->k9,tmod->x7,tdiv->aa0,natCast_mul->ae9
open Eq renaming trans->j1
open Option renaming isSome->j2,isSome_some->s8,getD_some->w6
open Go.Lib renaming decDigits->j5,cut->w9,index->y5,decDigits_one->ab3,decodeL->ac6,join->ac7,occAt->ad7,index_spec->af4
open Bool renaming not_true->j6,not_false->j7,and_eq_true->x5,false_eq_true->ab1,eq_iff_iff->ac2,and_true->af8
open UInt8 renaming ofNat->j9,le_iff_toNat_le->aa4,toNat->ai2
open Go.IntKind renaming wrap->p6,bits->v7,signed->aa1
open Nat renaming mod_eq_of_lt->p9,ble->v8,pow_succ->y8,le_refl->aa7,beq->ab4,le_mul_of_pos_right->ac0,le_trans->ac1,min_eq_left->ac3,one_mul->ac9,lt_of_le_of_lt->ad3,lt_of_lt_of_le->ad4,or_lt_two_pow->ad5,pow_pos->ae8,div_le_self->af3,mul_le_mul->af5,add_comm->ag8,blt->ag9,mul_comm->ah0,zero_add->ah1
open BitVec renaming ofInt->x6,ofInt_natCast->ac5
open Go.Fn renaming func->z7
open Option.some renaming injEq->aa3
open Go.Proofs.Tryz renaming f84->ad6,f114->ad8,f118->ad9,f124->ae0,f135->ae1,f146->ae2,f147->ae3,f152->ae4,f170->ae5,f179->ae6,f189->ae7,f64->af6,f71->af7,f108->ag0,f113->ag1,f117->ag2,f138->ag3,f145->ag4,f164->ag5,f173->ag6,f180->ag7,f17->ah4,f56->ah5,f67->ah6,f87->ah7,f88->ah8,f95->ah9,f96->ai0,f98->ai1
open Prod.mk renaming injEq->af9
open BEq renaming comm->ah2
open Go.Fence renaming wide->ai3
namespace Go.Proofs.YtcfingekgbbclaaGreatDoor.E
set_option linter.all false
section
open Go
section
variable {Z R : Type} {C : Cfg} {Q : G1} {L : Yh Z} {c a b : Code} {Y : St Z} {k : Out -> St Z -> Option R} {id : Nat}
theorem A0{b:Bool}{x y d e:Option R}(f:x=d)(g:y=e):cond b x y=cond b d e:=by rw[f,g]
end
def B87{α:Type}(z:α)(f:Nat->α->α):Nat->α
 | 0=>z
 | n+1=>f n (B87 z f n)
def A2{b:Type}:List (Nat × b)->Nat->Option b
 | [],_=>none
 | (a,l)::r,n=>cond (ab4 n a) (some l) (A2 r n)
def bds(n:Nat):List PV:=j0 n .bad
def tps(n:Nat):List PV:=j0 n (.tup [])
def gp:List (Nat × PV)->Nat->List PV
 | [],n=>bds n
 | (m,v)::r,n=>bds m++v::gp r n
abbrev LL:=List (List SV)
abbrev By:=List UInt8
def A1(n:Int):Int:=p6 .i64 n
def C88(n:Int):Int:=p6 .u64 n
def AH(n:Int):Int:=p6 .u32 n
def Cx(n:Int):Int:=p6 .u16 n
def wu8(n:Int):Int:=p6 .u8 n
def Al0(k:IntKind)(a b:Int):Int:=k.wrap (x6 k.bits a &&& x6 k.bits b).toNat
def bOr(k:IntKind)(a b:Int):Int:=k.wrap (x6 k.bits a ||| x6 k.bits b).toNat
def Qq(k:IntKind)(a b:Int):Int:=k.wrap (a*2 ^ min b.toNat k.bits)
def On(k:IntKind)(a b:Int):Int:=a.fdiv (2 ^ min b.toNat k.bits)
def inR(n:Int)(m:Nat):Bool:=decide (0<=n)&&decide (n<m)
def Ke:TI:=⟨true,false,[.int .i64]⟩
def Oq:TI:=⟨true,false,[.str]⟩
def okE(t:TI)(l:LL)(i o:Nat):Bool:=decide (i<l.length)&&okS t (l.getD i []) o
def gC(l:LL)(i j:Nat):SV:=(l.getD i []).getD j .nilp
def gE(l:LL)(i j:Nat):Int:=(gC l i j).gI
def gX(l:LL)(i j:Nat):By:=(gC l i j).gS
def bAt(s:By)(n:Int):Int:=((s.getD n.toNat 0).toNat:Int)
def I2(l h:Int)(n:Nat):Bool:=decide (0<=l)&&decide (l<=h)&&decide (h<=n)
def cut{a:Type}(s:List a)(l h:Int):List a:=(s.take h.toNat).drop l.toNat
def Dg0:Code->Bool | .rangeFunc _ _ _ _=>true|_=>false
def rgX:Code->Operand | .rangeFunc x _ _ _=>x|_=>.tmp 0
def rgP:Code->Array Tmp | .rangeFunc _ p _ _=>p|_=>#[]
theorem SH:∀(p:List Nat),cd p .skip = .skip
 | []=>rfl
 | 0::_=>rfl
 | 1::_=>rfl
 | (_+2)::_=>rfl
theorem Fv:∀(p q:List Nat) (c:Code),cd (p++q) c=cd q (cd p c)
 | [],q,c=>rfl
 | i::p,q,c=>by
  rw[ab5]
  match i,c with
  | 0,.seq a b=>exact Fv p q a
  | 1,.seq a b=>exact Fv p q b
  | 0,.cond _ a b=>exact Fv p q a
  | 1,.cond _ a b=>exact Fv p q b
  | 0,.block _ a=>exact Fv p q a
  | 0,.loop a=>exact Fv p q a
  | 0,.scope a=>exact Fv p q a
  | 0,.rangeFunc _ _ a b=>exact Fv p q a
  | 1,.rangeFunc _ _ a b=>exact Fv p q b
  | 0,.skip|0,.region _ _ _|0,.exit _|0,.label _|0,.goto _|0,.ret|0,.refuse _=>exact(SH q).symm
  | 1,.skip|1,.region _ _ _|1,.exit _|1,.scope _|1,.label _|1,.goto _|1,.ret|1,.refuse _|1,.block _ _|1,.loop _=>exact(SH q).symm
  | _+2,.skip|_+2,.region _ _ _|_+2,.exit _|_+2,.scope _|_+2,.label _|_+2,.goto _|_+2,.ret|_+2,.refuse _|_+2,.block _ _|_+2,.loop _|_+2,.seq _ _|_+2,.cond _ _ _|_+2,.rangeFunc _ _ _ _=>exact(SH q).symm
section
variable {Z R : Type} {C : Cfg} {L : G1} {Y : Yh Z} {B : Code} {Q : St Z} {k : Out -> St Z -> Option R}
theorem Dc8(p:List Nat)(h:Dg0 (cd p B)=true):A9 C L Y (cd p B) Q k=Sw C L (opnd C Q.sl (rgX (cd p B))) Q (λa=>Iw (rgP (cd p B)) a (bd C L Y (cd (p++[0]) B)) (bd C L Y (cd (p++[1]) B))) (λa=>Ag (rgP (cd p B)) a (bd C L Y (cd (p++[0]) B)) (bd C L Y (cd (p++[1]) B))) k:=by rw[Fv,Fv];cases b:cd p B<;>rw[b] at h<;>first|rfl|cases h
theorem At2{c:Bool}{x y:Option R}(h:x=y):need c x=cond c y none:=by rw[h];rfl
end
abbrev pS(l:List UInt8):PV:=.s (.str l)
abbrev pB(b:Bool):PV:=.s (.bool b)
abbrev pI(n:Int):PV:=.s (.int .i64 n)
abbrev p8(n:Int):PV:=.s (.int .u8 n)
abbrev p16(n:Int):PV:=.s (.int .u16 n)
abbrev p32(n:Int):PV:=.s (.int .u32 n)
abbrev p64(n:Int):PV:=.s (.int .u64 n)
abbrev vl{a b:Type}(e:a)(f:a->b):b:=f e
theorem A4{a R:Type}{e:a}{f g:a->Option R}(h:∀x,f x=g x):vl e f=vl e g:=h e
def F3(m n:Nat):Bool:=decide (m+n<4611686018427387904)
theorem fx1{A R:Type}{f g:A->R}(b:∀a,f a=g a):f=g:=funext b
theorem fx2{A B R:Type}{f g:A->B->R}(c:∀a b,f a b=g a b):f=g:=funext λa=>fx1 (c a)
theorem fx3{A B C R:Type}{f g:A->B->C->R}(d:∀a b c,f a b c=g a b c):f=g:=funext λa=>fx2 (d a)
theorem fx4{A B C D R:Type}{f g:A->B->C->D->R}(e:∀a b c d,f a b c d=g a b c d):f=g:=funext λa=>fx3 (e a)
theorem fx5{A B C D E R:Type}{f g:A->B->C->D->E->R}(h:∀a b c d e,f a b c d e=g a b c d e):f=g:=funext λa=>fx4 (h a)
theorem fx6{A B C D E H R:Type}{f g:A->B->C->D->E->H->R}(i:∀a b c d e h,f a b c d e h=g a b c d e h):f=g:=funext λa=>fx5 (i a)
theorem fx7{A B C D E H I R:Type}{f g:A->B->C->D->E->H->I->R}(j:∀a b c d e h i,f a b c d e h i=g a b c d e h i):f=g:=funext λa=>fx6 (j a)
theorem fx8{A B C D E H I J R:Type}{f g:A->B->C->D->E->H->I->J->R}(k:∀a b c d e h i j,f a b c d e h i j=g a b c d e h i j):f=g:=funext λa=>fx7 (k a)
theorem fx9{A B C D E H I J K R:Type}{f g:A->B->C->D->E->H->I->J->K->R}(l:∀a b c d e h i j k,f a b c d e h i j k=g a b c d e h i j k):f=g:=funext λa=>fx8 (l a)
theorem Cm9{A B C D E H I J K L R:Type}{f g:A->B->C->D->E->H->I->J->K->L->R}(m:∀a b c d e h i j k l,f a b c d e h i j k l=g a b c d e h i j k l):f=g:=funext λa=>fx9 (m a)
def De0{α a:Type}(z:α)(f:a->List a->α->α):List a->α
 | []=>z
 | x::xs=>f x xs (De0 z f xs)
def Qm(n:Nat):PV->PV
 | .s (.sl z t k a)=>if n=0 then .s (.sl z t k a) else if k=n then .s (.sl z t k a) else .s (.sl z t (cond z n k) a)
 | v=>v
def Nw:List Nat->List PV->List PV
 | n::r,v::l=>Qm n v::Nw r l
 | _,l=>l
def C50(a:List Nat):PV->PV
 | .agg l=>.agg (Nw a l)
 | v=>Qm (a.headD 0) v
def B8:List (List Nat)->List PV->List PV
 | s::r,v::l=>C50 s v::B8 r l
 | _,l=>l
section
variable {L : Ctx} {sh : Nat -> Option Shp} {w : World}
theorem CP{n:Nat}{v:PV}{V:Value}(h:VP L sh w v V):VP L sh w (Qm n v) V:=by
 unfold Qm;split
 ·rename_i z t k a;split
  ·exact h
  ·split
   ·exact h
   ·cases z with
    | false=>exact h
    | true=>
     have b:=h.inv_s;cases b with
     | nil=>exact .s _ _ (.nil _ _)
 ·exact h
theorem Un:∀(a:List Nat) (l:List PV),(Nw a l).length=l.length
 | [],_=>rfl
 | _::_,[]=>rfl
 | n::r,v::l=>by simp[Nw,Un r l]
theorem GY:∀(a:List Nat) (l:List PV) (j:Nat) (h:j<l.length) (b:j<(Nw a l).length),∃n,(Nw a l)[j]=Qm n l[j]
 | [],l,j,h,b=>⟨0,by
  have e:Nw [] l=l:=by cases l<;>rfl
  simp only[e];unfold Qm;split
  ·rename_i c;rw[c];simp
  ·rfl⟩
 | n::r,v::l,0,h,b=>⟨n,rfl⟩
 | n::r,v::l,j+1,h,b=>by
  obtain⟨m,e⟩:=GY r l j (by simpa using h) (by simpa[Nw] using b);exact⟨m,by simpa[Nw] using e⟩
theorem Cm5{b:List Nat}{v:PV}{V:Value}(h:VP L sh w v V):VP L sh w (C50 b v) V:=by
 unfold C50;split
 ·rename_i l;obtain⟨A,rfl,hA,f⟩:=h.inv_agg;refine VP.mk_agg (by rw[Un];exact hA) λj c=>?_
  have a:j<l.length:=by rw[Un] at c;exact c
  obtain⟨U,e,k⟩:=f j a;obtain⟨m,d⟩:=GY b l j a c;exact⟨U,e,by rw[d];exact CP k⟩
 ·exact CP h
theorem XW:∀(a:List (List Nat)) (l:List PV),(B8 a l).length=l.length
 | [],_=>rfl
 | _::_,[]=>rfl
 | n::r,v::l=>by simp[B8,XW r l]
theorem Cm6:∀(a:List (List Nat)) (l:List PV) (V:Array Value),CR L sh w l V->CR L sh w (B8 a l) V:=by
 intro a l V h;refine⟨by rw[XW];exact h.1,?_⟩;have key:∀(a:List (List Nat)) (l:List PV) (b:Nat->Option Value),(∀j (h:j<l.length),∃U,b j=some U/\VP L sh w (l[j]) U)->∀j (h:j<(B8 a l).length),∃U,b j=some U/\VP L sh w ((B8 a l)[j]) U:=by
  intro a
  induction a with
  | nil=>intro l b d j c;exact d j (by cases l<;>exact c)
  | cons s r f=>
   intro l b d j c;cases l with
   | nil=>simp[B8] at c
   | cons v l=>
    cases j with
    | zero=>
     obtain⟨U,e,k⟩:=d 0 (by simp);exact⟨U,e,Cm5 k⟩
    | succ j=>
     have:=f l (λj=>b (j+1)) (λj h=>d (j+1) (by simpa using h)) j (by simpa[B8] using c);simpa[B8] using this
 exact key a l (λj=>V[j]?) h.2
end
theorem B0.fix{P:Program}{G:GT}{g:Nat}{pf:List PV->Tr}(szs:List (List Nat))(h:B0 P G g pf):B0 P G g (λargs=>pf (B8 szs args)):=
 λargs ret Hc hpf C hP hGe Γ w Vs hnm hH hG hc=>h (B8 szs args) ret Hc hpf C hP hGe Γ w Vs hnm hH hG (Cm6 szs args Vs hc)
theorem J0{v:PV}{H:List Blk}{ret:PV}{a:List Blk}(h:L3 (.ret v H)=some (ret,a)):ret=v/\a=H:=by simp only[L3,Gr,aa3,af9] at h;grind
theorem B9{c:Bool}{t:Tr}{ret:PV}{a:List Blk}(h:L3 (.need c t)=some (ret,a)):c=true/\L3 t=some (ret,a):=by
 cases c with
 | true=>exact⟨rfl,h⟩
 | false=>cases h
theorem Ce1{c:Bool}{a b:Tr}{ret:PV}{d:List Blk}(h:L3 (.split c a b)=some (ret,d)):(c=true/\L3 a=some (ret,d))\/(c=false/\L3 b=some (ret,d)):=by
 cases c with
 | true=>exact .inl ⟨rfl,h⟩
 | false=>exact .inr ⟨rfl,h⟩
theorem C14:∃n:Nat,100000000000000000000<=n:=⟨_,aa7 _⟩
noncomputable def LF:Nat:=Classical.choose C14
theorem C1:100000000000000000000<=LF:=Classical.choose_spec C14
attribute [irreducible] LF
theorem Bj8(b:UInt8):Kv (D7 b)=b:=by simp[Kv,D7,SV.gI]
theorem W8(l:List UInt8):(l.map D7).map Kv=l:=by
 rw[List.map_map];have:Kv ∘ D7=id:=by funext b;exact Bj8 b
 rw[this,List.map_id]
theorem Bl7(b:UInt8):Mz (D7 b)=true:=by have:=b.toNat_lt;simp only[Mz,D7,x5,decide_eq_true_eq];omega
theorem V9(l:List UInt8):(l.map D7).all Mz=true:=by rw[List.all_map];simp[Function.comp_def,Bl7]
theorem C87(n:Nat):p6 .u8 (n:Int)=((n % 256:Nat):Int):=by simp[p6,v7,aa1]
theorem Bh1(n:Nat):p6 .u16 (n:Int)=((n % 65536:Nat):Int):=by simp[p6,v7,aa1]
theorem Cy1(n:Nat):p6 .u32 (n:Int)=((n % 4294967296:Nat):Int):=by simp[p6,v7,aa1]
theorem Cy2(n:Nat):p6 .u64 (n:Int)=((n % 18446744073709551616:Nat):Int):=by simp[p6,v7,aa1]
theorem Cy0(n:Int)(a:-9223372036854775808<=n)(b:n<9223372036854775808):p6 .i64 n=n:=by simp[p6,v7,aa1];split<;>omega
theorem B34(n m:Nat):Int.fdiv (n:Int) (m:Int)=((n / m:Nat):Int):=by rw[Int.fdiv_eq_ediv_of_nonneg _ (by omega)];rfl
theorem L2(n m:Nat):aa0 (n:Int) (m:Int)=((n / m:Nat):Int):=by rw[Int.tdiv_eq_ediv_of_nonneg (by omega)];rfl
theorem Br(n m:Nat):x7 (n:Int) (m:Int)=((n % m:Nat):Int):=by rw[Int.tmod_eq_emod_of_nonneg (by omega)];rfl
theorem C43(w a b:Nat)(c:a<2 ^ w)(d:b<2 ^ w):(x6 w (a:Int) ||| x6 w (b:Int)).toNat=a ||| b:=by simp[ac5,p9 c,p9 d]
theorem C25(w a b:Nat)(c:a<2 ^ w)(d:b<2 ^ w):(x6 w (a:Int) &&& x6 w (b:Int)).toNat=a &&& b:=by simp[ac5,p9 c,p9 d]
theorem C62(a b i:Nat)(h:a<2 ^ i):a ||| (b*2 ^ i)=a+b*2 ^ i:=by rw[ah0 b,Nat.or_comm,ag8];exact(Nat.two_pow_add_eq_or_of_lt h b).symm
theorem A60(n:Nat):D7 (j9 n)=[SV.int .u8 ((n % 256:Nat):Int)]:=by simp[D7]
end
section
open Go Go.ChangeShapes Go.RowKit Go.Sort Go.WideShapes
theorem Ra{P:Program}{f:Nat}{fn:Func}{d:Array Value}{w:World}{R:Value->World->Prop}(m:P.funcs[f]? = some fn)(j:fn.body.isSome=true)(p:(fn.name == "runtime.NumGoroutine")=false)
  (h:Calls P f d w λe w'=>∃V,e = .returned V/\R V w'):R7 P ((callFunc f d).run P w) R:=by
 obtain⟨c,j⟩:=Option.isSome_iff_exists.1 j;intro q n o a next Q b
 have g:(callFunc f d).run P w = .ok (.enter f d) w:=by
  have k:¬ fn.name = "runtime.NumGoroutine":=by simpa using p
  simp[callFunc,m,j,k,Result.andThen]
 rw[g];simp only[Oper.uponIn_enter];refine⟨λh=>(by simp[H5,ai3] at h),?_⟩;have key:CallsIn ai3 (n-1) P f d w λe w'=>∃V,e = .returned V/\R V w':=callsIn_wide.2 h
 have i:CallsIn (H5 q) (n-1) P f d w λe w'=>∃V,e = .returned V/\R V w':=key
 refine i.mono ?_;rintro e w' ⟨V,rfl,l⟩;exact b V w' l
theorem B26{C:Cfg}{d:Ctx}{w w':World}{ret:PV}{V:Value}(a:∀b,d.nm b=none)(f:HR d [] w)(c:Below w.heap.size w w')(j:VP d (A6 []) w' ret V)(i:ret.nms=[]):Df C I0 d [] w noΦ ret [] () V w':=by
 refine⟨d,noΦ,⟨c.os,c.tape,c.output,c.size,λ_ h=>h,λ_ h=>.inl h,λb g h=>(by rw[a] at h;cases h),λ_ h=>h.elim,λg e _ _=>c.block g e,rfl,aa7 _,λb h=>(by simp at h)⟩,
  ⟨λb k g h=>(by rw[a] at h;cases h),λb g h=>(by rw[a] at h;cases h),λg e=>ad4 (f.stlt g e) c.size,λb h=>(by simp at h),λb h=>(by simp at h)⟩,j,by rw[i];simp,λ_ h=>h,λb g h=>(by rw[a] at h;cases h)⟩
theorem Nq(w:World)(n:Nat):Below w.heap.size w (w.drewN n):=⟨rfl,rfl,rfl,aa7 _,λ_ _=>rfl⟩
theorem FX(w:World)(os:Array Obj):Below w.heap.size w (grow w os):=by refine⟨rfl,rfl,rfl,by simp[grow],λk a=>?_⟩;simp only[grow];grind
theorem Al2(w:World)(s:ByteArray)(pos:Nat):Below w.heap.size w (w.iter s pos):=(Below.refl _ w).alloc (aa7 _) _
section
variable {Γ : Ctx} {sh : Nat -> Option Shp} {w : World}
theorem CR.arr1{a:PV}{A:Array Value}(h:CR Γ sh w [a] A):∃U,A = #[U]/\VP Γ sh w a U:=by obtain⟨U,e,k⟩:=h.2 0 (by simp);refine⟨U,?_,k⟩;have hs:A.size=1:=h.1;grind
theorem CR.arr2{a b:PV}{A:Array Value}(h:CR Γ sh w [a,b] A):∃U V,A = #[U,V]/\VP Γ sh w a U/\VP Γ sh w b V:=by obtain⟨U,e,k⟩:=h.2 0 (by simp);obtain⟨V,e',k'⟩:=h.2 1 (by simp);refine⟨U,V,?_,k,k'⟩;have hs:A.size=2:=h.1;grind
theorem CR.arr3{a b c:PV}{A:Array Value}(h:CR Γ sh w [a,b,c] A):∃U V W,A = #[U,V,W]/\VP Γ sh w a U/\VP Γ sh w b V/\VP Γ sh w c W:=by obtain⟨U,e,k⟩:=h.2 0 (by simp);obtain⟨V,e',k'⟩:=h.2 1 (by simp);obtain⟨W,e'',k''⟩:=h.2 2 (by simp);refine⟨U,V,W,?_,k,k',k''⟩;have hs:A.size=3:=h.1;grind
theorem VP.mk_str(l:List UInt8):VP Γ sh w (.s (.str l)) (.string ⟨l.toArray⟩):=by have:=VP.s (Γ:=Γ) (sh:=sh) (w:=w) _ _ (VS.str (St:=Γ.St) (w:=w) ⟨l.toArray⟩);omega
theorem VP.mk_int(k:IntKind)(n:Int):VP Γ sh w (.s (.int k n)) (.int k n):=.s _ _ (.int k n)
theorem VP.mk_bool(b:Bool):VP Γ sh w (.s (.bool b)) (.bool b):=.s _ _ (.bool b)
theorem VP.mk_tup3{a b c:PV}{U V W:Value}(h:VP Γ sh w a U)(k:VP Γ sh w b V)(l:VP Γ sh w c W):VP Γ sh w (.tup [a,b,c]) (.tuple #[U,V,W]):=
 VP.mk_tup rfl λj hj=>by grind
end
theorem J1{P:Program}{G:GT}{g:Nat}{fn:Func}{k:List PV->Tr}(q:P.funcs[g]? = some fn)(d:fn.body.isSome=true)(t:(fn.name == "runtime.NumGoroutine")=false)
  (h:∀args ret b,L3 (k args)=some (ret,b)->b=[]/\ret.nms=[]/\∀C:Cfg,C.P=P->C.G=G->∀a w c,GOK C a.St w->(∀g,a.St g->g<w.heap.size)->CR a (A6 []) w args c->
   Calls P g c w λe w'=>∃V,e = .returned V/\Below w.heap.size w w'/\VP a (A6 []) w' ret V):B0 P G g k:=by
 intro args ret b i C n m a w c f j r o;obtain⟨rfl,u,l⟩:=h args ret b i;exact Ra q d t ((l C n m a w c r j.stlt o).mono λe w' ⟨V,p,d,v⟩=>⟨V,p,B26 f j d v u⟩)
def PV.stab(szs:List Nat)(H:List Blk):PV->PV
 | .tup l=>.tup (Nw szs (L5 H l))
 | v=>Qm (szs.headD 0) (v.snap H)
theorem VP.stab{Γ:Ctx}{H:List Blk}{w:World}(szs:List Nat)(hH:HR Γ H w){v:PV}{V:Value}(h:VP Γ (A6 H) w v V):VP Γ.all (A6 H) w (v.stab szs H) V:=by
 by_cases ht:∃l,v = .tup l
 ·obtain⟨l,rfl⟩:=ht;obtain⟨A,rfl,hA,hc⟩:=h.inv_tup;simp only[PV.stab];have hl:(Nw szs (L5 H l)).length=l.length:=by rw[Un,Gy,aa9]
  refine VP.mk_tup (by rw[hl];exact hA) λj hj=>?_
  obtain⟨U,e,k⟩:=hc j (by omega);refine⟨U,e,?_⟩;have hj':j<(L5 H l).length:=by rw[Gy,aa9];omega
  obtain⟨n,en⟩:=GY szs (L5 H l) j hj' hj;rw[en];have e2:(L5 H l)[j]=(l[j]'(by omega)).snap H:=by
   simp only[Gy,List.getElem_map]
  rw[e2];exact CP (k.snap hH)
 ·have e:v.stab szs H=Qm (szs.headD 0) (v.snap H):=by
   cases v with
   | tup l=>exact absurd ⟨l,rfl⟩ ht
   | _=>rfl
  rw[e];exact CP (h.snap hH)
theorem I6(n:List Nat){C₀:Cfg}{g:Nat}{pf:List PV->Tr}(M:XOK C₀)(K:Nb C₀)(P:C₀.P.follows .mixedOrders=true)
  (h:∀args ret p,L3 (pf args)=some (ret,p)->C2 args=[]/\p=[]/\ret.nms=[]/\∃d c k,evC C₀ d Unit noY g args [] ()=some (c,k,())/\c.stab n k=ret):B0 C₀.P C₀.G g pf:=by
 intro args ret p A C L t Γ w F z J I N;obtain⟨y,rfl,m,d,c,k,u,rfl⟩:=h args ret p A;have G:=Pa (C₀:=C₀) (g:=g) (pf:=λa=>match evC C₀ d Unit noY g a [] () with|some (r,H,_)=>cond (C2 a).isEmpty (.ret r H) .fail|none=>.fail) M K P (λa r H j=>by
  split at j
  ·rename_i S H' _ R;cases D:(C2 a).isEmpty with
   | true=>
    rw[D] at j;simp only[cond_true,L3,Gr,aa3,af9] at j;grind
   | false=>rw[D] at j;cases j
  ·cases j)
 refine(G args c k (by dsimp only;rw[u];dsimp only;rw[y];rfl) C L t Γ w F z J I N).mono ?_;rintro V w' ⟨o,B,e,i,Q,hvn,v,O⟩;let Γ2:Ctx:={ o.all with nm:=λ_=>none }
 have x:∀g,Γ2.St g->g<w'.heap.size:=λg f=>by
  rcases f with f|⟨b,l⟩
  ·exact i.stlt g f
  ·exact(i.lt b g l).2.1
 refine⟨Γ2,B,⟨e.os,e.tape,e.output,e.size,λg f=>.inl (e.sub g f),λg f=>?_,λb g h=>by simp[Γ2] at h,e.foot,e.frame,e.yv,aa7 _,λb l=>by simp at l⟩,
  Kn (λ_=>rfl) x,?_,by rw[m];simp,v,λb g h=>by simp[Γ2] at h⟩
 ·rcases f with f|⟨b,l⟩
  ·exact e.stnew g f
  ·rcases e.own b g l with⟨q,_⟩|q
   ·simp at q
   ·exact .inr q
 ·exact VP.mono (Γ:=o.all) (Γ':=Γ2) (w:=w') (w':=w') (sh:=A6 k) (ok:=λ_=>False) ⟨λ_ _=>rfl,λ_ h=>h,λ_ h=>h.elim,λ_ h=>h.elim,λ_ _ h=>h.elim,rfl⟩ (Q.stab n i) (by rw[m];simp)
def Tr.Good(szs:List Nat)(args:List PV)(e:Option (PV × List Blk × Unit)):Tr->Prop
 | .ret v H=>C2 args=[]/\H=[]/\v.nms=[]/\∃r H0,e=some (r,H0,())/\r.stab szs H0=v
 | .need c t=>c=true->Good szs args e t
 | .split c a b=>(c=true->Good szs args e a)/\(c=false->Good szs args e b)
 | .fail=>True
theorem Tr.Good.res{szs:List Nat}{args:List PV}{e:Option (PV × List Blk × Unit)}{ret:PV}{Hc:List Blk}:∀{t:Tr},t.Good szs args e->L3 t=some (ret,Hc)->C2 args=[]/\Hc=[]/\ret.nms=[]/\∃r H0,e=some (r,H0,())/\r.stab szs H0=ret
 | .ret v H,h,hr=>by
  obtain⟨rfl,rfl⟩:=J0 hr;exact h
 | .need c t,h,hr=>by
  obtain⟨h0,hr⟩:=B9 hr;exact res (h h0) hr
 | .split c a b,h,hr=>by
  rcases Ce1 hr with⟨h0,hr⟩|⟨h0,hr⟩
  ·exact res (h.1 h0) hr
  ·exact res (h.2 h0) hr
theorem xf(b:List Nat)(a:Cfg){g:Nat}(d:List PV->Tr){e:List (List Nat)}{l:List (Nat × (List PV->Tr))}{c:List Nat}(m:a.X=Af7 l)(q:L7 a.P a.G l)(o:a.okf=okL c)(k:At6 a c=true)(n:a.P.follows .mixedOrders=true)
  (h:∀args,(d args).Good b args (evC a 1 Unit noY g args [] ())) (i:a.Y=AD []:=by rfl) (j:a.S=AD []:=by rfl):B0 a.P a.G g (λargs=>d (B8 e args)):=
 B0.fix e (I6 b (L7.ok m q i j) (I4 o k) n λargs ret y p=>by
  obtain⟨t,u,v,r,f,w,x⟩:=(h args).res p;exact⟨t,u,v,1,r,f,w,x⟩)
end
section
open Go
def Aq9(n:Nat)(ret:PV)(H:List Blk):Bool:=ret.nms.all (ag9 · n)&&H.all λb=>b.nms.all (ag9 · n)
theorem Df.head{C:Cfg}{Z:Type}{I:Z->(Nat->Prop)->(Nat->Prop)->World->Prop}{Γ:Ctx}{H Hc T:List Blk}{w w':World}{Φ:Nat->Prop}{s':Z}{ret:PV}{V:Value}
  (h:Df C I Γ H w Φ ret (Hc++T) s' V w') (hl:H.length<=Hc.length) (hok:Aq9 Hc.length ret Hc=true):Df C I Γ H w Φ ret Hc s' V w':=by
 obtain⟨Γ1,Φ1,hs,hH1,hv,hvn,hi1,hd1⟩:=h;simp only[Aq9,x5,List.all_eq_true,Nat.blt_eq] at hok;let Γ2:Ctx:={ Γ1 with nm:=λb=>if b<Hc.length then Γ1.nm b else none }
 have hnm:∀b g,Γ2.nm b=some g->b<Hc.length/\Γ1.nm b=some g:=λb g h=>by grind
 have get:∀b (h:b<Hc.length) (h':b<(Hc++T).length),(Hc++T)[b]=Hc[b]:=λb h h'=>List.getElem_append_left h
 have shp:∀b,b<Hc.length->A6 Hc b=A6 (Hc++T) b:=λb hb=>by
  simp only[A6];grind
 have M:Z4 Γ1 (A6 (Hc++T)) w' Γ2 (A6 Hc) w' (· < Hc.length):=⟨λ_ _=>rfl,λ_ h=>h,λb hb=>by simp only[Γ2];rw[if_pos hb],λb hb=>shp b hb,λ_ _ _ _=>rfl,rfl⟩
 refine⟨Γ2,Φ1,⟨hs.os,hs.tape,hs.output,hs.size,hs.sub,hs.stnew,λb g h=>hs.own b g (hnm b g h).2,hs.foot,hs.frame,hs.yv,hl,λb hb hf=>?_⟩,
  ⟨λb b' g h1 h2=>hH1.inj b b' g (hnm b g h1).2 (hnm b' g h2).2,λb g h=>by have:=hH1.lt b g (hnm b g h).2;exact⟨(hnm b g h).1,this.2⟩,hH1.stlt,λb hb c hc=>hok.2 _ (ab6 hb) c hc,λb hb=>?_⟩,
  hv.mono M (λb hb=>hok.1 b hb),λc hc=>hok.1 c hc,hi1,λb g h=>hd1 b g (hnm b g h).2⟩
 ·obtain⟨m1,m2,m3⟩:=hs.keep b hb hf;have hb2:b<Hc.length:=ad4 hb hl;exact⟨by simp only[Γ2];rw[if_pos hb2];exact m1,by rw[shp b hb2];exact m2,m3⟩
 ·have hb':b<(Hc++T).length:=by rw[y9];omega
  have:=hH1.blk b hb';rw[get b hb hb'] at this;exact this.mono M (M.nm b hb) (λ_ _=>rfl) (λc hc=>hok.2 _ (ab6 hb) c hc)
theorem Ez{C₀:Cfg}{g:Nat}{m:List PV->List Blk->Tr}(v:XOK C₀)(t:Nb C₀)(D:C₀.P.follows .mixedOrders=true)
  (h:∀args H ret a,L3 (m args H)=some (ret,a)->v8 H.length a.length=true/\Aq9 a.length ret a=true/\∀(Z:Type) (e:Yh Z) (s:Z),∃d b,evC C₀ d Z e g args H s=some (ret,b,s)/\b.take a.length=a):AJ C₀.P C₀.G g m:=by
 intro C u p Z I e R r L args H s ret a i S T w n j q z A y x F;obtain⟨B,f,o⟩:=h args H ret a i;obtain⟨d,b,c,K⟩:=o Z e s;rw[<-List.take_append_drop a.length b,K] at c;refine(Jk v t D d Z I e R r L g args H s ret (a++b.drop a.length) s c S T w n j q (z.congr p.symm) A y x F).mono ?_;rintro V w' G;obtain⟨k,l,J,M,N,O,P,Q⟩:=G.head (Nat.le_of_ble_eq_true B) f;exact⟨k,l,J.congr u.symm,M,N,O,P,Q⟩
def Fp:List Int:=(List.range 32).map λi=>((if i % 2=0 then Lib.accLo (i / 2) else Lib.accHi (i / 2):Nat):Int)
def GX:GT:=⟨λg=>cond (ab4 g 2) (some (.u8,Lib.firstTab)) (cond (ab4 g 3) (some (.u8,Fp)) (cond (ab4 g 1) (some (.u64,Lib.pow10Tab)) (cond (ab4 g 5) (some (.u8,Lib.deBruijn64tab.map λn:Nat=>(n:Int))) none))),λg=>ab4 g 0⟩
def Dd7:List (Nat × Nat × Nat × Nat)->Nat->Nat->Nat × Nat
 | [],_,_=>(0,0)
 | (t,j,e,k)::r,b,a=>cond (ab4 t b&&ab4 j a) (e,k) (Dd7 r b a)
def C28:List (Nat × Nat)->Nat->Option Nat
 | [],_=>none
 | (a,b)::r,i=>cond (ab4 a i) (some b) (C28 r i)
noncomputable def B4(g:Nat)(f:List Nat)(d:Nat->Option (List Nat))(X:List (Nat × (List PV->Tr)))(b:Nat->Option (List Nat):=λ_=>none)(h:List Nat:=[])(a:Nat->Option (List Nat):=λ_=>none)(c:Option (List Nat):=none)(Y:List (Nat × (List PV->List Blk->Tr)):=[])(S:List (Nat × (List PV->List Blk->Option (Bool × List (List PV)))):=[])(e:List Nat:=[])(nt:List (Nat × Nat × Nat × Nat):=[])(rw:List (Nat × Nat):=[]):Cfg:=
 { P:=Tryz.prog,G:=GX,X:=Af7 X,lend:=okL e,okf:=okL f,lf:=g,keep:=d,keepR:=b,xp:=okL h,keepE:=a,keepT:=c,Y:=AD Y,S:=AD S,nilT:=Dd7 nt,rowR:=C28 rw }
theorem follows:Tryz.prog.follows .mixedOrders=true:=by kernel_rfl
theorem Br1{n:Nat}:F7 n=true↔n<=68719476736:=by simp[F7]
theorem F0{n:Nat}(h:n<=68719476736):F7 n=true:=Br1.2 h
theorem B5{a b:Int}(h:a<b):ltI a b=true:=by rw[Sr];simpa using h
theorem E3{a b:Int}(h:b<=a):ltI a b=false:=by rw[Sr];simpa using h
theorem Le{a b:Int}:ltI a b=true↔a<b:=by rw[Sr];simp
theorem Jp{a b:Int}:ltI a b=false↔b<=a:=by rw[Sr];simp
theorem C5{n:Int}(a:-9223372036854775808<=n)(b:n<9223372036854775808):A1 n=n:=Cy0 n a b
theorem VV{n:Int}(a:0<=n)(b:n<18446744073709551616):C88 n=n:=by obtain⟨m,rfl⟩:=k9 a;unfold C88;rw[Cy2,p9 (by omega)]
theorem Bh3{n:Int}(a:0<=n)(b:n<4294967296):AH n=n:=by obtain⟨m,rfl⟩:=k9 a;unfold AH;rw[Cy1,p9 (by omega)]
theorem Bh2{n:Int}(a:0<=n)(b:n<65536):Cx n=n:=by obtain⟨m,rfl⟩:=k9 a;unfold Cx;rw[Bh1,p9 (by omega)]
theorem VW{n:Int}(a:0<=n)(b:n<256):wu8 n=n:=by obtain⟨m,rfl⟩:=k9 a;unfold wu8;rw[C87,p9 (by omega)]
theorem A8{a b:Int}(h:a<b:=by omega):ltI a b=true:=B5 h
theorem A5{a b:Int}(h:b<=a:=by omega):ltI a b=false:=E3 h
theorem A7{n:Int}(h:-9223372036854775808<=n:=by omega)(g:n<9223372036854775808:=by omega):A1 n=n:=C5 h g
theorem Mj{n:Int}(h:0<=n:=by omega)(g:n<4294967296:=by omega):AH n=n:=Bh3 h g
theorem Jb{n:Int}(h:0<=n:=by omega)(g:n<65536:=by omega):Cx n=n:=Bh2 h g
theorem L6{n:Int}(h:0<=n:=by omega)(g:n<256:=by omega):wu8 n=n:=VW h g
theorem S6{d:Sort _}{c:Prop}[Decidable c]{a b:d}(h:c:=by omega):(if c then a else b)=a:=if_pos h
theorem F9{d:Sort _}{c:Prop}[Decidable c]{a b:d}(h:¬c:=by omega):(if c then a else b)=b:=if_neg h
theorem Ag9(n:Nat):Cx (n:Int)=((n % 65536:Nat):Int):=Bh1 n
theorem Qh(k:IntKind)(a m:Nat)(h:m<=k.bits):On k (a:Int) (m:Int)=((a / 2 ^ m:Nat):Int):=by
 unfold On;rw[j4,ac3 h];have:(2:Int) ^ m=((2 ^ m:Nat):Int):=by simp
 rw[this,B34]
theorem Ce8{n:Nat}(h:n<256):[SV.int .u8 (n:Int)]=D7 (j9 n):=by rw[A60,p9 h]
theorem Z2{l h:Int}{n:Nat}(a:0<=l)(b:l<=h)(c:h<=n):I2 l h n=true:=by simp[I2,a,b,c]
theorem J6{i:Int}{n:Nat}(a:0<=i)(b:i<n):inR i n=true:=by simp[inR,a,b]
theorem H9{l h:Int}{n:Nat}(a:0<=l:=by omega)(b:l<=h:=by omega)(c:h<=n:=by omega):I2 l h n=true:=Z2 a b c
theorem E5{i:Int}{n:Nat}(a:0<=i:=by omega)(b:i<n:=by omega):inR i n=true:=J6 a b
end
section
open Go Go.Proofs
def DF(r:Option (PV × List Blk × Unit)):Bool:=match r with
 | some (.s (.bool true),_,_)=>true
 | _=>false
theorem UI{r:Option (PV × List Blk × Unit)}(h:DF r=true):∃H,r=some (.s (.bool true),H,()):=by
 unfold DF at h;split at h
 ·exact⟨_,rfl⟩
 ·cases h
theorem A82{C₀:Cfg}{g d:Nat}(f:XOK C₀)(c:Nb C₀)(i:C₀.P.follows .mixedOrders=true)(h:DF (evC C₀ d Unit noY g [] [] ())=true):B0 C₀.P C₀.G g (λargs=>match args with|[]=>.ret (.s (.bool true)) []|_=>.fail):=
 WA f c i λargs ret j b=>by
  cases args with
  | nil=>
   obtain⟨rfl,rfl⟩:=J0 b;obtain⟨H,e⟩:=UI h;exact⟨rfl,rfl,rfl,d,_,H,e,rfl⟩
  | cons a r=>cases b
end
section
open Go
def D4(l:List By):LL:=l.map λs=>[SV.str s]
def C8(l:List Nat):LL:=l.map λn=>[SV.int .u16 (Int.ofNat n)]
def O9(c:UInt8):By->By->List By
 | a,[]=>[a]
 | a,b::r=>if b=c then a::O9 c [] r else O9 c (a++[b]) r
def pcs(c:UInt8)(s:By):List By:=O9 c [] s
theorem Hz(c:UInt8):∀(s a:By),(O9 c a s).length=s.count c+1
 | [],a=>rfl
 | b::r,a=>by
  simp only[O9,af0];by_cases h:b=c
  ·simp[h,Hz c r]
  ·simp[h,Hz c r]
theorem Wp(c:UInt8):∀(s a:By),c∉s->O9 c a s=[a++s]
 | [],a,_=>by simp[O9]
 | b::r,a,h=>by
  simp only[ad2,not_or] at h;simp only[O9];rw[if_neg (λe=>h.1 e.symm),Wp c r _ h.2];simp
theorem BZ(c:UInt8):∀(p a s:By),c∉p->O9 c a (p++c::s)=(a++p)::O9 c [] s
 | [],a,s,_=>by simp[O9]
 | b::r,a,s,h=>by
  simp only[ad2,not_or] at h;simp only[ab5,O9];rw[if_neg (λe=>h.1 e.symm),BZ c r _ s h.2];simp
theorem A49(c:UInt8)(s a:By):O9 c a s≠[]:=by intro h;have:=Hz c s a;rw[h] at this;simp at this
theorem Oo(c:UInt8):∀(s a:By),c∉a->∀x∈O9 c a s,c∉x/\x.length<=a.length+s.length
 | [],a,h,x,d=>by
  simp only[O9,List.mem_singleton] at d;subst d;exact⟨h,by simp⟩
 | b::r,a,h,x,d=>by
  simp only[O9] at d;split at d
  ·rcases ad2.1 d with rfl|d
   ·exact⟨h,by simp⟩
   ·have:=Oo c r [] (by simp) x d;refine⟨this.1,?_⟩;have:=this.2;simp at this ⊢;omega
  ·rename_i e;have:=Oo c r (a++[b]) (by simp[h,Ne.symm e]) x d;refine⟨this.1,?_⟩;have:=this.2;simp at this ⊢;omega
def Bk(b:UInt8):UInt8:=if 65<=b/\b<=90 then b+32 else b
def B6(s:By):By:=s.map Bk
def dig(b:UInt8):Nat:=
 if 48<=b.toNat/\b.toNat<=57 then b.toNat-48 else if 97<=b.toNat/\b.toNat<=102 then b.toNat-87 else if 65<=b.toNat/\b.toNat<=70 then b.toNat-55 else 99
def Bv:Nat:=1099511627776
def E7(base:Nat):Nat->By->Option Nat
 | n,[]=>some n
 | n,b::r=>if dig b<base then E7 base (min (n*base+dig b) Bv) r else none
def Bi(s:By):Bool:=s.getD 0 0==48&&(s.getD 1 0==120||s.getD 1 0==88)
def Z9(s:By):Option Nat:=
 if s=[] then none else if Bi s then E7 16 0 (s.drop 2) else if 1<s.length/\s.getD 0 0=48 then E7 8 0 (s.drop 1) else E7 10 0 s
def C7(s:By):List By:=if 1<(pcs 46 s).length/\(pcs 46 s).getLastD []=[] then (pcs 46 s).dropLast else pcs 46 s
def Jo(s:By):By:=(C7 s).getLastD []
def G0(s:By):Bool:=if Bi (Jo s) then (E7 16 0 ((Jo s).drop 2)).isSome else !(Jo s).isEmpty&&(E7 10 0 (Jo s)).isSome
def Vn(free:Nat):Nat->List By->Option Nat
 | _,[]=>none
 | v,p::r=>match Z9 p with
  | none=>none
  | some n=>match r with
   | []=>if n<2 ^ free then some (v*2 ^ free+n) else none
   | r=>if n<=255 then Vn free (v*256+n) r else none
def pnB(s:By):Option Nat:=if 4<(C7 s).length then none else Vn (8*(5-(C7 s).length)) 0 (C7 s)
def oct(s:By):Option Nat:=match E7 10 0 s with
 | some n=>if n<=255/\j5 n=s then some n else none
 | none=>none
def IB:Nat->List By->Option Nat
 | v,[]=>some v
 | v,p::r=>match oct p with
  | some n=>IB (v*256+n) r
  | none=>none
def v4B(s:By):Option Nat:=if (pcs 46 s).length=4 then IB 0 (pcs 46 s) else none
def Hd(v:Nat):By:=j5 (v / 16777216)++46::(j5 (v / 65536 % 256)++46::(j5 (v / 256 % 256)++46::j5 (v % 256)))
def Ge:Nat->By->Option Nat
 | n,[]=>some n
 | n,b::r=>if dig b<16 then Ge (n*16+dig b) r else none
def grp(s:By):Option Nat:=if s=[]\/4<s.length then none else Ge 0 s
def Dk(last:Bool):List By->Option (List Nat)
 | []=>some []
 | x::r=>match grp x with
  | some v=>(Dk last r).map (v::·)
  | none=>match v4B x with
   | some v=>if last=true/\r=[] then some [v / 65536,v % 65536] else none
   | none=>none
def P2(s:By)(last:Bool):Option (List Nat):=if s=[] then some [] else Dk last (pcs 58 s)
def v6B(s:By):Option (List Nat):=
 match P2 (w9 s [58,58]).1 (!(w9 s [58,58]).2.2),P2 (w9 s [58,58]).2.1 true with
 | some x,some y=>if (w9 s [58,58]).2.2 then (if x.length+y.length<=7 then some (x++j0 (8-x.length-y.length) 0++y) else none)
   else if x.length+y.length=8 then some (x++y) else none
 | _,_=>none
def Ok(l:List Nat):Nat:=(l.takeWhile (· == 0)).length
def zGo:List Nat->Nat->Nat->Nat->Nat × Nat
 | [],_,z,m=>(z,m)
 | x::r,i,z,m=>if m<Ok (x::r) then zGo r (i+1) i (Ok (x::r)) else zGo r (i+1) z m
def Qo(n:Nat):UInt8:=if n<10 then j9 (48+n) else j9 (87+n)
def R3(v:Nat):By:=if h:v<16 then [Qo v] else R3 (v / 16)++[Qo (v % 16)]
 termination_by v
 decreasing_by omega
def S9(l:List Nat):By:=ac7 (l.map R3) [58]
def Mw(a:List Nat):By:=if (zGo a 0 0 0).2<2 then S9 a else S9 (a.take (zGo a 0 0 0).1)++58::58::S9 (a.drop ((zGo a 0 0 0).1+(zGo a 0 0 0).2))
def U2(n:Nat):Bool:=v8 n 1114111&&(ag9 n 55296||ag9 57343 n)
def Yc(d k:Nat):Nat:=if h:455<d then Yc (d / 35) (k+36) else k+36*d / (d+38)
 termination_by d
 decreasing_by omega
def P5(delta count:Nat)(first:Bool):Nat:=
 let d:=if first then delta / 700 else delta / 2
 Yc (d+d / count) 0
def thr(k a:Nat):Nat:=max 1 (min 26 (36*(k+1)-a))
theorem U6(k a:Nat):1<=thr k a/\thr k a<=26:=by unfold thr;omega
def Z8(d:Nat):UInt8:=if d<26 then j9 (97+d) else j9 (22+d)
def Mx(b:UInt8):Option Nat:=
 if 97<=b.toNat/\b.toNat<=122 then some (b.toNat-97) else if 65<=b.toNat/\b.toNat<=90 then some (b.toNat-65) else if 48<=b.toNat/\b.toNat<=57 then some (b.toNat-22) else none
def O5(q k a:Nat):By:=
 if h:q<thr k a then [Z8 q] else Z8 (thr k a+(q-thr k a) % (36-thr k a))::O5 ((q-thr k a) / (36-thr k a)) (k+1) a
 termination_by q
 decreasing_by
  have:=U6 k a;exact ad3 (af3 _ _) (by omega)
structure NV where
 delta:Nat
 bias:Nat
 done:Nat
 out:By
def H6(n a:Nat):List Nat->NV->NV
 | [],s=>s
 | p::r,s=>if p<n then H6 n a r { s with delta:=s.delta+1 }
  else if p=n then H6 n a r { delta:=0,bias:=P5 s.delta (s.done+1) (s.done==a),done:=s.done+1,out:=s.out++O5 s.delta 0 s.bias }
  else H6 n a r s
def H3(n:Nat):List Nat->Nat->Nat
 | [],m=>m
 | p::r,m=>H3 n r (if n<=p then min m p else m)
def Q2(b:List Nat)(a:Nat):Nat->Nat->NV->NV
 | 0,_,s=>s
 | f+1,n,s=>if s.done<b.length then
   let m:=H3 n b 1114112;let c:=H6 m a b { s with delta:=s.delta+(m-n)*(s.done+1) }
   Q2 b a f (m+1) { c with delta:=c.delta+1 }
  else s
def I3(a:List Nat):By:=(a.filter (· < 128)).map j9
def Ch(a:List Nat):By × Nat:=
 if 256<a.length then ([],3) else if !(a.all U2) then ([],2)
 else ((Q2 a (I3 a).length 256 128 { delta:=0,bias:=72,done:=(I3 a).length,out:=if (I3 a).isEmpty then [] else I3 a++[45] }).out,0)
def D6(a:Nat):By->Nat->Nat->Nat->Nat × By × Nat
 | [],i,w,k=>(0,[],4)
 | b::r,i,w,k=>match Mx b with
  | none=>(0,[],4)
  | some x=>if Bv<i+x*w then (0,[],19) else if x<thr k a then (i+x*w,r,0)
   else if Bv<w*(36-thr k a) then (0,[],19) else D6 a r (i+x*w) (w*(36-thr k a)) (k+1)
theorem Pn(a:Nat):∀(s:By) (i w k:Nat),(D6 a s i w k).2.2=0->(D6 a s i w k).2.1.length<s.length
 | [],i,w,k,h=>by simp[D6] at h
 | b::r,i,w,k,h=>by
  unfold D6 at h ⊢;cases d:Mx b with
  | none=>simp[d] at h
  | some x=>
   simp only[d] at h ⊢;split at h
   ·simp at h
   ·rename_i e;rw[if_neg e];split at h
    ·rename_i c;rw[if_pos c];simp
    ·rename_i c;rw[if_neg c];split at h
     ·simp at h
     ·rename_i f;rw[if_neg f];have:=Pn a r _ _ _ h;simp only[ab7];omega
def U1(l:List Nat)(i n:Nat):List Nat:=l.take i++n::l.drop i
def G9(s:By)(b:List Nat)(n i a:Nat)(first:Bool):List Nat × Nat:=
 if e:s=[] then (b,0) else
  let q:=D6 a s i 1 0
  if d:q.2.2=0 then
   let count:=b.length+1;let c:=n+q.1 / count
   if U2 c then (if 256<count then ([],3) else G9 q.2.1 (U1 b (q.1 % count) c) c (q.1 % count+1) (P5 (q.1-i) count first) false)
   else ([],2)
  else ([],q.2.2)
 termination_by s.length
 decreasing_by exact Pn a s i 1 0 d
def G5:By->Nat
 | []=>0
 | b::r=>if 45∈r then G5 r+1 else 0
def M9(s:By):List Nat × Nat:=
 if 1024<s.length then ([],3) else if s.any (λb=>v8 128 b.toNat) then ([],4)
 else if 256<G5 s then ([],3)
 else G9 (if G5 s=0 then s else s.drop (G5 s+1)) ((s.take (G5 s)).map (·.toNat)) 128 0 72 true
def Y4:Nat->By->Option (List Nat)
 | 0,_=>some []
 | f+1,l=>if l=[] then some [] else if (ac6 l).1=65533/\(ac6 l).2=1 then none else (Y4 f (l.drop (ac6 l).2)).map ((ac6 l).1::·)
def Cr(s:By):Option (List Nat):=Y4 s.length s
def Dc(s:By):Bool:=
 (M9 s).2==0&&!((M9 s).1.any λp=>v8 65 p&&v8 p 90)&&((M9 s).1.any λp=>v8 128 p)&&(Ch (M9 s).1).2==0&&(Ch (M9 s).1).1==s
def T2(b:UInt8):Bool:=(v8 97 b.toNat&&v8 b.toNat 122)||(v8 48 b.toNat&&v8 b.toNat 57)||b==45||b==95
def xnB:By:=[120,110,45,45]
def K6(s:By):Bool:=
 !s.isEmpty&&v8 s.length 63&&s.getD 0 0 !=45&&s.getD (s.length-1) 0 !=45&&s.all T2&&(!(xnB.isPrefixOf s)||Dc (s.drop 4))
def I5(s:By):By × Nat:=match Cr s with
 | none=>([],4)
 | some p=>if 256<p.length then ([],3)
  else if p.length<s.length then (match Cr (B6 s) with
   | none=>([],14)
   | some q=>if (Ch q).2=0 then (if K6 (xnB++(Ch q).1) then (xnB++(Ch q).1,0) else ([],14)) else ([],14))
  else if K6 (B6 s) then (B6 s,0) else ([],14)
def R2:By->Option By
 | []=>some []
 | b::r=>if b=37 then (match r with
   | x::y::a=>if dig x<16/\dig y<16 then (R2 a).map (j9 (16*dig x+dig y)::·) else none
   | _=>none)
  else (R2 r).map (b::·)
structure B2 where
 kind:Nat
 name:By
 v4:Nat
 v6:List Nat
 deriving DecidableEq
def z8:List Nat:=[0,0,0,0,0,0,0,0]
def K4:B2:=⟨0,[],0,z8⟩
def F6:List By->List By × Nat
 | []=>([],0)
 | x::r=>if (I5 x).2=0 then ((I5 x).1::(F6 r).1,(F6 r).2) else ([],(I5 x).2)
def I1(s:By):By:=if s.getLast? = some 46 then s.dropLast else s
def C6(s:By):B2 × Nat:=
 if 1024<s.length then (K4,3)
 else if s.head? = some 91 then (if s.getLast? = some 93/\2<=s.length then (match v6B ((s.take (s.length-1)).drop 1) with
   | some a=>(⟨3,[],0,a⟩,0)
   | none=>(K4,14)) else (K4,14))
 else match R2 s with
  | none=>(K4,14)
  | some t=>if G0 (I1 t) then (match pnB (I1 t) with
    | some v=>(⟨2,[],v,z8⟩,0)
    | none=>(K4,14))
   else if (F6 (pcs 46 (I1 t))).2=0 then (
    let name:=ac7 (F6 (pcs 46 (I1 t))).1 [46]
    if 253<name.length then (K4,3) else if G0 name then (K4,14) else (⟨1,name,0,z8⟩,0))
   else (K4,(F6 (pcs 46 (I1 t))).2)
def Z3(s:By):Bool:=v8 s.length 253&&!(G0 s)&&(pcs 46 s).all K6
def M6(h:B2):Bool:=
 if h.kind=1 then Z3 h.name&&h.v4==0&&h.v6==z8 else if h.kind=2 then h.name.isEmpty&&h.v6==z8 else if h.kind=3 then h.name.isEmpty&&h.v4==0 else false
def Io(h:B2):By:=if M6 h then (if h.kind=1 then h.name else if h.kind=2 then Hd h.v4 else 91::(Mw h.v6++[93])) else []
def Uc(a b:By):Bool:=Z3 a&&Z3 b&&(a==b||(46::a).isSuffixOf b)
def A3(n:Nat):Bool:=decide (n<=1000000000)
theorem NK{n:Nat}:A3 n=true↔n<=1000000000:=by simp[A3]
def isS:List SV->Bool|[.str _]=>true|_=>false
def elS(a:List SV):By:=(a.getD 0 .nilp).gS
def M3(o:Option Nat):Nat:=o.getD 0
def u8n(c:Int):UInt8:=j9 c.toNat
def VH(s p:By):By:=if p.isSuffixOf s then s.take (s.length-p.length) else s
def Fz(s p:By):By:=if p.isPrefixOf s then s.drop p.length else s
def ltN(v:Int)(n:Nat):Bool:=match v with
 | .ofNat m=>v8 (m+1) n
 | .negSucc _=>false
theorem E0{v:Int}{n:Nat}:ltN v n=true↔0<=v/\v<(n:Int):=by
 cases v with
 | ofNat m=>
  simp only[ltN,Nat.ble_eq,Int.ofNat_eq_natCast];omega
 | negSucc m=>
  refine⟨λh=>(by cases h),λh=>?_⟩;have:=Int.negSucc_lt_zero m;omega
def Hg(b:Nat):List PV->Tr
 | [.s (.int .i64 n)]=>.need (ltN n b) (.ret (.s (.str (j5 (b8 n)))) [])
 | _=>.fail
def Kj(b:Nat)(args:List PV):Tr:=Hg b (B8 [[0]] args)
def gvs(s:By)(last:Bool):List Nat:=(P2 s last).getD []
def v6c(i:Nat)(s:By):Nat:=((v6B s).getD z8).getD i 0
def n8(a b c d e f g h:Int):List Nat:=[a.toNat,b.toNat,c.toNat,d.toNat,e.toNat,f.toNat,g.toNat,h.toNat]
def ok8(a b c d e f g h:Int):Bool:=[a,b,c,d,e,f,g,h].all λx=>ltN x 65536
def Vb:List SV->Bool|[.int .u16 n]=>ltN n 65536|_=>false
def elN(a:List SV):Nat:=(a.getD 0 .nilp).gI.toNat
def GO(s:By):Int:=y5 s [58,58]
def ptI(n:Int):Bool:=match n with | .ofNat m=>U2 m | .negSucc _=>false
def D8(b:UInt8):Int:=match Mx b with|some n=>n|none=>-1
def K5(k b:Int):Int:=max 1 (min 26 (k+36-b))
def Mq:List SV->Bool|[.int .i64 _]=>true|_=>false
def elI(a:List SV):Int:=(a.getD 0 .nilp).gI
def V0(l:List Int):By × Nat:=if 256<l.length then ([],3) else if l.all ptI then Ch (l.map b8) else ([],2)
def S8(b:Int):By->Int->Int->Int->Int × By × Int
 | [],i,w,k=>(4,[],i)
 | c::r,i,w,k=>if D8 c<0 then (4,c::r,i) else if 1099511627776<i+D8 c*w then (19,r,i+D8 c*w)
  else if D8 c<K5 k b then (0,r,i+D8 c*w) else if 1099511627776<w*(36-K5 k b) then (19,r,i+D8 c*w)
  else S8 b r (i+D8 c*w) (w*(36-K5 k b)) (k+36)
def HY(b:Int)(s:By)(i:Int):Int:=(S8 b s i 1 0).1
def IA(b:Int)(s:By)(i:Int):By:=(S8 b s i 1 0).2.1
def Su(b:Int)(s:By)(i:Int):Int:=(S8 b s i 1 0).2.2
def La(l:List (List SV))(i:Nat)(n:Int):List (List SV):=l.take i++[SV.int .i64 n]::l.drop i
structure DS where
 rest:By
 n:Int
 i:Int
 b:Int
 st:Bool
 l:List (List SV)
def E9(s:DS):Int × DS:=
 if HY s.b s.rest s.i=0 then
  let c:Int:=s.l.length+1;let x:=Su s.b s.rest s.i;let d:DS:={ rest:=IA s.b s.rest s.i,n:=s.n+aa0 x c,i:=x7 x c,b:=P5 (x-s.i).toNat c.toNat (!s.st),st:=true,l:=s.l }
  if ptI d.n then (if 256<c then (3,d) else (0,{ d with i:=d.i+1,l:=La s.l d.i.toNat d.n })) else (2,d)
 else (HY s.b s.rest s.i,{ s with rest:=IA s.b s.rest s.i,i:=Su s.b s.rest s.i })
def L0(c:UInt8):By->Int
 | []=>-1
 | b::r=>if L0 c r<0 then (if b=c then 0 else -1) else L0 c r+1
def Lg(l:List Nat):List (List SV):=l.map λx:Nat=>[SV.int .i64 (x:Int)]
def Qp(s:By):List Nat:=(Cr s).getD []
def Eg(b:UInt8):Int:=if dig b<16 then dig b else -1
def En(s:By):By:=(R2 s).getD []
def P0(s:By):B2 × Nat:=if s.getLast? = some 93/\2<=s.length then (match v6B ((s.take (s.length-1)).drop 1) with
 | some a=>(⟨3,[],0,a⟩,0)
 | none=>(K4,14)) else (K4,14)
def mkH(b:Int)(c:By)(v4:Int)(a:List Nat):B2:=⟨if ltN b 4 then b.toNat else 0,c,v4.toNat,a⟩
def Lz(n:Int)(l:List By):Bool:=l.all λs=>!(ltI n (s.length:Int))
def B50(s:By):Bool:=([91]:By).isPrefixOf s
end
section
open Go Go.Proofs
set_option maxRecDepth 100000
section
def Re:List PV->Tr
 | [.s (.str s),.s (.str p),.s (.int .i64 v),.s (.int .i64 n)]=>.need (A3 (a8 s)) (.need ((a8 p)==1) (.need (v==(0:Int)) (.need (n==((-1):Int)) (.ret (.vw 0 0 (a8 (pcs (b9 p 0 0) s))) [.arr false 9 1 (D4 (pcs (b9 p 0 0) s))]))))
 | _=>.fail
def Xg(args:List PV):Tr:=Re (B8 [[0],[0],[0],[0]] args)
def Rm:List PV->Tr
 | [.s (.str s),.s (.str p)]=>.need (A3 (a8 s)) (.need ((a8 p)==1) (.ret (.vw 0 0 (a8 (pcs (b9 p 0 0) s))) [.arr false 9 1 (D4 (pcs (b9 p 0 0) s))]))
 | _=>.fail
def KZ(args:List PV):Tr:=Rm (B8 [[0],[0]] args)
def OU:List PV->Tr
 | [.s (.str s),.s (.str p)]=>.need (A3 (a8 s)) (.ret (.s (.bool (p7 p s))) [])
 | _=>.fail
def OT(args:List PV):Tr:=OU (B8 [[0],[0]] args)
def OJ:List PV->Tr
 | [.s (.str s),.s (.str p)]=>.need (A3 (a8 s)) (.ret (.s (.bool (p7 p s))) [])
 | _=>.fail
def DT(args:List PV):Tr:=OJ (B8 [[0],[0]] args)
def OX:List PV->Tr
 | [.s (.str s),.s (.str p)]=>.need (A3 (a8 s)) (.ret (.s (.bool (aa8 p s))) [])
 | _=>.fail
def Ai5(args:List PV):Tr:=OX (B8 [[0],[0]] args)
def OK:List PV->Tr
 | [.s (.str s),.s (.str p)]=>.need (A3 (a8 s)) (.ret (.s (.bool (aa8 p s))) [])
 | _=>.fail
def By1(args:List PV):Tr:=OK (B8 [[0],[0]] args)
def ED:List PV->Tr
 | [.s (.str s),.s (.str p)]=>.need (A3 (a8 s)) (.ret (.s (.str (VH s p))) [])
 | _=>.fail
def A91(args:List PV):Tr:=ED (B8 [[0],[0]] args)
def FJ:List PV->Tr
 | [.s (.str s),.s (.str p)]=>.need (A3 (a8 s)) (.ret (.s (.str (VH s p))) [])
 | _=>.fail
def Ba5(args:List PV):Tr:=FJ (B8 [[0],[0]] args)
def DZ:List PV->Tr
 | [.s (.str s),.s (.str p)]=>.need (A3 (a8 s)) (.ret (.tup [.s (.str (Fz s p)),.s (.bool (p7 p s))]) [])
 | _=>.fail
def A88(args:List PV):Tr:=DZ (B8 [[0],[0]] args)
def NW:List PV->Tr
 | [.s (.str s),.s (.str p)]=>.need (A3 (a8 s)) (.ret (.tup [.s (.str (Fz s p)),.s (.bool (p7 p s))]) [])
 | _=>.fail
def Ah8(args:List PV):Tr:=NW (B8 [[0],[0]] args)
def QH:List PV->Tr
 | [.s (.str s),.s (.str p)]=>.need (A3 (a8 s)) (.ret (.s (.int .i64 (y5 s p))) [])
 | _=>.fail
def FF(args:List PV):Tr:=QH (B8 [[0],[0]] args)
def QE:List PV->Tr
 | [.s (.str s),.s (.str p)]=>.need ((a8 p)==1) (.ret (.s (.int .i64 (↑(List.count (b9 p 0 0) s):Int))) [])
 | _=>.fail
def Aj6(args:List PV):Tr:=QE (B8 [[0],[0]] args)
def DN:List PV->Tr
 | [.s (.str s),.s (.int .i64 n)]=>.fail
 | _=>.fail
def Jc(args:List PV):Tr:=DN (B8 [[0],[0]] args)
def Xf:List PV->Tr
 | [.s (.str s),.s (.str p),.s (.int .i64 v),.s (.int .i64 n)]=>.need (A3 (a8 s)) (.need ((a8 p)==1) (.need (v==(0:Int)) (.need (n==((-1):Int)) (.ret (.s (.sl false false 1 (D4 (pcs (b9 p 0 0) s)))) []))))
 | _=>.fail
def WI(args:List PV):Tr:=Xf (B8 [[0],[0],[0],[0]] args)
def Xv:List PV->Tr
 | [.s (.str s),.s (.str p)]=>.need (A3 (a8 s)) (.need ((a8 p)==1) (.ret (.s (.sl false false 1 (D4 (pcs (b9 p 0 0) s)))) []))
 | _=>.fail
def Tv(args:List PV):Tr:=Xv (B8 [[0],[0]] args)
def OP:List PV->Tr
 | [.s (.int .i64 n)]=>.need (ltN n 4294967296) (.ret (.s (.str (j5 (b8 n)))) [])
 | _=>.fail
def Ai3(args:List PV):Tr:=OP (B8 [[0]] args)
def OS:List PV->Tr
 | [.s (.str s)]=>.need (A3 (a8 s)) (.ret (.s (.str (B6 s))) [])
 | _=>.fail
def Ai4(args:List PV):Tr:=OS (B8 [[0]] args)
def OH:List PV->Tr
 | [.s (.str s)]=>.need (A3 (a8 s)) (.ret (.s (.bool (Bi s))) [])
 | _=>.fail
def Ai0(args:List PV):Tr:=OH (B8 [[0]] args)
def NY:List PV->Tr
 | [.s (.str s),.s (.int .i64 base)]=>.need (A3 (a8 s)) (.need (ltN base 17) (.ret (.tup [.s (.int .i64 (↑(M3 (E7 (b8 base) 0 s)):Int)),.s (.bool (j2 (E7 (b8 base) 0 s)))]) []))
 | _=>.fail
def NX(args:List PV):Tr:=NY (B8 [[0],[0]] args)
def Ai6:List PV->Tr
 | [.s (.str s)]=>.need (A3 (a8 s)) (.ret (.tup [.s (.int .i64 (↑(M3 (Z9 s)):Int)),.s (.bool (j2 (Z9 s)))]) [])
 | _=>.fail
def By4(args:List PV):Tr:=Ai6 (B8 [[0]] args)
def EH:List PV->Tr
 | [.s (.str s)]=>.need (A3 (a8 s)) (.ret (.s (.sl false false 1 (D4 (C7 s)))) [])
 | _=>.fail
def PC(args:List PV):Tr:=EH (B8 [[0]] args)
def Rf:List PV->Tr
 | [.s (.str s)]=>.need (A3 (a8 s)) (.ret (.s (.bool (G0 s))) [])
 | _=>.fail
def Pc(args:List PV):Tr:=Rf (B8 [[0]] args)
def PH:List PV->Tr
 | [.s (.str s)]=>.need (A3 (a8 s)) (.ret (.tup [.s (.int .u32 (↑(M3 (pnB s)):Int)),.s (.bool (j2 (pnB s)))]) [])
 | _=>.fail
def By7(args:List PV):Tr:=PH (B8 [[0]] args)
def Ak1:List PV->Tr
 | [.s (.str s)]=>.need (A3 (a8 s)) (.ret (.tup [.s (.int .u32 (↑(M3 (v4B s)):Int)),.s (.bool (j2 (v4B s)))]) [])
 | _=>.fail
def C17(args:List PV):Tr:=Ak1 (B8 [[0]] args)
def Ak0:List PV->Tr
 | [.s (.int .u32 v)]=>.need (ltN v 4294967296) (.ret (.s (.str (Hd (b8 v)))) [])
 | _=>.fail
def C16(args:List PV):Tr:=Ak0 (B8 [[0]] args)
def Rg:List PV->Tr
 | [.s (.str s)]=>.need (A3 (a8 s)) (.ret (.s (.bool ((not (j8 s))&&(j2 (E7 10 0 s))))) [])
 | _=>.fail
def KV(args:List PV):Tr:=Rg (B8 [[0]] args)
def PQ:List PV->Tr
 | [.s (.str s)]=>.need (A3 (a8 s)) (.ret (.s (.str (B6 s))) [])
 | _=>.fail
def Aj3(args:List PV):Tr:=PQ (B8 [[0]] args)
def Xq:List PV->Tr
 | [.s (.str s),.s (.int .u8 c)]=>.need (A3 (a8 s)) (.need (inR c 256) (.ret (.s (.sl false false 1 (D4 (pcs (u8n c) s)))) []))
 | _=>.fail
def Jd(args:List PV):Tr:=Xq (B8 [[0],[0]] args)
def Ah9:List PV->Tr
 | [.s (.int .i64 n)]=>.need (ltN n 4294967296) (.ret (.s (.str (j5 (b8 n)))) [])
 | _=>.fail
def Xe(args:List PV):Tr:=Ah9 (B8 [[0]] args)
def PL:List PV->Tr
 | [.s (.int .u8 b)]=>.need (inR b 256) (.ret (.s (.int .i64 (↑(dig (u8n b)):Int))) [])
 | _=>.fail
def By9(args:List PV):Tr:=PL (B8 [[0]] args)
def PT:List PV->Tr
 | [.s (.str s)]=>.need (A3 (a8 s)) (.ret (.tup [.s (.int .i64 (↑(M3 (Z9 s)):Int)),.s (.bool (j2 (Z9 s)))]) [])
 | _=>.fail
def Aj4(args:List PV):Tr:=PT (B8 [[0]] args)
def Xo:List PV->Tr
 | [.s (.str s)]=>.need (A3 (a8 s)) (.ret (.s (.sl false false 1 (D4 (C7 s)))) [])
 | _=>.fail
def ET(args:List PV):Tr:=Xo (B8 [[0]] args)
def Nh:List PV->Tr
 | [.s (.str s)]=>.need (A3 (a8 s)) (.ret (.s (.bool (G0 s))) [])
 | _=>.fail
def Rj(args:List PV):Tr:=Nh (B8 [[0]] args)
def EV:List PV->Tr
 | [.s (.str s)]=>.need (A3 (a8 s)) (.ret (.tup [.s (.int .u32 (↑(M3 (pnB s)):Int)),.s (.bool (j2 (pnB s)))]) [])
 | _=>.fail
def A99(args:List PV):Tr:=EV (B8 [[0]] args)
def PK:List PV->Tr
 | [.s (.str s)]=>.need (A3 (a8 s)) (.ret (.tup [.s (.int .i64 (↑(M3 (oct s)):Int)),.s (.bool (j2 (oct s)))]) [])
 | _=>.fail
def By8(args:List PV):Tr:=PK (B8 [[0]] args)
def QA:List PV->Tr
 | [.s (.str s)]=>.need (A3 (a8 s)) (.ret (.tup [.s (.int .u32 (↑(M3 (v4B s)):Int)),.s (.bool (j2 (v4B s)))]) [])
 | _=>.fail
def Bz4(args:List PV):Tr:=QA (B8 [[0]] args)
def PZ:List PV->Tr
 | [.s (.int .u32 v)]=>.need (ltN v 4294967296) (.ret (.s (.str (Hd (b8 v)))) [])
 | _=>.fail
def Bz3(args:List PV):Tr:=PZ (B8 [[0]] args)
def OD:List PV->Tr
 | [.s (.str s)]=>.need (A3 (a8 s)) (.ret (.tup [.s (.int .u16 (↑(M3 (grp s)):Int)),.s (.bool (j2 (grp s)))]) [])
 | _=>.fail
def Bx7(args:List PV):Tr:=OD (B8 [[0]] args)
def DQ:List PV->Tr
 | [.s (.str s),.s (.bool last)]=>.need (A3 (a8 s)) (.ret (.tup [.s (.sl (j8 (gvs s last)) (j8 (gvs s last)) 1 (C8 (gvs s last))),.s (.bool (j2 (P2 s last)))]) [])
 | _=>.fail
def A86(args:List PV):Tr:=DQ (B8 [[0],[0]] args)
def Ak4:List PV->Tr
 | [.s (.str s)]=>.need (A3 (a8 s)) (.ret (.tup [.agg [.s (.int .u16 (↑(v6c 0 s):Int)),.s (.int .u16 (↑(v6c 1 s):Int)),.s (.int .u16 (↑(v6c 2 s):Int)),.s (.int .u16 (↑(v6c 3 s):Int)),.s (.int .u16 (↑(v6c 4 s):Int)),.s (.int .u16 (↑(v6c 5 s):Int)),.s (.int .u16 (↑(v6c 6 s):Int)),.s (.int .u16 (↑(v6c 7 s):Int))],.s (.bool (j2 (v6B s)))]) [])
 | _=>.fail
def C20(args:List PV):Tr:=Ak4 (B8 [[0]] args)
def FO:List PV->Tr
 | [.agg [.s (.int .u16 a),.s (.int .u16 b),.s (.int .u16 c),.s (.int .u16 d),.s (.int .u16 e),.s (.int .u16 f),.s (.int .u16 g),.s (.int .u16 h)]]=>.need (ok8 a b c d e f g h) (.ret (.tup [.s (.int .i64 (↑((zGo (n8 a b c d e f g h) 0 0 0)).1:Int)),.s (.int .i64 (↑((zGo (n8 a b c d e f g h) 0 0 0)).2:Int))]) [])
 | _=>.fail
def Ba7(args:List PV):Tr:=FO (B8 [[0,0,0,0,0,0,0,0]] args)
def Bz9:List PV->Tr
 | [.s (.int .u64 x)]=>.need (x==(16:Int)) (.ret (.s (.int .i64 (4:Int))) [])
 | _=>.fail
def C35(args:List PV):Tr:=Bz9 (B8 [[0]] args)
def DV:List PV->Tr
 | [.s (.int .i64 x)]=>.need (x==(16:Int)) (.ret (.s (.bool true)) [])
 | _=>.fail
def OO(args:List PV):Tr:=DV (B8 [[0]] args)
def DO:List PV->Tr
 | [.s (.sl c a 0 ds),.s (.int .u64 v),.s (.int .i64 b),.s (.bool neg),.s (.bool app)]=>.need (ltN v 65536) (.need (b==(16:Int)) (.need (not neg) (.need (not app) (.ret (.tup [.s (.sl true true 1 List.nil),.s (.str (R3 (b8 v)))]) []))))
 | _=>.fail
def OA(args:List PV):Tr:=DO (B8 [[0],[0],[0],[0],[0]] args)
def DU:List PV->Tr
 | [.s (.int .u64 v),.s (.int .i64 b)]=>.need (ltN v 65536) (.need (b==(16:Int)) (.ret (.s (.str (R3 (b8 v)))) []))
 | _=>.fail
def ON(args:List PV):Tr:=DU (B8 [[0],[0]] args)
def OB:List PV->Tr
 | [.s (.int .u64 v),.s (.int .i64 b)]=>.need (ltN v 65536) (.need (b==(16:Int)) (.ret (.s (.str (R3 (b8 v)))) []))
 | _=>.fail
def Bx6(args:List PV):Tr:=OB (B8 [[0],[0]] args)
def FI:List PV->Tr
 | [.s (.sl b a 1 l),.s (.str p)]=>.need (x3 l isS) (.need (A3 (a8 (ac7 (s7 elS l) p))) (.need (A3 (a8 l)) (.ret (.s (.str (ac7 (s7 elS l) p))) [])))
 | _=>.fail
def QK(args:List PV):Tr:=FI (B8 [[1],[0]] args)
def QG:List PV->Tr
 | [.s (.str s),.s (.str p)]=>.need (A3 (a8 s)) (.ret (.tup [.s (.str ((w9 s p)).1),.s (.str (((w9 s p)).2).1),.s (.bool (((w9 s p)).2).2)]) [])
 | _=>.fail
def Aj7(args:List PV):Tr:=QG (B8 [[0],[0]] args)
def Ak3:List PV->Tr
 | [.s (.sl b a 1 l)]=>.need (x3 l Vb) (.need (v8 (a8 l) 8) (.ret (.s (.str (S9 (s7 elN l)))) []))
 | _=>.fail
def C19(args:List PV):Tr:=Ak3 (B8 [[1]] args)
def Ak2:List PV->Tr
 | [.agg [.s (.int .u16 a),.s (.int .u16 b),.s (.int .u16 c),.s (.int .u16 d),.s (.int .u16 e),.s (.int .u16 f),.s (.int .u16 g),.s (.int .u16 h)]]=>.need (ok8 a b c d e f g h) (.ret (.s (.str (Mw (n8 a b c d e f g h)))) [])
 | _=>.fail
def C18(args:List PV):Tr:=Ak2 (B8 [[0,0,0,0,0,0,0,0]] args)
def PN:List PV->Tr
 | [.s (.str s)]=>.need (A3 (a8 s)) (.ret (.tup [.s (.int .u16 (↑(M3 (grp s)):Int)),.s (.bool (j2 (grp s)))]) [])
 | _=>.fail
def Bz0(args:List PV):Tr:=PN (B8 [[0]] args)
def EL:List PV->Tr
 | [.s (.str s),.s (.bool last)]=>.need (A3 (a8 s)) (.ret (.tup [.s (.sl (j8 (gvs s last)) (j8 (gvs s last)) 1 (C8 (gvs s last))),.s (.bool (j2 (P2 s last)))]) [])
 | _=>.fail
def A93(args:List PV):Tr:=EL (B8 [[0],[0]] args)
def Rh:List PV->Tr
 | [.s (.str s)]=>.need (A3 (a8 s)) (.ret (.s (.int .i64 (GO s))) [])
 | _=>.fail
def KW(args:List PV):Tr:=Rh (B8 [[0]] args)
def QC:List PV->Tr
 | [.s (.str s)]=>.need (A3 (a8 s)) (.ret (.tup [.agg [.s (.int .u16 (↑(v6c 0 s):Int)),.s (.int .u16 (↑(v6c 1 s):Int)),.s (.int .u16 (↑(v6c 2 s):Int)),.s (.int .u16 (↑(v6c 3 s):Int)),.s (.int .u16 (↑(v6c 4 s):Int)),.s (.int .u16 (↑(v6c 5 s):Int)),.s (.int .u16 (↑(v6c 6 s):Int)),.s (.int .u16 (↑(v6c 7 s):Int))],.s (.bool (j2 (v6B s)))]) [])
 | _=>.fail
def Bz6(args:List PV):Tr:=QC (B8 [[0]] args)
def EN:List PV->Tr
 | [.s (.int .u16 v)]=>.need (ltN v 65536) (.ret (.s (.str (R3 (b8 v)))) [])
 | _=>.fail
def A95(args:List PV):Tr:=EN (B8 [[0]] args)
def QB:List PV->Tr
 | [.agg [.s (.int .u16 a),.s (.int .u16 b),.s (.int .u16 c),.s (.int .u16 d),.s (.int .u16 e),.s (.int .u16 f),.s (.int .u16 g),.s (.int .u16 h)]]=>.need (ok8 a b c d e f g h) (.ret (.s (.str (Mw (n8 a b c d e f g h)))) [])
 | _=>.fail
def Bz5(args:List PV):Tr:=QB (B8 [[0,0,0,0,0,0,0,0]] args)
def Xm:List PV->Tr
 | [.s (.int .i64 n)]=>.ret (.s (.bool (ptI n))) []
 | _=>.fail
def Ng(args:List PV):Tr:=Xm (B8 [[0]] args)
def Xl:List PV->Tr
 | [.s (.int .i64 d),.s (.int .i64 c),.s (.bool f)]=>.need (ltN d 1152921504606846976) (.need (ltN c 1000000) (.need (ltI (0:Int) c) (.ret (.s (.int .i64 (↑(P5 (b8 d) (b8 c) f):Int))) [])))
 | _=>.fail
def Nf(args:List PV):Tr:=Xl (B8 [[0],[0],[0]] args)
def PE:List PV->Tr
 | [.s (.int .i64 d)]=>.need (ltN d 36) (.ret (.s (.int .u8 (↑(ai2 (Z8 (b8 d))):Int))) [])
 | _=>.fail
def Ai8(args:List PV):Tr:=PE (B8 [[0]] args)
def PJ:List PV->Tr
 | [.s (.int .u8 b)]=>.need (inR b 256) (.ret (.s (.int .i64 (D8 (u8n b)))) [])
 | _=>.fail
def Aj0(args:List PV):Tr:=PJ (B8 [[0]] args)
def PI:List PV->Tr
 | [.s (.int .i64 b)]=>.ret (.fnr (z7 188) [] [.ptr 1 0 0,.ptr 0 0 0]) [.box [.s (.int .i64 b)],.box [.s (.int .i64 (0:Int))]]
 | _=>.fail
def EI(args:List PV):Tr:=PI (B8 [[0]] args)
def Pd:List PV->List Blk->Tr
 | [.ptr 0 0 0,.ptr 1 0 0],[.box [.s (.int .i64 k)],.box [.s (.int .i64 b)]]=>.need (ltN k 1000000000000) (.need (ltN b 1000000) (.ret (.s (.int .i64 (K5 k b))) [.box [.s (.int .i64 (Int.add k (36:Int)))],.box [.s (.int .i64 b)]]))
 | _,_=>.fail
def PB:List PV->List Blk->Tr
 | [.fl 0,.s (.int .i64 q),.s (.int .i64 b)],[.arr z 5 1 l]=>.need (ltN q 1152921504606846976) (.need (ltN b 1000000) (.need (v8 (a8 l) 100000) (.ret (.fl 0) [.arr z 5 1 (List.append l (s7 D7 (O5 (b8 q) 0 (b8 b))))])))
 | _,_=>.fail
def PG:List PV->Tr
 | [.s (.sl b a 1 p)]=>.need (x3 p Mq) (.ret (.tup [.s (.str ((V0 (s7 elI p))).1),.s (.int .i64 (↑((V0 (s7 elI p))).2:Int))]) [])
 | _=>.fail
def Ai9(args:List PV):Tr:=PG (B8 [[1]] args)
def QJ:List PV->List Blk->Tr
 | [.fl 0,.s (.int .i64 i),.fl 1],[.arr z 3 1 l,.arr false 3 1 [[.int .i64 n]]]=>.need (ltN i (Nat.add (a8 l) 1)) (.need (v8 (a8 l) 100000) (.ret (.fl 0) [.arr z 3 1 (La l (b8 i) n),.arr false 3 1 [[.int .i64 n]]]))
 | _,_=>.fail
def NZ:List PV->List Blk->Tr
 | [.ptr 0 0 0],[.box [.s (.str a),.fl 1,.s (.int .i64 n),.s (.int .i64 i),.s (.int .i64 b),.s (.bool c)],.arr z 3 1 l]=>.need (A3 (a8 a)) (.need (ltN b 1000000) (.need (ltN i 1099511627777) (.ret (.s (.int .i64 (HY b a i))) [.box [.s (.str (IA b a i)),.fl 1,.s (.int .i64 n),.s (.int .i64 (Su b a i)),.s (.int .i64 b),.s (.bool c)],.arr z 3 1 l])))
 | _,_=>.fail
def CJ:List PV->List Blk->Tr
 | [.ptr 0 0 0],[.box [.s (.str a),.fl 1,.s (.int .i64 n),.s (.int .i64 i),.s (.int .i64 b),.s (.bool c)],.arr z 3 1 l]=>.need (A3 (a8 a)) (.need (ltN b 1000000) (.need (ltN i 1099511627777) (.need (ltN n 1152921504606846976) (.need (v8 (a8 l) 100000) (.ret (.s (.int .i64 ((E9 (DS.mk a n i b c l))).1)) [.box [.s (.str (DS.rest ((E9 (DS.mk a n i b c l))).2)),.fl 1,.s (.int .i64 (DS.n ((E9 (DS.mk a n i b c l))).2)),.s (.int .i64 (DS.i ((E9 (DS.mk a n i b c l))).2)),.s (.int .i64 (DS.b ((E9 (DS.mk a n i b c l))).2)),.s (.bool (DS.st ((E9 (DS.mk a n i b c l))).2))],.arr z 3 1 (DS.l ((E9 (DS.mk a n i b c l))).2)])))))
 | _,_=>.fail
def Xi:List PV->Tr
 | [.s (.str s),.s (.int .u8 c)]=>.need (A3 (a8 s)) (.need (inR c 256) (.ret (.s (.int .i64 (L0 (u8n c) s))) []))
 | _=>.fail
def WK(args:List PV):Tr:=Xi (B8 [[0],[0]] args)
def DY:List PV->Tr
 | [.s (.str s),.s (.int .u8 c)]=>.need (A3 (a8 s)) (.need (inR c 256) (.ret (.s (.int .i64 (L0 (u8n c) s))) []))
 | _=>.fail
def CL(args:List PV):Tr:=DY (B8 [[0],[0]] args)
def PD:List PV->Tr
 | [.s (.str s)]=>.need (A3 (a8 s)) (.ret (.tup [.s (.sl (j8 ((M9 s)).1) (j8 ((M9 s)).1) 1 (Lg ((M9 s)).1)),.s (.int .i64 (↑((M9 s)).2:Int))]) [])
 | _=>.fail
def By6(args:List PV):Tr:=PD (B8 [[0]] args)
def WG:List PV->Tr
 | [.s (.str t)]=>.fail
 | _=>.fail
def Ts(args:List PV):Tr:=WG (B8 [[0]] args)
def EB:List PV->Tr
 | [.s (.str t),.s (.str p),.s (.int .i64 n)]=>.ret (.fnr (z7 152) [] [.ptr 1 0 0,.ptr 0 0 0,.ptr 2 0 0]) [.box [.s (.str t)],.box [.s (.str p)],.box [.s (.int .i64 n)]]
 | _=>.fail
def OW(args:List PV):Tr:=EB (B8 [[0],[0],[0]] args)
def QL:List PV->Tr
 | [.s (.str t),.s (.str p)]=>.ret (.fnr (z7 152) [] [.ptr 1 0 0,.ptr 0 0 0,.ptr 2 0 0]) [.box [.s (.str t)],.box [.s (.str p)],.box [.s (.int .i64 (0:Int))]]
 | _=>.fail
def Aj8(args:List PV):Tr:=QL (B8 [[0],[0]] args)
def CN:List PV->List Blk->Option (Bool × List (List PV))
 | [.yd,.ptr 0 0 0,.ptr 1 0 0,.ptr 2 0 0],[.box [.s (.str p)],.box [.s (.str t)],.box [.s (.int .i64 n)]]=>some (((A3 (a8 t))&&(((a8 p)==1)&&(n==(0:Int)))),s7 (λ(x:By)=>([.s (.str x)]:List PV)) (pcs (b9 p 0 0) t))
 | _,_=>none
def Xp:List PV->Tr
 | [.s (.int .i64 n)]=>.ret (.s (.bool (ptI n))) []
 | _=>.fail
def Tt(args:List PV):Tr:=Xp (B8 [[0]] args)
def Xn:List PV->Tr
 | [.s (.int .i64 d),.s (.int .i64 c),.s (.bool f)]=>.need (ltN d 1152921504606846976) (.need (ltN c 1000000) (.need (ltI (0:Int) c) (.ret (.s (.int .i64 (↑(P5 (b8 d) (b8 c) f):Int))) [])))
 | _=>.fail
def EJ(args:List PV):Tr:=Xn (B8 [[0],[0],[0]] args)
def PX:List PV->Tr
 | [.s (.int .i64 k),.s (.int .i64 b)]=>.need (ltN k 10000000000) (.need (ltN b 1000000) (.ret (.s (.int .i64 (K5 (Int.mul (36:Int) k) b))) []))
 | _=>.fail
def Aj5(args:List PV):Tr:=PX (B8 [[0],[0]] args)
def EK:List PV->Tr
 | [.s (.int .i64 d)]=>.need (ltN d 36) (.ret (.s (.int .u8 (↑(ai2 (Z8 (b8 d))):Int))) [])
 | _=>.fail
def A92(args:List PV):Tr:=EK (B8 [[0]] args)
def QD:List PV->Tr
 | [.s (.int .u8 b)]=>.need (inR b 256) (.ret (.s (.int .i64 (D8 (u8n b)))) [])
 | _=>.fail
def Bz7(args:List PV):Tr:=QD (B8 [[0]] args)
def PM:List PV->Tr
 | [.s (.sl b a 1 p)]=>.need (x3 p Mq) (.ret (.tup [.s (.str ((V0 (s7 elI p))).1),.s (.int .i64 (↑((V0 (s7 elI p))).2:Int))]) [])
 | _=>.fail
def Aj1(args:List PV):Tr:=PM (B8 [[1]] args)
def EU:List PV->Tr
 | [.s (.str s)]=>.need (A3 (a8 s)) (.ret (.tup [.s (.sl (j8 ((M9 s)).1) (j8 ((M9 s)).1) 1 (Lg ((M9 s)).1)),.s (.int .i64 (↑((M9 s)).2:Int))]) [])
 | _=>.fail
def A98(args:List PV):Tr:=EU (B8 [[0]] args)
def EA:List PV->Tr
 | [.s (.str s)]=>.need (A3 (a8 s)) (.ret (.s (.bool (Dc s))) [])
 | _=>.fail
def A89(args:List PV):Tr:=EA (B8 [[0]] args)
def OZ:List PV->Tr
 | [.s (.str s)]=>.need (A3 (a8 s)) (.ret (.s (.bool (K6 s))) [])
 | _=>.fail
def OY(args:List PV):Tr:=OZ (B8 [[0]] args)
def Xy:List PV->Tr
 | [.s (.str s)]=>.need (A3 (a8 s)) (.ret (.s (.bool (j2 (Cr s)))) [])
 | _=>.fail
def WR(args:List PV):Tr:=Xy (B8 [[0]] args)
def Xw:List PV->Tr
 | [.s (.str s)]=>.need (A3 (a8 s)) (.ret (.s (.int .i64 (↑(Lib.runeCountL s):Int))) [])
 | _=>.fail
def WO(args:List PV):Tr:=Xw (B8 [[0]] args)
def OR:List PV->Tr
 | [.s (.str s)]=>.need (A3 (a8 s)) (.ret (.tup [.s (.str ((I5 s)).1),.s (.int .i64 (↑((I5 s)).2:Int))]) [])
 | _=>.fail
def By3(args:List PV):Tr:=OR (B8 [[0]] args)
def PW:List PV->Tr
 | [.s (.str s)]=>.need (A3 (a8 s)) (.ret (.tup [.s (.sl (j8 (Qp s)) (j8 (Qp s)) 1 (Lg (Qp s))),.s (.bool (j2 (Cr s)))]) [])
 | _=>.fail
def Bz2(args:List PV):Tr:=PW (B8 [[0]] args)
def EW:List PV->Tr
 | [.s (.str s)]=>.need (A3 (a8 s)) (.ret (.s (.bool (Dc s))) [])
 | _=>.fail
def Ba0(args:List PV):Tr:=EW (B8 [[0]] args)
def ER:List PV->Tr
 | [.s (.str s)]=>.need (A3 (a8 s)) (.ret (.s (.bool (K6 s))) [])
 | _=>.fail
def PS(args:List PV):Tr:=ER (B8 [[0]] args)
def EQ:List PV->Tr
 | [.s (.str s)]=>.need (A3 (a8 s)) (.ret (.tup [.s (.str ((I5 s)).1),.s (.int .i64 (↑((I5 s)).2:Int))]) [])
 | _=>.fail
def A97(args:List PV):Tr:=EQ (B8 [[0]] args)
def OG:List PV->Tr
 | [.s (.int .u8 b)]=>.need (inR b 256) (.ret (.s (.int .i64 (Eg (u8n b)))) [])
 | _=>.fail
def By0(args:List PV):Tr:=OG (B8 [[0]] args)
def OF:List PV->Tr
 | [.s (.str s)]=>.need (A3 (a8 s)) (.ret (.tup [.s (.str (En s)),.s (.bool (j2 (R2 s)))]) [])
 | _=>.fail
def Bx9(args:List PV):Tr:=OF (B8 [[0]] args)
def DR:List PV->Tr
 | [.s (.str s)]=>.need (A3 (a8 s)) (.need (B50 s) (.ret (.tup [.agg [.s (.int .i64 (↑(B2.kind ((P0 s)).1):Int)),.s (.str (B2.name ((P0 s)).1)),.s (.int .u32 (↑(B2.v4 ((P0 s)).1):Int)),.s (.int .u16 (↑(b9 (B2.v6 ((P0 s)).1) 0 0):Int)),.s (.int .u16 (↑(b9 (B2.v6 ((P0 s)).1) 1 0):Int)),.s (.int .u16 (↑(b9 (B2.v6 ((P0 s)).1) 2 0):Int)),.s (.int .u16 (↑(b9 (B2.v6 ((P0 s)).1) 3 0):Int)),.s (.int .u16 (↑(b9 (B2.v6 ((P0 s)).1) 4 0):Int)),.s (.int .u16 (↑(b9 (B2.v6 ((P0 s)).1) 5 0):Int)),.s (.int .u16 (↑(b9 (B2.v6 ((P0 s)).1) 6 0):Int)),.s (.int .u16 (↑(b9 (B2.v6 ((P0 s)).1) 7 0):Int))],.s (.int .i64 (↑((P0 s)).2:Int))]) []))
 | _=>.fail
def A87(args:List PV):Tr:=DR (B8 [[0]] args)
def Xh:List PV->Tr
 | [.s (.str s)]=>.need (A3 (a8 s)) (.ret (.tup [.agg [.s (.int .i64 (↑(B2.kind ((C6 s)).1):Int)),.s (.str (B2.name ((C6 s)).1)),.s (.int .u32 (↑(B2.v4 ((C6 s)).1):Int)),.s (.int .u16 (↑(b9 (B2.v6 ((C6 s)).1) 0 0):Int)),.s (.int .u16 (↑(b9 (B2.v6 ((C6 s)).1) 1 0):Int)),.s (.int .u16 (↑(b9 (B2.v6 ((C6 s)).1) 2 0):Int)),.s (.int .u16 (↑(b9 (B2.v6 ((C6 s)).1) 3 0):Int)),.s (.int .u16 (↑(b9 (B2.v6 ((C6 s)).1) 4 0):Int)),.s (.int .u16 (↑(b9 (B2.v6 ((C6 s)).1) 5 0):Int)),.s (.int .u16 (↑(b9 (B2.v6 ((C6 s)).1) 6 0):Int)),.s (.int .u16 (↑(b9 (B2.v6 ((C6 s)).1) 7 0):Int))],.s (.int .i64 (↑((C6 s)).2:Int))]) [])
 | _=>.fail
def WJ(args:List PV):Tr:=Xh (B8 [[0]] args)
def Ai2:List PV->Tr
 | [.s (.str s)]=>.need (A3 (a8 s)) (.ret (.s (.bool (Z3 s))) [])
 | _=>.fail
def By2(args:List PV):Tr:=Ai2 (B8 [[0]] args)
def OM:List PV->Tr
 | [.agg [.s (.int .i64 j),.s (.str i),.s (.int .u32 v4),.s (.int .u16 a),.s (.int .u16 b),.s (.int .u16 c),.s (.int .u16 d),.s (.int .u16 e),.s (.int .u16 f),.s (.int .u16 g),.s (.int .u16 h)]]=>.need (A3 (a8 i)) (.need (ltN v4 4294967296) (.need (ok8 a b c d e f g h) (.ret (.s (.bool (M6 (mkH j i v4 (n8 a b c d e f g h))))) [])))
 | _=>.fail
def OL(args:List PV):Tr:=OM (B8 [[0,0,0,0,0,0,0,0,0,0,0]] args)
def OI:List PV->Tr
 | [.agg [.s (.int .i64 j),.s (.str i),.s (.int .u32 v4),.s (.int .u16 a),.s (.int .u16 b),.s (.int .u16 c),.s (.int .u16 d),.s (.int .u16 e),.s (.int .u16 f),.s (.int .u16 g),.s (.int .u16 h)]]=>.need (A3 (a8 i)) (.need (ltN v4 4294967296) (.need (ok8 a b c d e f g h) (.ret (.s (.str (Io (mkH j i v4 (n8 a b c d e f g h))))) [])))
 | _=>.fail
def Ai1(args:List PV):Tr:=OI (B8 [[0,0,0,0,0,0,0,0,0,0,0]] args)
def OE:List PV->Tr
 | [.s (.str p),.s (.str s)]=>.need (A3 (a8 p)) (.need (A3 (a8 s)) (.ret (.s (.bool (Uc p s))) []))
 | _=>.fail
def Bx8(args:List PV):Tr:=OE (B8 [[0],[0]] args)
def Aj2:List PV->Tr
 | [.s (.int .u8 b)]=>.need (inR b 256) (.ret (.s (.int .i64 (Eg (u8n b)))) [])
 | _=>.fail
def C15(args:List PV):Tr:=Aj2 (B8 [[0]] args)
def EM:List PV->Tr
 | [.s (.str s)]=>.need (A3 (a8 s)) (.ret (.tup [.s (.str (En s)),.s (.bool (j2 (R2 s)))]) [])
 | _=>.fail
def A94(args:List PV):Tr:=EM (B8 [[0]] args)
def Ri:List PV->Tr
 | [.s (.str s)]=>.need (A3 (a8 s)) (.ret (.tup [.agg [.s (.int .i64 (↑(B2.kind ((C6 s)).1):Int)),.s (.str (B2.name ((C6 s)).1)),.s (.int .u32 (↑(B2.v4 ((C6 s)).1):Int)),.s (.int .u16 (↑(b9 (B2.v6 ((C6 s)).1) 0 0):Int)),.s (.int .u16 (↑(b9 (B2.v6 ((C6 s)).1) 1 0):Int)),.s (.int .u16 (↑(b9 (B2.v6 ((C6 s)).1) 2 0):Int)),.s (.int .u16 (↑(b9 (B2.v6 ((C6 s)).1) 3 0):Int)),.s (.int .u16 (↑(b9 (B2.v6 ((C6 s)).1) 4 0):Int)),.s (.int .u16 (↑(b9 (B2.v6 ((C6 s)).1) 5 0):Int)),.s (.int .u16 (↑(b9 (B2.v6 ((C6 s)).1) 6 0):Int)),.s (.int .u16 (↑(b9 (B2.v6 ((C6 s)).1) 7 0):Int))],.s (.int .i64 (↑((C6 s)).2:Int))]) [])
 | _=>.fail
def KX(args:List PV):Tr:=Ri (B8 [[0]] args)
def PP:List PV->Tr
 | [.s (.str s)]=>.need (A3 (a8 s)) (.ret (.s (.bool (Z3 s))) [])
 | _=>.fail
def Bz1(args:List PV):Tr:=PP (B8 [[0]] args)
def EP:List PV->Tr
 | [.agg [.s (.int .i64 j),.s (.str i),.s (.int .u32 v4),.s (.int .u16 a),.s (.int .u16 b),.s (.int .u16 c),.s (.int .u16 d),.s (.int .u16 e),.s (.int .u16 f),.s (.int .u16 g),.s (.int .u16 h)]]=>.need (A3 (a8 i)) (.need (ltN v4 4294967296) (.need (ok8 a b c d e f g h) (.ret (.s (.bool (M6 (mkH j i v4 (n8 a b c d e f g h))))) [])))
 | _=>.fail
def PO(args:List PV):Tr:=EP (B8 [[0,0,0,0,0,0,0,0,0,0,0]] args)
def EO:List PV->Tr
 | [.agg [.s (.int .i64 j),.s (.str i),.s (.int .u32 v4),.s (.int .u16 a),.s (.int .u16 b),.s (.int .u16 c),.s (.int .u16 d),.s (.int .u16 e),.s (.int .u16 f),.s (.int .u16 g),.s (.int .u16 h)]]=>.need (A3 (a8 i)) (.need (ltN v4 4294967296) (.need (ok8 a b c d e f g h) (.ret (.s (.str (Io (mkH j i v4 (n8 a b c d e f g h))))) [])))
 | _=>.fail
def A96(args:List PV):Tr:=EO (B8 [[0,0,0,0,0,0,0,0,0,0,0]] args)
def Xj:List PV->Tr
 | [.s (.int .i64 n),.s (.sl b a 1 l)]=>.need (x3 l isS) (.need (A3 (a8 l)) (.ret (.s (.bool (Lz n (s7 elS l)))) []))
 | _=>.fail
def DX(args:List PV):Tr:=Xj (B8 [[0],[1]] args)
end
section
variable {Z R : Type} (Y : Nat) (W : G1) (Q : Yh Z) (s : Z) (k : Out -> St Z -> Option R)
noncomputable def RL(Y:Nat):Cfg:=B4 Y [125] (A2 []) [] (A2 [(1,[6]),(0,[3,0,0])]) [] (A2 []) (some [6]) [] [] []
noncomputable def B57{R:Type}(Y:Nat)(d b:By)(a:Int)(c:By->By->Int->Option R):Option R:=c d b a
theorem B58(d:Nat)(a sep1 sepSave2):evC (RL Y) (d+1) Z Q 125 [pS a,pS sep1,pI sepSave2] [] s=B57 Y a sep1 sepSave2 (λa c b=>some (.fnr (z7 152) [] [.ptr 1 0 0,.ptr 0 0 0,.ptr 2 0 0],[.box [pS a],.box [pS c],.box [pI b]],s)):=by refine(evE (fn:=Tryz.f125) (by kernel_rfl)).trans ?_;generalize evC (RL Y) d=W;unfold B57;kernel_rfl
noncomputable def An2(Y:Nat):Cfg:=B4 Y [91] (A2 []) [(125,OW)] (A2 [(1,[4]),(0,[0,0])]) [] (A2 []) (some [4]) [] [] []
noncomputable def C72{R:Type}(Y:Nat)(c a:By)(b:By->By->Option R):Option R:=b c a
theorem Cw3(d:Nat)(a sep1):evC (An2 Y) (d+1) Z Q 91 [pS a,pS sep1] [] s=C72 Y a sep1 (λa b=>some (.fnr (z7 152) [] [.ptr 1 0 0,.ptr 0 0 0,.ptr 2 0 0],[.box [pS a],.box [pS b],.box [pI (0:Int)]],s)):=by refine(evE (fn:=Tryz.f91) (by kernel_rfl)).trans ?_;generalize evC (An2 Y) d=W;unfold C72;kernel_rfl
noncomputable abbrev LG:Code:=C3 af6
noncomputable def Nr(Y:Nat):Cfg:=B4 Y [64] (A2 []) [(90,Pc),(91,Aj8),(92,OY)] (A2 [(7,[2]),(6,[2]),(5,[2,13]),(4,[2,0]),(3,[2,9]),(2,[2]),(1,[0,1,7]),(0,[0,1])]) [90,92] (A2 [(0,[2]),(1,[2])]) (some [2]) [] [(152,CN)] []
noncomputable def CV{R:Type}(Y:Nat)(a:By)(xs:List By)(self:Unit->Option R)(c:Unit->Option R)(b:Unit->Option R):Option R:=cond (A3 a.length) (cond (not (K6 a)) (b ()) (self ())) none
noncomputable def HG{R:Type}(Y:Nat)(L:List By)(b:Unit->Option R)(c:Unit->Option R):Option R:=De0 (α:=Unit->Option R) (λ_=>b ()) (λa xs self _=>CV Y a xs self  b c) L ()
theorem YI{R:Type}(Y:Nat)(a:By)(xs:List By)(b:Unit->Option R)(c:Unit->Option R):HG Y (a::xs)  b c=CV Y a xs (λ_=>HG Y xs  b c)  b c:=rfl
theorem Bl3(L:List By):Ag #[13] (gp [(2,.ptr 0 0 0),(9,.fnr (z7 152) [] [.bad,.bad,.bad])] 4) (bd (Nr Y) W Q (cd [1,1,0,1,0,0] LG)) (bd (Nr Y) W Q (cd [1,1,0,1,0,1] LG)) (L.map (λ(a:By)=>([pS a]:List PV))) [.box [pB false],.dead,.dead,.dead] s (rgK (gp [(2,.ptr 0 0 0),(9,.fnr (z7 152) [] [.bad,.bad,.bad])] 4) (λH=>Am H [2,1,3] [.box [.bad],.box [.bad],.box [.bad]]) k) =
 HG Y L  (λ_=>k .normal ⟨gp [(2,.ptr 0 0 0),(9,.fnr (z7 152) [] [.bad,.bad,.bad])] 4,[.box [pB false],.box [.bad],.box [.bad],.box [.bad]],s⟩) (λ_=>k .ret ⟨gp [(2,.ptr 0 0 0),(9,.fnr (z7 152) [] [.bad,.bad,.bad])] 4,[.box [pB false],.box [.bad],.box [.bad],.box [.bad]],s⟩):=by
 induction L with
 | nil=>rfl
 | cons a xs b=>rw[YI];unfold CV;exact(j1 (by kernel_rfl) (A0 (A0 rfl b) rfl))
noncomputable def ST{R:Type}(Y:Nat)(a:By)(b:Unit->Option R)(c:Unit->Option R):Option R:=cond ((A3 a.length)&&((1==1)&&((0:Int)==0))) (HG Y (pcs (b9 ([46]:List UInt8) 0 0) a)  b c) none
abbrev YH(b:Code):Prop:=∀(k:Out->St Z->Option R) s0,A9 (Nr Y) W Q b ⟨gp [(2,.ptr 0 0 0),(9,.fnr (z7 152) [] [.ptr 2 0 0,.ptr 1 0 0,.ptr 3 0 0])] 4,[.box [pB false],.box [pS s0],.box [pS ([46]:List UInt8)],.box [pI (0:Int)]],s⟩ k=ST Y s0 (λ_=>k .normal ⟨gp [(2,.ptr 0 0 0),(9,.fnr (z7 152) [] [.bad,.bad,.bad])] 4,[.box [pB false],.box [.bad],.box [.bad],.box [.bad]],s⟩) (λ_=>k .ret ⟨gp [(2,.ptr 0 0 0),(9,.fnr (z7 152) [] [.bad,.bad,.bad])] 4,[.box [pB false],.box [.bad],.box [.bad],.box [.bad]],s⟩)
theorem Bl2:YH (R:=R) Y W Q s (cd [1,1,0,1,0] LG):=by intro k a;unfold ST;exact((Dc8 [1,1,0,1,0] (by kernel_rfl)).trans (by kernel_rfl)).trans (At2 (Bl3 Y W Q s k (pcs (b9 ([46]:List UInt8) 0 0) a) ))
noncomputable def hvn{R:Type}(Y:Nat)(a:By)(b:Unit->Option R)(c:Bool->Bool->Option R):Option R:=cond (ltI 253 (a.length:Int)) (b ()) (cond (A3 a.length) (cond (G0 a) (b ()) (ST Y a (λ_=>c true true) (λ_=>c false false))) none)
theorem C51(a:Code)(c:YH (R:=PV × List Blk × Z) Y W Q s a)(b:By):A9 (Nr Y) W Q (cd [] (G4 [1,1,0,1,0] a LG)) ⟨[pS b]++tps 16,[],s⟩ (F2 (Nr Y) af6)=hvn Y b (λ_=>some (pB false,[.box [pB false]],s)) (λe d=>some (pB e,[.box [pB d],.box [.bad],.box [.bad],.box [.bad]],s)):=by unfold hvn;exact(j1 (by kernel_rfl) (A0 rfl (A0 (A0 rfl ((c (E2 0 (D9 (Nr Y) W Q (cd [1,1,1] LG) (F2 (Nr Y) af6))) b).trans (by kernel_rfl))) rfl)))
theorem C52(d:Nat)(name0):evC (Nr Y) (d+1) Z Q 64 [pS name0] [] s=hvn Y name0 (λ_=>some (pB false,[.box [pB false]],s)) (λb a=>some (pB b,[.box [pB a],.box [.bad],.box [.bad],.box [.bad]],s)):=
 (evE (fn:=af6) (by kernel_rfl)).trans (j1 (by kernel_rfl) (C51 Y (evC (Nr Y) d) Q s (cd [1,1,0,1,0] LG) (Bl2 Y (evC (Nr Y) d) Q s) name0))
noncomputable abbrev Tx:Code:=C3 ae4
noncomputable def Ad(Y:Nat):Cfg:=B4 Y [152] (A2 [(5,[0,0,0,0]),(1,[0,1])]) [(153,Ts),(154,FF)] (A2 [(10,[]),(9,[0,0,0,0]),(8,[0,0,0,0,3,34]),(7,[0,0,0,0,3,0]),(6,[0,0,0,0,3,25]),(5,[0,0,0,0,3]),(4,[0,1]),(3,[0,1,3,18]),(2,[0,1,3]),(1,[0,1,11]),(0,[0,0,0,0,7])]) [154] (A2 [(2,[0,1]),(3,[0,0,0,0]),(0,[]),(1,[0,1])]) (some []) [] [] []
noncomputable def JH{Z R:Type}(Q:Yh Z)(Y n:Nat)(d a:By)(c:Int)(s:Z)(b:By->By->Int->Z->Option R):Option R:=match n with|0=>none|n+1=>cond (ltI 0 (a.length:Int)) none (b d a c s)
theorem Af1(n:Nat)(b c:By)(a:Int)(s:Z):C4 3 ((Ad Y).keep 1) (bd (Ad Y) W Q (cd [0,1,0,0,0,0] Tx)) n ⟨gp [(0,.yd),(1,.ptr 1 0 0)] 49,[.box [pS b],.box [pS c],.box [pI a]],s⟩ k =
 JH Q Y n b c a s (λb c a s=>k (.exit 0) ⟨gp [] 52,[.box [pS b],.box [pS c],.box [pI a]],s⟩):=by
 induction n generalizing b c a s with
 | zero=>rfl
 | succ n d=>rw[JH];kernel_rfl
noncomputable def S7{Z R:Type}(Q:Yh Z)(Y n:Nat)(c a:By)(g:Int)(s:Z)(i:By->By->Int->Z->Option R)(j:By->By->Int->Z->Option R):Option R:=match n with
 | 0=>none
 | n+1=>
  cond (A3 a.length)
   (cond (ltI (y5 a c) (0:Int))
   (i c a g s)
   (vl (A1 ((y5 a c)+g)) λe=>
    cond (I2 0 e a.length)
    (ydK (Q [pS (cut a 0 e)] s) λd b=>
     (cond (not d)
     (j c a g b)
     (vl (A1 ((y5 a c)+(c.length:Int))) λf=>
      cond (I2 f (a.length:Int) a.length)
      (vl (cut a f (a.length:Int)) λh=>
       S7 Q Y n c h g b i j)
      none)))
    none))
   none
theorem Af2(n:Nat)(b c:By)(a:Int)(s:Z):C4 3 ((Ad Y).keep 5) (bd (Ad Y) W Q (cd [1,0,0,0] Tx)) n ⟨gp [(0,.yd),(0,.ptr 0 0 0),(0,.ptr 1 0 0),(0,.ptr 2 0 0)] 48,[.box [pS b],.box [pS c],.box [pI a]],s⟩ k =
 S7 Q Y n b c a s (λb c a s=>k (.exit 2) ⟨gp [(0,.yd),(1,.ptr 1 0 0)] 49,[.box [pS b],.box [pS c],.box [pI a]],s⟩) (λb c a s=>k .ret ⟨gp [] 52,[.box [pS b],.box [pS c],.box [pI a]],s⟩):=by
 induction n generalizing b c a s with
 | zero=>rfl
 | succ n d=>rw[S7];simp only[<-d];kernel_rfl
noncomputable def Af0{Z R:Type}(Q:Yh Z)(Y:Nat)(p t:By)(n:Int)(s:Z)(j:By->By->Int->Z->Option R):Option R:=
 cond ((p.length:Int)==0)
 (JH Q Y Y p t n s (λm o l q=>j m o l q))
 (S7 Q Y Y p t n s (λr a c e=>ydK (Q [pS a] e) λi b=>
  (j r a c b)) (λf g d h=>j f g d h))
theorem Cd1(d:Nat)(p t n s):evC (Ad Y) (d+1) Z Q 152 [.yd,.ptr 0 0 0,.ptr 1 0 0,.ptr 2 0 0] [.box [pS p],.box [pS t],.box [pI n]] s=Af0 Q Y p t n s (λb c a s=>some (.tup [],[.box [pS b],.box [pS c],.box [pI a]],s)):=by refine(evE (fn:=ae4) (by kernel_rfl)).trans ?_;generalize evC (Ad Y) d=W;unfold Af0;exact(j1 (by kernel_rfl) (A0 ((Af1 Y W Q (E2 0 (D9 (Ad Y) W Q (cd [0,1,0,1] Tx) (D9 (Ad Y) W Q (cd [1] Tx) (F2 (Ad Y) ae4)))) Y p t n s).trans (by kernel_rfl)) ((Af2 Y W Q (E2 2 (D9 (Ad Y) W Q (cd [1,1] Tx) (F2 (Ad Y) ae4))) Y p t n s).trans (by kernel_rfl))))
end
section
variable {Z R : Type} (L : Nat) (Q : G1) (Y : Yh Z) (s : Z) (k : Out -> St Z -> Option R)
noncomputable abbrev Ca:Code:=C3 ae6
noncomputable def Y6(L:Nat):Cfg:=B4 L [179] (A2 [(5,[0,1,0,0,10,0])]) [] (A2 [(16,[2,0]),(15,[0,3,10,0]),(10,[0,3,10,0]),(12,[0,3,10,0]),(14,[0,3,10,0]),(8,[2,0]),(13,[0,3,1,8,0,32]),(11,[0,3,1,8,0,18]),(9,[0,3,1,8,0,5]),(7,[0,3,1,8,0]),(6,[0,3,0,9,0]),(5,[0,3,10,0,0]),(4,[0,3,10,0]),(3,[0,3]),(2,[2,0]),(1,[0,12]),(0,[0])]) [] (A2 [(0,[4]),(1,[0,3,10,0]),(2,[0,3,10,0])]) (some [2,0]) [] [] []
noncomputable def Ur{R:Type}(i:By)(v1 c g h:Int)(d:Bool)(e:By->Int->Int->Int->Option R)(f:Unit->Option R):Option R:=cond d (vl (wu8 ((wu8 (c-65))+10)) λa=>vl (bOr .u16 (Qq .u16 v1 (4:Int)) (Cx a)) λb=>e i b g h) (f ())
abbrev MC(b:Code):Prop:=∀(k:Out->St Z->Option R) c v1 b2 a n4 b5,A9 (Y6 L) Q Y b ⟨gp [(0,pS c),(3,p16 v1),(1,p8 b2),(8,pI a),(0,pI n4),(32,pB b5)] 15,[],s⟩ k=Ur c v1 b2 a n4 b5 (λc v1 d a=>k .normal ⟨gp [(0,pS c),(3,p16 v1),(10,pI d),(0,pI a)] 48,[],s⟩) (λ_=>k .ret ⟨gp [(2,p16 (0:Int)),(0,pB false)] 61,[],s⟩)
theorem Ap6:MC (R:=R) L Q Y s (cd [1,1,1,0,1,0,0,1,1,0,0,1,1,0,1,1,1,1,1] Ca):=by intro k e v1 a c d b;unfold Ur;kernel_rfl
noncomputable def Ut{R:Type}(o:By)(v1 a l m:Int)(r:Bool)(f:By->Int->Int->Int->Option R)(q:Unit->Option R):Option R:=cond r (vl (wu8 ((wu8 (a-97))+10)) λg=>vl (bOr .u16 (Qq .u16 v1 (4:Int)) (Cx g)) λh=>f o h l m) (cond (not (ltI a 65)) (Ur o v1 a l m (not (ltI 70 a)) (λn p i j=>f n p i j) (λ_=>q ())) (Ur o v1 a l m false (λd e b c=>f d e b c) (λ_=>q ())))
abbrev Za(b:Code):Prop:=∀(k:Out->St Z->Option R) c v1 b2 a n4 b5,A9 (Y6 L) Q Y b ⟨gp [(0,pS c),(3,p16 v1),(1,p8 b2),(8,pI a),(0,pI n4),(18,pB b5)] 29,[],s⟩ k=Ut c v1 b2 a n4 b5 (λc v1 d a=>k .normal ⟨gp [(0,pS c),(3,p16 v1),(10,pI d),(0,pI a)] 48,[],s⟩) (λ_=>k .ret ⟨gp [(2,p16 (0:Int)),(0,pB false)] 61,[],s⟩)
theorem Ap7(a:Code)(b:MC (R:=R) L Q Y s a):Za (R:=R) L Q Y s (cd [1,1,1,0,1,0,0,1,1,0,0,1,1,0,1,1,1] (G4 [1,1,1,0,1,0,0,1,1,0,0,1,1,0,1,1,1,1,1] a Ca)):=by intro k g v1 c e f d;unfold Ut;simp only[<-b k];kernel_rfl
theorem Ap8:Za (R:=R) L Q Y s (cd [1,1,1,0,1,0,0,1,1,0,0,1,1,0,1,1,1] Ca):=by intro k e v1 a c d b;exact j1 (by kernel_rfl) (Ap7 L Q Y s (cd [1,1,1,0,1,0,0,1,1,0,0,1,1,0,1,1,1,1,1] Ca) (Ap6 L Q Y s) k e v1 a c d b)
noncomputable def Uu{R:Type}(p:By)(v1 a n o:Int)(r:Bool)(j:By->Int->Int->Int->Option R)(q:Unit->Option R):Option R:=cond r (vl (Cx (wu8 (a-48))) λl=>vl (bOr .u16 (Qq .u16 v1 (4:Int)) l) λm=>j p m n o) (cond (not (ltI a 97)) (Ut p v1 a n o (not (ltI 102 a)) (λf h b c=>j f h b c) (λ_=>q ())) (Ut p v1 a n o false (λg i d e=>j g i d e) (λ_=>q ())))
abbrev Pq(b:Code):Prop:=∀(k:Out->St Z->Option R) c v1 b2 a n4 b5,A9 (Y6 L) Q Y b ⟨gp [(0,pS c),(3,p16 v1),(1,p8 b2),(8,pI a),(0,pI n4),(5,pB b5)] 42,[],s⟩ k=Uu c v1 b2 a n4 b5 (λc v1 d a=>k .normal ⟨gp [(0,pS c),(3,p16 v1),(10,pI d),(0,pI a)] 48,[],s⟩) (λ_=>k .ret ⟨gp [(2,p16 (0:Int)),(0,pB false)] 61,[],s⟩)
theorem Ap9(a:Code)(b:Za (R:=R) L Q Y s a):Pq (R:=R) L Q Y s (cd [1,1,1,0,1,0,0,1,1,0,0,1,1,0,1] (G4 [1,1,1,0,1,0,0,1,1,0,0,1,1,0,1,1,1] a Ca)):=by intro k g v1 c e f d;unfold Uu;simp only[<-b k];kernel_rfl
theorem Aq0:Pq (R:=R) L Q Y s (cd [1,1,1,0,1,0,0,1,1,0,0,1,1,0,1] Ca):=by intro k e v1 a c d b;exact j1 (by kernel_rfl) (Ap9 L Q Y s (cd [1,1,1,0,1,0,0,1,1,0,0,1,1,0,1,1,1] Ca) (Ap8 L Q Y s) k e v1 a c d b)
noncomputable def Ei{R:Type}(L n:Nat)(b:By)(v1 q a:Int)(o:Unit->Option R)(p:Int->Option R):Option R:=match n with|0=>none|n+1=>cond (ltI a q) (cond (inR a b.length) (cond (not (ltI (bAt b a) (48:Int))) (Uu b v1 (bAt b a) q a (not (ltI 57 (bAt b a))) (λi l c d=>vl (A1 (d+1)) λe=>Ei L n i l c e o p) (λ_=>o ())) (Uu b v1 (bAt b a) q a false (λj m f g=>vl (A1 (g+1)) λh=>Ei L n j m f h o p) (λ_=>o ()))) none) (p v1)
theorem Aq1(a:Code)(b:Pq (R:=R) L Q Y s a)(n:Nat)(d:By)(v1 i c:Int):C4 0 ((Y6 L).keep 5) (bd (Y6 L) Q Y (cd [1,1,1,0,1,0,0] (G4 [1,1,1,0,1,0,0,1,1,0,0,1,1,0,1] a Ca))) n ⟨gp [(0,pS d),(3,p16 v1),(10,pI i),(0,pI c)] 48,[],s⟩ k =
 Ei L n d v1 i c (λ_=>k .ret ⟨gp [(2,p16 (0:Int)),(0,pB false)] 61,[],s⟩) (λv0=>k (.exit 0) ⟨gp [(4,p16 v0)] 60,[],s⟩):=by
 induction n generalizing d v1 i c with
 | zero=>rfl
 | succ n q=>rw[Ei];exact let p:=(E2 2 (E2 1 (D9 (Y6 L) Q Y (cd [1,1,1,0,1,0,0,1,1,1] Ca) (lpK 0 ((Y6 L).keep 5) (bd (Y6 L) Q Y (cd [1,1,1,0,1,0,0] (G4 [1,1,1,0,1,0,0,1,1,0,0,1,1,0,1] a Ca))) n k))));(j1 (by kernel_rfl) (A0 (A0 (A0 ((b p d v1 (bAt d c) i c (not (ltI 57 (bAt d c)))).trans (congr (congr rfl (fx4 λj m e r=>(j1 (by kernel_rfl) (A4 λf=>(q j m e f))))) (by kernel_rfl))) ((b p d v1 (bAt d c) i c false).trans (congr (congr rfl (fx4 λl o g t=>(j1 (by kernel_rfl) (A4 λh=>(q l o g h))))) (by kernel_rfl)))) rfl) rfl))
noncomputable def B40{R:Type}(L:Nat)(c:By)(b:Int->Bool->Option R):Option R:=cond (c==[]) (b 0 false) (cond (ltI 4 (c.length:Int)) (b 0 false) (Ei L L c 0 (c.length:Int) 0 (λ_=>b 0 false) (λa=>b a true)))
theorem Cn1(a:Code)(b:Pq (R:=PV × List Blk × Z) L Q Y s a)(c:By):A9 (Y6 L) Q Y (cd [] (G4 [1,1,1,0,1,0,0,1,1,0,0,1,1,0,1] a Ca)) ⟨[pS c]++tps 64,[],s⟩ (F2 (Y6 L) ae6)=B40 L c (λd e=>some (.tup [p16 d,pB e],[],s)):=by unfold B40;exact(j1 (by kernel_rfl) (A0 rfl (A0 rfl ((Aq1 L Q Y s (E2 0 (D9 (Y6 L) Q Y (cd [1,1,1,1] Ca) (F2 (Y6 L) ae6))) a b L c 0 (c.length:Int) 0).trans (by kernel_rfl)))))
theorem Cn2(d:Nat)(s0):evC (Y6 L) (d+1) Z Y 179 [pS s0] [] s=B40 L s0 (λa b=>some (.tup [p16 a,pB b],[],s)):=
 (evE (fn:=ae6) (by kernel_rfl)).trans (j1 (by kernel_rfl) (Cn1 L (evC (Y6 L) d) Y s (cd [1,1,1,0,1,0,0,1,1,0,0,1,1,0,1] Ca) (Aq0 L (evC (Y6 L) d) Y s) s0))
noncomputable abbrev Ba9:Code:=C3 ag5
noncomputable def Ko(L:Nat):Cfg:=B4 L [164] (A2 [(6,[1,2,0,0,0,10,0,0])]) [(109,Tv),(179,Bx7),(180,C17)] (A2 [(16,[4,0]),(15,[1,4,0,10,0,0]),(14,[6]),(13,[4,0]),(12,[6,5,39]),(11,[1,4,0,0,3,0]),(10,[1,4,0,10,0,0]),(9,[1,4,0,0,0,0,7,0,0,9]),(8,[1,4,0,0,0,0,0,6,0,0]),(7,[1,4,0,0,0,8,0,0]),(6,[1,4,0,10,0,0,0]),(5,[1,4,0,10,0,0]),(4,[1,4,0]),(3,[0,0,4]),(2,[4,0]),(1,[0,0,13]),(0,[0,0])]) [179,180] (A2 [(0,[6]),(1,[1,4,0,10,0,0])]) (some [4,0]) [] [] []
noncomputable def Dl{R:Type}(L n:Nat)(a:Bool)(c:LL)(l b:Int)(d:LL)(f:LL->Option R)(g:LL->Option R):Option R:=match n with|0=>none|n+1=>cond (ltI b l) (cond (inR b c.length) (cond (okE Oq c (b8 b) 0) (cond (A3 (a8 (gX c (b8 b) 0))) (vl (↑(M3 (grp (gX c (b8 b) 0))):Int) λh=>cond (j2 (grp (gX c (b8 b) 0))) (cond (F7 (d.length+1)) (Dl L n a c l (A1 (b+1)) (d++[[(SV.int .u16 h)]]) f g) none) (cond (A3 (a8 (gX c (b8 b) 0))) (vl (↑(M3 (v4B (gX c (b8 b) 0))):Int) λe=>cond (not (j2 (v4B (gX c (b8 b) 0)))) (f d) (cond (not a) (f d) (vl (A1 ((c.length:Int)-1)) λi=>cond (ltI b i) (f d) (vl (On .u32 e (16:Int)) λj=>cond (F7 (d.length+2)) (g (d++[[(SV.int .u16 (Cx j))],[(SV.int .u16 (Cx e))]])) none)))) none)) none) none) none) (g d)
theorem YD(n last0 l1 n2 n3 l4):C4 1 ((Ko L).keep 6) (bd (Ko L) Q Y (cd [1,0,1,1,1,1,0,1,0,0] Ba9)) n ⟨gp [(1,pB last0),(4,.fl 0),(0,.s (.sl false false 1 l1)),(10,.s (.sl false false 1 l1)),(0,pI n2),(0,pI n3)] 42,[.arr true 24 1 l4],s⟩ k =
 Dl L n last0 l1 n2 n3 l4 (λa=>k .ret ⟨gp [(4,.fl 1),(0,pB false)] 57,[.arr true 24 1 a,.arr true 24 1 []],s⟩) (λa=>k (.exit 0) ⟨gp [(6,.fl 0)] 56,[.arr true 24 1 a],s⟩):=by
 induction n generalizing last0 l1 n2 n3 l4 with
 | zero=>rfl
 | succ n b=>rw[Dl];simp only[<-b];kernel_rfl
noncomputable def Bc4{R:Type}(L:Nat)(e:By)(a:Bool)(f:LL->Option R)(g:LL->Option R):Option R:=cond (e==[]) (f []) (cond (A3 e.length) (cond (1==1) (vl (D4 (pcs (b9 ([58]:List UInt8) 0 0) e)) λb=>Dl L L a b (b.length:Int) 0 [] (λd=>g d) (λc=>f c)) none) none)
theorem B41(d:Nat)(s0 last1):evC (Ko L) (d+1) Z Y 164 [pS s0,pB last1] [] s=Bc4 L s0 last1 (λb=>some (.tup [.fl 0,pB true],[.arr true 24 1 b],s)) (λb=>some (.tup [.fl 1,pB false],[.arr true 24 1 b,.arr true 24 1 []],s)):=by refine(evE (fn:=ag5) (by kernel_rfl)).trans ?_;generalize evC (Ko L) d=Q;unfold Bc4;exact(j1 (by kernel_rfl) (A0 rfl (A0 (A0 (A4 λa=>((YD L Q Y s (E2 0 (D9 (Ko L) Q Y (cd [1,0,1,1,1,1,1] Ba9) (F2 (Ko L) ag5))) L last1 a (a.length:Int) 0 []).trans (by kernel_rfl))) rfl) rfl)))
noncomputable abbrev B16:Code:=C3 ae1
noncomputable def AN(L:Nat):Cfg:=B4 L [135] (A2 []) [(54,Aj7),(164,A86)] (A2 [(10,[2,0]),(9,[2,1]),(8,[2,1,5]),(7,[2,0]),(6,[2,1,3,1,45]),(5,[2,1,2,0,0,0,0,0]),(4,[2,1,2,0,0,0,0]),(3,[2,1,1,0,0,0]),(2,[2,1,0,0,0]),(1,[0,1,1]),(0,[0,1])]) [54] (A2 []) (some [2,0]) [] [] []
noncomputable def Ox{R:Type}(p o d:LL)(q:LL->LL->Option R):Option R:=cond (decide (d.length=8)) (cond (decide (8<=d.length)) (vl ((y7 0 d)++((y7 8 p)++(ad0 (0+(min p.length 8)) d))) λc=>vl (A1 ((8:Int)-(o.length:Int))) λb=>cond (decide (c.length=8)) (cond (I2 b (8:Int) 8) (cond (decide (((b8 b)+(8-(b8 b)))<=c.length)) (vl ((y7 (b8 b) c)++((y7 (8-(b8 b)) o)++(ad0 ((b8 b)+(min o.length (8-(b8 b)))) c))) λa=>cond ((decide (8=(a.length*1)))&&(okS ⟨true,true,[.int .u16,.int .u16,.int .u16,.int .u16,.int .u16,.int .u16,.int .u16,.int .u16]⟩ (c9 a) 0)) (vl (SV.gI (b9 (c9 a) 0 SV.nilp)) λf=>vl (SV.gI (b9 (c9 a) 1 SV.nilp)) λg=>vl (SV.gI (b9 (c9 a) 2 SV.nilp)) λh=>vl (SV.gI (b9 (c9 a) 3 SV.nilp)) λi=>vl (SV.gI (b9 (c9 a) 4 SV.nilp)) λj=>vl (SV.gI (b9 (c9 a) 5 SV.nilp)) λl=>vl (SV.gI (b9 (c9 a) 6 SV.nilp)) λm=>vl (SV.gI (b9 (c9 a) 7 SV.nilp)) λn=>cond (decide (8=(d.length*1))) (vl (R8 1 d.length [(SV.int .u16 f),(SV.int .u16 g),(SV.int .u16 h),(SV.int .u16 i),(SV.int .u16 j),(SV.int .u16 l),(SV.int .u16 m),(SV.int .u16 n)]) λe=>q e a) none) none) none) none) none) none) none
abbrev Ag3(b:Code):Prop:=∀(k:Out->St Z->Option R) x_z0 x1 y_z2 y3 b4 l5,A9 (AN L) Q Y b ⟨gp [(2,.ptr 0 0 0),(1,.ptr 1 0 0),(3,.s (.sl x_z0 x_z0 1 x1)),(1,.s (.sl y_z2 y_z2 1 y3)),(45,pB b4)] 11,[.arr false 25 1 l5,.arr false 25 1 l5],s⟩ k=Ox x1 y3 l5 (λa c=>k .ret ⟨gp [(2,.ptr 0 0 0),(0,pB true)] 64,[.arr false 25 1 a,.arr false 25 1 c],s⟩)
theorem Bw0:Ag3 (R:=R) L Q Y s (cd [1,1,1,1,1,1,1] B16):=by intro k a e b f c d;unfold Ox;kernel_rfl
noncomputable def v6p{R:Type}(L:Nat)(h:By)(g:Int->Int->Int->Int->Int->Int->Int->Int->Bool->LL->LL->Option R):Option R:=cond (A3 h.length) (vl ((w9 h ([58,58]:List UInt8))).1 λj=>vl (((w9 h ([58,58]:List UInt8))).2).1 λe=>cond (A3 j.length) (vl (C8 (gvs j (not (((w9 h ([58,58]:List UInt8))).2).2))) λf=>cond (A3 e.length) (vl (A1 ((f.length:Int)+(↑(a8 (C8 (gvs e true))):Int))) λi=>cond (not (j2 (P2 j (not (((w9 h ([58,58]:List UInt8))).2).2)))) (g 0 0 0 0 0 0 0 0 false (j0 8 [(SV.int .u16 (0:Int))]) (j0 8 [(SV.int .u16 (0:Int))])) (cond (not (j2 (P2 e true))) (g 0 0 0 0 0 0 0 0 false (j0 8 [(SV.int .u16 (0:Int))]) (j0 8 [(SV.int .u16 (0:Int))])) (cond (not (((w9 h ([58,58]:List UInt8))).2).2) (cond (i !=8) (g 0 0 0 0 0 0 0 0 false (j0 8 [(SV.int .u16 (0:Int))]) (j0 8 [(SV.int .u16 (0:Int))])) (cond (((w9 h ([58,58]:List UInt8))).2).2 (cond (ltI 7 i) (g 0 0 0 0 0 0 0 0 false (j0 8 [(SV.int .u16 (0:Int))]) (j0 8 [(SV.int .u16 (0:Int))])) (Ox f (C8 (gvs e true)) (j0 8 [(SV.int .u16 (0:Int))]) (λa l=>cond ((decide (8=(a.length*1)))&&(okS ⟨true,true,[.int .u16,.int .u16,.int .u16,.int .u16,.int .u16,.int .u16,.int .u16,.int .u16]⟩ (c9 a) 0)) (g (SV.gI (b9 (c9 a) 0 SV.nilp)) (SV.gI (b9 (c9 a) 1 SV.nilp)) (SV.gI (b9 (c9 a) 2 SV.nilp)) (SV.gI (b9 (c9 a) 3 SV.nilp)) (SV.gI (b9 (c9 a) 4 SV.nilp)) (SV.gI (b9 (c9 a) 5 SV.nilp)) (SV.gI (b9 (c9 a) 6 SV.nilp)) (SV.gI (b9 (c9 a) 7 SV.nilp)) true a l) none))) (Ox f (C8 (gvs e true)) (j0 8 [(SV.int .u16 (0:Int))]) (λb m=>cond ((decide (8=(b.length*1)))&&(okS ⟨true,true,[.int .u16,.int .u16,.int .u16,.int .u16,.int .u16,.int .u16,.int .u16,.int .u16]⟩ (c9 b) 0)) (g (SV.gI (b9 (c9 b) 0 SV.nilp)) (SV.gI (b9 (c9 b) 1 SV.nilp)) (SV.gI (b9 (c9 b) 2 SV.nilp)) (SV.gI (b9 (c9 b) 3 SV.nilp)) (SV.gI (b9 (c9 b) 4 SV.nilp)) (SV.gI (b9 (c9 b) 5 SV.nilp)) (SV.gI (b9 (c9 b) 6 SV.nilp)) (SV.gI (b9 (c9 b) 7 SV.nilp)) true b m) none)))) (cond (((w9 h ([58,58]:List UInt8))).2).2 (cond (ltI 7 i) (g 0 0 0 0 0 0 0 0 false (j0 8 [(SV.int .u16 (0:Int))]) (j0 8 [(SV.int .u16 (0:Int))])) (Ox f (C8 (gvs e true)) (j0 8 [(SV.int .u16 (0:Int))]) (λc n=>cond ((decide (8=(c.length*1)))&&(okS ⟨true,true,[.int .u16,.int .u16,.int .u16,.int .u16,.int .u16,.int .u16,.int .u16,.int .u16]⟩ (c9 c) 0)) (g (SV.gI (b9 (c9 c) 0 SV.nilp)) (SV.gI (b9 (c9 c) 1 SV.nilp)) (SV.gI (b9 (c9 c) 2 SV.nilp)) (SV.gI (b9 (c9 c) 3 SV.nilp)) (SV.gI (b9 (c9 c) 4 SV.nilp)) (SV.gI (b9 (c9 c) 5 SV.nilp)) (SV.gI (b9 (c9 c) 6 SV.nilp)) (SV.gI (b9 (c9 c) 7 SV.nilp)) true c n) none))) (Ox f (C8 (gvs e true)) (j0 8 [(SV.int .u16 (0:Int))]) (λd o=>cond ((decide (8=(d.length*1)))&&(okS ⟨true,true,[.int .u16,.int .u16,.int .u16,.int .u16,.int .u16,.int .u16,.int .u16,.int .u16]⟩ (c9 d) 0)) (g (SV.gI (b9 (c9 d) 0 SV.nilp)) (SV.gI (b9 (c9 d) 1 SV.nilp)) (SV.gI (b9 (c9 d) 2 SV.nilp)) (SV.gI (b9 (c9 d) 3 SV.nilp)) (SV.gI (b9 (c9 d) 4 SV.nilp)) (SV.gI (b9 (c9 d) 5 SV.nilp)) (SV.gI (b9 (c9 d) 6 SV.nilp)) (SV.gI (b9 (c9 d) 7 SV.nilp)) true d o) none)))))) none) none) none
theorem C84(b:Code)(a:Ag3 (R:=PV × List Blk × Z) L Q Y s b)(f:By):A9 (AN L) Q Y (cd [] (G4 [1,1,1,1,1,1,1] b B16)) ⟨[pS f]++tps 67,[],s⟩ (F2 (AN L) ae1)=v6p L f (λj l m n o p q r r8 i l10=>some (.tup [.agg [p16 j,p16 l,p16 m,p16 n,p16 o,p16 p,p16 q,p16 r],pB r8],[.arr false 25 1 i,.arr false 25 1 l10],s)):=by unfold v6p;exact let h:=(F2 (AN L) ae1);(j1 (by kernel_rfl) (A0 (A4 λe=>(A4 λc=>(A0 (A4 λd=>(A0 (A4 λg=>(A0 rfl (A0 rfl (A0 (A0 rfl (A0 (A0 rfl ((a h (j8 (gvs e (not (((w9 f ([58,58]:List UInt8))).2).2))) d (j8 (gvs c true)) (C8 (gvs c true)) (ltI 7 g) (j0 8 [(SV.int .u16 (0:Int))])).trans (by kernel_rfl))) ((a h (j8 (gvs e (not (((w9 f ([58,58]:List UInt8))).2).2))) d (j8 (gvs c true)) (C8 (gvs c true)) false (j0 8 [(SV.int .u16 (0:Int))])).trans (by kernel_rfl)))) (A0 (A0 rfl ((a h (j8 (gvs e (not (((w9 f ([58,58]:List UInt8))).2).2))) d (j8 (gvs c true)) (C8 (gvs c true)) (ltI 7 g) (j0 8 [(SV.int .u16 (0:Int))])).trans (by kernel_rfl))) ((a h (j8 (gvs e (not (((w9 f ([58,58]:List UInt8))).2).2))) d (j8 (gvs c true)) (C8 (gvs c true)) false (j0 8 [(SV.int .u16 (0:Int))])).trans (by kernel_rfl))))))) rfl)) rfl))) rfl))
theorem C85(d:Nat)(s0):evC (AN L) (d+1) Z Y 135 [pS s0] [] s=v6p L s0 (λb c e f g h i j r8 a l10=>some (.tup [.agg [p16 b,p16 c,p16 e,p16 f,p16 g,p16 h,p16 i,p16 j],pB r8],[.arr false 25 1 a,.arr false 25 1 l10],s)):=
 (evE (fn:=ae1) (by kernel_rfl)).trans (j1 (by kernel_rfl) (C84 L (evC (AN L) d) Y s (cd [1,1,1,1,1,1,1] B16) (Bw0 L (evC (AN L) d) Y s) s0))
noncomputable abbrev Pj:Code:=C3 ah9
noncomputable def X6(L:Nat):Cfg:=B4 L [95] (A2 [(6,[1,0,0,0,0,0,0,0]),(3,[1,0,0,0,0,2])]) [] (A2 [(11,[2,0]),(10,[1,2,0,2]),(9,[1,2,0,2]),(8,[1,2,0,0,0,0,18]),(7,[1,2,0,0,0,0]),(6,[1,2,0,0,0,0,13]),(5,[1,2,0,0,0,0]),(4,[1,2,0,0,1]),(3,[1,2,0,2,0]),(2,[1,2,0,2]),(1,[1,2,0]),(0,[1])]) [] (A2 [(0,[4,0]),(1,[1,2,0,2]),(2,[1,2,0,0,0,0]),(3,[1,2,0,0,0,0])]) (some [2,0]) [] [] []
noncomputable def Hf{R:Type}(L n:Nat)(b a c d:Int)(e:LL)(f:Int->Int->Int->Int->LL->Option R):Option R:=match n with|0=>none|n+1=>cond (ltI (A1 (c+d)) (8:Int)) (cond (inR (A1 (c+d)) 8) (cond (okE ⟨true,false,[.int .u16]⟩ e (b8 (A1 (c+d))) 0) (vl (gE e (b8 (A1 (c+d))) 0) λg=>cond (g==0) (Hf L n b a c (A1 (d+1)) e f) (f b a c d e)) none) none) (f b a c d e)
theorem Ah5(n b a c e d):C4 1 ((X6 L).keep 6) (bd (X6 L) Q Y (cd [1,1,0,1,0,0,1,1,0,0,1,1,0,0,0] Pj)) n ⟨gp [(1,.ptr 0 0 0),(2,pI b),(0,pI a),(0,pI c),(0,pI e),(0,pI c)] 24,[.arr false 25 1 d],s⟩ k =
 Hf L n b a c e d (λb a c e d=>k (.exit 2) ⟨gp [(1,.ptr 0 0 0),(2,pI b),(0,pI a),(0,pI c),(0,pI e),(0,pI c)] 24,[.arr false 25 1 d],s⟩):=by
 induction n generalizing b a c e d with
 | zero=>rfl
 | succ n f=>rw[Hf];simp only[<-f];kernel_rfl
noncomputable def Dv{R:Type}(L n:Nat)(e b j:Int)(i:LL)(h:Int->Int->LL->Option R):Option R:=match n with|0=>none|n+1=>cond (ltI j 8) (Hf L L e b j 0 i (λd a c g f=>cond (ltI a g) (Dv L n c g (A1 (c+1)) f h) (Dv L n d a (A1 (c+1)) f h))) (h e b i)
theorem Ah6(n b a n2 l3):C4 1 ((X6 L).keep 3) (bd (X6 L) Q Y (cd [1,1,0,1,0,0] Pj)) n ⟨gp [(1,.ptr 0 0 0),(2,pI b),(0,pI a),(2,pI n2)] 24,[.arr false 25 1 l3],s⟩ k =
 Dv L n b a n2 l3 (λb a i=>k (.exit 0) ⟨gp [(4,pI b),(0,pI a)] 27,[.arr false 25 1 i],s⟩):=by
 induction n generalizing b a n2 l3 with
 | zero=>rfl
 | succ n h=>rw[Dv];exact(j1 (by kernel_rfl) (A0 ((Ah5 L Q Y s (E2 2 (D9 (X6 L) Q Y (cd [1,1,0,1,0,0,1,1,0,0,1,1,1] Pj) (E2 1 (D9 (X6 L) Q Y (cd [1,1,0,1,0,0,1,1,1] Pj) (lpK 1 ((X6 L).keep 3) (bd (X6 L) Q Y (cd [1,1,0,1,0,0] Pj)) n k))))) L b a n2 0 l3).trans (congr rfl (fx5 λe c d g f=>(j1 (by kernel_rfl) (A0 (h d g (A1 (d+1)) f) (h e c (A1 (d+1)) f)))))) rfl))
noncomputable def Bi4{R:Type}(L:Nat)(d e f g h i j l:Int)(m:Int->Int->LL->Option R):Option R:=Dv L L 0 0 0 [[(SV.int .u16 d)],[(SV.int .u16 e)],[(SV.int .u16 f)],[(SV.int .u16 g)],[(SV.int .u16 h)],[(SV.int .u16 i)],[(SV.int .u16 j)],[(SV.int .u16 l)]] (λb a c=>m b a c)
theorem Cj7(d:Nat)(a0 a1 a2 a3 a4 a5 a6 a7):evC (X6 L) (d+1) Z Y 95 [.agg [p16 a0,p16 a1,p16 a2,p16 a3,p16 a4,p16 a5,p16 a6,p16 a7]] [] s=Bi4 L a0 a1 a2 a3 a4 a5 a6 a7 (λb c a=>some (.tup [pI b,pI c],[.arr false 25 1 a],s)):=by refine(evE (fn:=ah9) (by kernel_rfl)).trans ?_;generalize evC (X6 L) d=Q;unfold Bi4;exact(j1 (by kernel_rfl) ((Ah6 L Q Y s (E2 0 (D9 (X6 L) Q Y (cd [1,1,1] Pj) (F2 (X6 L) ah9))) L 0 0 0 [[(SV.int .u16 a0)],[(SV.int .u16 a1)],[(SV.int .u16 a2)],[(SV.int .u16 a3)],[(SV.int .u16 a4)],[(SV.int .u16 a5)],[(SV.int .u16 a6)],[(SV.int .u16 a7)]]).trans (by kernel_rfl)))
noncomputable abbrev C24:Code:=C3 ai0
noncomputable def GH(L:Nat):Cfg:=B4 L [96] (A2 [(3,[2,0,2,0,0])]) [(128,Bx6),(111,QK)] (A2 [(7,[2]),(6,[3,2,0,0]),(5,[3,2,0,0]),(4,[3,1,0,0,0]),(3,[3,2,0,0,0]),(2,[3,2,0,0]),(1,[0,2]),(0,[0])]) [128,111] (A2 [(0,[3]),(1,[3,2,0,0])]) (some [2]) [] [] []
noncomputable def To{R:Type}(L n:Nat)(h g:Bool)(c:LL)(f b:Int)(d:LL)(e:LL->Option R):Option R:=match n with|0=>none|n+1=>cond (ltI b f) (cond (inR b c.length) (cond (okE ⟨true,false,[.int .u16]⟩ c (b8 b) 0) (vl (C88 (gE c (b8 b) 0)) λa=>cond (ltN a 65536) (cond ((16:Int)==16) (cond (F7 (d.length+1)) (To L n h g c f (A1 (b+1)) (d++[[(SV.str (R3 (b8 a)))]]) e) none) none) none) none) none) (e d)
theorem Bv9(n z0 t1 l2 n3 n4 l5):C4 1 ((GH L).keep 3) (bd (GH L) Q Y (cd [1,1,0,1,0,0] C24)) n ⟨gp [(3,.fl 0),(2,.s (.sl z0 t1 1 l2)),(0,pI n3),(0,pI n4)] 12,[.arr true 9 1 l5],s⟩ k =
 To L n z0 t1 l2 n3 n4 l5 (λb=>k (.exit 0) ⟨gp [(3,.fl 0)] 17,[.arr true 9 1 b],s⟩):=by
 induction n generalizing z0 t1 l2 n3 n4 l5 with
 | zero=>rfl
 | succ n a=>rw[To];simp only[<-a];kernel_rfl
noncomputable def v6j{R:Type}(L:Nat)(c b:Bool)(e:LL)(f:By->LL->Option R):Option R:=To L L c b e (e.length:Int) 0 [] (λa=>cond (x3 a isS) (cond (A3 (a8 (ac7 (s7 elS a) ([58]:List UInt8)))) (cond (A3 a.length) (vl (ac7 (s7 elS a) ([58]:List UInt8)) λd=>f d a) none) none) none)
theorem C82(d:Nat)(l_z0 l_t1 l2):evC (GH L) (d+1) Z Y 96 [.s (.sl l_z0 l_t1 1 l2)] [] s=v6j L l_z0 l_t1 l2 (λb a=>some (pS b,[.arr true 9 1 a],s)):=by refine(evE (fn:=ai0) (by kernel_rfl)).trans ?_;generalize evC (GH L) d=Q;unfold v6j;exact(j1 (by kernel_rfl) ((Bv9 L Q Y s (E2 0 (D9 (GH L) Q Y (cd [1,1,1] C24) (F2 (GH L) ai0))) L l_z0 l_t1 l2 (l2.length:Int) 0 []).trans (by kernel_rfl)))
noncomputable def B22(L:Nat):Cfg:=B4 L [68] (A2 []) [(95,Ba7),(96,C19)] (A2 [(4,[2]),(3,[2]),(2,[1,1,0,6]),(1,[1,1,0]),(0,[1])]) [95,96] (A2 []) (some [2]) [] [] []
noncomputable def v6f{R:Type}(L:Nat)(c d e f g h i j:Int)(p:By->LL->Option R):Option R:=cond (ok8 c d e f g h i j) (vl (↑((zGo (n8 c d e f g h i j) 0 0 0)).1:Int) λa=>vl (↑((zGo (n8 c d e f g h i j) 0 0 0)).2:Int) λb=>cond (ltI b 2) (cond (x3 [[(SV.int .u16 c)],[(SV.int .u16 d)],[(SV.int .u16 e)],[(SV.int .u16 f)],[(SV.int .u16 g)],[(SV.int .u16 h)],[(SV.int .u16 i)],[(SV.int .u16 j)]] Vb) (cond (v8 8 8) (vl (S9 (s7 elN [[(SV.int .u16 c)],[(SV.int .u16 d)],[(SV.int .u16 e)],[(SV.int .u16 f)],[(SV.int .u16 g)],[(SV.int .u16 h)],[(SV.int .u16 i)],[(SV.int .u16 j)]])) λo=>p o [[(SV.int .u16 c)],[(SV.int .u16 d)],[(SV.int .u16 e)],[(SV.int .u16 f)],[(SV.int .u16 g)],[(SV.int .u16 h)],[(SV.int .u16 i)],[(SV.int .u16 j)]]) none) none) (cond (I2 0 a 8) (cond (x3 (y7 ((b8 a)-0) [[(SV.int .u16 c)],[(SV.int .u16 d)],[(SV.int .u16 e)],[(SV.int .u16 f)],[(SV.int .u16 g)],[(SV.int .u16 h)],[(SV.int .u16 i)],[(SV.int .u16 j)]]) Vb) (cond (v8 (a8 (y7 ((b8 a)-0) [[(SV.int .u16 c)],[(SV.int .u16 d)],[(SV.int .u16 e)],[(SV.int .u16 f)],[(SV.int .u16 g)],[(SV.int .u16 h)],[(SV.int .u16 i)],[(SV.int .u16 j)]])) 8) (vl (S9 (s7 elN (y7 ((b8 a)-0) [[(SV.int .u16 c)],[(SV.int .u16 d)],[(SV.int .u16 e)],[(SV.int .u16 f)],[(SV.int .u16 g)],[(SV.int .u16 h)],[(SV.int .u16 i)],[(SV.int .u16 j)]]))) λl=>cond (F3 l.length 2) (vl (l++[58,58]) λm=>cond (I2 (A1 (a+b)) (8:Int) 8) (cond (x3 (y7 (8-(b8 (A1 (a+b)))) (ad0 (b8 (A1 (a+b))) [[(SV.int .u16 c)],[(SV.int .u16 d)],[(SV.int .u16 e)],[(SV.int .u16 f)],[(SV.int .u16 g)],[(SV.int .u16 h)],[(SV.int .u16 i)],[(SV.int .u16 j)]])) Vb) (cond (v8 (a8 (y7 (8-(b8 (A1 (a+b)))) (ad0 (b8 (A1 (a+b))) [[(SV.int .u16 c)],[(SV.int .u16 d)],[(SV.int .u16 e)],[(SV.int .u16 f)],[(SV.int .u16 g)],[(SV.int .u16 h)],[(SV.int .u16 i)],[(SV.int .u16 j)]]))) 8) (vl (S9 (s7 elN (y7 (8-(b8 (A1 (a+b)))) (ad0 (b8 (A1 (a+b))) [[(SV.int .u16 c)],[(SV.int .u16 d)],[(SV.int .u16 e)],[(SV.int .u16 f)],[(SV.int .u16 g)],[(SV.int .u16 h)],[(SV.int .u16 i)],[(SV.int .u16 j)]])))) λn=>cond (F3 m.length n.length) (p (m++n) [[(SV.int .u16 c)],[(SV.int .u16 d)],[(SV.int .u16 e)],[(SV.int .u16 f)],[(SV.int .u16 g)],[(SV.int .u16 h)],[(SV.int .u16 i)],[(SV.int .u16 j)]]) none) none) none) none) none) none) none) none)) none
theorem C80(d:Nat)(a0 a1 a2 a3 a4 a5 a6 a7):evC (B22 L) (d+1) Z Y 68 [.agg [p16 a0,p16 a1,p16 a2,p16 a3,p16 a4,p16 a5,p16 a6,p16 a7]] [] s=v6f L a0 a1 a2 a3 a4 a5 a6 a7 (λb a=>some (pS b,[.arr false 25 1 a],s)):=by refine(evE (fn:=Tryz.f68) (by kernel_rfl)).trans ?_;generalize evC (B22 L) d=Q;unfold v6f;kernel_rfl
noncomputable abbrev Cb:Code:=C3 ae2
noncomputable def Y8(L:Nat):Cfg:=B4 L [146] (A2 [(5,[0,1,0,0,0])]) [] (A2 [(15,[2,0]),(6,[0,3,0]),(10,[0,3,0]),(12,[0,3,0]),(14,[0,3,0]),(8,[2,0]),(13,[0,3,0,0,44]),(11,[0,3,0,0,30]),(9,[0,3,0,0,17]),(7,[0,3,0,0]),(5,[0,3,0,12]),(4,[0,3,0]),(3,[0,3]),(2,[2,0]),(1,[0,13]),(0,[0])]) [] (A2 [(0,[4]),(1,[0,3,0]),(2,[0,3,0])]) (some [2,0]) [] [] []
noncomputable def Vu{R:Type}(j:By)(i f d:Int)(e:Bool)(g:By->Int->Int->Option R)(h:Unit->Option R):Option R:=cond e (vl (A1 (wu8 (d-65))) λa=>vl (A1 ((A1 (i*16))+a)) λb=>vl (A1 (b+10)) λc=>g j c f) (h ())
abbrev MZ(b:Code):Prop:=∀(k:Out->St Z->Option R) d c a b3 b4,A9 (Y8 L) Q Y b ⟨gp [(0,pS d),(3,pI c),(0,pI a),(0,p8 b3),(44,pB b4)] 15,[],s⟩ k=Vu d c a b3 b4 (λd c a=>k .normal ⟨gp [(0,pS d),(3,pI c),(0,pI a)] 61,[],s⟩) (λ_=>k .ret ⟨gp [(2,p16 (0:Int)),(0,pB false)] 63,[],s⟩)
theorem Ax8:MZ (R:=R) L Q Y s (cd [1,1,1,0,1,0,0,1,0,0,1,0,1,1,1,1,1] Cb):=by intro k e d c a b;unfold Vu;kernel_rfl
noncomputable def Vv{R:Type}(o:By)(m f a:Int)(q:Bool)(g:By->Int->Int->Option R)(p:Unit->Option R):Option R:=cond q (vl (A1 (wu8 (a-97))) λh=>vl (A1 ((A1 (m*16))+h)) λi=>vl (A1 (i+10)) λj=>g o j f) (cond (not (ltI a 65)) (Vu o m f a (not (ltI 70 a)) (λn l b=>g n l b) (λ_=>p ())) (Vu o m f a false (λe d c=>g e d c) (λ_=>p ())))
abbrev Zt(b:Code):Prop:=∀(k:Out->St Z->Option R) d c a b3 b4,A9 (Y8 L) Q Y b ⟨gp [(0,pS d),(3,pI c),(0,pI a),(0,p8 b3),(30,pB b4)] 29,[],s⟩ k=Vv d c a b3 b4 (λd c a=>k .normal ⟨gp [(0,pS d),(3,pI c),(0,pI a)] 61,[],s⟩) (λ_=>k .ret ⟨gp [(2,p16 (0:Int)),(0,pB false)] 63,[],s⟩)
theorem Ax9(a:Code)(b:MZ (R:=R) L Q Y s a):Zt (R:=R) L Q Y s (cd [1,1,1,0,1,0,0,1,0,0,1,0,1,1,1] (G4 [1,1,1,0,1,0,0,1,0,0,1,0,1,1,1,1,1] a Cb)):=by intro k g f e c d;unfold Vv;simp only[<-b k];kernel_rfl
theorem Ay0:Zt (R:=R) L Q Y s (cd [1,1,1,0,1,0,0,1,0,0,1,0,1,1,1] Cb):=by intro k e d c a b;exact j1 (by kernel_rfl) (Ax9 L Q Y s (cd [1,1,1,0,1,0,0,1,0,0,1,0,1,1,1,1,1] Cb) (Ax8 L Q Y s) k e d c a b)
noncomputable def Vw{R:Type}(n:By)(m h a:Int)(p:Bool)(i:By->Int->Int->Option R)(o:Unit->Option R):Option R:=cond p (vl (A1 (wu8 (a-48))) λj=>vl (A1 ((A1 (m*16))+j)) λl=>i n l h) (cond (not (ltI a 97)) (Vv n m h a (not (ltI 102 a)) (λf d b=>i f d b) (λ_=>o ())) (Vv n m h a false (λg e c=>i g e c) (λ_=>o ())))
abbrev Qa(b:Code):Prop:=∀(k:Out->St Z->Option R) d c a b3 b4,A9 (Y8 L) Q Y b ⟨gp [(0,pS d),(3,pI c),(0,pI a),(0,p8 b3),(17,pB b4)] 42,[],s⟩ k=Vw d c a b3 b4 (λd c a=>k .normal ⟨gp [(0,pS d),(3,pI c),(0,pI a)] 61,[],s⟩) (λ_=>k .ret ⟨gp [(2,p16 (0:Int)),(0,pB false)] 63,[],s⟩)
theorem Ay1(a:Code)(b:Zt (R:=R) L Q Y s a):Qa (R:=R) L Q Y s (cd [1,1,1,0,1,0,0,1,0,0,1,0,1] (G4 [1,1,1,0,1,0,0,1,0,0,1,0,1,1,1] a Cb)):=by intro k g f e c d;unfold Vw;simp only[<-b k];kernel_rfl
theorem Ay2:Qa (R:=R) L Q Y s (cd [1,1,1,0,1,0,0,1,0,0,1,0,1] Cb):=by intro k e d c a b;exact j1 (by kernel_rfl) (Ay1 L Q Y s (cd [1,1,1,0,1,0,0,1,0,0,1,0,1,1,1] Cb) (Ay0 L Q Y s) k e d c a b)
noncomputable def Es{R:Type}(L n:Nat)(b:By)(o a:Int)(l:Unit->Option R)(m:Int->Option R):Option R:=match n with|0=>none|n+1=>cond (ltI a (b.length:Int)) (cond (inR a b.length) (cond (not (ltI (bAt b a) (48:Int))) (Vw b o a (bAt b a) (not (ltI 57 (bAt b a))) (λi e c=>vl (A1 (c+1)) λf=>Es L n i e f l m) (λ_=>l ())) (Vw b o a (bAt b a) false (λj g d=>vl (A1 (d+1)) λh=>Es L n j g h l m) (λ_=>l ()))) none) (m o)
theorem Ay3(a:Code)(b:Qa (R:=R) L Q Y s a)(n:Nat)(d:By)(i c:Int):C4 0 ((Y8 L).keep 5) (bd (Y8 L) Q Y (cd [1,1,1,0,1,0,0] (G4 [1,1,1,0,1,0,0,1,0,0,1,0,1] a Cb))) n ⟨gp [(0,pS d),(3,pI i),(0,pI c)] 61,[],s⟩ k =
 Es L n d i c (λ_=>k .ret ⟨gp [(2,p16 (0:Int)),(0,pB false)] 63,[],s⟩) (λn0=>k (.exit 0) ⟨gp [(4,pI n0)] 62,[],s⟩):=by
 induction n generalizing d i c with
 | zero=>rfl
 | succ n q=>rw[Es];exact let m:=(E2 2 (E2 1 (D9 (Y8 L) Q Y (cd [1,1,1,0,1,0,0,1,1] Cb) (lpK 0 ((Y8 L).keep 5) (bd (Y8 L) Q Y (cd [1,1,1,0,1,0,0] (G4 [1,1,1,0,1,0,0,1,0,0,1,0,1] a Cb))) n k))));(j1 (by kernel_rfl) (A0 (A0 (A0 ((b m d i c (bAt d c) (not (ltI 57 (bAt d c)))).trans (congr (congr rfl (fx3 λj e o=>(j1 (by kernel_rfl) (A4 λf=>(q j e f))))) (by kernel_rfl))) ((b m d i c (bAt d c) false).trans (congr (congr rfl (fx3 λl g p=>(j1 (by kernel_rfl) (A4 λh=>(q l g h))))) (by kernel_rfl)))) rfl) rfl))
noncomputable def B91{R:Type}(L:Nat)(c:By)(b:Int->Bool->Option R):Option R:=cond (ltI (c.length:Int) (1:Int)) (b 0 false) (cond (ltI 4 (c.length:Int)) (b 0 false) (Es L L c 0 0 (λ_=>b 0 false) (λa=>b (Cx a) true)))
theorem Ct6(a:Code)(b:Qa (R:=PV × List Blk × Z) L Q Y s a)(c:By):A9 (Y8 L) Q Y (cd [] (G4 [1,1,1,0,1,0,0,1,0,0,1,0,1] a Cb)) ⟨[pS c]++tps 66,[],s⟩ (F2 (Y8 L) ae2)=B91 L c (λd e=>some (.tup [p16 d,pB e],[],s)):=by unfold B91;exact(j1 (by kernel_rfl) (A0 rfl (A0 rfl ((Ay3 L Q Y s (E2 0 (D9 (Y8 L) Q Y (cd [1,1,1,1] Cb) (F2 (Y8 L) ae2))) a b L c 0 0).trans (by kernel_rfl)))))
theorem Ct7(d:Nat)(s0):evC (Y8 L) (d+1) Z Y 146 [pS s0] [] s=B91 L s0 (λa b=>some (.tup [p16 a,pB b],[],s)):=
 (evE (fn:=ae2) (by kernel_rfl)).trans (j1 (by kernel_rfl) (Ct6 L (evC (Y8 L) d) Y s (cd [1,1,1,0,1,0,0,1,0,0,1,0,1] Cb) (Ay2 L (evC (Y8 L) d) Y s) s0))
noncomputable abbrev Ee:Code:=C3 ad8
noncomputable def Q5(L:Nat):Cfg:=B4 L [114] (A2 [(6,[1,2,0,0,0,0])]) [(88,Jd),(145,Bz4),(146,Bz0)] (A2 [(15,[4,0]),(7,[1,4,0,0]),(14,[1,4,0,0]),(13,[4,0]),(12,[1,4,0,0,2,47]),(11,[1,4,0,0,2,0]),(10,[1,4,0,0]),(9,[1,4,0,0,0,31]),(8,[1,4,0,0,0,0]),(6,[1,4,0,0,11]),(5,[1,4,0,0]),(4,[1,4,0]),(3,[0,0,4]),(2,[4,0]),(1,[0,0,12]),(0,[0,0])]) [145,146] (A2 [(0,[6]),(1,[1,4,0,0])]) (some [4,0]) [] [] []
noncomputable def Ju{R:Type}(a:Bool)(g:LL)(f d:Int)(e:Bool)(c:LL)(h:Bool->LL->Int->LL->Option R)(i:Bool->LL->Int->Int->Bool->LL->Option R):Option R:=cond e (vl (On .u32 d (16:Int)) λb=>cond (F7 (c.length+2)) (h a g f (c++[[(SV.int .u16 (Cx b))],[(SV.int .u16 (Cx d))]])) none) (i a g f d e c)
abbrev Sy(b:Code):Prop:=∀(k:Out->St Z->Option R) a d c g e f,A9 (Q5 L) Q Y b ⟨gp [(1,pB a),(4,.fl 0),(0,.s (.sl false false 1 d)),(0,pI c),(0,p32 g),(31,pB e)] 23,[.arr true 24 1 f],s⟩ k=Ju a d c g e f (λa d c h=>k (.exit 1) ⟨gp [(1,pB a),(4,.fl 0),(0,.s (.sl false false 1 d)),(0,pI c)] 56,[.arr true 24 1 h],s⟩) (λa d c g e f=>k .normal ⟨gp [(1,pB a),(4,.fl 0),(0,.s (.sl false false 1 d)),(0,pI c),(0,p32 g),(31,pB e)] 23,[.arr true 24 1 f],s⟩)
theorem ZS:Sy (R:=R) L Q Y s (cd [1,1,1,1,0,1,0,0,1,0,0,0,1,1] Ee):=by intro k a e c f b d;unfold Ju;kernel_rfl
noncomputable def Jv{R:Type}(a:Bool)(c:LL)(b:Int)(e:LL)(f:LL->Option R)(g:Bool->LL->Int->LL->Option R):Option R:=cond (inR b c.length) (cond (okE Oq c (b8 b) 0) (cond (A3 (a8 (gX c (b8 b) 0))) (vl (↑(M3 (grp (gX c (b8 b) 0))):Int) λd=>cond (not (j2 (grp (gX c (b8 b) 0)))) (f e) (cond (F7 (e.length+1)) (g a c b (e++[[(SV.int .u16 d)]])) none)) none) none) none
abbrev Sz(b:Code):Prop:=∀(k:Out->St Z->Option R) a d c v3 b4 l5,A9 (Q5 L) Q Y b ⟨gp [(1,pB a),(4,.fl 0),(0,.s (.sl false false 1 d)),(0,pI c),(0,p32 v3),(31,pB b4)] 23,[.arr true 24 1 l5],s⟩ k=Jv a d c l5 (λe=>k .ret ⟨gp [(4,.fl 1),(0,pB false)] 59,[.arr true 24 1 e,.arr true 24 1 []],s⟩) (λa d c f=>k .normal ⟨gp [(1,pB a),(4,.fl 0),(0,.s (.sl false false 1 d)),(0,pI c)] 56,[.arr true 24 1 f],s⟩)
theorem ZT:Sz (R:=R) L Q Y s (cd [1,1,1,1,0,1,0,0,1,0,0,1] Ee):=by intro k a e c f b d;unfold Jv;kernel_rfl
noncomputable def P7{R:Type}(L n:Nat)(a:Bool)(m:LL)(l:Int)(l3:LL)(o:LL->Option R)(p:LL->Option R):Option R:=match n with|0=>none|n+1=>cond (ltI l (m.length:Int)) (cond (inR l m.length) (cond (okE Oq m (b8 l) 0) (cond (A3 (a8 (gX m (b8 l) 0))) (vl (↑(M3 (v4B (gX m (b8 l) 0))):Int) λq=>cond (j2 (v4B (gX m (b8 l) 0))) (cond a (vl (A1 ((m.length:Int)-1)) λa9=>Ju a m l q (l==a9) l3 (λb X r B=>vl (A1 (r+1)) λP=>P7 L n b X P B o p) (λc a0 t b3 b0 C=>Jv c a0 t C (λD=>o D) (λd a1 u F=>vl (A1 (u+1)) λS=>P7 L n d a1 S F o p))) (Ju a m l q false l3 (λe a2 v G=>vl (A1 (v+1)) λT=>P7 L n e a2 T G o p) (λf a3 w b4 b1 H=>Jv f a3 w H (λI=>o I) (λg a4 x J=>vl (A1 (x+1)) λU=>P7 L n g a4 U J o p)))) (Ju a m l q false l3 (λh a5 y K=>vl (A1 (y+1)) λV=>P7 L n h a5 V K o p) (λi a6 z b5 b2 M=>Jv i a6 z M (λN=>o N) (λj a7 A O=>vl (A1 (A+1)) λW=>P7 L n j a7 W O o p)))) none) none) none) (p l3)
theorem ZU(b:Code)(c:Sy (R:=R) L Q Y s b)(a:Code)(d:Sz (R:=R) L Q Y s a)(n:Nat)(e:Bool)(v:LL)(q:Int)(u:LL):C4 1 ((Q5 L).keep 6) (bd (Q5 L) Q Y (cd [1,1,1,1,0,1,0,0] (G4 [1,1,1,1,0,1,0,0,1,0,0,1] a (G4 [1,1,1,1,0,1,0,0,1,0,0,0,1,1] b Ee)))) n ⟨gp [(1,pB e),(4,.fl 0),(0,.s (.sl false false 1 v)),(0,pI q)] 56,[.arr true 24 1 u],s⟩ k =
 P7 L n e v q u (λl0=>k .ret ⟨gp [(4,.fl 1),(0,pB false)] 59,[.arr true 24 1 l0,.arr true 24 1 []],s⟩) (λl0=>k (.exit 0) ⟨gp [(6,.fl 0)] 58,[.arr true 24 1 l0],s⟩):=by
 induction n generalizing e v q u with
 | zero=>rfl
 | succ n t=>rw[P7];exact let K0:=(E2 1 (D9 (Q5 L) Q Y (cd [1,1,1,1,0,1,0,0,1,1] Ee) (lpK 1 ((Q5 L).keep 6) (bd (Q5 L) Q Y (cd [1,1,1,1,0,1,0,0] (G4 [1,1,1,1,0,1,0,0,1,0,0,1] a (G4 [1,1,1,1,0,1,0,0,1,0,0,0,1,1] b Ee)))) n k)));let K1:=(D9 (Q5 L) Q Y a K0);(j1 (by kernel_rfl) (A0 (A0 (A0 (A0 (A4 λr=>(A0 (A0 (A4 λb0=>((c K1 e v q r (q==b0) u).trans (congr (congr rfl (fx4 λf V b1 C=>(j1 (by kernel_rfl) (A4 λN=>(t f V N C))))) (fx6 λg W z a6 w D=>(j1 (by kernel_rfl) ((d K0 g W z a6 w D).trans (congr (congr rfl (by kernel_rfl)) (fx4 λh X b2 F=>(j1 (by kernel_rfl) (A4 λO=>(t h X O F))))))))))) ((c K1 e v q r false u).trans (congr (congr rfl (fx4 λi a0 b3 G=>(j1 (by kernel_rfl) (A4 λP=>(t i a0 P G))))) (fx6 λj a1 A a7 x H=>(j1 (by kernel_rfl) ((d K0 j a1 A a7 x H).trans (congr (congr rfl (by kernel_rfl)) (fx4 λl a2 b4 I=>(j1 (by kernel_rfl) (A4 λS=>(t l a2 S I))))))))))) ((c K1 e v q r false u).trans (congr (congr rfl (fx4 λm a3 b5 J=>(j1 (by kernel_rfl) (A4 λT=>(t m a3 T J))))) (fx6 λo a4 B a9 y K=>(j1 (by kernel_rfl) ((d K0 o a4 B a9 y K).trans (congr (congr rfl (by kernel_rfl)) (fx4 λp a5 b6 M=>(j1 (by kernel_rfl) (A4 λU=>(t p a5 U M)))))))))))) rfl) rfl) rfl) rfl))
noncomputable def ZR{R:Type}(L:Nat)(e:By)(a:Bool)(f:LL->Option R)(g:LL->Option R):Option R:=cond (e==[]) (f []) (cond (A3 e.length) (vl (D4 (pcs (u8n (58:Int)) e)) λd=>P7 L L a d 0 [] (λb=>g b) (λc=>f c)) none)
theorem B92(a:Code)(c:Sy (R:=PV × List Blk × Z) L Q Y s a)(b:Code)(d:Sz (R:=PV × List Blk × Z) L Q Y s b)(h:By)(e:Bool):A9 (Q5 L) Q Y (cd [] (G4 [1,1,1,1,0,1,0,0,1,0,0,1] b (G4 [1,1,1,1,0,1,0,0,1,0,0,0,1,1] a Ee))) ⟨[pS h,pB e]++tps 63,[],s⟩ (F2 (Q5 L) ad8)=ZR L h e (λg=>some (.tup [.fl 0,pB true],[.arr true 24 1 g],s)) (λg=>some (.tup [.fl 1,pB false],[.arr true 24 1 g,.arr true 24 1 []],s)):=by unfold ZR;exact(j1 (by kernel_rfl) (A0 rfl (A0 (A4 λf=>((ZU L Q Y s (E2 0 (D9 (Q5 L) Q Y (cd [1,1,1,1,1] Ee) (F2 (Q5 L) ad8))) a c b d L e f 0 []).trans (by kernel_rfl))) rfl)))
theorem B93(d:Nat)(s0 last1):evC (Q5 L) (d+1) Z Y 114 [pS s0,pB last1] [] s=ZR L s0 last1 (λa=>some (.tup [.fl 0,pB true],[.arr true 24 1 a],s)) (λa=>some (.tup [.fl 1,pB false],[.arr true 24 1 a,.arr true 24 1 []],s)):=
 (evE (fn:=ad8) (by kernel_rfl)).trans (j1 (by kernel_rfl) (B92 L (evC (Q5 L) d) Y s (cd [1,1,1,1,0,1,0,0,1,0,0,0,1,1] Ee) (ZS L (evC (Q5 L) d) Y s) (cd [1,1,1,1,0,1,0,0,1,0,0,1] Ee) (ZT L (evC (Q5 L) d) Y s) s0 last1))
noncomputable abbrev LI:Code:=C3 ag1
noncomputable def Ce(L:Nat):Cfg:=B4 L [113] (A2 [(2,[0,1,0])]) [] (A2 [(6,[2]),(3,[0,2]),(5,[2]),(4,[0,2,17]),(2,[0,2,4]),(1,[0,2]),(0,[0])]) [] (A2 [(0,[]),(1,[0,2])]) (some [2]) [] [] []
noncomputable def T7{R:Type}(L n:Nat)(b:By)(a:Int)(c:Int->Option R)(d:Unit->Option R):Option R:=match n with|0=>none|n+1=>cond (ltI (A1 (a+1)) (b.length:Int)) (cond (inR a b.length) (cond ((bAt b a)==58) (cond (inR (A1 (a+1)) b.length) (vl (bAt b (A1 (a+1))) λe=>cond (e==58) (c a) (T7 L n b (A1 (a+1)) c d)) none) (T7 L n b (A1 (a+1)) c d)) none) (d ())
theorem KF(n s0 i1):C4 0 ((Ce L).keep 2) (bd (Ce L) Q Y (cd [1,0,1,0,0] LI)) n ⟨gp [(0,pS s0),(2,pI i1)] 19,[],s⟩ k =
 T7 L n s0 i1 (λn0=>k .ret ⟨gp [(2,pI n0)] 20,[],s⟩) (λ_=>k (.exit 0) ⟨gp [] 23,[],s⟩):=by
 induction n generalizing s0 i1 with
 | zero=>rfl
 | succ n a=>rw[T7];simp only[<-a];kernel_rfl
noncomputable def DD{R:Type}(L:Nat)(c:By)(b:Int->Option R):Option R:=T7 L L c 0 (λa=>b a) (λ_=>b (-1))
theorem Aw6(d:Nat)(s0):evC (Ce L) (d+1) Z Y 113 [pS s0] [] s=DD L s0 (λa=>some (pI a,[],s)):=by refine(evE (fn:=ag1) (by kernel_rfl)).trans ?_;generalize evC (Ce L) d=Q;unfold DD;exact(j1 (by kernel_rfl) ((KF L Q Y s (E2 0 (D9 (Ce L) Q Y (cd [1,1] LI) (F2 (Ce L) ag1))) L s0 0).trans (by kernel_rfl)))
noncomputable abbrev Rv:Code:=C3 ad6
noncomputable def Y9(L:Nat):Cfg:=B4 L [84] (A2 [(21,[2,0,0,6,2]),(17,[2,0,0,4,1,1]),(8,[2,0,0,1,1])]) [(113,KW),(114,A93)] (A2 [(24,[2,0]),(22,[2,1,6,2]),(23,[2,1,6,2]),(21,[2,1,6,2,73]),(20,[2,1,6,2]),(18,[2,1,4,1,1]),(19,[2,1,4,1,1]),(17,[2,1,4,1,1,62]),(16,[2,1,4,1,1]),(15,[2,0]),(14,[2,1,4,1,59]),(13,[2,1,4,0,0,0]),(12,[0,1,1,0,3,0]),(11,[2,0]),(9,[2,1,1,1]),(10,[2,1,1,1]),(8,[2,1,1,1,24]),(7,[2,1,1,1]),(6,[2,0]),(5,[2,1,1,23]),(4,[2,1,1,0]),(3,[0,1,1,0,12]),(2,[0,1,1,0]),(1,[0,1,1]),(0,[0,1])]) [113] (A2 [(4,[2,1]),(5,[2,1,6,2]),(2,[2,1,6]),(3,[2,1,4,1,1]),(0,[2,1]),(1,[2,1,1,1])]) (some [2,0]) [] [] []
noncomputable def Lw{R:Type}(L n:Nat)(b:Bool)(c:LL)(a:Int)(g d:LL)(f:LL->LL->Option R):Option R:=match n with|0=>none|n+1=>cond (ltI a 8) (cond (inR a c.length) (cond (okE ⟨true,false,[.int .u16]⟩ c (b8 a) 0) (cond (inR a 8) (cond (decide ((b8 a)<d.length)) (vl (aa6 d (b8 a) (F8 (b9 d (b8 a) []) 0 [(SV.int .u16 (gE c (b8 a) 0))])) λe=>Lw L n b c (A1 (a+1)) g e f) none) none) none) none) (f g d)
theorem A40(n l_z0 a i2 l3 l4):C4 2 ((Y9 L).keep 8) (bd (Y9 L) Q Y (cd [1,1,1,0,1,0,1,1,0,1,0,0] Rv)) n ⟨gp [(2,.ptr 0 0 0),(1,.ptr 1 0 0),(1,.s (.sl l_z0 l_z0 1 a)),(1,pI i2)] 93,[.arr false 25 1 l3,.arr false 25 1 l4],s⟩ k =
 Lw L n l_z0 a i2 l3 l4 (λc a=>k (.exit 0) ⟨gp [(2,.ptr 0 0 0),(1,.ptr 1 0 0)] 97,[.arr false 25 1 c,.arr false 25 1 a],s⟩):=by
 induction n generalizing l_z0 a i2 l3 l4 with
 | zero=>rfl
 | succ n b=>rw[Lw];simp only[<-b];kernel_rfl
noncomputable def Lx{R:Type}(L n:Nat)(e:Bool)(d:LL)(b:Bool)(i:LL)(a:Int)(h f:LL)(g:Bool->LL->LL->LL->Option R):Option R:=match n with|0=>none|n+1=>cond (ltI a (d.length:Int)) (cond (inR a d.length) (cond (okE ⟨true,false,[.int .u16]⟩ d (b8 a) 0) (cond (inR a 8) (cond (decide ((b8 a)<f.length)) (vl (aa6 f (b8 a) (F8 (b9 f (b8 a) []) 0 [(SV.int .u16 (gE d (b8 a) 0))])) λc=>Lx L n e d b i (A1 (a+1)) h c g) none) none) none) none) (g b i h f)
theorem A41(n l_z0 l1 r_z2 r3 i4 l5 l6):C4 2 ((Y9 L).keep 17) (bd (Y9 L) Q Y (cd [1,1,1,1,1,1,1,0,1,0,0] Rv)) n ⟨gp [(2,.ptr 0 0 0),(1,.ptr 1 0 0),(4,.s (.sl l_z0 l_z0 1 l1)),(1,.s (.sl r_z2 r_z2 1 r3)),(1,pI i4)] 88,[.arr false 25 1 l5,.arr false 25 1 l6],s⟩ k =
 Lx L n l_z0 l1 r_z2 r3 i4 l5 l6 (λa e c d=>k (.exit 2) ⟨gp [(2,.ptr 0 0 0),(1,.ptr 1 0 0),(6,.s (.sl a a 1 e))] 90,[.arr false 25 1 c,.arr false 25 1 d],s⟩):=by
 induction n generalizing l_z0 l1 r_z2 r3 i4 l5 l6 with
 | zero=>rfl
 | succ n b=>rw[Lx];simp only[<-b];kernel_rfl
noncomputable def Ly{R:Type}(L n:Nat)(e:Bool)(c:LL)(b:Int)(h f:LL)(g:LL->LL->Option R):Option R:=match n with|0=>none|n+1=>cond (ltI b (c.length:Int)) (vl (A1 ((8:Int)-(c.length:Int))) λa=>cond (inR b c.length) (cond (okE ⟨true,false,[.int .u16]⟩ c (b8 b) 0) (cond (inR (A1 (a+b)) 8) (cond (decide ((b8 (A1 (a+b)))<f.length)) (vl (aa6 f (b8 (A1 (a+b))) (F8 (b9 f (b8 (A1 (a+b))) []) 0 [(SV.int .u16 (gE c (b8 b) 0))])) λd=>Ly L n e c (A1 (b+1)) h d g) none) none) none) none) (g h f)
theorem A42(n r_z0 r1 i2 l3 l4):C4 2 ((Y9 L).keep 21) (bd (Y9 L) Q Y (cd [1,1,1,1,1,1,1,1,0,1,0,0] Rv)) n ⟨gp [(2,.ptr 0 0 0),(1,.ptr 1 0 0),(6,.s (.sl r_z0 r_z0 1 r1)),(2,pI i2)] 87,[.arr false 25 1 l3,.arr false 25 1 l4],s⟩ k =
 Ly L n r_z0 r1 i2 l3 l4 (λb c=>k (.exit 4) ⟨gp [(2,.ptr 0 0 0),(1,.ptr 1 0 0)] 97,[.arr false 25 1 b,.arr false 25 1 c],s⟩):=by
 induction n generalizing r_z0 r1 i2 l3 l4 with
 | zero=>rfl
 | succ n a=>rw[Ly];simp only[<-a];kernel_rfl
noncomputable def Cc6{R:Type}(L:Nat)(e:By)(j:Int->Int->Int->Int->Int->Int->Int->Int->Bool->LL->LL->Option R):Option R:=cond (A3 e.length) (cond (ltI (GO e) (0:Int)) (cond (A3 e.length) (cond (not (j2 (P2 e true))) (j 0 0 0 0 0 0 0 0 false (j0 8 [(SV.int .u16 (0:Int))]) (j0 8 [(SV.int .u16 (0:Int))])) (cond ((↑(a8 (C8 (gvs e true))):Int)!=8) (j 0 0 0 0 0 0 0 0 false (j0 8 [(SV.int .u16 (0:Int))]) (j0 8 [(SV.int .u16 (0:Int))])) (Lw L L (j8 (gvs e true)) (C8 (gvs e true)) 0 (j0 8 [(SV.int .u16 (0:Int))]) (j0 8 [(SV.int .u16 (0:Int))]) (λn a=>cond ((decide (8=(a.length*1)))&&(okS ⟨true,true,[.int .u16,.int .u16,.int .u16,.int .u16,.int .u16,.int .u16,.int .u16,.int .u16]⟩ (c9 a) 0)) (vl (SV.gI (b9 (c9 a) 0 SV.nilp)) λo=>vl (SV.gI (b9 (c9 a) 1 SV.nilp)) λp=>vl (SV.gI (b9 (c9 a) 2 SV.nilp)) λq=>vl (SV.gI (b9 (c9 a) 3 SV.nilp)) λr=>vl (SV.gI (b9 (c9 a) 4 SV.nilp)) λt=>vl (SV.gI (b9 (c9 a) 5 SV.nilp)) λu=>vl (SV.gI (b9 (c9 a) 6 SV.nilp)) λv=>vl (SV.gI (b9 (c9 a) 7 SV.nilp)) λw=>cond (decide (8=(n.length*1))) (vl (R8 1 n.length [(SV.int .u16 o),(SV.int .u16 p),(SV.int .u16 q),(SV.int .u16 r),(SV.int .u16 t),(SV.int .u16 u),(SV.int .u16 v),(SV.int .u16 w)]) λb=>cond ((decide (8=(b.length*1)))&&(okS ⟨true,true,[.int .u16,.int .u16,.int .u16,.int .u16,.int .u16,.int .u16,.int .u16,.int .u16]⟩ (c9 b) 0)) (j (SV.gI (b9 (c9 b) 0 SV.nilp)) (SV.gI (b9 (c9 b) 1 SV.nilp)) (SV.gI (b9 (c9 b) 2 SV.nilp)) (SV.gI (b9 (c9 b) 3 SV.nilp)) (SV.gI (b9 (c9 b) 4 SV.nilp)) (SV.gI (b9 (c9 b) 5 SV.nilp)) (SV.gI (b9 (c9 b) 6 SV.nilp)) (SV.gI (b9 (c9 b) 7 SV.nilp)) true b a) none) none) none)))) none) (cond (I2 0 (GO e) e.length) (vl (cut e 0 (GO e)) λf=>cond (A3 f.length) (vl (A1 ((GO e)+2)) λG=>cond (I2 G (e.length:Int) e.length) (vl (cut e G (e.length:Int)) λg=>cond (A3 g.length) (cond (not (j2 (P2 f false))) (j 0 0 0 0 0 0 0 0 false (j0 8 [(SV.int .u16 (0:Int))]) (j0 8 [(SV.int .u16 (0:Int))])) (cond (not (j2 (P2 g true))) (j 0 0 0 0 0 0 0 0 false (j0 8 [(SV.int .u16 (0:Int))]) (j0 8 [(SV.int .u16 (0:Int))])) (vl (A1 ((↑(a8 (C8 (gvs f false))):Int)+(↑(a8 (C8 (gvs g true))):Int))) λI=>cond (ltI 7 I) (j 0 0 0 0 0 0 0 0 false (j0 8 [(SV.int .u16 (0:Int))]) (j0 8 [(SV.int .u16 (0:Int))])) (Lx L L (j8 (gvs f false)) (C8 (gvs f false)) (j8 (gvs g true)) (C8 (gvs g true)) 0 (j0 8 [(SV.int .u16 (0:Int))]) (j0 8 [(SV.int .u16 (0:Int))]) (λh H l m=>Ly L L h H 0 l m (λi c=>cond ((decide (8=(c.length*1)))&&(okS ⟨true,true,[.int .u16,.int .u16,.int .u16,.int .u16,.int .u16,.int .u16,.int .u16,.int .u16]⟩ (c9 c) 0)) (vl (SV.gI (b9 (c9 c) 0 SV.nilp)) λx=>vl (SV.gI (b9 (c9 c) 1 SV.nilp)) λy=>vl (SV.gI (b9 (c9 c) 2 SV.nilp)) λz=>vl (SV.gI (b9 (c9 c) 3 SV.nilp)) λA=>vl (SV.gI (b9 (c9 c) 4 SV.nilp)) λB=>vl (SV.gI (b9 (c9 c) 5 SV.nilp)) λC=>vl (SV.gI (b9 (c9 c) 6 SV.nilp)) λD=>vl (SV.gI (b9 (c9 c) 7 SV.nilp)) λF=>cond (decide (8=(i.length*1))) (vl (R8 1 i.length [(SV.int .u16 x),(SV.int .u16 y),(SV.int .u16 z),(SV.int .u16 A),(SV.int .u16 B),(SV.int .u16 C),(SV.int .u16 D),(SV.int .u16 F)]) λd=>cond ((decide (8=(d.length*1)))&&(okS ⟨true,true,[.int .u16,.int .u16,.int .u16,.int .u16,.int .u16,.int .u16,.int .u16,.int .u16]⟩ (c9 d) 0)) (j (SV.gI (b9 (c9 d) 0 SV.nilp)) (SV.gI (b9 (c9 d) 1 SV.nilp)) (SV.gI (b9 (c9 d) 2 SV.nilp)) (SV.gI (b9 (c9 d) 3 SV.nilp)) (SV.gI (b9 (c9 d) 4 SV.nilp)) (SV.gI (b9 (c9 d) 5 SV.nilp)) (SV.gI (b9 (c9 d) 6 SV.nilp)) (SV.gI (b9 (c9 d) 7 SV.nilp)) true d c) none) none) none)))))) none) none) none) none)) none
theorem Cv8(d:Nat)(s0):evC (Y9 L) (d+1) Z Y 84 [pS s0] [] s=Cc6 L s0 (λl m n o p q r t r8 h l10=>some (.tup [.agg [p16 l,p16 m,p16 n,p16 o,p16 p,p16 q,p16 r,p16 t],pB r8],[.arr false 25 1 h,.arr false 25 1 l10],s)):=by refine(evE (fn:=ad6) (by kernel_rfl)).trans ?_;generalize evC (Y9 L) d=Q;unfold Cc6;exact(j1 (by kernel_rfl) (A0 (A0 (A0 (A0 rfl (A0 rfl ((A40 L Q Y s (E2 0 (D9 (Y9 L) Q Y (cd [1,1,1,0,1,0,1,1,1] Rv) (D9 (Y9 L) Q Y (cd [1,1,1,1] Rv) (F2 (Y9 L) ad6)))) L (j8 (gvs s0 true)) (C8 (gvs s0 true)) 0 (j0 8 [(SV.int .u16 (0:Int))]) (j0 8 [(SV.int .u16 (0:Int))])).trans (by kernel_rfl)))) rfl) (A0 (A4 λf=>(A0 (A4 λi=>(A0 (A4 λg=>(A0 (A0 rfl (A0 rfl (A4 λj=>(A0 rfl ((A41 L Q Y s (E2 2 (D9 (Y9 L) Q Y (cd [1,1,1,1,1,1,1,1] Rv) (F2 (Y9 L) ad6))) L (j8 (gvs f false)) (C8 (gvs f false)) (j8 (gvs g true)) (C8 (gvs g true)) 0 (j0 8 [(SV.int .u16 (0:Int))]) (j0 8 [(SV.int .u16 (0:Int))])).trans (congr rfl (fx4 λa e b c=>(j1 (by kernel_rfl) ((A42 L Q Y s (E2 4 (D9 (Y9 L) Q Y (cd [1,1,1,1,1,1,1,1,1] Rv) (F2 (Y9 L) ad6))) L a e 0 b c).trans (by kernel_rfl)))))))))) rfl)) rfl)) rfl)) rfl)) rfl))
noncomputable abbrev Bb2:Code:=C3 ai1
noncomputable def Kr(L:Nat):Cfg:=B4 L [98] (A2 [(3,[2,0,0])]) [] (A2 [(6,[2]),(4,[3,0]),(5,[3,0]),(3,[3,0,6]),(2,[3,0]),(1,[0,2]),(0,[0])]) [] (A2 [(0,[3]),(1,[3,0])]) (some [2]) [] [] []
noncomputable def Aa{R:Type}(L n:Nat)(a:By)(v1:Int)(f:By->Option R):Option R:=match n with|0=>none|n+1=>cond (ltI 0 v1) (vl (Cx ((x7 v1 (16:Int))+1)) λb=>cond (I2 (x7 v1 (16:Int)) b 16) (vl (cut ([48,49,50,51,52,53,54,55,56,57,97,98,99,100,101,102]:List UInt8) (x7 v1 (16:Int)) b) λd=>cond (F3 d.length a.length) (vl (Cx (aa0 v1 (16:Int))) λg=>Aa L n (d++a) g f) none) none) (cond (a==[]) (vl (Cx ((x7 v1 (16:Int))+1)) λc=>cond (I2 (x7 v1 (16:Int)) c 16) (vl (cut ([48,49,50,51,52,53,54,55,56,57,97,98,99,100,101,102]:List UInt8) (x7 v1 (16:Int)) c) λe=>cond (F3 e.length a.length) (vl (Cx (aa0 v1 (16:Int))) λh=>Aa L n (e++a) h f) none) none) (f a))
theorem ZW(n a v1):C4 0 ((Kr L).keep 3) (bd (Kr L) Q Y (cd [1,1,0,1,0,0] Bb2)) n ⟨gp [(3,pS a),(0,p16 v1)] 18,[],s⟩ k =
 Aa L n a v1 (λa=>k (.exit 0) ⟨gp [(3,pS a)] 19,[],s⟩):=by
 induction n generalizing a v1 with
 | zero=>rfl
 | succ n b=>rw[Aa];simp only[<-b];kernel_rfl
noncomputable def Bf4{R:Type}(L:Nat)(b:Int)(c:By->Option R):Option R:=Aa L L ([]:List UInt8) b (λa=>c a)
theorem B96(d:Nat)(g0):evC (Kr L) (d+1) Z Y 98 [p16 g0] [] s=Bf4 L g0 (λa=>some (pS a,[],s)):=by refine(evE (fn:=ai1) (by kernel_rfl)).trans ?_;generalize evC (Kr L) d=Q;unfold Bf4;exact(j1 (by kernel_rfl) ((ZW L Q Y s (E2 0 (D9 (Kr L) Q Y (cd [1,1,1] Bb2) (F2 (Kr L) ai1))) L ([]:List UInt8) g0).trans (by kernel_rfl)))
noncomputable abbrev No:Code:=C3 af7
noncomputable def W5(L:Nat):Cfg:=B4 L [71] (A2 [(12,[1,0,0,0,2,0]),(6,[1,0,0,0,0,0]),(3,[1,0,0,0,0])]) [(98,A95)] (A2 [(20,[2]),(13,[1,1,0,2,0]),(19,[1,1,0,2,0]),(18,[1,1,0,2,0]),(17,[1,1,0,2,0,45]),(16,[1,1,0,2,0]),(15,[1,1,0,2,0]),(14,[1,1,0,2,0,29]),(12,[1,1,0,2,0,24]),(11,[1,1,0,2,0]),(10,[1,1,0,2]),(4,[1,1,0,0]),(9,[1,1,0,0]),(8,[1,1,0,0,0,22]),(7,[1,1,0,0,0]),(6,[1,1,0,0,0,17]),(5,[1,1,0,0,0]),(3,[1,1,0,0,4]),(2,[1,1,0,0]),(1,[1,1,0]),(0,[1])]) [98] (A2 [(4,[7]),(5,[1,1,0,2,0]),(0,[1,1,0]),(1,[1,1,0,0]),(2,[1,1,0,0,0]),(3,[1,1,0,0,0])]) (some [2]) [] [] []
noncomputable def Lv{R:Type}(L n:Nat)(b a c d:Int)(e:LL)(f:Int->Int->Int->Int->LL->Option R):Option R:=match n with|0=>none|n+1=>cond (ltI (A1 (c+d)) (8:Int)) (cond (inR (A1 (c+d)) 8) (cond (okE ⟨true,false,[.int .u16]⟩ e (b8 (A1 (c+d))) 0) (vl (gE e (b8 (A1 (c+d))) 0) λg=>cond (g==0) (Lv L n b a c (A1 (d+1)) e f) (f b a c d e)) none) none) (f b a c d e)
theorem A37(n b a c e d):C4 1 ((W5 L).keep 6) (bd (W5 L) Q Y (cd [1,1,0,1,0,0,1,0,0,1,0,0,0] No)) n ⟨gp [(1,.ptr 0 0 0),(1,pI b),(0,pI a),(0,pI c),(0,pI e)] 57,[.arr false 25 1 d],s⟩ k =
 Lv L n b a c e d (λb a c e d=>k (.exit 2) ⟨gp [(1,.ptr 0 0 0),(1,pI b),(0,pI a),(0,pI c),(0,pI e)] 57,[.arr false 25 1 d],s⟩):=by
 induction n generalizing b a c e d with
 | zero=>rfl
 | succ n f=>rw[Lv];simp only[<-f];kernel_rfl
noncomputable def Hw{R:Type}(L n:Nat)(e b i:Int)(j:LL)(h:Int->Int->LL->Option R):Option R:=match n with|0=>none|n+1=>cond (ltI i 8) (Lv L L e b i 0 j (λd a c g f=>cond (ltI a g) (Hw L n c g (A1 (c+1)) f h) (Hw L n d a (A1 (c+1)) f h))) (h e b j)
theorem A38(n b a i2 l3):C4 1 ((W5 L).keep 3) (bd (W5 L) Q Y (cd [1,1,0,1,0,0] No)) n ⟨gp [(1,.ptr 0 0 0),(1,pI b),(0,pI a),(0,pI i2)] 58,[.arr false 25 1 l3],s⟩ k =
 Hw L n b a i2 l3 (λb a i=>k (.exit 0) ⟨gp [(1,.ptr 0 0 0),(1,pI b),(0,pI a)] 59,[.arr false 25 1 i],s⟩):=by
 induction n generalizing b a i2 l3 with
 | zero=>rfl
 | succ n h=>rw[Hw];exact(j1 (by kernel_rfl) (A0 ((A37 L Q Y s (E2 2 (D9 (W5 L) Q Y (cd [1,1,0,1,0,0,1,0,0,1,1] No) (E2 1 (D9 (W5 L) Q Y (cd [1,1,0,1,0,0,1,1] No) (lpK 1 ((W5 L).keep 3) (bd (W5 L) Q Y (cd [1,1,0,1,0,0] No)) n k))))) L b a i2 0 l3).trans (congr rfl (fx5 λe c d g f=>(j1 (by kernel_rfl) (A0 (h d g (A1 (d+1)) f) (h e c (A1 (d+1)) f)))))) rfl))
noncomputable def R6{R:Type}(L n:Nat)(e a:Int)(d:By)(b:Int)(c:LL)(l:By->LL->Option R):Option R:=match n with|0=>none|n+1=>cond (ltI b 8) (cond (b==e) (cond (F3 d.length 2) (vl (d++[58,58]) λp=>vl (A1 (a-1)) λm=>vl (A1 ((A1 (b+m))+1)) λo=>R6 L n e a p o c l) none) (cond (not (d==[])) (vl (A1 ((d.length:Int)-1)) λf=>cond (inR f d.length) (cond ((bAt d f)!=58) (cond (F3 d.length 1) (vl (d++[58]) λg=>cond (inR b 8) (cond (okE ⟨true,false,[.int .u16]⟩ c (b8 b) 0) (cond (ltN (gE c (b8 b) 0) 65536) (vl (R3 (b8 (gE c (b8 b) 0))) λh=>cond (F3 g.length h.length) (R6 L n e a (g++h) (A1 (b+1)) c l) none) none) none) none) none) (cond (inR b 8) (cond (okE ⟨true,false,[.int .u16]⟩ c (b8 b) 0) (cond (ltN (gE c (b8 b) 0) 65536) (vl (R3 (b8 (gE c (b8 b) 0))) λi=>cond (F3 d.length i.length) (R6 L n e a (d++i) (A1 (b+1)) c l) none) none) none) none)) none) (cond (inR b 8) (cond (okE ⟨true,false,[.int .u16]⟩ c (b8 b) 0) (cond (ltN (gE c (b8 b) 0) 65536) (vl (R3 (b8 (gE c (b8 b) 0))) λj=>cond (F3 d.length j.length) (R6 L n e a (d++j) (A1 (b+1)) c l) none) none) none) none))) (l d c)
theorem A39(n at0 most1 s2 i3 l4):C4 1 ((W5 L).keep 12) (bd (W5 L) Q Y (cd [1,1,1,1,0,1,0,0] No)) n ⟨gp [(1,.ptr 0 0 0),(1,pI at0),(0,pI most1),(2,pS s2),(0,pI i3)] 55,[.arr false 25 1 l4],s⟩ k =
 R6 L n at0 most1 s2 i3 l4 (λc b=>k (.exit 4) ⟨gp [(7,pS c)] 56,[.arr false 25 1 b],s⟩):=by
 induction n generalizing at0 most1 s2 i3 l4 with
 | zero=>rfl
 | succ n a=>rw[R6];simp only[<-a];kernel_rfl
noncomputable def Cv5{R:Type}(L:Nat)(f g h i j l m n:Int)(o:By->LL->Option R):Option R:=Hw L L (-1) 1 0 [[(SV.int .u16 f)],[(SV.int .u16 g)],[(SV.int .u16 h)],[(SV.int .u16 i)],[(SV.int .u16 j)],[(SV.int .u16 l)],[(SV.int .u16 m)],[(SV.int .u16 n)]] (λb a e=>R6 L L b a ([]:List UInt8) 0 e (λd c=>o d c))
theorem Cv6(d:Nat)(a0 a1 a2 a3 a4 a5 a6 a7):evC (W5 L) (d+1) Z Y 71 [.agg [p16 a0,p16 a1,p16 a2,p16 a3,p16 a4,p16 a5,p16 a6,p16 a7]] [] s=Cv5 L a0 a1 a2 a3 a4 a5 a6 a7 (λf e=>some (pS f,[.arr false 25 1 e],s)):=by refine(evE (fn:=af7) (by kernel_rfl)).trans ?_;generalize evC (W5 L) d=Q;unfold Cv5;exact(j1 (by kernel_rfl) ((A38 L Q Y s (E2 0 (D9 (W5 L) Q Y (cd [1,1,1] No) (F2 (W5 L) af7))) L (-1) 1 0 [[(SV.int .u16 a0)],[(SV.int .u16 a1)],[(SV.int .u16 a2)],[(SV.int .u16 a3)],[(SV.int .u16 a4)],[(SV.int .u16 a5)],[(SV.int .u16 a6)],[(SV.int .u16 a7)]]).trans (congr rfl (fx3 λb a c=>(j1 (by kernel_rfl) ((A39 L Q Y s (E2 4 (D9 (W5 L) Q Y (cd [1,1,1,1,1] No) (F2 (W5 L) af7))) L b a ([]:List UInt8) 0 c).trans (by kernel_rfl)))))))
noncomputable def GA(L:Nat):Cfg:=B4 L [168] (A2 []) [] (A2 [(1,[2]),(0,[0])]) [] (A2 []) (some [2]) [] [] []
noncomputable def TZ{R:Type}(L:Nat)(n0:Int)(a:Bool->Option R):Option R:=cond (not (ltI n0 0)) (cond (not (ltI 1114111 n0)) (cond (ltI n0 55296) (a true) (a (ltI 57343 n0))) (a false)) (a false)
theorem Bo9(d:Nat)(n0):evC (GA L) (d+1) Z Y 168 [pI n0] [] s=TZ L n0 (λa=>some (pB a,[],s)):=by refine(evE (fn:=Tryz.f168) (by kernel_rfl)).trans ?_;generalize evC (GA L) d=Q;unfold TZ;kernel_rfl
noncomputable abbrev Nm:Code:=C3 ae5
noncomputable def W3(L:Nat):Cfg:=B4 L [170] (A2 [(6,[0,5,0])]) [] (A2 [(9,[6]),(8,[0,6]),(7,[0,6]),(6,[0,6,11]),(5,[0,6]),(4,[0]),(2,[0,0]),(3,[0,0]),(1,[0,0,6]),(0,[0,0,0])]) [] (A2 [(0,[0,6]),(1,[0,6])]) (some [6]) [] [] []
noncomputable def Fj{R:Type}(L n:Nat)(a b:Int)(e:Int->Int->Option R):Option R:=match n with|0=>none|n+1=>cond (ltI 455 a) (vl (A1 (aa0 a (35:Int))) λc=>vl (A1 (b+36)) λd=>Fj L n c d e) (e a b)
theorem TV(n a b):C4 0 ((W3 L).keep 6) (bd (W3 L) Q Y (cd [1,1,1,1,0,0,0] Nm)) n ⟨gp [(0,pI a),(6,pI b)] 23,[],s⟩ k =
 Fj L n a b (λa b=>k (.exit 0) ⟨gp [(0,pI a),(6,pI b)] 23,[],s⟩):=by
 induction n generalizing a b with
 | zero=>rfl
 | succ n c=>rw[Fj];simp only[<-c];kernel_rfl
noncomputable def Fi{R:Type}(L:Nat)(c b:Int)(i:Int->Option R):Option R:=cond (b !=0) (vl (A1 (aa0 c b)) λh=>Fj L L (A1 (c+h)) 0 (λa e=>vl (A1 ((36:Int)*a)) λf=>vl (A1 (a+38)) λd=>cond (d !=0) (vl (A1 (aa0 f d)) λg=>i (A1 (e+g))) none)) none
abbrev BF(b:Code):Prop:=∀(k:Out->St Z->Option R) delta0 count1,A9 (W3 L) Q Y b ⟨gp [(0,pI delta0),(0,pI count1)] 29,[],s⟩ k=Fi L delta0 count1 (λn0=>k .ret ⟨gp [(6,pI n0)] 24,[],s⟩)
theorem TU:BF (R:=R) L Q Y s (cd [1,1] Nm):=by intro k a b;unfold Fi;exact(j1 (by kernel_rfl) (A0 (A4 λc=>((TV L Q Y s (E2 0 (D9 (W3 L) Q Y (cd [1,1,1,1,1] Nm) k)) L (A1 (a+c)) 0).trans (by kernel_rfl))) rfl))
noncomputable def IF{R:Type}(L:Nat)(b a:Int)(c:Bool)(h:Int->Option R):Option R:=cond c (vl (A1 (aa0 b (700:Int))) λf=>Fi L f a (λd=>h d)) (vl (A1 (aa0 b (2:Int))) λg=>Fi L g a (λe=>h e))
theorem Bn6(e:Code)(a:BF (R:=PV × List Blk × Z) L Q Y s e)(c b:Int)(d:Bool):A9 (W3 L) Q Y (cd [] (G4 [1,1] e Nm)) ⟨[pI c,pI b,pB d]++tps 28,[],s⟩ (F2 (W3 L) ae5)=IF L c b d (λi=>some (pI i,[],s)):=by unfold IF;exact let h:=(F2 (W3 L) ae5);(j1 (by kernel_rfl) (A0 (A4 λf=>((a h f b).trans (by kernel_rfl))) (A4 λg=>((a h g b).trans (by kernel_rfl)))))
theorem Bn7(d:Nat)(delta0 count1 first2):evC (W3 L) (d+1) Z Y 170 [pI delta0,pI count1,pB first2] [] s=IF L delta0 count1 first2 (λa=>some (pI a,[],s)):=
 (evE (fn:=ae5) (by kernel_rfl)).trans (j1 (by kernel_rfl) (Bn6 L (evC (W3 L) d) Y s (cd [1,1] Nm) (TU L (evC (W3 L) d) Y s) delta0 count1 first2))
noncomputable def Am8(L:Nat):Cfg:=B4 L [183] (A2 []) [] (A2 [(3,[2]),(2,[2]),(1,[0,3]),(0,[0])]) [] (A2 []) (some [2]) [] [] []
noncomputable def Cr6{R:Type}(L:Nat)(a:Int)(d:Int->Option R):Option R:=cond (ltI a 26) (vl (wu8 (A1 ((97:Int)+a))) λb=>d b) (vl (A1 ((A1 ((48:Int)+a))-26)) λc=>d (wu8 c))
theorem Cr7(d:Nat)(d0):evC (Am8 L) (d+1) Z Y 183 [pI d0] [] s=Cr6 L d0 (λa=>some (p8 a,[],s)):=by refine(evE (fn:=Tryz.f183) (by kernel_rfl)).trans ?_;generalize evC (Am8 L) d=Q;unfold Cr6;kernel_rfl
noncomputable abbrev Rt:Code:=C3 ae7
noncomputable def Ih(L:Nat):Cfg:=B4 L [189] (A2 []) [] (A2 [(7,[2]),(2,[2]),(4,[2]),(6,[2]),(5,[0,22]),(3,[0,12]),(1,[0,2]),(0,[0])]) [] (A2 [(0,[])]) (some [2]) [] [] []
noncomputable def Vo{R:Type}(a:Int)(g:Bool)(e:Int->Option R)(f:Int->Bool->Option R):Option R:=cond g (vl (A1 (wu8 (a-65))) λb=>e b) (cond (not (ltI a 48)) (cond (not (ltI 57 a)) (vl (A1 (wu8 (a-48))) λc=>vl (A1 (c+26)) λd=>e d) (f a (not (ltI 57 a)))) (f a false))
abbrev MT(b:Code):Prop:=∀(k:Out->St Z->Option R) a c,A9 (Ih L) Q Y b ⟨gp [(0,p8 a),(12,pB c)] 20,[],s⟩ k=Vo a c (λn0=>k .ret ⟨gp [(2,pI n0)] 31,[],s⟩) (λa c=>k .normal ⟨gp [(0,p8 a),(22,pB c)] 10,[],s⟩)
theorem Av5:MT (R:=R) L Q Y s (cd [1,0,0,1,1,1] Rt):=by intro k a b;unfold Vo;kernel_rfl
noncomputable def Vp{R:Type}(a:Int)(l:Bool)(f:Int->Option R)(j:Int->Bool->Option R):Option R:=cond l (vl (A1 (wu8 (a-97))) λg=>f g) (cond (not (ltI a 65)) (Vo a (not (ltI 90 a)) (λh=>f h) (λb c=>j b c)) (Vo a false (λi=>f i) (λd e=>j d e)))
abbrev Zq(b:Code):Prop:=∀(k:Out->St Z->Option R) a c,A9 (Ih L) Q Y b ⟨gp [(0,p8 a),(2,pB c)] 30,[],s⟩ k=Vp a c (λn0=>k .ret ⟨gp [(2,pI n0)] 31,[],s⟩) (λa c=>k .normal ⟨gp [(0,p8 a),(22,pB c)] 10,[],s⟩)
theorem Av6(a:Code)(b:MT (R:=R) L Q Y s a):Zq (R:=R) L Q Y s (cd [1,0,0,1] (G4 [1,0,0,1,1,1] a Rt)):=by intro k c d;unfold Vp;simp only[<-b k];kernel_rfl
theorem Av7:Zq (R:=R) L Q Y s (cd [1,0,0,1] Rt):=by intro k a b;exact j1 (by kernel_rfl) (Av6 L Q Y s (cd [1,0,0,1,1,1] Rt) (Av5 L Q Y s) k a b)
noncomputable def B82{R:Type}(L:Nat)(c:Int)(d:Int->Option R):Option R:=cond (not (ltI c 97)) (Vp c (not (ltI 122 c)) (λa=>d a) (λe f=>d (-1))) (Vp c false (λb=>d b) (λg h=>d (-1)))
theorem Cs6(b:Code)(a:Zq (R:=PV × List Blk × Z) L Q Y s b)(c:Int):A9 (Ih L) Q Y (cd [] (G4 [1,0,0,1] b Rt)) ⟨[p8 c]++tps 33,[],s⟩ (F2 (Ih L) ae7)=B82 L c (λe=>some (pI e,[],s)):=by unfold B82;exact let d:=(E2 0 (D9 (Ih L) Q Y (cd [1,1] Rt) (F2 (Ih L) ae7)));(j1 (by kernel_rfl) (A0 ((a d c (not (ltI 122 c))).trans (by kernel_rfl)) ((a d c false).trans (by kernel_rfl))))
theorem Cs7(d:Nat)(b0):evC (Ih L) (d+1) Z Y 189 [p8 b0] [] s=B82 L b0 (λa=>some (pI a,[],s)):=
 (evE (fn:=ae7) (by kernel_rfl)).trans (j1 (by kernel_rfl) (Cs6 L (evC (Ih L) d) Y s (cd [1,0,0,1] Rt) (Av7 L (evC (Ih L) d) Y s) b0))
end
section
variable {Z R : Type} (L : Nat) (Q : G1) (Y : Yh Z) (s : Z) (k : Out -> St Z -> Option R)
noncomputable def Am5(L:Nat):Cfg:=B4 L [79] (A2 []) [] (A2 [(1,[4]),(0,[0,0])]) [] (A2 []) (some [4]) [] [] []
noncomputable def Cp9{R:Type}(L:Nat)(c a:By)(d:Bool->Option R):Option R:=cond (not (ltI (c.length:Int) (a.length:Int))) (cond (I2 0 (a.length:Int) c.length) (vl (cut c 0 (a.length:Int)) λb=>d (b==a)) none) (d false)
theorem Cq0(d:Nat)(s0 prefix1):evC (Am5 L) (d+1) Z Y 79 [pS s0,pS prefix1] [] s=Cp9 L s0 prefix1 (λa=>some (pB a,[],s)):=by refine(evE (fn:=Tryz.f79) (by kernel_rfl)).trans ?_;generalize evC (Am5 L) d=Q;unfold Cp9;kernel_rfl
noncomputable def Am2(L:Nat):Cfg:=B4 L [59] (A2 []) [(79,OT)] (A2 [(1,[4]),(0,[0,0])]) [79] (A2 []) (some [4]) [] [] []
noncomputable def Sn{R:Type}(L:Nat)(b a:By)(c:Bool->Option R):Option R:=cond (A3 b.length) (c (p7 a b)) none
theorem Co3(d:Nat)(s0 prefix1):evC (Am2 L) (d+1) Z Y 59 [pS s0,pS prefix1] [] s=Sn L s0 prefix1 (λa=>some (pB a,[],s)):=by refine(evE (fn:=Tryz.f59) (by kernel_rfl)).trans ?_;generalize evC (Am2 L) d=Q;unfold Sn;kernel_rfl
noncomputable def Am6(L:Nat):Cfg:=B4 L [93] (A2 []) [] (A2 [(1,[4]),(0,[0,0])]) [] (A2 []) (some [4]) [] [] []
noncomputable def Cq1{R:Type}(L:Nat)(b a:By)(e:Bool->Option R):Option R:=cond (not (ltI (b.length:Int) (a.length:Int))) (vl (A1 ((b.length:Int)-(a.length:Int))) λc=>cond (I2 c (b.length:Int) b.length) (vl (cut b c (b.length:Int)) λd=>e (d==a)) none) (e false)
theorem Cq2(d:Nat)(s0 suffix1):evC (Am6 L) (d+1) Z Y 93 [pS s0,pS suffix1] [] s=Cq1 L s0 suffix1 (λa=>some (pB a,[],s)):=by refine(evE (fn:=Tryz.f93) (by kernel_rfl)).trans ?_;generalize evC (Am6 L) d=Q;unfold Cq1;kernel_rfl
noncomputable def Am3(L:Nat):Cfg:=B4 L [65] (A2 []) [(93,Ai5)] (A2 [(1,[4]),(0,[0,0])]) [93] (A2 []) (some [4]) [] [] []
noncomputable def Co4{R:Type}(L:Nat)(b a:By)(c:Bool->Option R):Option R:=cond (A3 b.length) (c (aa8 a b)) none
theorem Co5(d:Nat)(s0 suffix1):evC (Am3 L) (d+1) Z Y 65 [pS s0,pS suffix1] [] s=Co4 L s0 suffix1 (λa=>some (pB a,[],s)):=by refine(evE (fn:=Tryz.f65) (by kernel_rfl)).trans ?_;generalize evC (Am3 L) d=Q;unfold Co4;kernel_rfl
noncomputable def RN(L:Nat):Cfg:=B4 L [137] (A2 []) [(93,Ai5)] (A2 [(3,[4]),(2,[4]),(1,[0,0,5]),(0,[0,0])]) [93] (A2 []) (some [4]) [] [] []
noncomputable def Bd9{R:Type}(L:Nat)(b a:By)(d:By->Option R):Option R:=cond (A3 b.length) (cond (aa8 a b) (vl (A1 ((b.length:Int)-(a.length:Int))) λc=>cond (I2 0 c b.length) (d (cut b 0 c)) none) (d b)) none
theorem B60(d:Nat)(s0 suffix1):evC (RN L) (d+1) Z Y 137 [pS s0,pS suffix1] [] s=Bd9 L s0 suffix1 (λa=>some (pS a,[],s)):=by refine(evE (fn:=Tryz.f137) (by kernel_rfl)).trans ?_;generalize evC (RN L) d=Q;unfold Bd9;kernel_rfl
noncomputable def RZ(L:Nat):Cfg:=B4 L [107] (A2 []) [(137,A91)] (A2 [(1,[4]),(0,[0,0])]) [137] (A2 []) (some [4]) [] [] []
noncomputable def Bg7{R:Type}(L:Nat)(b a:By)(c:By->Option R):Option R:=cond (A3 b.length) (c (VH b a)) none
theorem Ce4(d:Nat)(s0 suffix1):evC (RZ L) (d+1) Z Y 107 [pS s0,pS suffix1] [] s=Bg7 L s0 suffix1 (λa=>some (pS a,[],s)):=by refine(evE (fn:=Tryz.f107) (by kernel_rfl)).trans ?_;generalize evC (RZ L) d=Q;unfold Bg7;kernel_rfl
noncomputable def RK(L:Nat):Cfg:=B4 L [74] (A2 []) [(79,OT)] (A2 [(3,[4,0]),(2,[4,0]),(1,[0,0,7]),(0,[0,0])]) [79] (A2 []) (some [4,0]) [] [] []
noncomputable def Bd4{R:Type}(L:Nat)(b a:By)(d:By->Bool->Option R):Option R:=cond (A3 b.length) (cond (not (p7 a b)) (d b false) (cond (I2 (a.length:Int) (b.length:Int) b.length) (vl (cut b (a.length:Int) (b.length:Int)) λc=>d c true) none)) none
theorem B55(d:Nat)(s0 prefix1):evC (RK L) (d+1) Z Y 74 [pS s0,pS prefix1] [] s=Bd4 L s0 prefix1 (λa b=>some (.tup [pS a,pB b],[],s)):=by refine(evE (fn:=Tryz.f74) (by kernel_rfl)).trans ?_;generalize evC (RK L) d=Q;unfold Bd4;kernel_rfl
noncomputable def Al7(L:Nat):Cfg:=B4 L [57] (A2 []) [(74,A88)] (A2 [(1,[4,0]),(0,[0,0])]) [74] (A2 []) (some [4,0]) [] [] []
noncomputable def Cl1{R:Type}(L:Nat)(b a:By)(c:By->Bool->Option R):Option R:=cond (A3 b.length) (c (Fz b a) (p7 a b)) none
theorem Cl2(d:Nat)(s0 prefix1):evC (Al7 L) (d+1) Z Y 57 [pS s0,pS prefix1] [] s=Cl1 L s0 prefix1 (λa b=>some (.tup [pS a,pB b],[],s)):=by refine(evE (fn:=Tryz.f57) (by kernel_rfl)).trans ?_;generalize evC (Al7 L) d=Q;unfold Cl1;kernel_rfl
noncomputable abbrev WW:Code:=C3 ag3
noncomputable def Dg(L:Nat):Cfg:=B4 L [138] (A2 [(11,[0,0,0,0,4,0,0])]) [(165,Jc),(166,Aj6),(154,FF)] (A2 [(18,[8]),(17,[9,0]),(16,[0,0,0,0,5,0]),(15,[0,0,0,0,5,0]),(14,[0,0,0,0,5,0,0]),(13,[0,0,0,0,5,0,0,29]),(12,[0,0,0,0,5,0,0]),(11,[0,0,0,0,5,0,25]),(10,[0,0,0,0,5,0]),(9,[0,0,0,0,5]),(8,[0,0,0,0,5]),(7,[0,0,0,0]),(6,[0,0,0,0]),(5,[0,0,0,0,16]),(4,[8]),(3,[0,0,0,0,11]),(2,[8]),(1,[0,0,0,0,9]),(0,[0,0,0,0])]) [166,154] (A2 [(0,[0,8,0]),(1,[0,0,0,0,5,0])]) (some [8]) [] [] []
noncomputable def Aq{R:Type}(L n:Nat)(c b:By)(a l d:Int)(g:LL)(j:By->Int->LL->Option R):Option R:=match n with|0=>none|n+1=>cond (ltI d l) (cond (A3 c.length) (cond (ltI (y5 c b) (0:Int)) (j c d g) (vl (A1 ((y5 c b)+a)) λe=>cond (I2 0 e c.length) (cond (inR d g.length) (cond (decide ((b8 d)<g.length)) (vl (aa6 g (b8 d) (F8 (b9 g (b8 d) []) 0 [(SV.str (cut c 0 e))])) λh=>vl (A1 ((y5 c b)+(b.length:Int))) λf=>cond (I2 f (c.length:Int) c.length) (vl (cut c f (c.length:Int)) λi=>Aq L n i b a l (A1 (d+1)) h j) none) none) none) none)) none) (j c d g)
theorem Uv(n a sep1 sepSave2 n3 i4 l5):C4 1 ((Dg L).keep 11) (bd (Dg L) Q Y (cd [1,1,1,1,1,1,1,1,0,0,0] WW)) n ⟨gp [(0,pS a),(0,pS sep1),(0,pI sepSave2),(0,pI n3),(5,.fl 0),(0,pI i4)] 55,[.arr false 9 1 l5],s⟩ k =
 Aq L n a sep1 sepSave2 n3 i4 l5 (λa b d=>k (.exit 0) ⟨gp [(0,pS a),(8,.fl 0),(0,pI b)] 55,[.arr false 9 1 d],s⟩):=by
 induction n generalizing a sep1 sepSave2 n3 i4 l5 with
 | zero=>rfl
 | succ n c=>rw[Aq];simp only[<-c];kernel_rfl
noncomputable def HC{R:Type}(L:Nat)(t d:By)(a u:Int)(w:Unit->Option R)(v:Nat->LL->Option R):Option R:=cond (u==0) (w ()) (cond (d==[]) none (cond (ltI u 0) (cond (d.length==1) (vl (↑(List.count (b9 d 0 0) t):Int) λn=>vl (A1 ((t.length:Int)+1)) λo=>vl (if (o<(A1 (n+1))) then o else (A1 (n+1))) λg=>cond (((decide ((0:Int)<=g))&&(decide (g<=g)))&&(F7 (b8 g))) (Aq L L t d a (A1 (g-1)) 0 (j0 (b8 g) [(SV.str ([]:List UInt8))]) (λq b e=>cond (inR b e.length) (cond (decide ((b8 b)<e.length)) (vl (aa6 e (b8 b) (F8 (b9 e (b8 b) []) 0 [(SV.str q)])) λi=>vl (A1 (b+1)) λl=>cond (I2 0 l i.length) (v ((b8 l)-0) i) none) none) none)) none) none) (vl (A1 ((t.length:Int)+1)) λp=>vl (if (p<u) then p else u) λh=>cond (((decide ((0:Int)<=h))&&(decide (h<=h)))&&(F7 (b8 h))) (Aq L L t d a (A1 (h-1)) 0 (j0 (b8 h) [(SV.str ([]:List UInt8))]) (λr c f=>cond (inR c f.length) (cond (decide ((b8 c)<f.length)) (vl (aa6 f (b8 c) (F8 (b9 f (b8 c) []) 0 [(SV.str r)])) λj=>vl (A1 (c+1)) λm=>cond (I2 0 m j.length) (v ((b8 m)-0) j) none) none) none)) none)))
theorem MD(d:Nat)(s0 sep1 sepSave2 n3):evC (Dg L) (d+1) Z Y 138 [pS s0,pS sep1,pI sepSave2,pI n3] [] s=HC L s0 sep1 sepSave2 n3 (λ_=>some (.fl 0,[.arr true 9 1 []],s)) (λc f=>some (.vw 0 0 c,[.arr false 9 1 f],s)):=by refine(evE (fn:=ag3) (by kernel_rfl)).trans ?_;generalize evC (Dg L) d=Q;unfold HC;exact let e:=(E2 0 (D9 (Dg L) Q Y (cd [1,1,1,1,1,1,1,1,1] WW) (F2 (Dg L) ag3)));(j1 (by kernel_rfl) (A0 rfl (A0 rfl (A0 (A0 (A4 λg=>(A4 λh=>(A4 λa=>(A0 ((Uv L Q Y s e L s0 sep1 sepSave2 (A1 (a-1)) 0 (j0 (b8 a) [(SV.str ([]:List UInt8))])).trans (by kernel_rfl)) rfl)))) rfl) (A4 λi=>(A4 λb=>(A0 ((Uv L Q Y s e L s0 sep1 sepSave2 (A1 (b-1)) 0 (j0 (b8 b) [(SV.str ([]:List UInt8))])).trans (by kernel_rfl)) rfl)))))))
noncomputable def GE(L:Nat):Cfg:=B4 L [109] (A2 []) [(138,WI)] (A2 [(1,[4]),(0,[0,0])]) [] (A2 []) (some [4]) [] [] []
noncomputable def VC{R:Type}(L:Nat)(c a:By)(d:LL->Option R):Option R:=cond (A3 c.length) (cond (a.length==1) (cond ((0:Int)==0) (cond (((-1):Int)==((-1):Int)) (vl (D4 (pcs (b9 a 0 0) c)) λb=>d b) none) none) none) none
theorem Bt9(d:Nat)(s0 sep1):evC (GE L) (d+1) Z Y 109 [pS s0,pS sep1] [] s=VC L s0 sep1 (λa=>some (.s (.sl false false 1 a),[],s)):=by refine(evE (fn:=Tryz.f109) (by kernel_rfl)).trans ?_;generalize evC (GE L) d=Q;unfold VC;kernel_rfl
noncomputable abbrev B07:Code:=C3 ah5
noncomputable def Rz(L:Nat):Cfg:=B4 L [56] (A2 [(3,[0,1,0,6,0])]) [] (A2 [(10,[2]),(9,[0,2,6,0]),(8,[0,2,6,0]),(7,[0,2,1,4,0]),(6,[0,2,1,4,0,10]),(5,[0,2,1,4,0]),(4,[0,2,0,5,0]),(3,[0,2,6,0,0]),(2,[0,2,6,0]),(1,[0,2]),(0,[0])]) [] (A2 [(0,[3]),(1,[0,2,6,0])]) (some [2]) [] [] []
noncomputable def Ek{R:Type}(L n:Nat)(b:By)(e a:Int)(c:LL)(d:LL->Option R):Option R:=match n with|0=>none|n+1=>cond (ltI a e) (cond (inR a b.length) (cond (not (ltI (bAt b a) (65:Int))) (cond (not (ltI 90 (bAt b a))) (vl (wu8 ((bAt b a)+32)) λf=>cond (F7 (c.length+1)) (Ek L n b e (A1 (a+1)) (c++[[(SV.int .u8 f)]]) d) none) (cond (F7 (c.length+1)) (Ek L n b e (A1 (a+1)) (c++[[(SV.int .u8 (bAt b a))]]) d) none)) (cond (F7 (c.length+1)) (Ek L n b e (A1 (a+1)) (c++[[(SV.int .u8 (bAt b a))]]) d) none)) none) (d c)
theorem As1(n s0 n1 n2 l3):C4 1 ((Rz L).keep 3) (bd (Rz L) Q Y (cd [1,1,0,1,0,0] B07)) n ⟨gp [(0,pS s0),(2,.fl 0),(6,pI n1),(0,pI n2)] 20,[.arr false 5 1 l3],s⟩ k =
 Ek L n s0 n1 n2 l3 (λb=>k (.exit 0) ⟨gp [(3,.fl 0)] 28,[.arr false 5 1 b],s⟩):=by
 induction n generalizing s0 n1 n2 l3 with
 | zero=>rfl
 | succ n a=>rw[Ek];simp only[<-a];kernel_rfl
noncomputable def Cp7{R:Type}(L:Nat)(b:By)(c:By->LL->Option R):Option R:=cond ((decide ((0:Int)<=(b.length:Int)))&&(F7 (b8 (b.length:Int)))) (Ek L L b (b.length:Int) 0 [] (λa=>cond (x3 a Mz) (c (s7 Kv a) a) none)) none
theorem Cp8(d:Nat)(s0):evC (Rz L) (d+1) Z Y 56 [pS s0] [] s=Cp7 L s0 (λb a=>some (pS b,[.arr false 5 1 a],s)):=by refine(evE (fn:=ah5) (by kernel_rfl)).trans ?_;generalize evC (Rz L) d=Q;unfold Cp7;exact(j1 (by kernel_rfl) (A0 ((As1 L Q Y s (E2 0 (D9 (Rz L) Q Y (cd [1,1,1] B07) (F2 (Rz L) ah5))) L s0 (s0.length:Int) 0 []).trans (by kernel_rfl)) rfl))
noncomputable def Am0(L:Nat):Cfg:=B4 L [122] (A2 []) [(59,DT)] (A2 [(1,[2]),(0,[0])]) [59] (A2 []) (some [2]) [] [] []
noncomputable def Cn9{R:Type}(L:Nat)(a:By)(b:Bool->Option R):Option R:=cond (A3 a.length) (cond (p7 ([48,120]:List UInt8) a) (b true) (cond (A3 a.length) (b (p7 ([48,88]:List UInt8) a)) none)) none
theorem Co0(d:Nat)(s0):evC (Am0 L) (d+1) Z Y 122 [pS s0] [] s=Cn9 L s0 (λa=>some (pB a,[],s)):=by refine(evE (fn:=Tryz.f122) (by kernel_rfl)).trans ?_;generalize evC (Am0 L) d=Q;unfold Cn9;kernel_rfl
noncomputable abbrev Dx:Code:=C3 ae0
noncomputable def U9(L:Nat):Cfg:=B4 L [124] (A2 [(3,[0,0,2,0,0,4,0])]) [] (A2 [(18,[4,0]),(17,[0,0,4,4,0]),(16,[0,0,4,4,0]),(15,[4,0]),(14,[0,0,4,1,2,0,39]),(9,[0,0,4,1,2,0]),(11,[0,0,4,1,2,0]),(13,[0,0,4,1,2,0]),(7,[4,0]),(12,[0,0,4,2,1,0,26]),(10,[0,0,4,2,1,0,15]),(8,[0,0,4,2,1,0,5]),(6,[0,0,4,2,1,0]),(5,[0,0,4,0,3,0]),(4,[0,0,4,0,3,0]),(3,[0,0,4,4,0,0]),(2,[0,0,4,4,0]),(1,[0,0,4]),(0,[0,0])]) [] (A2 [(0,[6]),(1,[0,0,4,4,0]),(2,[0,0,4,1,2,0])]) (some [4,0]) [] [] []
noncomputable def Ud{R:Type}(m:By)(a i b j l:Int)(n:Bool)(g:By->Int->Int->Int->Int->Int->Option R)(h:Unit->Option R):Option R:=cond n (vl (A1 (wu8 (b-97))) λc=>vl (A1 (c+10)) λd=>g m a i d j l) (cond (not (ltI b 65)) (cond (not (ltI 70 b)) (vl (A1 (wu8 (b-65))) λe=>vl (A1 (e+10)) λf=>g m a i f j l) (h ())) (h ()))
abbrev LW(b:Code):Prop:=∀(k:Out->St Z->Option R) f a c b3 d e b6,A9 (U9 L) Q Y b ⟨gp [(0,pS f),(0,pI a),(4,pI c),(2,p8 b3),(1,pI d),(0,pI e),(15,pB b6)] 32,[],s⟩ k=Ud f a c b3 d e b6 (λf a c g d e=>k .normal ⟨gp [(0,pS f),(0,pI a),(4,pI c),(1,pI g),(2,pI d),(0,pI e)] 48,[],s⟩) (λ_=>k .ret ⟨gp [(4,pI (0:Int)),(0,pB false)] 55,[],s⟩)
theorem Ao1:LW (R:=R) L Q Y s (cd [1,1,0,1,0,0,1,1,0,0,1,1,0,1,0,1,1,1] Dx):=by intro k g a d b e f c;unfold Ud;kernel_rfl
noncomputable def Ue{R:Type}(v:By)(a q d r t:Int)(x:Bool)(m:By->Int->Int->Int->Int->Int->Option R)(w:Unit->Option R):Option R:=cond x (vl (A1 (wu8 (d-48))) λn=>m v a q n r t) (cond (not (ltI d 97)) (Ud v a q d r t (not (ltI 102 d)) (λu c o l p f=>m u c o l p f) (λ_=>w ())) (Ud v a q d r t false (λj b g e h i=>m j b g e h i) (λ_=>w ())))
abbrev Po(b:Code):Prop:=∀(k:Out->St Z->Option R) f a c b3 d e b6,A9 (U9 L) Q Y b ⟨gp [(0,pS f),(0,pI a),(4,pI c),(2,p8 b3),(1,pI d),(0,pI e),(5,pB b6)] 42,[],s⟩ k=Ue f a c b3 d e b6 (λf a c g d e=>k .normal ⟨gp [(0,pS f),(0,pI a),(4,pI c),(1,pI g),(2,pI d),(0,pI e)] 48,[],s⟩) (λ_=>k .ret ⟨gp [(4,pI (0:Int)),(0,pB false)] 55,[],s⟩)
theorem Ao2(a:Code)(b:LW (R:=R) L Q Y s a):Po (R:=R) L Q Y s (cd [1,1,0,1,0,0,1,1,0,0,1,1,0,1,0,1] (G4 [1,1,0,1,0,0,1,1,0,0,1,1,0,1,0,1,1,1] a Dx)):=by intro k i c f d g h e;unfold Ue;simp only[<-b k];kernel_rfl
theorem Ao3:Po (R:=R) L Q Y s (cd [1,1,0,1,0,0,1,1,0,0,1,1,0,1,0,1] Dx):=by intro k g a d b e f c;exact j1 (by kernel_rfl) (Ao2 L Q Y s (cd [1,1,0,1,0,0,1,1,0,0,1,1,0,1,0,1,1,1] Dx) (Ao1 L Q Y s) k g a d b e f c)
noncomputable def Uf{R:Type}(j:By)(a g d h i:Int)(e:Unit->Option R)(f:By->Int->Int->Int->Int->Option R):Option R:=cond (not (ltI d a)) (e ()) (vl (A1 ((A1 (g*a))+d)) λb=>vl (if ((1099511627776:Int)<b) then (1099511627776:Int) else b) λc=>f j a c h i)
abbrev Ys(b:Code):Prop:=∀(k:Out->St Z->Option R) e a c d3 d n5,A9 (U9 L) Q Y b ⟨gp [(0,pS e),(0,pI a),(4,pI c),(1,pI d3),(2,pI d),(0,pI n5)] 48,[],s⟩ k=Uf e a c d3 d n5 (λ_=>k .ret ⟨gp [(4,pI (0:Int)),(0,pB false)] 55,[],s⟩) (λe a c f d=>k .normal ⟨gp [(0,pS e),(0,pI a),(4,pI c),(4,pI f),(0,pI d)] 48,[],s⟩)
theorem Ao4:Ys (R:=R) L Q Y s (cd [1,1,0,1,0,0,1,1,0,0,1,1,1] Dx):=by intro k f a c b d e;unfold Uf;kernel_rfl
noncomputable def Hj{R:Type}(L n:Nat)(g:By)(e H I f:Int)(h:Unit->Option R)(G:Int->Option R):Option R:=match n with|0=>none|n+1=>cond (ltI f I) (cond (inR f g.length) (cond (not (ltI (bAt g f) (48:Int))) (Ue g e H (bAt g f) I f (not (ltI 57 (bAt g f))) (λB a l i m o=>Uf B a l i m o (λ_=>h ()) (λC b p q r=>vl (A1 (r+1)) λt=>Hj L n C b p q t h G)) (λ_=>h ())) (Ue g e H (bAt g f) I f false (λD c u j v w=>Uf D c u j v w (λ_=>h ()) (λF d x y z=>vl (A1 (z+1)) λA=>Hj L n F d x y A h G)) (λ_=>h ()))) none) (G H)
theorem Ao5(b:Code)(d:Po (R:=R) L Q Y s b)(a:Code)(e:Ys (R:=R) L Q Y s a)(n:Nat)(l:By)(c C D j:Int):C4 0 ((U9 L).keep 3) (bd (U9 L) Q Y (cd [1,1,0,1,0,0] (G4 [1,1,0,1,0,0,1,1,0,0,1,1,1] a (G4 [1,1,0,1,0,0,1,1,0,0,1,1,0,1,0,1] b Dx)))) n ⟨gp [(0,pS l),(0,pI c),(4,pI C),(4,pI D),(0,pI j)] 48,[],s⟩ k =
 Hj L n l c C D j (λ_=>k .ret ⟨gp [(4,pI (0:Int)),(0,pB false)] 55,[],s⟩) (λn0=>k (.exit 0) ⟨gp [(6,pI n0)] 54,[],s⟩):=by
 induction n generalizing l c C D j with
 | zero=>rfl
 | succ n M=>rw[Hj];exact let J:=(E2 1 (D9 (U9 L) Q Y (cd [1,1,0,1,0,0,1,1,1] Dx) (lpK 0 ((U9 L).keep 3) (bd (U9 L) Q Y (cd [1,1,0,1,0,0] (G4 [1,1,0,1,0,0,1,1,0,0,1,1,1] a (G4 [1,1,0,1,0,0,1,1,0,0,1,1,0,1,0,1] b Dx)))) n k)));let K:=(E2 2 (D9 (U9 L) Q Y a J));(j1 (by kernel_rfl) (A0 (A0 (A0 ((d K l c C (bAt l j) D j (not (ltI 57 (bAt l j)))).trans (congr (congr rfl (fx6 λF f p m q r=>(j1 (by kernel_rfl) ((e J F f p m q r).trans (congr (congr rfl (by kernel_rfl)) (fx5 λG g t u N=>(j1 (by kernel_rfl) (A4 λv=>(M G g t u v))))))))) (by kernel_rfl))) ((d K l c C (bAt l j) D j false).trans (congr (congr rfl (fx6 λH h w o x y=>(j1 (by kernel_rfl) ((e J H h w o x y).trans (congr (congr rfl (by kernel_rfl)) (fx5 λI i z A O=>(j1 (by kernel_rfl) (A4 λB=>(M I i z A B))))))))) (by kernel_rfl)))) rfl) rfl))
noncomputable def B29{R:Type}(L:Nat)(d:By)(a:Int)(c:Int->Bool->Option R):Option R:=Hj L L d a 0 (d.length:Int) 0 (λ_=>c 0 false) (λb=>c b true)
theorem Cl9(a:Code)(d:Po (R:=PV × List Blk × Z) L Q Y s a)(b:Code)(e:Ys (R:=PV × List Blk × Z) L Q Y s b)(f:By)(c:Int):A9 (U9 L) Q Y (cd [] (G4 [1,1,0,1,0,0,1,1,0,0,1,1,1] b (G4 [1,1,0,1,0,0,1,1,0,0,1,1,0,1,0,1] a Dx))) ⟨[pS f,pI c]++tps 59,[],s⟩ (F2 (U9 L) ae0)=B29 L f c (λg h=>some (.tup [pI g,pB h],[],s)):=by unfold B29;exact(j1 (by kernel_rfl) ((Ao5 L Q Y s (E2 0 (D9 (U9 L) Q Y (cd [1,1,1] Dx) (F2 (U9 L) ae0))) a d b e L f c 0 (f.length:Int) 0).trans (by kernel_rfl)))
theorem Cm0(d:Nat)(s0 base1):evC (U9 L) (d+1) Z Y 124 [pS s0,pI base1] [] s=B29 L s0 base1 (λa b=>some (.tup [pI a,pB b],[],s)):=
 (evE (fn:=ae0) (by kernel_rfl)).trans (j1 (by kernel_rfl) (Cl9 L (evC (U9 L) d) Y s (cd [1,1,0,1,0,0,1,1,0,0,1,1,0,1,0,1] Dx) (Ao3 L (evC (U9 L) d) Y s) (cd [1,1,0,1,0,0,1,1,0,0,1,1,1] Dx) (Ao4 L (evC (U9 L) d) Y s) s0 base1))
noncomputable def B20(L:Nat):Cfg:=B4 L [123] (A2 []) [(122,Ai0),(124,NX)] (A2 [(7,[2,0]),(2,[2,0]),(4,[2,0]),(6,[2,0]),(5,[0,14]),(3,[0,6]),(1,[0,3]),(0,[0])]) [122,124] (A2 [(0,[0])]) (some [2,0]) [] [] []
noncomputable def num{R:Type}(L:Nat)(a:By)(d:Int->Bool->Option R):Option R:=cond (a==[]) (d 0 false) (cond (A3 a.length) (cond (Bi a) (cond (I2 2 (a.length:Int) a.length) (vl (cut a 2 (a.length:Int)) λb=>cond (A3 b.length) (cond (ltN 16 17) (vl (↑(M3 (E7 16 0 b)):Int) λe=>d e (j2 (E7 16 0 b))) none) none) none) (cond (ltI 1 (a.length:Int)) (cond (inR 0 a.length) (cond ((bAt a (0:Int))==48) (cond (I2 1 (a.length:Int) a.length) (vl (cut a 1 (a.length:Int)) λc=>cond (A3 c.length) (cond (ltN 8 17) (vl (↑(M3 (E7 8 0 c)):Int) λf=>d f (j2 (E7 8 0 c))) none) none) none) (cond (A3 a.length) (cond (ltN 10 17) (vl (↑(M3 (E7 10 0 a)):Int) λg=>d g (j2 (E7 10 0 a))) none) none)) none) (cond (A3 a.length) (cond (ltN 10 17) (vl (↑(M3 (E7 10 0 a)):Int) λh=>d h (j2 (E7 10 0 a))) none) none))) none)
theorem C58(d:Nat)(s0):evC (B20 L) (d+1) Z Y 123 [pS s0] [] s=num L s0 (λa b=>some (.tup [pI a,pB b],[],s)):=by refine(evE (fn:=Tryz.f123) (by kernel_rfl)).trans ?_;generalize evC (B20 L) d=Q;unfold num;kernel_rfl
noncomputable def RP(L:Nat):Cfg:=B4 L [121] (A2 []) [(109,Tv)] (A2 [(5,[2]),(4,[3]),(3,[3,0,13]),(2,[3,0]),(1,[3]),(0,[0])]) [] (A2 []) (some [2]) [] [] []
noncomputable def parts{R:Type}(L:Nat)(e:By)(c:LL->Option R):Option R:=cond (A3 e.length) (cond (1==1) (vl (D4 (pcs (b9 ([46]:List UInt8) 0 0) e)) λa=>vl (A1 ((a.length:Int)-1)) λb=>cond (ltI 0 b) (cond (inR b a.length) (cond (okE Oq a (b8 b) 0) (vl (gX a (b8 b) 0) λd=>cond (d==[]) (cond (I2 0 b a.length) (c (cut a 0 b)) none) (c a)) none) none) (c a)) none) none
theorem B77(d:Nat)(s0):evC (RP L) (d+1) Z Y 121 [pS s0] [] s=parts L s0 (λa=>some (.s (.sl false false 1 a),[],s)):=by refine(evE (fn:=Tryz.f121) (by kernel_rfl)).trans ?_;generalize evC (RP L) d=Q;unfold parts;kernel_rfl
noncomputable def Yl(L:Nat):Cfg:=B4 L [90] (A2 []) [(121,PC),(122,Ai0),(123,By4),(124,NX)] (A2 [(7,[2]),(6,[4,3]),(5,[2]),(4,[6]),(3,[4,13]),(2,[4]),(1,[3]),(0,[0])]) [122,123,124] (A2 []) (some [2]) [] [] []
noncomputable def CX{R:Type}(L:Nat)(c:By)(d:Bool->Option R):Option R:=cond (A3 c.length) (vl (A1 ((↑(a8 (D4 (C7 c))):Int)-1)) λb=>cond (inR b (a8 (D4 (C7 c)))) (cond (okE Oq (D4 (C7 c)) (b8 b) 0) (vl (gX (D4 (C7 c)) (b8 b) 0) λa=>cond (A3 a.length) (cond (Bi a) (cond (A3 a.length) (vl (↑(M3 (Z9 a)):Int) λe=>d (j2 (Z9 a))) none) (cond (A3 a.length) (cond (ltN 10 17) (vl (↑(M3 (E7 10 0 a)):Int) λf=>cond (j2 (E7 10 0 a)) (d (not (a==[]))) (d false)) none) none)) none) none) none) none
theorem At5(d:Nat)(s0):evC (Yl L) (d+1) Z Y 90 [pS s0] [] s=CX L s0 (λa=>some (pB a,[],s)):=by refine(evE (fn:=Tryz.f90) (by kernel_rfl)).trans ?_;generalize evC (Yl L) d=Q;unfold CX;kernel_rfl
noncomputable abbrev B09:Code:=C3 ag0
noncomputable def Sb(L:Nat):Cfg:=B4 L [108] (A2 [(6,[2,0,0,0,10,0,0])]) [(121,PC),(123,By4)] (A2 [(20,[2,0]),(19,[4,0,10,0,0]),(18,[4,0,10,0,0]),(17,[2,0]),(16,[4,0,2,1,5,0,0,29]),(15,[4,0,2,1,5,0,0]),(14,[4,0,10,0,0]),(13,[2,0]),(12,[4,0,2,7,0,0,17]),(11,[4,0,2,7,0,0,15]),(10,[2,0]),(9,[4,0,0,1,7,0,0,10]),(8,[4,0,0,1,0,6,0,0]),(7,[4,0,0,0,8,0,0]),(6,[4,0,10,0,0,0]),(5,[4,0,10,0,0]),(4,[4,0]),(3,[2,0]),(2,[4,10]),(1,[4]),(0,[0])]) [123] (A2 [(0,[5]),(1,[4,0,10,0,0])]) (some [2,0]) [] [] []
noncomputable def Hs{R:Type}(L n:Nat)(a:LL)(v1 l d:Int)(e:Unit->Option R)(h:Int->Option R):Option R:=match n with|0=>none|n+1=>cond (ltI d l) (cond (inR d a.length) (cond (okE Oq a (b8 d) 0) (cond (A3 (a8 (gX a (b8 d) 0))) (vl (↑(M3 (Z9 (gX a (b8 d) 0))):Int) λb=>cond (not (j2 (Z9 (gX a (b8 d) 0)))) (e ()) (vl (A1 ((a.length:Int)-1)) λi=>cond (ltI d i) (cond (ltI 255 b) (e ()) (vl (bOr .i64 (Qq .i64 v1 (8:Int)) b) λj=>Hs L n a j l (A1 (d+1)) e h)) (vl (A1 ((5:Int)-(a.length:Int))) λc=>cond (decide ((0:Int)<=(A1 ((8:Int)*c)))) (vl (Qq .i64 (1:Int) (A1 ((8:Int)*c))) λf=>cond (not (ltI b f)) (e ()) (cond (decide ((0:Int)<=(A1 ((8:Int)*c)))) (vl (Qq .i64 v1 (A1 ((8:Int)*c))) λg=>Hs L n a (bOr .i64 g b) l (A1 (d+1)) e h) none)) none))) none) none) none) (h v1)
theorem Av4(n l0 v1 n2 n3):C4 0 ((Sb L).keep 6) (bd (Sb L) Q Y (cd [1,0,1,1,1,1,0,1,0,0] B09)) n ⟨gp [(4,.s (.sl false false 1 l0)),(0,pI v1),(10,.s (.sl false false 1 l0)),(0,pI n2),(0,pI n3)] 38,[],s⟩ k =
 Hs L n l0 v1 n2 n3 (λ_=>k .ret ⟨gp [(2,p32 (0:Int)),(0,pB false)] 53,[],s⟩) (λv0=>k (.exit 0) ⟨gp [(5,pI v0)] 51,[],s⟩):=by
 induction n generalizing l0 v1 n2 n3 with
 | zero=>rfl
 | succ n a=>rw[Hs];simp only[<-a];kernel_rfl
noncomputable def Cs1{R:Type}(L:Nat)(b:By)(c:Int->Bool->Option R):Option R:=cond (A3 b.length) (cond (ltI 4 (↑(a8 (D4 (C7 b))):Int)) (c 0 false) (Hs L L (D4 (C7 b)) 0 (↑(a8 (D4 (C7 b))):Int) 0 (λ_=>c 0 false) (λa=>c (AH a) true))) none
theorem Cs2(d:Nat)(s0):evC (Sb L) (d+1) Z Y 108 [pS s0] [] s=Cs1 L s0 (λa b=>some (.tup [p32 a,pB b],[],s)):=by refine(evE (fn:=ag0) (by kernel_rfl)).trans ?_;generalize evC (Sb L) d=Q;unfold Cs1;exact(j1 (by kernel_rfl) (A0 (A0 rfl ((Av4 L Q Y s (E2 0 (D9 (Sb L) Q Y (cd [1,0,1,1,1,1,1] B09) (F2 (Sb L) ag0))) L (D4 (C7 s0)) 0 (↑(a8 (D4 (C7 s0))):Int) 0).trans (by kernel_rfl))) rfl))
noncomputable abbrev C23:Code:=C3 ag7
noncomputable def GG(L:Nat):Cfg:=B4 L [180] (A2 [(6,[2,0,1,9,0,0])]) [(109,Tv),(124,NX),(51,Ai3)] (A2 [(13,[2,0]),(12,[5,9,0,0]),(11,[5,9,0,0]),(10,[2,0]),(9,[5,2,6,0,0,19]),(8,[5,1,0,0,5,0,0]),(7,[5,1,7,0,0]),(6,[5,9,0,0,0]),(5,[5,9,0,0]),(4,[4,0]),(3,[2,0]),(2,[4,9]),(1,[4]),(0,[0])]) [124,51] (A2 [(0,[5]),(1,[5,9,0,0])]) (some [2,0]) [] [] []
noncomputable def Tn{R:Type}(L n:Nat)(v0:Int)(c:LL)(h b:Int)(d:Unit->Option R)(g:Int->Option R):Option R:=match n with|0=>none|n+1=>cond (ltI b h) (cond (inR b c.length) (cond (okE Oq c (b8 b) 0) (cond (A3 (a8 (gX c (b8 b) 0))) (cond (ltN 10 17) (vl (↑(M3 (E7 10 0 (gX c (b8 b) 0))):Int) λa=>cond (not (j2 (E7 10 0 (gX c (b8 b) 0)))) (d ()) (cond (ltI 255 a) (d ()) (cond (ltN a 4294967296) (vl (j5 (b8 a)) λf=>cond (not (f==(gX c (b8 b) 0))) (d ()) (vl (bOr .u32 (Qq .u32 v0 (8:Int)) (AH a)) λe=>Tn L n e c h (A1 (b+1)) d g)) none))) none) none) none) none) (g v0)
theorem Bv8(n v0 l1 n2 n3):C4 0 ((GG L).keep 6) (bd (GG L) Q Y (cd [1,1,1,1,0,1,0,0] C23)) n ⟨gp [(5,p32 v0),(9,.s (.sl false false 1 l1)),(0,pI n2),(0,pI n3)] 27,[],s⟩ k =
 Tn L n v0 l1 n2 n3 (λ_=>k .ret ⟨gp [(2,p32 (0:Int)),(0,pB false)] 41,[],s⟩) (λv0=>k (.exit 0) ⟨gp [(5,p32 v0)] 39,[],s⟩):=by
 induction n generalizing v0 l1 n2 n3 with
 | zero=>rfl
 | succ n a=>rw[Tn];simp only[<-a];kernel_rfl
noncomputable def v4p{R:Type}(L:Nat)(d:By)(b:Int->Bool->Option R):Option R:=cond (A3 d.length) (cond (1==1) (vl (D4 (pcs (b9 ([46]:List UInt8) 0 0) d)) λa=>cond ((a.length:Int)!=4) (b 0 false) (Tn L L 0 a (a.length:Int) 0 (λ_=>b 0 false) (λc=>b c true))) none) none
theorem C78(d:Nat)(s0):evC (GG L) (d+1) Z Y 180 [pS s0] [] s=v4p L s0 (λb c=>some (.tup [p32 b,pB c],[],s)):=by refine(evE (fn:=ag7) (by kernel_rfl)).trans ?_;generalize evC (GG L) d=Q;unfold v4p;exact(j1 (by kernel_rfl) (A0 (A0 (A4 λa=>(A0 rfl ((Bv8 L Q Y s (E2 0 (D9 (GG L) Q Y (cd [1,1,1,1,1] C23) (F2 (GG L) ag7))) L 0 a (a.length:Int) 0).trans (by kernel_rfl)))) rfl) rfl))
noncomputable abbrev C22:Code:=C3 ah6
noncomputable def GF(L:Nat):Cfg:=B4 L [67] (A2 [(3,[0,1,0,0])]) [(51,Ai3)] (A2 [(6,[2]),(4,[0,2,0]),(5,[0,2,0]),(3,[0,2,0,1]),(2,[0,2,0]),(1,[0,2]),(0,[0])]) [51] (A2 [(0,[3]),(1,[0,2,0])]) (some [2]) [] [] []
noncomputable def He{R:Type}(L n:Nat)(v0:Int)(a:By)(e:Int)(f:By->Option R):Option R:=match n with|0=>none|n+1=>cond (not (ltI e 0)) (cond (decide ((0:Int)<=e)) (vl (Al0 .u32 (On .u32 v0 e) (255:Int)) λb=>cond (ltN (A1 b) 4294967296) (vl (j5 (b8 (A1 b))) λc=>cond (F3 c.length 1) (vl (c++[46]) λd=>cond (F3 a.length d.length) (He L n v0 (a++d) (A1 (e-8)) f) none) none) none) none) (f a)
theorem Bv7(n v0 out1 i2):C4 0 ((GF L).keep 3) (bd (GF L) Q Y (cd [1,1,0,1,0,0] C22)) n ⟨gp [(0,p32 v0),(2,pS out1),(0,pI i2)] 18,[],s⟩ k =
 He L n v0 out1 i2 (λa=>k (.exit 0) ⟨gp [(3,pS a)] 19,[],s⟩):=by
 induction n generalizing v0 out1 i2 with
 | zero=>rfl
 | succ n b=>rw[He];simp only[<-b];kernel_rfl
noncomputable def v4f{R:Type}(L:Nat)(v0:Int)(d:By->Option R):Option R:=He L L v0 ([]:List UInt8) 24 (λa=>vl (A1 ((a.length:Int)-1)) λb=>cond (I2 0 b a.length) (vl (cut a 0 b) λc=>d c) none)
theorem C77(d:Nat)(v0):evC (GF L) (d+1) Z Y 67 [p32 v0] [] s=v4f L v0 (λa=>some (pS a,[],s)):=by refine(evE (fn:=ah6) (by kernel_rfl)).trans ?_;generalize evC (GF L) d=Q;unfold v4f;exact(j1 (by kernel_rfl) ((Bv7 L Q Y s (E2 0 (D9 (GF L) Q Y (cd [1,1,1] C22) (F2 (GF L) ah6))) L v0 ([]:List UInt8) 24).trans (by kernel_rfl)))
noncomputable abbrev LH:Code:=C3 ag2
noncomputable def Cd(L:Nat):Cfg:=B4 L [117] (A2 [(2,[0,1,0])]) [] (A2 [(6,[2]),(3,[0,2]),(5,[2]),(4,[0,2,15]),(2,[0,2,3]),(1,[0,2]),(0,[0])]) [] (A2 [(0,[0]),(1,[0,2])]) (some [2]) [] [] []
noncomputable def Ak{R:Type}(L n:Nat)(a:By)(b:Int)(c:Unit->Option R)(d:By->Option R):Option R:=match n with|0=>none|n+1=>cond (ltI b (a.length:Int)) (cond (inR b a.length) (cond (ltI (bAt a b) (48:Int)) (c ()) (cond (inR b a.length) (cond (ltI 57 (bAt a b)) (c ()) (Ak L n a (A1 (b+1)) c d)) none)) none) (d a)
theorem KD(n a i1):C4 0 ((Cd L).keep 2) (bd (Cd L) Q Y (cd [1,0,1,0,0] LH)) n ⟨gp [(0,pS a),(2,pI i1)] 18,[],s⟩ k =
 Ak L n a i1 (λ_=>k .ret ⟨gp [(2,pB false)] 19,[],s⟩) (λa=>k (.exit 0) ⟨gp [(0,pS a)] 21,[],s⟩):=by
 induction n generalizing a i1 with
 | zero=>rfl
 | succ n b=>rw[Ak];simp only[<-b];kernel_rfl
noncomputable def DB{R:Type}(L:Nat)(c:By)(b:Bool->Option R):Option R:=Ak L L c 0 (λ_=>b false) (λa=>b (not (a==[])))
theorem Aw5(d:Nat)(s0):evC (Cd L) (d+1) Z Y 117 [pS s0] [] s=DB L s0 (λa=>some (pB a,[],s)):=by refine(evE (fn:=ag2) (by kernel_rfl)).trans ?_;generalize evC (Cd L) d=Q;unfold DB;exact(j1 (by kernel_rfl) ((KD L Q Y s (E2 0 (D9 (Cd L) Q Y (cd [1,1] LH) (F2 (Cd L) ag2))) L s0 0).trans (by kernel_rfl)))
noncomputable abbrev B12:Code:=C3 ah4
noncomputable def Se(L:Nat):Cfg:=B4 L [17] (A2 [(3,[0,1,0,0])]) [] (A2 [(9,[2]),(4,[0,2,0]),(8,[0,2,0]),(7,[0,2,0,0]),(6,[0,2,0,0,14]),(5,[0,2,0,0]),(3,[0,2,0,4]),(2,[0,2,0]),(1,[0,2]),(0,[0])]) [] (A2 [(0,[3]),(1,[0,2,0])]) (some [2]) [] [] []
noncomputable def Et{R:Type}(L n:Nat)(b:By)(a:Int)(c:LL)(d:LL->Option R):Option R:=match n with|0=>none|n+1=>cond (ltI a (b.length:Int)) (cond (inR a b.length) (cond (not (ltI (bAt b a) (65:Int))) (cond (not (ltI 90 (bAt b a))) (vl (wu8 ((bAt b a)+32)) λe=>cond (F7 (c.length+1)) (Et L n b (A1 (a+1)) (c++[[(SV.int .u8 e)]]) d) none) (cond (F7 (c.length+1)) (Et L n b (A1 (a+1)) (c++[[(SV.int .u8 (bAt b a))]]) d) none)) (cond (F7 (c.length+1)) (Et L n b (A1 (a+1)) (c++[[(SV.int .u8 (bAt b a))]]) d) none)) none) (d c)
theorem Az4(n s0 i1 l2):C4 1 ((Se L).keep 3) (bd (Se L) Q Y (cd [1,1,0,1,0,0] B12)) n ⟨gp [(0,pS s0),(2,.fl 0),(0,pI i1)] 24,[.arr true 5 1 l2],s⟩ k =
 Et L n s0 i1 l2 (λb=>k (.exit 0) ⟨gp [(3,.fl 0)] 25,[.arr true 5 1 b],s⟩):=by
 induction n generalizing s0 i1 l2 with
 | zero=>rfl
 | succ n a=>rw[Et];simp only[<-a];kernel_rfl
noncomputable def Cu0{R:Type}(L:Nat)(c:By)(b:By->LL->Option R):Option R:=Et L L c 0 [] (λa=>cond (x3 a Mz) (b (s7 Kv a) a) none)
theorem Cu1(d:Nat)(s0):evC (Se L) (d+1) Z Y 17 [pS s0] [] s=Cu0 L s0 (λb a=>some (pS b,[.arr true 5 1 a],s)):=by refine(evE (fn:=ah4) (by kernel_rfl)).trans ?_;generalize evC (Se L) d=Q;unfold Cu0;exact(j1 (by kernel_rfl) ((Az4 L Q Y s (E2 0 (D9 (Se L) Q Y (cd [1,1,1] B12) (F2 (Se L) ah4))) L s0 0 []).trans (by kernel_rfl)))
noncomputable abbrev XA:Code:=C3 ah8
noncomputable def Ft(L:Nat):Cfg:=B4 L [88] (A2 [(4,[0,0,2,0,0,0])]) [] (A2 [(9,[4]),(5,[0,0,3,0,0]),(8,[0,0,3,0,0]),(7,[0,0,3,1]),(6,[0,0,3,0,0,16]),(4,[0,0,3,0,0,3]),(3,[0,0,3,0,0]),(2,[0,0,3,0]),(1,[0,0,3]),(0,[0,0])]) [] (A2 [(0,[5]),(1,[0,0,3,0,0])]) (some [4]) [] [] []
noncomputable def U5{R:Type}(L n:Nat)(c:By)(d a b:Int)(e:LL)(f:LL->Option R):Option R:=match n with|0=>none|n+1=>cond (not (ltI (c.length:Int) b)) (cond (b==(c.length:Int)) (cond (I2 a b c.length) (cond (F7 (e.length+1)) (U5 L n c d (A1 (b+1)) (A1 (b+1)) (e++[[(SV.str (cut c a b))]]) f) none) none) (cond (inR b c.length) (cond ((bAt c b)==d) (cond (I2 a b c.length) (cond (F7 (e.length+1)) (U5 L n c d (A1 (b+1)) (A1 (b+1)) (e++[[(SV.str (cut c a b))]]) f) none) none) (U5 L n c d a (A1 (b+1)) e f)) none)) (f e)
theorem UN(n s0 at1 from2 i3 l4):C4 1 ((Ft L).keep 4) (bd (Ft L) Q Y (cd [1,1,1,0,1,0,0] XA)) n ⟨gp [(0,pS s0),(0,p8 at1),(3,.fl 0),(0,pI from2),(0,pI i3)] 27,[.arr true 9 1 l4],s⟩ k =
 U5 L n s0 at1 from2 i3 l4 (λb=>k (.exit 0) ⟨gp [(5,.fl 0)] 29,[.arr true 9 1 b],s⟩):=by
 induction n generalizing s0 at1 from2 i3 l4 with
 | zero=>rfl
 | succ n a=>rw[U5];simp only[<-a];kernel_rfl
noncomputable def IT{R:Type}(L:Nat)(d:By)(a:Int)(c:LL->Option R):Option R:=U5 L L d a 0 0 [] (λb=>c b)
theorem Br9(d:Nat)(s0 at1):evC (Ft L) (d+1) Z Y 88 [pS s0,p8 at1] [] s=IT L s0 at1 (λa=>some (.fl 0,[.arr true 9 1 a],s)):=by refine(evE (fn:=ah8) (by kernel_rfl)).trans ?_;generalize evC (Ft L) d=Q;unfold IT;exact(j1 (by kernel_rfl) ((UN L Q Y s (E2 0 (D9 (Ft L) Q Y (cd [1,1,1,1] XA) (F2 (Ft L) ah8))) L s0 at1 0 0 []).trans (by kernel_rfl)))
noncomputable def Yk(L:Nat):Cfg:=B4 L [53] (A2 []) [(53,(Kj L))] (A2 [(3,[2]),(2,[2]),(1,[0,3]),(0,[0])]) [53] (A2 []) (some [2]) [] [] []
noncomputable def CQ{R:Type}(L:Nat)(n0:Int)(g:By->Option R):Option R:=cond (ltI n0 10) (vl (wu8 (A1 ((48:Int)+n0))) λa=>cond (x3 [[(SV.int .u8 a)]] Mz) (vl (s7 Kv [[(SV.int .u8 a)]]) λf=>g f) none) (vl (A1 (aa0 n0 (10:Int))) λb=>cond (ltN b L) (vl (j5 (b8 b)) λd=>vl (A1 ((48:Int)+(x7 n0 (10:Int)))) λc=>cond (x3 [[(SV.int .u8 (wu8 c))]] Mz) (vl (s7 Kv [[(SV.int .u8 (wu8 c))]]) λe=>cond (F3 d.length e.length) (g (d++e)) none) none) none)
theorem Ap4(d:Nat)(n0):evC (Yk L) (d+1) Z Y 53 [pI n0] [] s=CQ L n0 (λa=>some (pS a,[],s)):=by refine(evE (fn:=Tryz.f53) (by kernel_rfl)).trans ?_;generalize evC (Yk L) d=Q;unfold CQ;kernel_rfl
noncomputable abbrev Ru:Code:=C3 ae3
noncomputable def Ii(L:Nat):Cfg:=B4 L [147] (A2 []) [] (A2 [(7,[2]),(2,[2]),(4,[2]),(6,[2]),(5,[0,23]),(3,[0,12]),(1,[0,2]),(0,[0])]) [] (A2 [(0,[])]) (some [2]) [] [] []
noncomputable def Vr{R:Type}(a:Int)(h:Bool)(f:Int->Option R)(g:Int->Bool->Option R):Option R:=cond h (vl (A1 (wu8 (a-97))) λb=>vl (A1 (b+10)) λc=>f c) (cond (not (ltI a 65)) (cond (not (ltI 70 a)) (vl (A1 (wu8 (a-65))) λd=>vl (A1 (d+10)) λe=>f e) (g a (not (ltI 70 a)))) (g a false))
abbrev MU(b:Code):Prop:=∀(k:Out->St Z->Option R) a c,A9 (Ii L) Q Y b ⟨gp [(0,p8 a),(12,pB c)] 21,[],s⟩ k=Vr a c (λn0=>k .ret ⟨gp [(2,pI n0)] 32,[],s⟩) (λa c=>k .normal ⟨gp [(0,p8 a),(23,pB c)] 10,[],s⟩)
theorem Aw2:MU (R:=R) L Q Y s (cd [1,0,0,1,1,1] Ru):=by intro k a b;unfold Vr;kernel_rfl
noncomputable def Vt{R:Type}(b:Int)(l:Bool)(f:Int->Option R)(j:Int->Bool->Option R):Option R:=cond l (vl (A1 (wu8 (b-48))) λg=>f g) (cond (not (ltI b 97)) (Vr b (not (ltI 102 b)) (λh=>f h) (λc d=>j c d)) (Vr b false (λi=>f i) (λe a=>j e a)))
abbrev Zr(b:Code):Prop:=∀(k:Out->St Z->Option R) a c,A9 (Ii L) Q Y b ⟨gp [(0,p8 a),(2,pB c)] 31,[],s⟩ k=Vt a c (λn0=>k .ret ⟨gp [(2,pI n0)] 32,[],s⟩) (λa c=>k .normal ⟨gp [(0,p8 a),(23,pB c)] 10,[],s⟩)
theorem Aw3(a:Code)(b:MU (R:=R) L Q Y s a):Zr (R:=R) L Q Y s (cd [1,0,0,1] (G4 [1,0,0,1,1,1] a Ru)):=by intro k c d;unfold Vt;simp only[<-b k];kernel_rfl
theorem Aw4:Zr (R:=R) L Q Y s (cd [1,0,0,1] Ru):=by intro k a b;exact j1 (by kernel_rfl) (Aw3 L Q Y s (cd [1,0,0,1,1,1] Ru) (Aw2 L Q Y s) k a b)
noncomputable def B85{R:Type}(L:Nat)(c:Int)(d:Int->Option R):Option R:=cond (not (ltI c 48)) (Vt c (not (ltI 57 c)) (λa=>d a) (λe f=>d 99)) (Vt c false (λb=>d b) (λg h=>d 99))
theorem Ct0(b:Code)(a:Zr (R:=PV × List Blk × Z) L Q Y s b)(c:Int):A9 (Ii L) Q Y (cd [] (G4 [1,0,0,1] b Ru)) ⟨[p8 c]++tps 34,[],s⟩ (F2 (Ii L) ae3)=B85 L c (λe=>some (pI e,[],s)):=by unfold B85;exact let d:=(E2 0 (D9 (Ii L) Q Y (cd [1,1] Ru) (F2 (Ii L) ae3)));(j1 (by kernel_rfl) (A0 ((a d c (not (ltI 57 c))).trans (by kernel_rfl)) ((a d c false).trans (by kernel_rfl))))
theorem Ct1(d:Nat)(b0):evC (Ii L) (d+1) Z Y 147 [p8 b0] [] s=B85 L b0 (λa=>some (pI a,[],s)):=
 (evE (fn:=ae3) (by kernel_rfl)).trans (j1 (by kernel_rfl) (Ct0 L (evC (Ii L) d) Y s (cd [1,0,0,1] Ru) (Aw4 L (evC (Ii L) d) Y s) b0))
noncomputable abbrev Cc:Code:=C3 ad9
noncomputable def O4(L:Nat):Cfg:=B4 L [118] (A2 [(10,[0,1,0,0,0,0])]) [(147,By9)] (A2 [(16,[2,0]),(11,[0,3,0,0]),(15,[0,3,0,0]),(14,[2,0]),(13,[0,3,0,0,0,44]),(12,[0,3,0,0,0]),(10,[0,3,0,0,36]),(9,[0,3,0,0]),(8,[0,3,0]),(5,[0,3]),(7,[0,3]),(6,[0,3,32]),(4,[0,3,22]),(3,[0,3]),(2,[2,0]),(1,[0,8]),(0,[0])]) [147] (A2 [(0,[5]),(1,[0,3,0,0])]) (some [2,0]) [] [] []
noncomputable def DG{R:Type}(a:By)(c:By->Option R):Option R:=cond (I2 2 (a.length:Int) a.length) (vl (cut a 2 (a.length:Int)) λb=>c b) none
abbrev NA(b:Code):Prop:=∀(k:Out->St Z->Option R) a,A9 (O4 L) Q Y b ⟨gp [(0,pS a),(3,pI (10:Int)),(22,pB true)] 32,[],s⟩ k=DG a (λa=>k .normal ⟨gp [(0,pS a),(3,pI (16:Int))] 55,[],s⟩)
theorem Az7:NA (R:=R) L Q Y s (cd [1,1,1,0,1] Cc):=by intro k a;unfold DG;kernel_rfl
noncomputable def Hu{R:Type}(L n:Nat)(d:By)(h a:Int)(f:Unit->Option R)(g:Int->Option R):Option R:=match n with|0=>none|n+1=>cond (ltI a (d.length:Int)) (cond (inR a d.length) (cond (inR (bAt d a) 256) (vl (↑(dig (u8n (bAt d a))):Int) λb=>cond (not (ltI b 16)) (f ()) (vl (A1 ((A1 (h*16))+b)) λc=>vl (if ((1099511627776:Int)<c) then (1099511627776:Int) else c) λe=>Hu L n d e (A1 (a+1)) f g)) none) none) (g h)
theorem A02(n s0 n1 i2):C4 0 ((O4 L).keep 10) (bd (O4 L) Q Y (cd [1,1,1,1,1,0,1,0,0] Cc)) n ⟨gp [(0,pS s0),(3,pI (16:Int)),(0,pI n1),(0,pI i2)] 53,[],s⟩ k =
 Hu L n s0 n1 i2 (λ_=>k .ret ⟨gp [(2,pI (0:Int)),(0,pB false)] 56,[],s⟩) (λn0=>k (.exit 0) ⟨gp [(5,pI n0)] 54,[],s⟩):=by
 induction n generalizing s0 n1 i2 with
 | zero=>rfl
 | succ n a=>rw[Hu];simp only[<-a];kernel_rfl
noncomputable def DH{R:Type}(L:Nat)(c:By)(b:Int->Bool->Option R):Option R:=Hu L L c 0 0 (λ_=>b 0 false) (λa=>b a true)
abbrev NB(b:Code):Prop:=∀(k:Out->St Z->Option R) s0,A9 (O4 L) Q Y b ⟨gp [(0,pS s0),(3,pI (16:Int))] 55,[],s⟩ k=DH L s0 (λn0 a=>k .ret ⟨gp [(2,pI n0),(0,pB a)] 56,[],s⟩)
theorem Az8:NB (R:=R) L Q Y s (cd [1,1,1,1] Cc):=by intro k a;unfold DH;exact(j1 (by kernel_rfl) ((A02 L Q Y s (E2 0 (D9 (O4 L) Q Y (cd [1,1,1,1,1,1] Cc) k)) L a 0 0).trans (by kernel_rfl)))
noncomputable def Qb{R:Type}(a:By)(f:Bool)(d:By->Int->Option R)(e:By->Bool->Option R):Option R:=cond f (cond (I2 2 (a.length:Int) a.length) (vl (cut a 2 (a.length:Int)) λc=>d c 16) none) (cond (not (ltI (a.length:Int) (2:Int))) (cond (inR 0 a.length) (cond ((bAt a (0:Int))==48) (cond (I2 1 (a.length:Int) a.length) (vl (cut a 1 (a.length:Int)) λb=>d b 8) none) (e a ((bAt a (0:Int))==48))) none) (e a false))
abbrev NC(b:Code):Prop:=∀(k:Out->St Z->Option R) c d,A9 (O4 L) Q Y b ⟨gp [(0,pS c),(3,pI (10:Int)),(22,pB d)] 32,[],s⟩ k=Qb c d (λc a=>k .normal ⟨gp [(0,pS c),(3,pI a)] 55,[],s⟩) (λc d=>k .normal ⟨gp [(0,pS c),(3,pI (10:Int)),(32,pB d)] 22,[],s⟩)
theorem Az9:NC (R:=R) L Q Y s (cd [1,1,1,0,1] Cc):=by intro k b a;unfold Qb;kernel_rfl
noncomputable def Eu{R:Type}(L n:Nat)(f:By)(a i d:Int)(g:Unit->Option R)(h:Int->Option R):Option R:=match n with|0=>none|n+1=>cond (ltI d (f.length:Int)) (cond (inR d f.length) (cond (inR (bAt f d) 256) (vl (↑(dig (u8n (bAt f d))):Int) λb=>cond (not (ltI b a)) (g ()) (vl (A1 ((A1 (i*a))+b)) λc=>vl (if ((1099511627776:Int)<c) then (1099511627776:Int) else c) λe=>Eu L n f a e (A1 (d+1)) g h)) none) none) (h i)
theorem IS(n s0 base1 n2 i3):C4 0 ((O4 L).keep 10) (bd (O4 L) Q Y (cd [1,1,1,1,1,0,1,0,0] Cc)) n ⟨gp [(0,pS s0),(3,pI base1),(0,pI n2),(0,pI i3)] 53,[],s⟩ k =
 Eu L n s0 base1 n2 i3 (λ_=>k .ret ⟨gp [(2,pI (0:Int)),(0,pB false)] 56,[],s⟩) (λn0=>k (.exit 0) ⟨gp [(5,pI n0)] 54,[],s⟩):=by
 induction n generalizing s0 base1 n2 i3 with
 | zero=>rfl
 | succ n a=>rw[Eu];simp only[<-a];kernel_rfl
noncomputable def Qc{R:Type}(L:Nat)(d:By)(a:Int)(c:Int->Bool->Option R):Option R:=Eu L L d a 0 0 (λ_=>c 0 false) (λb=>c b true)
abbrev ND(b:Code):Prop:=∀(k:Out->St Z->Option R) s0 base1,A9 (O4 L) Q Y b ⟨gp [(0,pS s0),(3,pI base1)] 55,[],s⟩ k=Qc L s0 base1 (λn0 a=>k .ret ⟨gp [(2,pI n0),(0,pB a)] 56,[],s⟩)
theorem A00:ND (R:=R) L Q Y s (cd [1,1,1,1] Cc):=by intro k b a;unfold Qc;exact(j1 (by kernel_rfl) ((IS L Q Y s (E2 0 (D9 (O4 L) Q Y (cd [1,1,1,1,1,1] Cc) k)) L b a 0 0).trans (by kernel_rfl)))
noncomputable def Qd{R:Type}(L:Nat)(c:By)(b:Int->Bool->Option R):Option R:=Eu L L c 10 0 0 (λ_=>b 0 false) (λa=>b a true)
abbrev NE(b:Code):Prop:=∀(k:Out->St Z->Option R) s0 a,A9 (O4 L) Q Y b ⟨gp [(0,pS s0),(3,pI (10:Int)),(32,pB a)] 22,[],s⟩ k=Qd L s0 (λn0 a=>k .ret ⟨gp [(2,pI n0),(0,pB a)] 56,[],s⟩)
theorem A01:NE (R:=R) L Q Y s (cd [1,1,1,1] Cc):=by intro k a b;unfold Qd;exact(j1 (by kernel_rfl) ((IS L Q Y s (E2 0 (D9 (O4 L) Q Y (cd [1,1,1,1,1,1] Cc) k)) L a 10 0 0).trans (by kernel_rfl)))
noncomputable def Ca6{R:Type}(L:Nat)(a:By)(e:Int->Bool->Option R):Option R:=cond (a==[]) (e 0 false) (cond (not (ltI (a.length:Int) (2:Int))) (cond (inR 0 a.length) (cond ((bAt a (0:Int))==48) (cond (inR 1 a.length) (cond ((bAt a (1:Int))==120) (DG a (λB=>DH L B (λA z=>e A z))) (cond (inR 1 a.length) (Qb a ((bAt a (1:Int))==88) (λt b=>Qc L t b (λm f=>e m f)) (λu C=>Qd L u (λn g=>e n g))) none)) none) (Qb a false (λv c=>Qc L v c (λo h=>e o h)) (λw D=>Qd L w (λp i=>e p i)))) none) (Qb a false (λx d=>Qc L x d (λq j=>e q j)) (λy F=>Qd L y (λr l=>e r l))))
theorem Cu2(e:Code)(f:NA (R:=PV × List Blk × Z) L Q Y s e)(a:NC (R:=PV × List Blk × Z) L Q Y s e)(d:Code)(g:NB (R:=PV × List Blk × Z) L Q Y s d)(b:ND (R:=PV × List Blk × Z) L Q Y s d)(c:NE (R:=PV × List Blk × Z) L Q Y s d)(m:By):A9 (O4 L) Q Y (cd [] (G4 [1,1,1,1] d (G4 [1,1,1,0,1] e Cc))) ⟨[pS m]++tps 59,[],s⟩ (F2 (O4 L) ad9)=Ca6 L m (λz A=>some (.tup [pI z,pB A],[],s)):=by unfold Ca6;exact let l:=(F2 (O4 L) ad9);let x:=(D9 (O4 L) Q Y d l);(j1 (by kernel_rfl) (A0 rfl (A0 (A0 (A0 (A0 (A0 ((f x m).trans (congr rfl (fx1 λy=>(j1 (by kernel_rfl) ((g l y).trans (by kernel_rfl)))))) (A0 ((a x m ((bAt m (1:Int))==88)).trans (congr (congr rfl (fx2 λq h=>(j1 (by kernel_rfl) ((b l q h).trans (by kernel_rfl))))) (fx2 λr n=>(j1 (by kernel_rfl) ((c l r n).trans (by kernel_rfl)))))) rfl)) rfl) ((a x m false).trans (congr (congr rfl (fx2 λt i=>(j1 (by kernel_rfl) ((b l t i).trans (by kernel_rfl))))) (fx2 λu o=>(j1 (by kernel_rfl) ((c l u o).trans (by kernel_rfl))))))) rfl) ((a x m false).trans (congr (congr rfl (fx2 λv j=>(j1 (by kernel_rfl) ((b l v j).trans (by kernel_rfl))))) (fx2 λw p=>(j1 (by kernel_rfl) ((c l w p).trans (by kernel_rfl)))))))))
theorem Cu3(d:Nat)(s0):evC (O4 L) (d+1) Z Y 118 [pS s0] [] s=Ca6 L s0 (λa b=>some (.tup [pI a,pB b],[],s)):=
 (evE (fn:=ad9) (by kernel_rfl)).trans (j1 (by kernel_rfl) (Cu2 L (evC (O4 L) d) Y s (cd [1,1,1,0,1] Cc) (Az7 L (evC (O4 L) d) Y s) (Az9 L (evC (O4 L) d) Y s) (cd [1,1,1,1] Cc) (Az8 L (evC (O4 L) d) Y s) (A00 L (evC (O4 L) d) Y s) (A01 L (evC (O4 L) d) Y s) s0))
noncomputable def GB(L:Nat):Cfg:=B4 L [116] (A2 []) [(88,Jd)] (A2 [(4,[2]),(3,[3]),(2,[3,13]),(1,[3]),(0,[0])]) [] (A2 []) (some [2]) [] [] []
noncomputable def UL{R:Type}(L:Nat)(f:By)(d:LL->Option R):Option R:=cond (A3 f.length) (vl (D4 (pcs (u8n (46:Int)) f)) λa=>cond (ltI 1 (a.length:Int)) (vl (A1 ((a.length:Int)-1)) λb=>cond (inR b a.length) (cond (okE Oq a (b8 b) 0) (vl (gX a (b8 b) 0) λe=>cond (e==[]) (vl (A1 ((a.length:Int)-1)) λc=>cond (I2 0 c a.length) (d (cut a 0 c)) none) (d a)) none) none) (d a)) none
theorem Br3(d:Nat)(s0):evC (GB L) (d+1) Z Y 116 [pS s0] [] s=UL L s0 (λa=>some (.s (.sl false false 1 a),[],s)):=by refine(evE (fn:=Tryz.f116) (by kernel_rfl)).trans ?_;generalize evC (GB L) d=Q;unfold UL;kernel_rfl
noncomputable def Sf(L:Nat):Cfg:=B4 L [86] (A2 []) [(116,ET),(117,KV),(118,Aj4)] (A2 [(6,[2]),(5,[4,1]),(4,[2]),(3,[4,11]),(2,[4]),(1,[3]),(0,[0])]) [117,118] (A2 []) (some [2]) [] [] []
noncomputable def Wb{R:Type}(L:Nat)(d:By)(c:Bool->Option R):Option R:=cond (A3 d.length) (vl (A1 ((↑(a8 (D4 (C7 d))):Int)-1)) λb=>cond (inR b (a8 (D4 (C7 d)))) (cond (okE Oq (D4 (C7 d)) (b8 b) 0) (vl (gX (D4 (C7 d)) (b8 b) 0) λa=>cond (A3 a.length) (cond ((not (j8 a))&&(j2 (E7 10 0 a))) (c true) (cond (A3 a.length) (vl (↑(M3 (Z9 a)):Int) λe=>cond (j2 (Z9 a)) (cond (not (ltI (a.length:Int) (2:Int))) (cond (inR 1 a.length) (cond ((bAt a (1:Int))==120) (c true) (cond (inR 1 a.length) (c ((bAt a (1:Int))==88)) none)) none) (c false)) (c false)) none)) none) none) none) none
theorem Aa0(d:Nat)(s0):evC (Sf L) (d+1) Z Y 86 [pS s0] [] s=Wb L s0 (λa=>some (pB a,[],s)):=by refine(evE (fn:=Tryz.f86) (by kernel_rfl)).trans ?_;generalize evC (Sf L) d=Q;unfold Wb;kernel_rfl
noncomputable abbrev Bb4:Code:=C3 ah7
noncomputable def Kt(L:Nat):Cfg:=B4 L [87] (A2 [(6,[2,0,0,0,0])]) [(116,ET),(118,Aj4)] (A2 [(18,[2,0]),(7,[4,0,0]),(17,[4,0,0]),(16,[2,0]),(15,[4,0,0,0,38]),(14,[4,0,0]),(13,[2,0]),(12,[4,0,0,0,33]),(11,[4,0,0,0,26]),(10,[2,0]),(9,[4,0,0,0,21]),(8,[4,0,0,0,0]),(6,[4,0,0,10]),(5,[4,0,0]),(4,[4,0]),(3,[2,0]),(2,[4,8]),(1,[4]),(0,[0])]) [118] (A2 [(0,[5]),(1,[4,0,0])]) (some [2,0]) [] [] []
noncomputable def Dp{R:Type}(L n:Nat)(b:LL)(v1 a:Int)(e:Unit->Option R)(h:Int->Option R):Option R:=match n with|0=>none|n+1=>cond (ltI a (b.length:Int)) (cond (inR a b.length) (cond (okE Oq b (b8 a) 0) (cond (A3 (a8 (gX b (b8 a) 0))) (vl (↑(M3 (Z9 (gX b (b8 a) 0))):Int) λc=>cond (not (j2 (Z9 (gX b (b8 a) 0)))) (e ()) (vl (A1 ((b.length:Int)-1)) λi=>cond (a==i) (vl (A1 ((5:Int)-(b.length:Int))) λg=>cond (decide ((0:Int)<=(A1 ((8:Int)*g)))) (vl (Qq .i64 (1:Int) (A1 ((8:Int)*g))) λj=>cond (not (ltI c j)) (e ()) (Dp L n b (A1 (v1+c)) (A1 (a+1)) e h)) none) (cond (ltI 255 c) (e ()) (vl (A1 ((24:Int)-(A1 ((8:Int)*a)))) λd=>cond (decide ((0:Int)<=d)) (vl (A1 (v1+(Qq .i64 c d))) λf=>Dp L n b f (A1 (a+1)) e h) none)))) none) none) none) (h v1)
theorem Aa7(n p0 v1 i2):C4 0 ((Kt L).keep 6) (bd (Kt L) Q Y (cd [1,1,1,1,0,1,0,0] Bb4)) n ⟨gp [(4,.s (.sl false false 1 p0)),(0,pI v1),(0,pI i2)] 49,[],s⟩ k =
 Dp L n p0 v1 i2 (λ_=>k .ret ⟨gp [(2,p32 (0:Int)),(0,pB false)] 52,[],s⟩) (λv0=>k (.exit 0) ⟨gp [(5,pI v0)] 50,[],s⟩):=by
 induction n generalizing p0 v1 i2 with
 | zero=>rfl
 | succ n a=>rw[Dp];simp only[<-a];kernel_rfl
noncomputable def Bg0{R:Type}(L:Nat)(c:By)(b:Int->Bool->Option R):Option R:=cond (A3 c.length) (cond (ltI 4 (↑(a8 (D4 (C7 c))):Int)) (b 0 false) (Dp L L (D4 (C7 c)) 0 0 (λ_=>b 0 false) (λa=>b (AH a) true))) none
theorem Cb2(d:Nat)(s0):evC (Kt L) (d+1) Z Y 87 [pS s0] [] s=Bg0 L s0 (λa b=>some (.tup [p32 a,pB b],[],s)):=by refine(evE (fn:=ah7) (by kernel_rfl)).trans ?_;generalize evC (Kt L) d=Q;unfold Bg0;exact(j1 (by kernel_rfl) (A0 (A0 rfl ((Aa7 L Q Y s (E2 0 (D9 (Kt L) Q Y (cd [1,1,1,1,1] Bb4) (F2 (Kt L) ah7))) L (D4 (C7 s0)) 0 0).trans (by kernel_rfl))) rfl))
noncomputable abbrev B10:Code:=C3 ag6
noncomputable def Sc(L:Nat):Cfg:=B4 L [173] (A2 [(2,[0,1,0,0])]) [(53,Xe)] (A2 [(6,[2,0]),(3,[0,3]),(5,[2,0]),(4,[0,3,7]),(2,[0,3,1]),(1,[0,3]),(0,[0])]) [53] (A2 [(0,[]),(1,[0,3])]) (some [2,0]) [] [] []
noncomputable def Ll{R:Type}(L n:Nat)(e:By)(a:Int)(c:Int->Option R)(d:Unit->Option R):Option R:=match n with|0=>none|n+1=>cond (ltI a 256) (cond (ltN a 4294967296) (vl (j5 (b8 a)) λb=>cond (b==e) (c a) (Ll L n e (A1 (a+1)) c d)) none) (d ())
theorem Aw0(n s0 n1):C4 0 ((Sc L).keep 2) (bd (Sc L) Q Y (cd [1,0,1,0,0] B10)) n ⟨gp [(0,pS s0),(3,pI n1)] 9,[],s⟩ k =
 Ll L n s0 n1 (λn0=>k .ret ⟨gp [(2,pI n0),(0,pB true)] 10,[],s⟩) (λ_=>k (.exit 0) ⟨gp [] 14,[],s⟩):=by
 induction n generalizing s0 n1 with
 | zero=>rfl
 | succ n a=>rw[Ll];simp only[<-a];kernel_rfl
noncomputable def Cs8{R:Type}(L:Nat)(c:By)(b:Int->Bool->Option R):Option R:=Ll L L c 0 (λa=>b a true) (λ_=>b 0 false)
theorem Cs9(d:Nat)(s0):evC (Sc L) (d+1) Z Y 173 [pS s0] [] s=Cs8 L s0 (λa b=>some (.tup [pI a,pB b],[],s)):=by refine(evE (fn:=ag6) (by kernel_rfl)).trans ?_;generalize evC (Sc L) d=Q;unfold Cs8;exact(j1 (by kernel_rfl) ((Aw0 L Q Y s (E2 0 (D9 (Sc L) Q Y (cd [1,1] B10) (F2 (Sc L) ag6))) L s0 0).trans (by kernel_rfl)))
noncomputable abbrev B13:Code:=C3 ag4
noncomputable def Sg(L:Nat):Cfg:=B4 L [145] (A2 [(6,[2,0,0,0,0])]) [(88,Jd),(173,By8)] (A2 [(12,[2,0]),(7,[4,0,0]),(11,[4,0,0]),(10,[2,0]),(9,[4,0,0,0,19]),(8,[4,0,0,0,0]),(6,[4,0,0,8]),(5,[4,0,0]),(4,[4,0]),(3,[2,0]),(2,[4,8]),(1,[4]),(0,[0])]) [173] (A2 [(0,[5]),(1,[4,0,0])]) (some [2,0]) [] [] []
noncomputable def Lu{R:Type}(L n:Nat)(b:LL)(v1 a:Int)(f:Unit->Option R)(g:Int->Option R):Option R:=match n with|0=>none|n+1=>cond (ltI a 4) (cond (inR a b.length) (cond (okE Oq b (b8 a) 0) (cond (A3 (a8 (gX b (b8 a) 0))) (vl (↑(M3 (oct (gX b (b8 a) 0))):Int) λc=>cond (not (j2 (oct (gX b (b8 a) 0)))) (f ()) (vl (AH (v1*256)) λd=>vl (AH (d+(AH c))) λe=>Lu L n b e (A1 (a+1)) f g)) none) none) none) (g v1)
theorem A36(n p0 v1 i2):C4 0 ((Sg L).keep 6) (bd (Sg L) Q Y (cd [1,1,1,1,0,1,0,0] B13)) n ⟨gp [(4,.s (.sl false false 1 p0)),(0,p32 v1),(0,pI i2)] 27,[],s⟩ k =
 Lu L n p0 v1 i2 (λ_=>k .ret ⟨gp [(2,p32 (0:Int)),(0,pB false)] 30,[],s⟩) (λv0=>k (.exit 0) ⟨gp [(5,p32 v0)] 28,[],s⟩):=by
 induction n generalizing p0 v1 i2 with
 | zero=>rfl
 | succ n a=>rw[Lu];simp only[<-a];kernel_rfl
noncomputable def Cv3{R:Type}(L:Nat)(d:By)(b:Int->Bool->Option R):Option R:=cond (A3 d.length) (vl (D4 (pcs (u8n (46:Int)) d)) λa=>cond ((a.length:Int)!=4) (b 0 false) (Lu L L a 0 0 (λ_=>b 0 false) (λc=>b c true))) none
theorem Cv4(d:Nat)(s0):evC (Sg L) (d+1) Z Y 145 [pS s0] [] s=Cv3 L s0 (λb c=>some (.tup [p32 b,pB c],[],s)):=by refine(evE (fn:=ag4) (by kernel_rfl)).trans ?_;generalize evC (Sg L) d=Q;unfold Cv3;exact(j1 (by kernel_rfl) (A0 (A4 λa=>(A0 rfl ((A36 L Q Y s (E2 0 (D9 (Sg L) Q Y (cd [1,1,1,1,1] B13) (F2 (Sg L) ag4))) L a 0 0).trans (by kernel_rfl)))) rfl))
noncomputable def An1(L:Nat):Cfg:=B4 L [70] (A2 []) [(53,Xe)] (A2 [(1,[2]),(0,[0])]) [53] (A2 []) (some [2]) [] [] []
noncomputable def Cv1{R:Type}(L:Nat)(v0:Int)(n:By->Option R):Option R:=vl (On .u32 v0 (24:Int)) λg=>cond (ltN (A1 g) 4294967296) (vl (j5 (b8 (A1 g))) λj=>cond (F3 j.length 1) (vl (j++[46]) λc=>vl (On .u32 v0 (16:Int)) λm=>vl (x7 m (256:Int)) λh=>cond (ltN (A1 h) 4294967296) (vl (j5 (b8 (A1 h))) λd=>cond (F3 c.length d.length) (cond (F3 (a8 (c++d)) 1) (vl ((c++d)++[46]) λe=>vl (x7 (On .u32 v0 (8:Int)) (256:Int)) λi=>cond (ltN (A1 i) 4294967296) (vl (j5 (b8 (A1 i))) λf=>cond (F3 e.length f.length) (cond (F3 (a8 (e++f)) 1) (vl ((e++f)++[46]) λl=>vl (x7 v0 (256:Int)) λa=>cond (ltN (A1 a) 4294967296) (vl (j5 (b8 (A1 a))) λb=>cond (F3 l.length b.length) (n (l++b)) none) none) none) none) none) none) none) none) none) none
theorem Cv2(d:Nat)(v0):evC (An1 L) (d+1) Z Y 70 [p32 v0] [] s=Cv1 L v0 (λa=>some (pS a,[],s)):=by refine(evE (fn:=Tryz.f70) (by kernel_rfl)).trans ?_;generalize evC (An1 L) d=Q;unfold Cv1;kernel_rfl
noncomputable def Yp(L:Nat):Cfg:=B4 L [109] (A2 []) [(138,Xg)] (A2 [(1,[4]),(0,[0,0])]) [] (A2 []) (some [4]) [] [] []
noncomputable def DJ{R:Type}(L:Nat)(c a:By)(d:Nat->LL->Option R):Option R:=cond (A3 c.length) (cond (a.length==1) (cond ((0:Int)==0) (cond (((-1):Int)==((-1):Int)) (vl (D4 (pcs (b9 a 0 0) c)) λb=>d (a8 (pcs (b9 a 0 0) c)) b) none) none) none) none
theorem A53(d:Nat)(s0 sep1):evC (Yp L) (d+1) Z Y 109 [pS s0,pS sep1] [] s=DJ L s0 sep1 (λa b=>some (.vw 0 0 a,[.arr false 9 1 b],s)):=by refine(evE (fn:=Tryz.f109) (by kernel_rfl)).trans ?_;generalize evC (Yp L) d=Q;unfold DJ;kernel_rfl
end
end
section
open Go
attribute [simp] B5 E3 C5 VV Bh3 Bh2 VW Z2 J6 F0
attribute [simp] vl
@[simp] theorem E1{n:Nat}(h:n<=1000000000):A3 n=true:=NK.2 h
@[simp] theorem Qu{v:Int}{n:Nat}(h:0<=v)(a:v<n):ltN v n=true:=E0.2 ⟨h,a⟩
theorem N0{n:Nat}(h:n<=1000000000:=by omega):A3 n=true:=E1 h
theorem L1{v:Int}{n:Nat}(h:0<=v:=by omega)(g:v<n:=by omega):ltN v n=true:=Qu h g
@[simp] theorem E6{m n:Nat}(h:m+n<4611686018427387904):F3 m n=true:=by simp[F3,h]
abbrev rv(v:PV)(H:List Blk):Option (PV × List Blk × Unit):=some (v,H,())
theorem L4{n:Nat}(h:A3 n=true):n<=1000000000:=NK.1 h
theorem D2(s:By)(i:Nat)(h:i<s.length):s.drop i=s.getD i 0::s.drop (i+1):=by rw[p4,s9 h,w6,List.getElem_cons_drop]
theorem NO(s:By)(i:Nat)(h:i<s.length):s.take (i+1)=s.take i++[s.getD i 0]:=by rw[List.take_add_one,p4,s9 h];rfl
theorem HV(s:By)(i:Nat)(h:i<s.length):(B6 (s.take (i+1))).map D7=(B6 (s.take i)).map D7++[D7 (Bk (s.getD i 0))]:=by unfold B6;rw[NO s i h,af2,af2];rfl
theorem T4(b:UInt8):(b.toNat<65/\Bk b=b)\/(90<b.toNat/\Bk b=b)\/(65<=b.toNat/\b.toNat<=90/\((Bk b).toNat=b.toNat+32)):=by
 unfold Bk;by_cases a:b.toNat<65
 ·refine .inl ⟨a,if_neg ?_⟩;intro h;have:=aa4.1 h.1;simp at this;omega
 ·by_cases c:90<b.toNat
  ·refine .inr (.inl ⟨c,if_neg ?_⟩);intro h;have:=aa4.1 h.2;simp at this;omega
  ·refine .inr (.inr ⟨by omega,by omega,?_⟩);rw[if_pos (by constructor<;>(rw[aa4];simp;omega)),UInt8.toNat_add];simp;omega
@[simp] theorem C9(s:By)(i:Nat):bAt s (i:Int)=((s.getD i 0).toNat:Int):=by simp[bAt]
@[simp] theorem Z5(s:By):bAt s 0=((s.getD 0 0).toNat:Int):=by simp[bAt]
@[simp] theorem Ba8(s:By):bAt s 1=((s.getD 1 0).toNat:Int):=by simp[bAt]
theorem Ef{c:Type}(s:List c)(a b:Nat):cut s (a:Int) (b:Int)=(s.take b).drop a:=by simp[cut]
@[simp] theorem P9{b:Type}(s:List b)(a:Int):cut s a (s.length:Int)=s.drop a.toNat:=by simp[cut]
@[simp] theorem J8{a:Type}(s:List a)(b:Int):cut s 0 b=s.take b.toNat:=by simp[cut]
@[simp] theorem F5(l:List By):(D4 l).length=l.length:=by simp[D4]
@[simp] theorem V5(l:List By)(i:Nat):gX (D4 l) i 0=l.getD i []:=by
 unfold gX gC D4;by_cases h:i<l.length
 ·simp[p4,s9 h,SV.gS]
 ·simp[p4,List.getElem?_eq_none (show l.length<=i by omega),SV.gS]
@[simp] theorem Q8{l:List By}{i:Nat}(h:i<l.length):okE Oq (D4 l) i 0=true:=by unfold okE D4;simp[p4,s9 h,h,Oq,okS,SV.has]
theorem Wr(a b:List By):D4 (a++b)=D4 a++D4 b:=by simp[D4]
theorem Ib(b:UInt8):u8n (b.toNat:Int)=b:=by simp[u8n]
theorem VK(b:UInt8):inR (b.toNat:Int) 256=true:=by have:=b.toNat_lt;exact E5
theorem C31{a b:UInt8}:((a.toNat:Int)==(b.toNat:Int))=(a==b):=by
 rw[ac2];simp only[beq_iff_eq];constructor
 ·intro h;exact UInt8.toNat_inj.1 (by omega)
 ·intro h;rw[h]
theorem P8(a:UInt8)(n:Nat)(h:n<256):((a.toNat:Int)==(n:Int))=(a==j9 n):=by rw[<-C31];simp[p9 h]
theorem Dz(p s:By):p.isPrefixOf s=(decide (p.length<=s.length)&&(s.take p.length==p)):=by
 rw[ac2];simp only[x9,x5,decide_eq_true_eq,beq_iff_eq];constructor
 ·intro h;exact⟨h.length_le,(ab8.1 h).symm⟩
 ·rintro⟨_,h⟩;exact ab8.2 h.symm
theorem Mr(p s:By):p.isSuffixOf s=(decide (p.length<=s.length)&&(s.drop (s.length-p.length)==p)):=by
 rw[ac2];simp only[List.isSuffixOf_iff_suffix,x5,decide_eq_true_eq,beq_iff_eq];constructor
 ·intro h;exact⟨h.length_le,(ab9.1 h).symm⟩
 ·rintro⟨_,h⟩;exact ab9.2 h.symm
theorem Cg(b:UInt8):(48<=b.toNat/\b.toNat<=57/\dig b=b.toNat-48)\/(97<=b.toNat/\b.toNat<=102/\dig b=b.toNat-87)\/(65<=b.toNat/\b.toNat<=70/\dig b=b.toNat-55)\/(¬(48<=b.toNat/\b.toNat<=57)/\¬(97<=b.toNat/\b.toNat<=102)/\¬(65<=b.toNat/\b.toNat<=70)/\dig b=99):=by
 unfold dig;split
 ·rename_i h;exact .inl ⟨h.1,h.2,rfl⟩
 ·split
  ·rename_i h;exact .inr (.inl ⟨h.1,h.2,rfl⟩)
  ·split
   ·rename_i h;exact .inr (.inr (.inl ⟨h.1,h.2,rfl⟩))
   ·exact .inr (.inr (.inr ⟨by assumption,by assumption,by assumption,rfl⟩))
theorem Cc8(m:Nat):(if (1099511627776:Int)<(m:Int) then (1099511627776:Int) else (m:Int))=((min m Bv:Nat):Int):=by unfold Bv;split<;>omega
theorem GP{base:Nat}:∀{s:By} {n v:Nat},n<=Bv->E7 base n s=some v->v<=Bv
 | [],n,v,h,e=>by simp only[E7,aa3] at e;omega
 | b::r,n,v,h,e=>by
  simp only[E7] at e;split at e
  ·exact GP (by omega) e
  ·cases e
theorem Be4{s:By}{v:Nat}(h:Z9 s=some v):v<=Bv:=by
 unfold Z9 at h
 repeat' split at h
 all_goals first|(cases h;done)|exact GP (by unfold Bv;omega) h
theorem LV(base:Nat):∀(x y:By) (n:Nat),E7 base n (x++y)=(E7 base n x).bind λm=>E7 base m y
 | [],y,n=>rfl
 | b::r,y,n=>by
  simp only[ab5,E7];split
  ·exact LV base r y _
  ·rfl
theorem Il(u:Nat)(h:¬u<10):j5 u=j5 (u / 10)++[j9 (48+u % 10)]:=by rw[j5,dif_neg h]
theorem C26(d:Nat)(h:d<10):dig (j9 (48+d))=d:=by
 unfold dig;have:(j9 (48+d)).toNat=48+d:=by simp;omega
 rw[this,S6];omega
theorem Bj3:∀u:Nat,u<=Bv->E7 10 0 (j5 u)=some u:=by
 intro u
 induction u using Nat.strongRecOn with
 | _ u a=>
  intro b;by_cases h:u<10
  ·rw[ab3 h];simp only[E7,C26 u h];rw[if_pos h];unfold Bv;simp;omega
  ·rw[Il u h,LV,a (u / 10) (by omega) (by omega)];simp only[Option.bind_some,E7,C26 (u % 10) (by omega)];rw[S6];unfold Bv at *;simp;omega
theorem Jj:∀(k u:Nat),0<k->u<10 ^ k->(j5 u).length<=k
 | 0,u,h,_=>by omega
 | k+1,u,_,h=>by
  by_cases b:u<10
  ·rw[ab3 b];simp
  ·rw[Il u b,y9,x8];have a:0<k:=by
    rcases Nat.eq_zero_or_pos k with rfl|a
    ·rw[ah1,Nat.pow_one] at h;omega
    ·exact a
   have:=Jj k (u / 10) a (by rw[y8] at h;omega);omega
theorem F4(u:Nat)(h:u<4294967296):(j5 u).length<=10:=Jj 10 u (by omega) (by omega)
theorem Vl{s:By}{n:Nat}:oct s=some n↔n<256/\j5 n=s:=by
 unfold oct;constructor
 ·intro h;split at h
  ·rename_i m c;split at h
   ·rename_i a;cases h;exact⟨by omega,a.2⟩
   ·cases h
  ·cases h
 ·rintro⟨b,rfl⟩;rw[Bj3 n (by unfold Bv;omega)];exact if_pos ⟨by omega,rfl⟩
theorem C21(a b:Nat)(c:a<9223372036854775808)(d:b<9223372036854775808):bOr .i64 (a:Int) (b:Int)=((a ||| b:Nat):Int):=by
 unfold bOr;rw[show v7 .i64=64 from rfl,C43 64 a b (by omega) (by omega)];have:a ||| b<2 ^ 63:=ad5 (by omega) (by omega)
 exact A7
theorem Dc5(a b:Nat)(c:a<4294967296)(d:b<4294967296):bOr .u32 (a:Int) (b:Int)=((a ||| b:Nat):Int):=by
 unfold bOr;rw[show v7 .u32=32 from rfl,C43 32 a b (by omega) (by omega)];have:a ||| b<2 ^ 32:=ad5 (by omega) (by omega)
 exact Mj
theorem C39(a b:Nat)(c:a<4294967296)(d:b<4294967296):Al0 .u32 (a:Int) (b:Int)=((a &&& b:Nat):Int):=by unfold Al0;rw[show v7 .u32=32 from rfl,C25 32 a b (by omega) (by omega)];have:a &&& b<2 ^ 32:=Nat.and_lt_two_pow _ (by omega);exact Mj
theorem C38(x:Nat):x &&& 255=x % 256:=Nat.and_two_pow_sub_one_eq_mod x 8
theorem Ae2(a m:Nat)(h:a*2 ^ m<9223372036854775808)(b:m<=64):Qq .i64 (a:Int) (m:Int)=((a*2 ^ m:Nat):Int):=by
 unfold Qq;rw[j4,show v7 .i64=64 from rfl,ac3 b];have:(a:Int)*2 ^ m=((a*2 ^ m:Nat):Int):=by simp
 rw[this];exact A7
theorem De3(a m:Nat)(h:a*2 ^ m<4294967296)(b:m<=32):Qq .u32 (a:Int) (m:Int)=((a*2 ^ m:Nat):Int):=by
 unfold Qq;rw[j4,show v7 .u32=32 from rfl,ac3 b];have:(a:Int)*2 ^ m=((a*2 ^ m:Nat):Int):=by simp
 rw[this];exact Mj
theorem CZ(v n m:Nat)(h:n<2 ^ m):v*2 ^ m ||| n=v*2 ^ m+n:=by rw[Nat.or_comm,C62 n v m h,ag8]
theorem Oh{c:UInt8}{s:By}(h:c∉s):pcs c s=[s]:=by unfold pcs;rw[Wp c s [] h];rfl
theorem TW{c:UInt8}{p r:By}(h:c∉p):pcs c (p++c::r)=p::pcs c r:=by unfold pcs;rw[BZ c p [] r h];rfl
theorem Hp(c:UInt8)(s:By):(pcs c s).length=s.count c+1:=Hz c s []
theorem Au1(c:UInt8)(s:By):pcs c s≠[]:=A49 c s []
theorem Db{c:UInt8}{s x:By}(h:x∈pcs c s):c∉x/\x.length<=s.length:=by have:=Oo c s [] (by simp) x h;simpa using this
theorem Fy(c:UInt8)(s:By):s.count c<=s.length:=List.count_le_length
theorem T0(c:UInt8):∀s:By,c∉s\/∃p r,s=p++c::r/\c∉p
 | []=>.inl (by simp)
 | b::s=>by
  by_cases h:b=c
  ·subst h;exact .inr ⟨[],s,rfl,by simp⟩
  ·rcases T0 c s with a|⟨p,r,rfl,d⟩
   ·exact .inl (by simp[a,Ne.symm h])
   ·exact .inr ⟨b::p,r,rfl,by simp[d,Ne.symm h]⟩
theorem So{c:UInt8}{s:By}(h:c∉s):y5 s [c]=-1:=by
 rcases af4 s [c] with a|⟨i,a,e,b,f⟩
 ·exact a.1
 ·exfalso;simp only[ad7,x9] at b;obtain⟨t,d⟩:=b;have:c∈s.drop i:=by rw[<-d];simp
  exact h (ac8 this)
theorem Zf{c:UInt8}{p r:By}(h:c∉p):y5 (p++c::r) [c]=(p.length:Int):=by
 rcases af4 (p++c::r) [c] with d|⟨i,d,m,f,g⟩
 ·exfalso;have:=d.2 p.length (by simp);simp[ad7] at this
 ·rw[d];have n:¬p.length<i:=by
   intro a;have:=g p.length a;simp[ad7] at this
  have k:¬i<p.length:=by
   intro a;simp only[ad7,x9] at f;obtain⟨t,b⟩:=f;have j:(p++c::r).drop i=p.drop i++c::r:=by rw[aa5 (by omega)]
   rw[j] at b;cases e:p.drop i with
   | nil=>have:=List.length_drop (i:=i) (l:=p);rw[e] at this;simp at this;omega
   | cons x y=>
    rw[e] at b;simp at b;have:x∈p:=ac8 (i:=i) (by rw[e];simp);rw[<-b.1] at this;exact h this
  omega
theorem Bo2(s:By):C7 s≠[]:=by
 unfold C7;split
 ·rename_i h;intro e;have:=congrArg a8 e;simp at this;omega
 ·exact Au1 _ _
theorem Li{s x:By}(h:x∈C7 s):x.length<=s.length:=by
 unfold C7 at h;split at h
 ·exact(Db ((List.dropLast_sublist _).subset h)).2
 ·exact(Db h).2
theorem Aj(s:By):1<=(C7 s).length/\(C7 s).length<=s.length+1:=by
 have a:=ab0.2 (Bo2 s);have b:=Hp 46 s;have c:=Fy 46 s;refine⟨a,?_⟩;unfold C7;split
 ·rw[List.length_dropLast];omega
 ·omega
theorem Zk(s:By):(C7 s).getD ((C7 s).length-1) []=Jo s:=by unfold Jo;rw[List.getLastD_eq_getLast?,List.getLast?_eq_getElem?,p4]
theorem MK(s:By):Jo s∈C7 s:=by have h:=(Aj s).1;rw[<-Zk,p4,s9 (by omega)];exact ab6 _
theorem Im{base:Nat}:∀{s:By} {n i:Nat},i<s.length->base<=dig (s.getD i 0)->E7 base n s=none
 | [],n,i,h,_=>by simp at h
 | b::r,n,0,h,a=>by
  simp only[x4] at a;simp only[E7];rw[F9]
 | b::r,n,i+1,h,a=>by
  simp only[ad1] at a;simp only[E7];split
  ·exact Im (i:=i) (by simpa using h) a
  ·rfl
theorem Zg(s:By):Bi s=true↔s.getD 0 0=48/\(s.getD 1 0=120\/s.getD 1 0=88):=by simp[Bi]
theorem Ps{s:By}(h:Bi s=true):2<=s.length:=by
 rw[Zg] at h
 match s with
 | []=>simp at h
 | [a]=>simp at h
 | a::b::r=>simp
theorem B68(l:By):(if Bi l then (E7 16 0 (l.drop 2)).isSome else !l.isEmpty&&(E7 10 0 l).isSome) =
  (if (!l.isEmpty&&(E7 10 0 l).isSome)=true then true else (if (Z9 l).isSome=true then decide (2<=l.length)&&(l.getD 1 0==120||l.getD 1 0==88) else false)):=by
 by_cases b:Bi l=true
 ·have g:=Ps b;have j:=(Zg l).1 b;have f:E7 10 0 l=none:=Im (i:=1) (by omega) (by rcases j.2 with h|h<;>rw[h]<;>decide);have d:Z9 l=E7 16 0 (l.drop 2):=by
   unfold Z9;rw[if_neg (by intro e;rw[e] at g;simp at g),if_pos b]
  rw[if_pos b,f,d];have c:(l.getD 1 0==120||l.getD 1 0==88)=true:=by simpa using j.2
  rw[c];simp[g]
 ·rw[if_neg b];cases n:(!l.isEmpty&&(E7 10 0 l).isSome) with
  | true=>rfl
  | false=>
   rw[if_neg (by simp)];cases d:Z9 l with
   | none=>rfl
   | some v=>
    rw[show(some v).isSome=true from rfl,if_pos rfl]
    symm
    rw[Bool.and_eq_false_iff];by_cases c:2<=l.length
    ·right
     apply Classical.byContradiction;intro a;have a:l.getD 1 0=120\/l.getD 1 0=88:=by
      cases k:(l.getD 1 0==120||l.getD 1 0==88) with
      | false=>exact absurd k a
      | true=>simpa using k
     have m:¬l.getD 0 0=48:=λh=>b ((Zg l).2 ⟨h,a⟩)
     have f:E7 10 0 l=none:=Im (i:=1) (by omega) (by rcases a with h|h<;>rw[h]<;>decide);unfold Z9 at d;rw[if_neg (by intro e;rw[e] at c;simp at c),if_neg b,if_neg (by intro h;exact m h.2),f] at d;cases d
    ·left;simpa using c
end
section
open Go Go.Proofs
theorem Bm8{R:Type}{a:Bool->Option R}(s p:By)(b:A3 s.length=true):Cp9 LF s p a=a (p.isPrefixOf s):=by
 have:=L4 b;unfold Cp9;rw[Dz];by_cases h:p.length<=s.length
 ·simp_all
 ·simp (disch:=omega) [h]
theorem Bl0{R:Type}{a:Bool->Option R}(s p:By)(b:A3 s.length=true):Sn LF s p a=a (p.isPrefixOf s):=by unfold Sn;rw[b];rfl
theorem Bm9{R:Type}{a:Bool->Option R}(s p:By)(b:A3 s.length=true):Cq1 LF s p a=a (p.isSuffixOf s):=by
 have:=L4 b;unfold Cq1;rw[Mr];by_cases h:p.length<=s.length
 ·have e:((s.length:Int)-(p.length:Int)).toNat=s.length-p.length:=by omega
  simp (disch:=omega) [h,e]
 ·simp (disch:=omega) [h]
theorem Bl1{R:Type}{a:Bool->Option R}(s p:By)(b:A3 s.length=true):Co4 LF s p a=a (p.isSuffixOf s):=by unfold Co4;rw[b];rfl
theorem As8{R:Type}{b:By->Option R}(s p:By)(a:A3 s.length=true):Bd9 LF s p b=b (VH s p):=by
 have:=L4 a;unfold Bd9 VH;rw[a];cases h:p.isSuffixOf s with
 | false=>simp
 | true=>
  have:p.length<=s.length:=by rw[Mr] at h;simp at h;exact h.1
  have e:((s.length:Int)-(p.length:Int)).toNat=s.length-p.length:=by omega
  simp (disch:=omega) [e]
theorem A57{R:Type}{a:By->Option R}(s p:By)(b:A3 s.length=true):Bg7 LF s p a=a (VH s p):=by unfold Bg7;rw[b];rfl
theorem Ar6{R:Type}{b:By->Bool->Option R}(s p:By)(a:A3 s.length=true):Bd4 LF s p b=b (Fz s p) (p.isPrefixOf s):=by
 have:=L4 a;unfold Bd4 Fz;rw[a];cases h:p.isPrefixOf s with
 | false=>simp
 | true=>
  have:p.length<=s.length:=by rw[Dz] at h;simp at h;exact h.1
  simp_all
theorem Bj0{R:Type}{a:By->Bool->Option R}(s p:By)(b:A3 s.length=true):Cl1 LF s p a=a (Fz s p) (p.isPrefixOf s):=by unfold Cl1;rw[b];rfl
theorem Af3{R:Type}{a:LL->Option R}(s p:By)(b:A3 s.length=true)(c:(p.length==1)=true):VC LF s p a=a (D4 (pcs (p.getD 0 0) s)):=by unfold VC;rw[b,c];rfl
theorem Bm5{R:Type}{k0:LL->Option R}(s:By)(o:s.length<=1000000000):∀(r i n:Nat),i+r=s.length->r<n->Ek LF n s (s.length:Int) (i:Int) ((B6 (s.take i)).map D7) k0=k0 ((B6 s).map D7):=by
 intro r
 induction r with
 | zero=>
  intro i n g j;obtain⟨n,rfl⟩:∃m,n=m+1:=⟨n-1,by omega⟩
  rw[Ek];rw[A5,aa2 (by omega)];rfl
 | succ r a=>
  intro i n g j;obtain⟨n,rfl⟩:∃m,n=m+1:=⟨n-1,by omega⟩
  rw[Ek];have h:(B6 (s.take i)).length=i:=by simp[B6];omega
  have a:=a (i+1) n (by omega) (by omega);rw[HV s i (by omega)] at a;rw[C9];have l:=(s.getD i 0).toNat_lt;generalize s.getD i 0=b at *;have c:((i:Int)+1)=((i+1:Nat):Int):=by omega
  simp (disch:=omega) only[B5,J6,cond_true,vl,aa9,h,F0,C5];rw[c];rcases T4 b with⟨d,e⟩|⟨d,e⟩|⟨d,k,e⟩
  ·simp (disch:=omega) only[B5,j6,cond_false];rw[e] at a;exact a
  ·simp (disch:=omega) only[E3,B5,j6,j7,cond_false,cond_true];rw[e] at a;exact a
  ·have f:wu8 ((b.toNat:Int)+32)=((Bk b).toNat:Int):=by
    rw[L6];omega
   simp (disch:=omega) only[E3,j7,cond_true,f];exact a
theorem Bm6{R:Type}{k0:By->LL->Option R}(s:By)(b:A3 s.length=true):Cp7 LF s k0=k0 (B6 s) ((B6 s).map D7):=by have c:=L4 b;have:=C1;unfold Cp7;simp (disch:=omega) only[j4,F0,af8];rw[show(decide ((0:Int)<=(s.length:Int)))=true by simp];have:=Bm5 (k0:=λa=>cond (x3 a Mz) (k0 (s7 Kv a) a) none) s c s.length 0 LF (by omega) (by omega);simp only[List.take_zero,B6,List.map_nil] at this;rw[cond_true];refine j1 this ?_;rw[show(s7 Bk s).map D7=(B6 s).map D7 from rfl,V9,W8];rfl
theorem Bq8{R:Type}{k0:LL->Option R}(s:By)(o:s.length<=1000000000):∀(r i n:Nat),i+r=s.length->r<n->Et LF n s (i:Int) ((B6 (s.take i)).map D7) k0=k0 ((B6 s).map D7):=by
 intro r
 induction r with
 | zero=>
  intro i n g j;obtain⟨n,rfl⟩:∃m,n=m+1:=⟨n-1,by omega⟩
  rw[Et];rw[A5,aa2 (by omega)];rfl
 | succ r a=>
  intro i n g j;obtain⟨n,rfl⟩:∃m,n=m+1:=⟨n-1,by omega⟩
  rw[Et];have h:(B6 (s.take i)).length=i:=by simp[B6];omega
  have a:=a (i+1) n (by omega) (by omega);rw[HV s i (by omega)] at a;rw[C9];have l:=(s.getD i 0).toNat_lt;generalize s.getD i 0=b at *;have c:((i:Int)+1)=((i+1:Nat):Int):=by omega
  simp (disch:=omega) only[B5,J6,cond_true,vl,aa9,h,F0,C5];rw[c];rcases T4 b with⟨d,e⟩|⟨d,e⟩|⟨d,k,e⟩
  ·simp (disch:=omega) only[B5,j6,cond_false];rw[e] at a;exact a
  ·simp (disch:=omega) only[E3,B5,j6,j7,cond_false,cond_true];rw[e] at a;exact a
  ·have f:wu8 ((b.toNat:Int)+32)=((Bk b).toNat:Int):=by
    rw[L6];omega
   simp (disch:=omega) only[E3,j7,cond_true,f];exact a
theorem Bq9{R:Type}{k0:By->LL->Option R}(s:By)(b:A3 s.length=true):Cu0 LF s k0=k0 (B6 s) ((B6 s).map D7):=by have c:=L4 b;have:=C1;unfold Cu0;have:=Bq8 (k0:=λa=>cond (x3 a Mz) (k0 (s7 Kv a) a) none) s c s.length 0 LF (by omega) (by omega);refine j1 this ?_;rw[V9,W8];rfl
theorem Bk7{R:Type}{c:Bool->Option R}(s:By)(d:A3 s.length=true):Cn9 LF s c=c (Bi s):=by
 unfold Cn9;have key:Bi s=(([48,120]:By).isPrefixOf s||([48,88]:By).isPrefixOf s):=by
  match s with
  | []=>rfl
  | [a]=>simp[Bi,p7]
  | a::b::r=>
   simp only[Bi,p7,x4,ad1,af8];rw[ah2 (a:=(48:UInt8)),ah2 (a:=(120:UInt8)),ah2 (a:=(88:UInt8))];cases (a==48)<;>simp
 grind
theorem Bj4{R:Type}{k0:Unit->Option R}{k1:Int->Option R}(s:By)(C:s.length<=1000000000)(base:Nat)(B:base<=16):∀(r i a n:Nat),i+r=s.length->r<n->a<=Bv->
  Hj LF n s (base:Int) (a:Int) (s.length:Int) (i:Int) k0 k1=match E7 base a (s.drop i) with|some v=>k1 (v:Int)|none=>k0 ():=by
 intro r
 induction r with
 | zero=>
  intro i a n u w q;obtain⟨n,rfl⟩:∃m,n=m+1:=⟨n-1,by omega⟩
  rw[Hj];rw[A5,p5 (by omega)];rfl
 | succ r l=>
  intro i a n u w q;obtain⟨n,rfl⟩:∃m,n=m+1:=⟨n-1,by omega⟩
  rw[Hj,D2 s i (by omega)];rw[C9];have t:=(s.getD i 0).toNat_lt;generalize s.getD i 0=b at *;have k:((i:Int)+1)=((i+1:Nat):Int):=by omega
  have o:Bv=1099511627776:=rfl;have step:∀d:Nat,d<base->(a*base+d<100000000000000/\A1 (A1 ((a:Int)*(base:Int))+(d:Int))=((a*base+d:Nat):Int)):=by
   intro d c;have h:a*base<=1099511627776*16:=af5 (by omega) (by omega);refine⟨by omega,?_⟩;have p:A1 ((a*base:Nat):Int)=((a*base:Nat):Int):=A7;rw[<-ae9,p,A7];rfl
  simp (disch:=omega) only[B5,J6,cond_true,vl,C5,Uf,Ue,Ud];rw[k];simp only[E7];rcases Cg b with⟨h,j,e⟩|⟨h,j,e⟩|⟨h,j,e⟩|⟨h,j,A,e⟩
  ·have f:wu8 ((b.toNat:Int)-48)=((dig b:Nat):Int):=by rw[L6];omega
   simp (disch:=omega) only[B5,E3,j6,j7,cond_false,cond_true,f,C5];by_cases c:dig b<base
   ·rw[if_pos c,A8,(step _ c).2,Cc8];exact l (i+1) _ n (by omega) (by omega) (by omega)
   ·rw[if_neg c,A5];rfl
  ·have f:wu8 ((b.toNat:Int)-97)+10=((dig b:Nat):Int):=by rw[L6];omega
   have g:wu8 ((b.toNat:Int)-97)=((b.toNat:Int)-97):=L6;rw[g] at f;simp (disch:=omega) only[B5,E3,j6,j7,cond_false,cond_true,g,C5,f];by_cases c:dig b<base
   ·rw[if_pos c,A8,(step _ c).2,Cc8];exact l (i+1) _ n (by omega) (by omega) (by omega)
   ·rw[if_neg c,A5];rfl
  ·have f:wu8 ((b.toNat:Int)-65)+10=((dig b:Nat):Int):=by rw[L6];omega
   have g:wu8 ((b.toNat:Int)-65)=((b.toNat:Int)-65):=L6;rw[g] at f;simp (disch:=omega) only[B5,E3,j6,j7,cond_false,cond_true,g,C5,f];by_cases c:dig b<base
   ·rw[if_pos c,A8,(step _ c).2,Cc8];exact l (i+1) _ n (by omega) (by omega) (by omega)
   ·rw[if_neg c,A5];rfl
  ·rw[if_neg (show ¬dig b<base by omega)];by_cases x:b.toNat<48
   ·simp (disch:=omega) only[B5,E3,j6,j7,cond_false,cond_true]
   ·by_cases y:b.toNat<65
    ·simp (disch:=omega) only[B5,E3,j6,j7,cond_false,cond_true]
    ·by_cases z:b.toNat<97
     ·simp (disch:=omega) only[B5,E3,j6,j7,cond_false,cond_true]
     ·simp (disch:=omega) only[B5,E3,j6,j7,cond_false,cond_true]
theorem Bj5{R:Type}{k0:Int->Bool->Option R}(s:By)(base:Int)(c:A3 s.length=true)(d:ltN base 17=true):B29 LF s base k0=k0 (M3 (E7 base.toNat 0 s):Int) (E7 base.toNat 0 s).isSome:=by have f:=L4 c;have:=C1;obtain⟨a,e⟩:=E0.1 d;obtain⟨b,rfl⟩:=k9 a;unfold B29;have:=Bj4 (k0:=λ_=>k0 0 false) (k1:=λn=>k0 n true) s f b (by omega) s.length 0 0 LF (by omega) (by omega) (by unfold Bv;omega);refine j1 this ?_;rw[w8,j4];cases E7 b 0 s<;>rfl
theorem B67{R:Type}{f:Int->Bool->Option R}(s:By)(d:A3 s.length=true):num LF s f=f (M3 (Z9 s):Int) (Z9 s).isSome:=by
 have k:=L4 d;unfold num Z9;rw[d];by_cases a:s=[]
 ·subst a;rfl
 have c:(s==([]:By))=false:=by simpa using a
 have j:0<s.length:=ab0.2 a;rw[if_neg a,c];simp only[cond_true,cond_false,vl];cases h:Bi s with
 | true=>
  have:=Ps h;simp (disch:=first|omega|(simp;omega)) only[cond_true,if_true,Z2,P9,E1,Qu];rfl
 | false=>
  simp only[cond_false,ab1,if_false];have i:(E7 10 0 s)=E7 10 0 s:=rfl;by_cases g:1<s.length
  ·simp (disch:=omega) only[B5,J6,cond_true,Z5,g,true_and];have e:=P8 (s.getD 0 0) 48 (by omega);rw[show((48:Nat):Int)=48 from rfl] at e;rw[e];by_cases b:s.getD 0 0=48
   ·rw[if_pos b,b,show((48:UInt8)==j9 48)=true from rfl];simp (disch:=first|omega|(simp;omega)) only[Z2,P9,E1,Qu,cond_true];rfl
   ·rw[if_neg b,show(s.getD 0 0==j9 48)=false from beq_eq_false_iff_ne.2 b];rfl
  ·rw[A5,F9];rfl
theorem TO{R:Type}{b:Bool->Option R}(s:By)(a:A3 s.length=true):CX LF s b=b (G0 s):=by
 have i:=L4 a;have h:=Aj s;have g:=Li (MK s);have d:=Zk s;have c:((C7 s).length:Int)-1=(((C7 s).length-1:Nat):Int):=by omega
 unfold CX G0;rw[a];simp (disch:=omega) only[cond_true,vl,F5,c,C5,J6,j4,Q8,V5,d,E1];cases f:Bi (Jo s) with
 | true=>
  have:=Ps f;have e:Z9 (Jo s)=E7 16 0 ((Jo s).drop 2):=by
   unfold Z9;grind
  simp[e]
 | false=>
  simp only[cond_false,ab1,if_false];cases E7 10 0 (Jo s) with
  | none=>simp
  | some v=>cases Jo s<;>rfl
theorem KN{R:Type}{c:Bool->Option R}(s:By)(a:A3 s.length=true):Wb LF s c=c (G0 s):=by
 have j:=L4 a;have i:=Aj s;have h:=Li (MK s);have e:=Zk s;have d:((C7 s).length:Int)-1=(((C7 s).length-1:Nat):Int):=by omega
 unfold Wb G0;rw[a,B68];simp (disch:=omega) only[cond_true,vl,F5,d,C5,J6,j4,Q8,V5,e,E1];generalize Jo s=l at *;cases (!l.isEmpty&&(E7 10 0 l).isSome) with
 | true=>rfl
 | false=>
  simp only[cond_false,ab1,if_false];cases Z9 l with
  | none=>rfl
  | some v=>
   simp only[s8,cond_true,if_true,Ba8];by_cases b:2<=l.length
   ·simp (disch:=omega) only[E3,J6,j7,cond_true,b,decide_true,Bool.true_and];have f:=P8 (l.getD 1 0) 120 (by omega);have g:=P8 (l.getD 1 0) 88 (by omega);grind
   ·rw[A8];simp[b]
theorem SO{R:Type}{e:By->Option R}(b:Nat)(j:b<=9223372036854775808)(n:Int)(f:ltN n (b+1)=true):CQ b n e=e (j5 n.toNat):=by
 obtain⟨a,g⟩:=E0.1 f;obtain⟨m,rfl⟩:=k9 a;have key:∀d:Nat,d<10->wu8 (A1 (48+(d:Int)))=((48+d:Nat):Int):=by
  intro d i;rw[A7,L6];rfl
 have c:∀d:Nat,d<10->[[SV.int .u8 ((48+d:Nat):Int)]]=[j9 (48+d)].map D7:=by
  intro d i;rw[Ce8 (by omega)];rfl
 unfold CQ;rw[j4];by_cases h:m<10
 ·rw[A8,key m h,ab3 h];simp only[cond_true,vl];rw[c m h,V9,W8];rfl
 ·have l:=Jj 19 (m / 10) (by omega) (by omega);rw[A5,show(10:Int)=((10:Nat):Int) from rfl,L2,Br];simp (disch:=omega) only[cond_false,vl,C5,cond_true,j4];rw[L1];simp only[cond_true];have k:=key (m % 10) (by omega);rw[A7] at k;rw[k,c (m % 10) (by omega),V9,W8,E6 (by simp;omega),Il m h];rfl
theorem Bp6{R:Type}{f:Int->Option R}{c:Unit->Option R}(s:By):∀(r m n:Nat),m+r=256->r<n->Ll LF n s (m:Int) f c=match oct s with|some v=>(if m<=v then f (v:Int) else c ())|none=>c ():=by
 intro r
 induction r with
 | zero=>
  intro m n g i;obtain⟨n,rfl⟩:∃m,n=m+1:=⟨n-1,by omega⟩
  rw[Ll];rw[A5];cases h:oct s with
  | none=>rfl
  | some v=>have:=(Vl.1 h).1;simp only[cond_false];rw[F9]
 | succ r j=>
  intro m n g i;obtain⟨n,rfl⟩:∃m,n=m+1:=⟨n-1,by omega⟩
  rw[Ll];have b:((m:Int)+1)=((m+1:Nat):Int):=by omega
  simp (disch:=omega) only[B5,Qu,cond_true,vl,C5,j4];by_cases a:j5 m=s
  ·rw[show(j5 m==s)=true by simpa using a,Vl.2 ⟨by omega,a⟩];simp
  ·rw[show(j5 m==s)=false by simpa using a,cond_false,b,j (m+1) n (by omega) (by omega)];cases h:oct s with
   | none=>rfl
   | some v=>
    have:=(Vl.1 h).2;have:v≠m:=by intro e;subst e;exact a this
    simp only[];by_cases d:m<=v
    ·rw[if_pos d,S6]
    ·rw[if_neg d,F9]
theorem Bp7{R:Type}{a:Int->Bool->Option R}(s:By)(b:A3 s.length=true):Cs8 LF s a=a (M3 (oct s):Int) (oct s).isSome:=by have:=C1;unfold Cs8;refine j1 (Bp6 s 256 0 LF (by omega) (by omega)) ?_;cases oct s<;>rfl
theorem Dc6(s:By)(a b:Nat)(h:a<=b)(c:b<s.length):cut s (a:Int) ((b+1:Nat):Int)=cut s (a:Int) (b:Int)++[s.getD b 0]:=by rw[Ef,Ef,NO s b c,aa5 (by rw[List.length_take];omega)]
theorem B27(s:By)(a:Nat):cut s (a:Int) (a:Int)=[]:=by rw[Ef];grind
theorem Ab0{R:Type}{k0:LL->Option R}(s:By)(p:s.length<=1000000000)(c:UInt8):∀(r i a n:Nat) (l:List By),i+r=s.length->r+1<n->a<=i->l.length<=i->
  U5 LF n s (c.toNat:Int) (a:Int) (i:Int) (D4 l) k0=k0 (D4 (l++O9 c (cut s (a:Int) (i:Int)) (s.drop i))):=by
 intro r
 induction r with
 | zero=>
  intro i a n l j o f k;obtain⟨n,rfl⟩:∃m,n=m+1:=⟨n-1,by omega⟩
  obtain⟨n,rfl⟩:∃m,n=m+1:=⟨n-1,by omega⟩
  have b:i=s.length:=by omega
  subst b;rw[U5];simp (disch:=omega) only[E3,j7,cond_true,beq_self_eq_true,Z2,F5,F0,C5];rw[U5];rw[A8,List.drop_length];simp only[j6,cond_false,O9,Wr];rfl
 | succ r g=>
  intro i a n l j o f k;obtain⟨n,rfl⟩:∃m,n=m+1:=⟨n-1,by omega⟩
  rw[U5];have d:((i:Int)+1)=((i+1:Nat):Int):=by omega
  have e:((i:Int)==(s.length:Int))=false:=by rw[beq_eq_false_iff_ne];omega
  simp (disch:=omega) only[E3,j7,cond_true,cond_false,e,J6,C9,C31,Z2,F5,F0,C5];rw[d,D2 s i (by omega)];simp only[O9];by_cases h:s.getD i 0=c
  ·rw[show(s.getD i 0==c)=true by simpa using h,if_pos h,cond_true];have:=g (i+1) (i+1) n (l++[cut s (a:Int) (i:Int)]) (by omega) (by omega) (by omega) (by simp<;>omega);rw[Wr] at this;refine j1 this ?_;rw[B27];simp
  ·rw[show(s.getD i 0==c)=false from beq_eq_false_iff_ne.2 h,if_neg h,cond_false];rw[g (i+1) a n l (by omega) (by omega) (by omega) (by omega),Dc6 s a i f (by omega)]
theorem A27{R:Type}{k0:LL->Option R}(s:By)(c:Int)(a:A3 s.length=true)(d:inR c 256=true):IT LF s c k0=k0 (D4 (pcs (u8n c) s)):=by
 have f:=L4 a;have:=C1;simp only[inR,x5,decide_eq_true_eq] at d;have e:c=((u8n c).toNat:Int):=by
  unfold u8n;simp;omega
 unfold IT;generalize u8n c=b at *;subst e;have:=Ab0 (k0:=k0) s f b s.length 0 0 LF [] (by omega) (by omega) (by omega) (by simp);refine j1 this ?_;rw[B27];rfl
theorem Af5(c:UInt8)(s:By):(D4 (pcs c s)).isEmpty=false:=by
 cases h:pcs c s with
 | nil=>exact absurd h (Au1 c s)
 | cons a r=>rfl
theorem Ab1(s:By)(c:Int)(a:A3 s.length=true)(b:inR c 256=true):∃r H,IT LF s c (λl=>rv (.fl 0) [.arr true 9 1 l])=rv r H/\r.stab [1] H = .s (.sl false false 1 (D4 (pcs (u8n c) s))):=by refine⟨_,_,A27 s c a b,?_⟩;simp[PV.stab,Qm,PV.snap,Af5]
theorem Cc9(d:List By)(x:By)(m:Nat):aa6 (D4 (d++j0 (m+1) [])) d.length (F8 (b9 (D4 (d++j0 (m+1) [])) d.length []) 0 [SV.str x])=D4 ((d++[x])++j0 m []):=by
 have a:b9 (D4 (d++j0 (m+1) [])) d.length []=[SV.str []]:=by
  unfold D4;grind
 rw[a];simp only[F8,List.set_cons_zero,Wr];rw[show d.length=(D4 d).length by simp,List.set_append_right _ _ (by omega),Nat.sub_self,List.replicate_succ];simp[D4]
theorem YE{R:Type}{k0:By->Int->LL->Option R}(c:UInt8):∀(m n:Nat) (s:By) (d:List By),s.length<=1000000000->m=s.count c->d.length+m<=1000000000->m<n->
  ∃(f:List By) (e:By),pcs c s=f++[e]/\e.length<=s.length/\Aq LF n s [c] 0 ((d.length+m:Nat):Int) (d.length:Int) (D4 (d++j0 (m+1) [])) k0=k0 e ((d.length+m:Nat):Int) (D4 ((d++f)++[[]])):=by
 intro m
 induction m with
 | zero=>
  intro n s d k b x y;obtain⟨n,rfl⟩:∃m,n=m+1:=⟨n-1,by omega⟩
  have a:c∉s:=ab2.1 b.symm;refine⟨[],s,Oh a,aa7 _,?_⟩;rw[Aq];rw[A5];simp
 | succ m z=>
  intro n s d k b x y;obtain⟨n,rfl⟩:∃m,n=m+1:=⟨n-1,by omega⟩
  rcases T0 c s with a|⟨p,r,rfl,a⟩
  ·rw[ab2.2 a] at b;omega
  ·have i:m=r.count c:=by
    rw[List.count_append,af0,ab2.2 a] at b;simp at b;omega
   simp only[y9,ab7] at k;obtain⟨f,e,w,B,j⟩:=z n r (d++[p]) (by omega) i (by simp<;>omega) (by omega);refine⟨p::f,e,by rw[TW a,w];rfl,by simp<;>omega,?_⟩;rw[Aq];have l:((p.length:Int)+1)=((p.length+1:Nat):Int):=by omega
   have o:(d.length:Int)+1=((d.length+1:Nat):Int):=by omega
   have q:((p.length+1:Nat):Int).toNat=p.length+1:=by omega
   have A:(((p++c::r).length:Nat):Int)=((p.length+(r.length+1):Nat):Int):=by simp
   have t:(p++c::r).take p.length=p:=List.take_left' rfl;have u:(p++c::r).drop (p.length+1)=r:=by
    rw[show p++c::r=(p++[c])++r by simp,List.drop_left' (by simp)]
   rw[Zf a];have v:(D4 (d++j0 (m+1+1) [])).length=d.length+(m+2):=by simp<;>omega
   simp (disch:=first|omega|(simp;omega)) only[B5,E3,E1,cond_true,cond_false,vl,Int.add_zero,C5,Z2,J6,v,j4,x8,P9,J8,t,Cc9];rw[decide_eq_true (show d.length<d.length+(m+2) by omega),cond_true,show((1:Nat):Int)=1 from rfl,l];simp (disch:=first|omega|(simp;omega)) only[C5,Z2,cond_true,P9,q,u,o];have g:((((d++[p]).length+m:Nat):Int))=((d.length+(m+1):Nat):Int):=by simp<;>omega
   have h:(((d++[p]).length:Nat):Int)=((d.length+1:Nat):Int):=by simp
   rw[g,h] at j;rw[j];simp
theorem HD{R:Type}{k0:Unit->Option R}{g:Nat->LL->Option R}(s p:By)(v n:Int)(w:A3 s.length=true)(x:(p.length==1)=true)(y:(v==0)=true)(z:(n==(-1))=true) :
  HC LF s p v n k0 g=g (pcs (p.getD 0 0) s).length (D4 (pcs (p.getD 0 0) s)):=by
 have C:=L4 w;have:=C1;obtain⟨c,rfl⟩:∃c,p=[c]:=by
  match p,x with
  | [c],_=>exact⟨c,rfl⟩
 have:v=0:=by simpa using y
 subst this;have:n=-1:=by simpa using z
 subst this;have G:=Fy c s;have B:=Hp c s;obtain⟨d,D,u,F,h⟩:=YE (R:=R) (k0:=λf a b=>cond (inR a (a8 b))
     (cond (decide ((b8 a)<(a8 b)))
      (vl (A1 (a+(1))) λe=>
      cond (I2 (0) e (a8 (aa6 b (b8 a) (F8 (b9 b (b8 a) []) 0 [(SV.str f)]))))
       (g ((b8 e)-0) (aa6 b (b8 a) (F8 (b9 b (b8 a) []) 0 [(SV.str f)])))
       (none))
      (none))
     (none)) c (s.count c) LF s [] C rfl (by simp<;>omega) (by omega)
 unfold HC;have i:A1 ((s.count c:Int)+1)=((s.count c+1:Nat):Int):=A7;have j:A1 ((s.length:Int)+1)=((s.length+1:Nat):Int):=A7;have k:(if ((s.length+1:Nat):Int)<((s.count c+1:Nat):Int) then ((s.length+1:Nat):Int) else ((s.count c+1:Nat):Int))=((s.count c+1:Nat):Int):=F9;have l:((s.count c+1:Nat):Int)-1=(s.count c:Int):=by omega
 have m:(j0 (s.count c+1) [SV.str ([]:By)])=D4 ([]++j0 (s.count c+1) []):=by simp[D4]
 simp only[x4,vl,x8,i,j,k,j4,m];rw[show((-1:Int)==0)=false from rfl,show([c]==([]:By))=false from rfl,show ltI (-1) 0=true from rfl,decide_eq_true (show(0:Int)<=((s.count c+1:Nat):Int) by omega),decide_eq_true (show((s.count c+1:Nat):Int)<=((s.count c+1:Nat):Int) by omega),F0 (by omega),l,A7];simp only[cond_true,cond_false,beq_self_eq_true,Bool.and_self];simp only[af1,ah1] at h;refine j1 h ?_;have o:(D4 ((([]:List By)++d)++[[]]))=D4 (d++j0 (0+1) []):=by simp
 have A:d.length=s.count c:=by grind
 have q:=Cc9 d D 0;rw[<-A,o];have t:(D4 (d++j0 (0+1) ([]:By))).length=d.length+1:=by simp
 have r:A1 ((d.length:Int)+1)=((d.length+1:Nat):Int):=A7;simp only[j4,q,t,vl,r];rw[E5,decide_eq_true (show d.length<d.length+1 by omega),Z2 (by omega) (by omega) (by simp),u];simp
theorem YF(s p:By)(v n:Int)(a:A3 s.length=true)(b:(p.length==1)=true)(c:(v==0)=true)(d:(n==(-1))=true) :
  ∃r H,HC LF s p v n (λ_=>rv (.fl 0) [.arr true 9 1 []]) (λi l=>rv (.vw 0 0 i) [.arr false 9 1 l])=rv r H/\r.stab [1] H = .s (.sl false false 1 (D4 (pcs (p.getD 0 0) s))):=by
 refine⟨_,_,HD s p v n a b c d,?_⟩;simp[PV.stab,Qm,PV.snap,aa2]
theorem VD{R:Type}{a:Nat->LL->Option R}(s p:By)(b:A3 s.length=true)(c:(p.length==1)=true):DJ LF s p a=a (pcs (p.getD 0 0) s).length (D4 (pcs (p.getD 0 0) s)):=by unfold DJ;rw[b,c];rfl
theorem MR{l:List By}{i:Nat}(h:i<l.length):l.getD i []∈l:=by grind
theorem Au0{R:Type}{d:LL->Option R}(s:By)(b:A3 s.length=true):parts LF s d=d (D4 (C7 s)):=by
 have j:=L4 b;have g:=Hp 46 s;have i:=Fy 46 s;unfold parts;rw[b];have e:A1 (((pcs 46 s).length:Int)-1)=(((pcs 46 s).length-1:Nat):Int):=by rw[A7];omega
 simp only[cond_true,vl,x4,show((1:Nat)==1)=true from rfl,F5,e,j4];by_cases c:1<(pcs 46 s).length
 ·rw[A8,E5,Q8 (by omega),V5];have f:(pcs 46 s).getD ((pcs 46 s).length-1) []=(pcs 46 s).getLastD []:=by grind
  rw[f];by_cases a:(pcs 46 s).getLastD []=[]
  ·rw[a,show(([]:By)==[])=true from rfl,H9];have:C7 s=(pcs 46 s).dropLast:=by unfold C7;rw[if_pos ⟨c,a⟩]
   rw[this,ac4,J8,j4];simp[D4]
  ·rw[show((pcs 46 s).getLastD []==[])=false from beq_eq_false_iff_ne.2 a];have:C7 s=pcs 46 s:=by unfold C7;rw[if_neg (λh=>a h.2)]
   grind
 ·rw[A5];have:C7 s=pcs 46 s:=by unfold C7;rw[if_neg (λh=>c h.1)]
  grind
theorem Aa1{R:Type}{d:LL->Option R}(s:By)(b:A3 s.length=true):UL LF s d=d (D4 (C7 s)):=by
 have j:=L4 b;have g:=Hp 46 s;have i:=Fy 46 s;unfold UL;rw[b];have e:A1 (((pcs 46 s).length:Int)-1)=(((pcs 46 s).length-1:Nat):Int):=by rw[A7];omega
 simp only[cond_true,vl,show u8n 46=46 from rfl,F5,e,j4];by_cases c:1<(pcs 46 s).length
 ·rw[A8,E5,Q8 (by omega),V5];have f:(pcs 46 s).getD ((pcs 46 s).length-1) []=(pcs 46 s).getLastD []:=by grind
  rw[f];by_cases a:(pcs 46 s).getLastD []=[]
  ·rw[a,show(([]:By)==[])=true from rfl,H9];have:C7 s=(pcs 46 s).dropLast:=by unfold C7;rw[if_pos ⟨c,a⟩]
   rw[this,ac4,J8,j4];simp[D4]
  ·rw[show((pcs 46 s).getLastD []==[])=false from beq_eq_false_iff_ne.2 a];have:C7 s=pcs 46 s:=by unfold C7;rw[if_neg (λh=>a h.2)]
   grind
 ·rw[A5];have:C7 s=pcs 46 s:=by unfold C7;rw[if_neg (λh=>c h.1)]
  grind
theorem Iv(l:List By)(i:Nat)(h:i<l.length):l.drop i=l.getD i []::l.drop (i+1):=by simp_all
theorem Bo7{R:Type}{g:Unit->Option R}{j:Int->Option R}(l:List By)(B:1<=l.length)(L:l.length<=4)(A:∀x∈l,x.length<=1000000000):∀(r i v n:Nat),i+r=l.length->0<r->r<n->v<256 ^ i->
  Hs LF n (D4 l) (v:Int) (l.length:Int) (i:Int) g j=match Vn (8*(5-l.length)) v (l.drop i) with|some w=>j (w:Int)|none=>g ():=by
 intro r
 induction r with
 | zero=>intro i v n _ h;omega
 | succ r J=>
  intro i v n K _ M H;obtain⟨n,rfl⟩:∃m,n=m+1:=⟨n-1,by omega⟩
  rw[Hs,Iv l i (by omega)];have N:=A _ (MR (show i<l.length by omega));have f:Bv=1099511627776:=rfl;have C:256 ^ i<=16777216:=by
   have:i=0\/i=1\/i=2\/i=3:=by omega
   rcases this with rfl|rfl|rfl|rfl<;>decide
  simp (disch:=omega) only[B5,F5,J6,cond_true,j4,Q8,V5,E1,vl];simp only[Vn];have c:((i:Int)+1)=((i+1:Nat):Int):=by omega
  cases D:Z9 (l.getD i []) with
  | none=>rfl
  | some q=>
   have F:=Be4 D;have p:A1 ((l.length:Int)-1)=((l.length-1:Nat):Int):=by rw[A7];omega
   simp only[s8,j6,cond_false,M3,w6,p];by_cases G:r=0
   ·subst G;have t:l.drop (i+1)=[]:=p5 (by omega);have o:A1 (8*A1 (5-(l.length:Int)))=((8*(5-l.length):Nat):Int):=by
     rw[C5 (n:=5-(l.length:Int)) (by omega) (by omega),A7];omega
    have b:2 ^ (8*(5-l.length))*256 ^ i=4294967296:=by
     have:l.length=1\/l.length=2\/l.length=3\/l.length=4:=by omega
     grind
    have u:1*2 ^ (8*(5-l.length))<=4294967296:=by
     rw[<-b,ac9];exact ac0 _ (ae8 (by omega))
    rw[t,A5,o,decide_eq_true (show(0:Int)<=((8*(5-l.length):Nat):Int) by omega)];simp only[cond_false,cond_true];have k:=Ae2 1 (8*(5-l.length)) (by omega) (by omega);have I:v*2 ^ (8*(5-l.length))<4294967296:=by
     rw[<-b,ah0];exact Nat.mul_lt_mul_of_pos_left H (ae8 (by omega))
    have e:=Ae2 v (8*(5-l.length)) (by omega) (by omega);rw[show((1:Nat):Int)=1 from rfl] at k;rw[k,e,ac9];by_cases a:q<2 ^ (8*(5-l.length))
    ·rw[A8,if_pos a,C21 _ _ (by omega) (by omega),CZ v q _ a];simp only[j6,cond_false];obtain⟨n,rfl⟩:∃m,n=m+1:=⟨n-1,by omega⟩
     rw[Hs];rw[c,A7,A5];rfl
    ·rw[A5,if_neg a];rfl
   ·obtain⟨y,z,d⟩:∃y z,l.drop (i+1)=y::z:=⟨_,_,Iv l (i+1) (by omega)⟩
    rw[d,A8];simp only[cond_true];by_cases a:q<=255
    ·have e:=Ae2 v 8 (by omega) (by omega);rw[show((8:Nat):Int)=8 from rfl] at e;rw[A5,if_pos a,e,C21 _ _ (by omega) (by omega),CZ v q 8 (by omega),c,A7];rw[<-d];exact J (i+1) _ n (by omega) (by omega) (by omega) (by rw[y8];omega)
    ·rw[A8,if_neg a];rfl
theorem Be9(free m:Nat):∀(l:List By) (v w:Nat),v<256 ^ m->Vn free v l=some w->w<256 ^ (m+(l.length-1))*2 ^ free
 | [],v,w,b,h=>by cases h
 | p::r,v,w,b,h=>by
  simp only[Vn] at h;cases a:Z9 p with
  | none=>simp[a] at h
  | some q=>
   simp only[a] at h;cases r with
   | nil=>
    simp only at h;split at h
    ·rename_i c;cases h;simp only[ab7,af1,Nat.add_sub_cancel,Nat.add_zero];have:(v+1)*2 ^ free<=256 ^ m*2 ^ free:=Nat.mul_le_mul_right _ b;grind
    grind
   | cons y z=>
    simp only at h;split at h
    ·rename_i c;have:=Be9 free (m+1) (y::z) (v*256+q) w (by rw[y8];omega) h;grind
    grind
theorem B80{s:By}{w:Nat}(h:pnB s=some w):w<4294967296:=by
 unfold pnB at h;split at h
 ·cases h
 ·rename_i a;have b:=Aj s;have:=Be9 _ 0 (C7 s) 0 w (by decide) h;have e:(C7 s).length=1\/(C7 s).length=2\/(C7 s).length=3\/(C7 s).length=4:=by omega
  grind
theorem Bo8{R:Type}{b:Int->Bool->Option R}(s:By)(a:A3 s.length=true):Cs1 LF s b=b (M3 (pnB s):Int) (pnB s).isSome:=by
 have f:=L4 a;have:=C1;have c:=Aj s;unfold Cs1;rw[a,F5];by_cases h:4<(C7 s).length
 ·rw[A8];unfold pnB;rw[if_pos h];rfl
 ·rw[A5];simp only[cond_true,cond_false];refine j1 (Bo7 (C7 s) c.1 (by omega) (λx g=>ac1 (Li g) f) (C7 s).length 0 0 LF (by omega) (by omega) (by omega) (by decide)) ?_;have e:pnB s=Vn (8*(5-(C7 s).length)) 0 (C7 s):=by unfold pnB;rw[if_neg h]
  rw[w8,<-e];cases d:pnB s with
  | none=>rfl
  | some w=>
   have:=B80 d;simp only[M3,w6,s8];rw[Mj]
theorem A12{R:Type}{k0:Unit->Option R}{k1:Int->Option R}(l:List By)(F:1<=l.length)(L:l.length<=4)(D:∀x∈l,x.length<=1000000000):∀(r i v n:Nat),i+r=l.length->0<r->r<n->v<256 ^ i->
  Dp LF n (D4 l) ((v*2 ^ (32-8*i):Nat):Int) (i:Int) k0 k1=match Vn (8*(5-l.length)) v (l.drop i) with|some w=>k1 (w:Int)|none=>k0 ():=by
 intro r
 induction r with
 | zero=>intro i v n _ h;omega
 | succ r J=>
  intro i v n K _ M N;obtain⟨n,rfl⟩:∃m,n=m+1:=⟨n-1,by omega⟩
  rw[Dp,Iv l i (by omega)];have O:=D _ (MR (show i<l.length by omega));have k:Bv=1099511627776:=rfl;have a:v*2 ^ (32-8*i)<4294967296:=by
   have:i=0\/i=1\/i=2\/i=3:=by omega
   rcases this with rfl|rfl|rfl|rfl
   all_goals omega
  simp (disch:=omega) only[B5,F5,J6,cond_true,j4,Q8,V5,E1,vl];simp only[Vn];have c:((i:Int)+1)=((i+1:Nat):Int):=by omega
  cases G:Z9 (l.getD i []) with
  | none=>rfl
  | some q=>
   have H:=Be4 G;have A:A1 ((l.length:Int)-1)=((l.length-1:Nat):Int):=by rw[A7];omega
   simp only[s8,j6,cond_false,M3,w6,A];by_cases I:r=0
   ·subst I;have B:l.drop (i+1)=[]:=p5 (by omega);have u:A1 (8*A1 (5-(l.length:Int)))=((8*(5-l.length):Nat):Int):=by
     rw[C5 (n:=5-(l.length:Int)) (by omega) (by omega),A7];omega
    have f:2 ^ (8*(5-l.length))*256 ^ i=4294967296:=by
     have:l.length=1\/l.length=2\/l.length=3\/l.length=4:=by omega
     grind
    have C:1*2 ^ (8*(5-l.length))<=4294967296:=by
     rw[<-f,ac9];exact ac0 _ (ae8 (by omega))
    have e:((i:Int)==((l.length-1:Nat):Int))=true:=by rw[beq_iff_eq];omega
    rw[B,e,u,decide_eq_true (show(0:Int)<=((8*(5-l.length):Nat):Int) by omega)];simp only[cond_true];have o:=Ae2 1 (8*(5-l.length)) (by omega) (by omega);rw[show((1:Nat):Int)=1 from rfl] at o;rw[o,ac9];by_cases b:q<2 ^ (8*(5-l.length))
    ·rw[A8,if_pos b];simp only[j6,cond_false];obtain⟨n,rfl⟩:∃m,n=m+1:=⟨n-1,by omega⟩
     rw[Dp];rw[c,C5 (n:=((i+1:Nat):Int)) (by omega) (by omega),F5,A5];have:32-8*i=8*(5-l.length):=by omega
     rw[this] at a ⊢;rw[cond_false,A7];rfl
    ·rw[A5,if_neg b];rfl
   ·obtain⟨y,z,d⟩:∃y z,l.drop (i+1)=y::z:=⟨_,_,Iv l (i+1) (by omega)⟩
    have e:((i:Int)==((l.length-1:Nat):Int))=false:=by rw[beq_eq_false_iff_ne];omega
    rw[d,e];simp only[cond_false];by_cases b:q<=255
    ·have j:A1 (24-A1 (8*(i:Int)))=((24-8*i:Nat):Int):=by
      rw[C5 (n:=8*(i:Int)) (by omega) (by omega),A7];omega
     have g:q*2 ^ (24-8*i)<4294967296:=by
      have:i=0\/i=1\/i=2:=by omega
      clear a;rcases this with rfl|rfl|rfl
      ·show q*16777216<_;omega
      ·show q*65536<_;omega
      ·show q*256<_;omega
     have p:=Ae2 q (24-8*i) (by omega) (by omega);rw[A5,if_pos b,j,decide_eq_true (show(0:Int)<=((24-8*i:Nat):Int) by omega),p,c,C5 (n:=((i+1:Nat):Int)) (by omega) (by omega)];have t:A1 (((v*2 ^ (32-8*i):Nat):Int)+((q*2 ^ (24-8*i):Nat):Int))=(((v*256+q)*2 ^ (32-8*(i+1)):Nat):Int):=by
      rw[A7];have:i=0\/i=1\/i=2:=by omega
      clear a g p j;rcases this with rfl|rfl|rfl
      ·show((v*4294967296:Nat):Int)+((q*16777216:Nat):Int)=(((v*256+q)*16777216:Nat):Int);omega
      ·show((v*16777216:Nat):Int)+((q*65536:Nat):Int)=(((v*256+q)*65536:Nat):Int);omega
      ·show((v*65536:Nat):Int)+((q*256:Nat):Int)=(((v*256+q)*256:Nat):Int);omega
     rw[t,<-d];exact J (i+1) _ n (by omega) (by omega) (by omega) (by rw[y8];omega)
    ·rw[A8,if_neg b];rfl
theorem A13{R:Type}{k0:Int->Bool->Option R}(s:By)(a:A3 s.length=true):Bg0 LF s k0=k0 (M3 (pnB s):Int) (pnB s).isSome:=by
 have f:=L4 a;have:=C1;have c:=Aj s;unfold Bg0;rw[a,F5];by_cases h:4<(C7 s).length
 ·rw[A8];unfold pnB;rw[if_pos h];rfl
 ·rw[A5];simp only[cond_true,cond_false];have b:=A12 (k0:=λ_=>k0 0 false) (k1:=λv=>k0 (AH v) true) (C7 s) c.1 (by omega) (λx g=>ac1 (Li g) f) (C7 s).length 0 0 LF (by omega) (by omega) (by omega) (by decide);rw[Nat.zero_mul] at b;refine j1 b ?_;have e:pnB s=Vn (8*(5-(C7 s).length)) 0 (C7 s):=by unfold pnB;rw[if_neg h]
  rw[w8,<-e];cases d:pnB s with
  | none=>rfl
  | some w=>
   have:=B80 d;simp only[M3,w6,s8];rw[Mj]
theorem Be5:∀(l:List By) (v w m:Nat),v<256 ^ m->IB v l=some w->w<256 ^ (m+l.length)
 | [],v,w,m,b,h=>by simp only[IB,aa3] at h;subst h;simpa using b
 | p::r,v,w,m,b,h=>by
  simp only[IB] at h;cases a:oct p with
  | none=>simp[a] at h
  | some q=>
   simp only[a] at h;have c:=(Vl.1 a).1;have:=Be5 r (v*256+q) w (m+1) (by rw[y8];omega) h;grind
theorem Cq8(s:By):oct s=match E7 10 0 s with|some n=>(if n<=255 then (if j5 n=s then some n else none) else none)|none=>none:=by unfold oct;grind
theorem Cf7{R:Type}{e:Unit->Option R}{f:Int->Option R}(l:List By)(z:l.length=4)(j:∀x∈l,x.length<=1000000000):∀(r i v n:Nat),i+r=4->r<n->v<256 ^ i->
  Tn LF n (v:Int) (D4 l) 4 (i:Int) e f=match IB v (l.drop i) with|some w=>f (w:Int)|none=>e ():=by
 intro r
 induction r with
 | zero=>
  intro i v n h k u;obtain⟨n,rfl⟩:∃m,n=m+1:=⟨n-1,by omega⟩
  rw[Tn];rw[A5,p5 (by omega)];rfl
 | succ r y=>
  intro i v n h k u;obtain⟨n,rfl⟩:∃m,n=m+1:=⟨n-1,by omega⟩
  rw[Tn,Iv l i (by omega)];have A:=j _ (MR (show i<l.length by omega));have o:256 ^ i<=16777216:=by
   have:i=0\/i=1\/i=2\/i=3:=by omega
   grind
  simp (disch:=omega) only[B5,F5,J6,cond_true,j4,Q8,V5,E1,Qu,vl];simp only[IB];have b:((i:Int)+1)=((i+1:Nat):Int):=by omega
  rw[Cq8];cases p:E7 10 0 (l.getD i []) with
  | none=>rfl
  | some q=>
   have t:=GP (by unfold Bv;omega) p;have d:Bv=1099511627776:=rfl;simp only[s8,j6,cond_false,M3,w6,j4];by_cases c:q<=255
   ·rw[A5,if_pos c,L1];simp only[cond_false,cond_true];by_cases a:j5 q=l.getD i []
    ·have g:=De3 v 8 (by omega) (by omega);rw[show((8:Nat):Int)=8 from rfl] at g;rw[show(j5 q==l.getD i [])=true by simpa using a,if_pos a,g,Mj,Dc5 _ _ (by omega) (by omega),CZ v q 8 (by omega),b,A7];exact y (i+1) _ n (by omega) (by omega) (by rw[y8];omega)
    ·rw[show(j5 q==l.getD i [])=false from beq_eq_false_iff_ne.2 a,if_neg a];rfl
   ·rw[A8,if_neg c];rfl
theorem Cf8{R:Type}{b:Int->Bool->Option R}(s:By)(a:A3 s.length=true):v4p LF s b=b (M3 (v4B s):Int) (v4B s).isSome:=by
 have c:=L4 a;have:=C1;unfold v4p v4B;rw[a];simp only[cond_true,vl,x4,F5,show((1:Nat)==1)=true from rfl];by_cases h:(pcs 46 s).length=4
 ·rw[if_pos h,h,show(((4:Nat):Int)!=4)=false from rfl,cond_false];refine j1 (Cf7 (pcs 46 s) h (λx d=>ac1 (Db d).2 c) 4 0 0 LF (by omega) (by omega) (by decide)) ?_;rw[w8];cases IB 0 (pcs 46 s)<;>rfl
 ·rw[if_neg h,show(((pcs 46 s).length:Int)!=4)=true by simp<;>omega];rfl
theorem Bs5{R:Type}{b:Unit->Option R}{c:Int->Option R}(l:List By)(y:l.length=4)(h:∀x∈l,x.length<=1000000000):∀(r i v n:Nat),i+r=4->r<n->v<256 ^ i->
  Lu LF n (D4 l) (v:Int) (i:Int) b c=match IB v (l.drop i) with|some w=>c (w:Int)|none=>b ():=by
 intro r
 induction r with
 | zero=>
  intro i v n g j t;obtain⟨n,rfl⟩:∃m,n=m+1:=⟨n-1,by omega⟩
  rw[Lu];rw[A5,p5 (by omega)];rfl
 | succ r u=>
  intro i v n g j t;obtain⟨n,rfl⟩:∃m,n=m+1:=⟨n-1,by omega⟩
  rw[Lu,Iv l i (by omega)];have z:=h _ (MR (show i<l.length by omega));have k:256 ^ i<=16777216:=by
   have:i=0\/i=1\/i=2\/i=3:=by omega
   grind
  simp (disch:=omega) only[B5,F5,J6,cond_true,j4,Q8,V5,E1,Qu,vl];simp only[IB];have a:((i:Int)+1)=((i+1:Nat):Int):=by omega
  cases o:oct (l.getD i []) with
  | none=>rfl
  | some q=>
   have p:=(Vl.1 o).1;simp only[s8,j6,cond_false,M3,w6];have d:AH ((v:Int)*256)=((v*256:Nat):Int):=by rw[Mj];simp
   have e:AH (q:Int)=(q:Int):=Mj;have f:AH (((v*256:Nat):Int)+(q:Int))=((v*256+q:Nat):Int):=by rw[Mj];simp
   rw[d,e,f,a,A7];exact u (i+1) _ n (by omega) (by omega) (by rw[y8];omega)
theorem Bs6{R:Type}{b:Int->Bool->Option R}(s:By)(a:A3 s.length=true):Cv3 LF s b=b (M3 (v4B s):Int) (v4B s).isSome:=by
 have c:=L4 a;have:=C1;unfold Cv3 v4B;rw[a];simp only[cond_true,vl,show u8n 46=46 from rfl,F5];by_cases h:(pcs 46 s).length=4
 ·rw[if_pos h,h,show(((4:Nat):Int)!=4)=false from rfl,cond_false];refine j1 (Bs5 (pcs 46 s) h (λx d=>ac1 (Db d).2 c) 4 0 0 LF (by omega) (by omega) (by decide)) ?_;rw[w8];cases IB 0 (pcs 46 s)<;>rfl
 ·rw[if_neg h,show(((pcs 46 s).length:Int)!=4)=true by simp<;>omega];rfl
theorem Cf6{R:Type}{j:By->Option R}(v:Int)(o:ltN v 4294967296=true):v4f LF v j=j (Hd v.toNat):=by
 obtain⟨c,p⟩:=E0.1 o;obtain⟨m,rfl⟩:=k9 c;have:=C1;obtain⟨f,q⟩:∃f,LF=f+1+1+1+1+1:=⟨LF-5,by omega⟩
 have step:∀(n:Nat) (i:Nat) (out:By) (K:By->Option R),i<=24->out.length<=1000->He LF (n+1) (m:Int) out (i:Int) K=He LF n (m:Int) (out++(j5 (m / 2 ^ i % 256)++[46])) ((i:Int)-8) K:=by
  intro n i out K y A;rw[He];have g:m / 2 ^ i<4294967296:=ad3 (af3 _ _) (by omega);have k:Al0 .u32 (On .u32 (m:Int) (i:Int)) 255=((m / 2 ^ i % 256:Nat):Int):=by
   rw[Qh .u32 m i (by show i<=32;omega),show(255:Int)=((255:Nat):Int) from rfl,C39 _ _ g (by omega),C38]
  have z:=F4 (m / 2 ^ i % 256) (by omega);have l:A1 ((m / 2 ^ i % 256:Nat):Int)=((m / 2 ^ i % 256:Nat):Int):=A7;rw[A5,decide_eq_true (show(0:Int)<=(i:Int) by omega),k];simp only[vl,l,j4,j7,cond_true];rw[L1,E6 (by omega),E6 (by simp<;>omega),A7];rfl
 have b:∀(n:Nat) (out:By) (K:By->Option R),He LF (n+1) (m:Int) out (-8) K=K out:=by
  intro n out K;rw[He];simp_all
 have x:=F4 (m / 2 ^ 24 % 256) (by omega);have w:=F4 (m / 2 ^ 16 % 256) (by omega);have D:=F4 (m / 2 ^ 8 % 256) (by omega);have C:=F4 (m / 2 ^ 0 % 256) (by omega);have u:=F4 (m / 16777216 % 256) (by omega);have t:=F4 (m / 65536 % 256) (by omega);have B:=F4 (m / 256 % 256) (by omega);have r:=F4 (m % 256) (by omega);unfold v4f;rw[show He LF LF=He LF (f+1+1+1+1+1) by rw[<-q]];rw[show(24:Int)=((24:Nat):Int) from rfl,step _ 24 _ _ (by omega) (by simp)];rw[show((24:Nat):Int)-8=((16:Nat):Int) from rfl,step _ 16 _ _ (by omega) (by simp<;>omega)];rw[show((16:Nat):Int)-8=((8:Nat):Int) from rfl,step _ 8 _ _ (by omega) (by simp<;>omega)];rw[show((8:Nat):Int)-8=((0:Nat):Int) from rfl,step _ 0 _ _ (by omega) (by simp<;>omega)];rw[show((0:Nat):Int)-8=-8 from rfl,b];have h:m / 2 ^ 24 % 256=m / 16777216:=by omega
 have e:(([]:By)++(j5 (m / 2 ^ 24 % 256)++[46])++(j5 (m / 2 ^ 16 % 256)++[46])++(j5 (m / 2 ^ 8 % 256)++[46])++(j5 (m / 2 ^ 0 % 256)++[46]))=Hd m++[46]:=by
  unfold Hd;grind
 have a:(Hd m++[46]).length<=1000:=by rw[<-e];simp;omega
 rw[e];have d:((Hd m++[46]).length:Int)-1=((Hd m).length:Int):=by simp<;>omega
 simp only[vl,d];simp only[y9,x8] at a;rw[A7,Z2 (by omega) (by omega) (by simp<;>omega),J8,j4,j4];grind
theorem Bs4{R:Type}{b:By->Option R}(v:Int)(f:ltN v 4294967296=true):Cv1 LF v b=b (Hd v.toNat):=by
 obtain⟨a,g⟩:=E0.1 f;obtain⟨m,rfl⟩:=k9 a;have i:=F4 (m / 16777216) (by omega);have h:=F4 (m / 65536 % 256) (by omega);have l:=F4 (m / 256 % 256) (by omega);have k:=F4 (m % 256) (by omega);have c:On .u32 (m:Int) 24=((m / 16777216:Nat):Int):=Qh .u32 m 24 (by decide);have d:On .u32 (m:Int) 16=((m / 65536:Nat):Int):=Qh .u32 m 16 (by decide);have e:On .u32 (m:Int) 8=((m / 256:Nat):Int):=Qh .u32 m 8 (by decide);have t:∀x:Nat,x7 (x:Int) 256=((x % 256:Nat):Int):=λx=>Br x 256
 have w:∀x:Nat,x<4294967296->A1 (x:Int)=(x:Int):=λx j=>A7
 unfold Cv1;simp only[vl,c,d,e,t];rw[w _ (by omega),w _ (by omega),w _ (by omega),w _ (by omega)];simp only[j4];rw[L1,L1,L1,L1];simp only[cond_true];rw[E6 (by omega),E6 (by simp<;>omega),E6 (by simp<;>omega),E6 (by simp<;>omega),E6 (by simp<;>omega),E6 (by simp<;>omega)];simp only[cond_true,Hd,j4];grind
theorem UC{R:Type}{g:Unit->Option R}{h:By->Option R}(s:By)(q:s.length<=1000000000):∀(r i n v:Nat),i+r=s.length->r<n->Ak LF n s (i:Int) g h=if (E7 10 v (s.drop i)).isSome then h s else g ():=by
 intro r
 induction r with
 | zero=>
  intro i n v k l;obtain⟨n,rfl⟩:∃m,n=m+1:=⟨n-1,by omega⟩
  rw[Ak];rw[A5,p5 (by omega)];rfl
 | succ r o=>
  intro i n v k l;obtain⟨n,rfl⟩:∃m,n=m+1:=⟨n-1,by omega⟩
  rw[Ak,D2 s i (by omega)];rw[C9];have j:=(s.getD i 0).toNat_lt;generalize s.getD i 0=b at *;have f:((i:Int)+1)=((i+1:Nat):Int):=by omega
  simp (disch:=omega) only[B5,J6,cond_true,C5];simp only[E7];rw[f,o (i+1) n (min (v*10+dig b) Bv) (by omega) (by omega)];rcases Cg b with⟨a,d,e⟩|⟨a,d,e⟩|⟨a,d,e⟩|⟨a,d,p,e⟩
  ·simp only[if_pos (show dig b<10 by omega)];rw[A5,A5];rfl
  ·simp only[if_neg (show ¬dig b<10 by omega)];rw[A5,A8];rfl
  ·simp only[if_neg (show ¬dig b<10 by omega)];rw[A5,A8];rfl
  ·simp only[if_neg (show ¬dig b<10 by omega)];by_cases c:b.toNat<48
   ·rw[A8];rfl
   ·rw[A5,A8];rfl
theorem UD{R:Type}{a:Bool->Option R}(s:By)(b:A3 s.length=true):DB LF s a=a (!s.isEmpty&&(E7 10 0 s).isSome):=by
 have c:=L4 b;have:=C1;unfold DB;refine j1 (UC s c s.length 0 LF 0 (by omega) (by omega)) ?_;rw[w8];cases d:E7 10 0 s with
 | none=>simp
 | some v=>cases s<;>rfl
theorem Bp8{R:Type}{g:Int->Option R}(b:Int)(h:inR b 256=true):B85 LF b g=g (dig (u8n b):Int):=by
 simp only[inR,x5,decide_eq_true_eq] at h;have j:b=((u8n b).toNat:Int):=by
  unfold u8n;simp;omega
 generalize u8n b=c at *;subst j;have i:=c.toNat_lt;unfold B85;simp only[Vt,Vr,vl];rcases Cg c with⟨d,f,e⟩|⟨d,f,e⟩|⟨d,f,e⟩|⟨d,f,o,e⟩
 ·have a:A1 (wu8 ((c.toNat:Int)-48))=((dig c:Nat):Int):=by
   rw[L6,A7];omega
  simp (disch:=omega) only[B5,E3,j6,j7,cond_false,cond_true,a]
 ·have a:A1 (A1 (wu8 ((c.toNat:Int)-97))+10)=((dig c:Nat):Int):=by
   rw[L6,C5 (n:=(c.toNat:Int)-97) (by omega) (by omega),A7];omega
  simp (disch:=omega) only[B5,E3,j6,j7,cond_false,cond_true,a]
 ·have a:A1 (A1 (wu8 ((c.toNat:Int)-65))+10)=((dig c:Nat):Int):=by
   rw[L6,C5 (n:=(c.toNat:Int)-65) (by omega) (by omega),A7];omega
  simp (disch:=omega) only[B5,E3,j6,j7,cond_false,cond_true,a]
 ·rw[e];by_cases k:c.toNat<48
  ·simp (disch:=omega) only[B5,E3,j6,j7,cond_false,cond_true];rfl
  ·by_cases l:c.toNat<65
   ·simp (disch:=omega) only[B5,E3,j6,j7,cond_false,cond_true];rfl
   ·by_cases m:c.toNat<97
    ·simp (disch:=omega) only[B5,E3,j6,j7,cond_false,cond_true];rfl
    ·simp (disch:=omega) only[B5,E3,j6,j7,cond_false,cond_true];rfl
theorem ZZ{R:Type}{g:Unit->Option R}{h:Int->Option R}(s:By)(p:s.length<=1000000000):∀(r i a n:Nat),i+r=s.length->r<n->a<=Bv->
  Hu LF n s (a:Int) (i:Int) g h=match E7 16 a (s.drop i) with|some v=>h (v:Int)|none=>g ():=by
 intro r
 induction r with
 | zero=>
  intro i a n k l j;obtain⟨n,rfl⟩:∃m,n=m+1:=⟨n-1,by omega⟩
  rw[Hu];rw[A5,p5 (by omega)];rfl
 | succ r o=>
  intro i a n k l j;obtain⟨n,rfl⟩:∃m,n=m+1:=⟨n-1,by omega⟩
  rw[Hu,D2 s i (by omega)];rw[C9,Ib,VK];generalize s.getD i 0=b at *;have c:((i:Int)+1)=((i+1:Nat):Int):=by omega
  have f:Bv=1099511627776:=rfl;simp (disch:=omega) only[B5,J6,cond_true,vl,C5];simp only[E7];rw[c];by_cases e:dig b<16
  ·have d:A1 (A1 ((a:Int)*16)+(dig b:Int))=((a*16+dig b:Nat):Int):=by
    rw[C5 (n:=(a:Int)*16) (by omega) (by omega),A7];simp
   rw[if_pos e,A8];simp (disch:=omega) only[C5,j6,cond_false] at d ⊢;rw[d,Cc8];exact o (i+1) _ n (by omega) (by omega) (by omega)
  ·rw[if_neg e,A5];rfl
theorem A03{R:Type}{f:Unit->Option R}{g:Int->Option R}(s:By)(t:s.length<=1000000000)(base:Nat)(q:base<=16):∀(r i a n:Nat),i+r=s.length->r<n->a<=Bv->
  Eu LF n s (base:Int) (a:Int) (i:Int) f g=match E7 base a (s.drop i) with|some v=>g (v:Int)|none=>f ():=by
 intro r
 induction r with
 | zero=>
  intro i a n k l j;obtain⟨n,rfl⟩:∃m,n=m+1:=⟨n-1,by omega⟩
  rw[Eu];rw[A5,p5 (by omega)];rfl
 | succ r o=>
  intro i a n k l j;obtain⟨n,rfl⟩:∃m,n=m+1:=⟨n-1,by omega⟩
  rw[Eu,D2 s i (by omega)];rw[C9,Ib,VK];generalize s.getD i 0=b at *;have c:((i:Int)+1)=((i+1:Nat):Int):=by omega
  have e:Bv=1099511627776:=rfl;simp only[E7,vl];rw[A8,E5,c,C5 (n:=((i+1:Nat):Int)) (by omega) (by omega)];simp only[cond_true];by_cases d:dig b<base
  ·have p:a*base<=1099511627776*16:=af5 (by omega) (by omega);have e0:A1 ((a:Int)*(base:Int))=((a*base:Nat):Int):=by
    rw[<-ae9];exact A7
   have h:A1 (((a*base:Nat):Int)+(dig b:Int))=((a*base+dig b:Nat):Int):=by
    rw[A7];rfl
   rw[if_pos d,A8,e0,h,Cc8];exact o (i+1) _ n (by omega) (by omega) (by omega)
  ·rw[if_neg d,A5];rfl
theorem Br0{R:Type}{a:Int->Bool->Option R}(s:By)(p:A3 s.length=true):Ca6 LF s a=a (M3 (Z9 s):Int) (Z9 s).isSome:=by
 have u:=L4 p;have:=C1;have o:∀x:By,x.length<=1000000000->Hu LF LF x 0 0 (λ_=>a 0 false) (λn=>a n true)=a (M3 (E7 16 0 x):Int) (E7 16 0 x).isSome:=by
  intro x f;refine j1 (ZZ x f x.length 0 0 LF (by omega) (by omega) (by unfold Bv;omega)) ?_;rw[w8];cases E7 16 0 x<;>rfl
 have c:∀(x:By) (b:Nat),b<=16->x.length<=1000000000->Eu LF LF x (b:Int) 0 0 (λ_=>a 0 false) (λn=>a n true)=a (M3 (E7 b 0 x):Int) (E7 b 0 x).isSome:=by
  intro x b q f;refine j1 (A03 x f b q x.length 0 0 LF (by omega) (by omega) (by unfold Bv;omega)) ?_;rw[w8];cases E7 b 0 x<;>rfl
 have d:=λx=>c x 10 (by omega)
 have g:=λx=>c x 8 (by omega)
 have i:=λx=>c x 16 (by omega)
 rw[show((10:Nat):Int)=10 from rfl] at d;rw[show((8:Nat):Int)=8 from rfl] at g;rw[show((16:Nat):Int)=16 from rfl] at i;unfold Ca6 Z9;by_cases e:s=[]
 ·subst e;rfl
 have j:(s==([]:By))=false:=by simpa using e
 have t:0<s.length:=ab0.2 e;rw[if_neg e,j];simp only[cond_false,DG,DH,Qb,Qc,Qd,vl];have k:=P8 (s.getD 0 0) 48 (by omega);have l:=P8 (s.getD 1 0) 120 (by omega);have m:=P8 (s.getD 1 0) 88 (by omega);rw[show((48:Nat):Int)=48 from rfl] at k;rw[show((120:Nat):Int)=120 from rfl] at l;rw[show((88:Nat):Int)=88 from rfl] at m;simp only[Z5,Ba8,k,l,m,show j9 48=(48:UInt8) from rfl,show j9 120=(120:UInt8) from rfl,show j9 88=(88:UInt8) from rfl];by_cases r:2<=s.length
 ·simp (disch:=omega) only[E3,J6,Z2,j7,cond_true,P9,show 1<s.length by omega,true_and];unfold Bi;grind
 ·rw[A8];have f:Bi s=false:=by
   cases h:Bi s with
   | false=>rfl
   | true=>have:=Ps h;omega
  grind
end
end Go.Proofs.YtcfingekgbbclaaGreatDoor.E
