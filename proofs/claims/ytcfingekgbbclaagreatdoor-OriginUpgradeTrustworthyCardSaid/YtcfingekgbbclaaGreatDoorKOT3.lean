/-
  Parts of the proof, merged by a program of the prover's own; no condition.
-/
import Derived.Test.YtcfingekgbbclaaGreatDoorKOT2
import Derived.Deep.Draws
import Derived.KernelRfl
import Derived.Laws.RangeString
import Derived.Lib.IndexMore
import Derived.Lib.ItoaNum
import Derived.Lib.Join
import Derived.Lib.LaidTab
import Derived.Lib.LaidU8
import Derived.Lib.LastIndexLaws
import Derived.Lib.RuneCount
import Derived.Lib.TrailingZeros
import Derived.Lib.ValidU
import Derived.Sort.Grow
import Derived.Test.YtcfingekgbbclaaGreatDoorProg
open List renaming length->a8,getD->b8,flatten->c9,replicate->j0,isEmpty->j8,drop_of_length_le->j9,getD_eq_getElem?_getD->k9,isPrefixOf->s7,drop_zero->v7,getElem?_eq_getElem->v8,map->w6,getD_cons_zero->w9,all->x7,length_singleton->x9,isPrefixOf_iff_prefix->y5,take->y8,length_pos_iff->y9,length_append->aa0,take_of_length_le->aa3,drop_append_of_le_length->aa5,set->aa6,isSuffixOf->aa8,length_map->aa9,count_eq_zero->ab3,mem_cons->ab7,cons_append->ab8,getElem_mem->ab9,length_cons->ac0,prefix_iff_eq_take->ac1,suffix_iff_eq_drop->ac2,dropLast_eq_take->ac6,getElem?_eq_none->ac7,mem_of_mem_drop->ad1,drop->ad3,getD_cons_succ->ad4,count_cons->af2,length_nil->af3,map_append->af4
open Int renaming toNat->b9,toNat_natCast->j6,eq_ofNat_of_zero_le->p9,tdiv->ab2,natCast_mul->af1,tmod->ah4
open Eq renaming trans->j1
open Bool renaming not_false->j2,not_true->j4,and_eq_true->x6,false_eq_true->z7,eq_iff_iff->ac4,and_true->af9
open Option renaming isSome->j5,isSome_some->p6,getD_some->s9,map_some->ac5,isSome_none->ad7
open Go.Lib renaming decDigits->j7,cut->x5,index->y7,decDigits_one->ab4,decodeL->ac9,join->ad0,occAt->ad9,index_spec->af6
open Option.some renaming injEq->p4
open UInt8 renaming ofNat->p5,le_iff_toNat_le->aa4,toNat->ai3
open Go.IntKind renaming wrap->p7,bits->w8,signed->aa2
open Nat renaming mod_eq_of_lt->s8,ble->x3,pow_succ->x4,le_refl->aa7,min_eq_left->ab0,le_trans->ab1,beq->ab5,or_lt_two_pow->ab6,le_mul_of_pos_right->ac3,one_mul->ad2,lt_of_le_of_lt->ad5,lt_of_lt_of_le->ad6,pow_pos->af0,div_le_self->af5,mul_le_mul->af7,add_comm->ag9,blt->ah0,mul_comm->ah1,zero_add->ah2
open BitVec renaming ofInt->x8,ofInt_natCast->ac8
open Go.Fn renaming func->aa1
open Go.Proofs.Tryz renaming f84->ad8,f114->ae0,f118->ae1,f124->ae2,f135->ae3,f146->ae4,f147->ae5,f152->ae6,f170->ae7,f179->ae8,f189->ae9,f64->af8,f108->ag1,f113->ag2,f117->ag3,f138->ag4,f145->ag5,f164->ag6,f173->ag7,f180->ag8,f17->ah6,f56->ah7,f67->ah8,f87->ah9,f88->ai0,f95->ai1,f96->ai2
open Prod.mk renaming injEq->ag0
open BEq renaming comm->ah3
open Go.Fence renaming wide->ai4
namespace Go.Proofs.YtcfingekgbbclaaGreatDoor.E
set_option linter.all false
section
open Go
section
variable {Z R : Type} {C : Cfg} {L : G0} {Q : Yh Z} {c a b : Code} {Y : St Z} {k : Out -> St Z -> Option R} {id : Nat}
theorem A0{b:Bool}{x y d e:Option R}(f:x=d)(g:y=e):cond b x y=cond b d e:=by rw[f,g]
end
def Cd7{α:Type}(z:α)(f:Nat->α->α):Nat->α
 | 0=>z
 | n+1=>f n (Cd7 z f n)
def A3{b:Type}:List (Nat × b)->Nat->Option b
 | [],_=>none
 | (a,l)::r,n=>cond (ab5 n a) (some l) (A3 r n)
def bds(n:Nat):List PV:=j0 n .bad
def tps(n:Nat):List PV:=j0 n (.tup [])
def gp:List (Nat × PV)->Nat->List PV
 | [],n=>bds n
 | (m,v)::r,n=>bds m++v::gp r n
abbrev LL:=List (List SV)
abbrev By:=List UInt8
def A1(n:Int):Int:=p7 .i64 n
def De7(n:Int):Int:=p7 .u64 n
def BD(n:Int):Int:=p7 .u32 n
def Mt(n:Int):Int:=p7 .u16 n
def wu8(n:Int):Int:=p7 .u8 n
def Ap0(k:IntKind)(a b:Int):Int:=k.wrap (x8 k.bits a &&& x8 k.bits b).toNat
def bOr(k:IntKind)(a b:Int):Int:=k.wrap (x8 k.bits a ||| x8 k.bits b).toNat
def Qv(k:IntKind)(a b:Int):Int:=k.wrap (a*2 ^ min b.toNat k.bits)
def KB(k:IntKind)(a b:Int):Int:=a.fdiv (2 ^ min b.toNat k.bits)
def inR(n:Int)(m:Nat):Bool:=decide (0<=n)&&decide (n<m)
def Kp:TI:=⟨true,false,[.int .i64]⟩
def Qx:TI:=⟨true,false,[.str]⟩
def okE(t:TI)(l:LL)(i o:Nat):Bool:=decide (i<l.length)&&okS t (l.getD i []) o
def gC(l:LL)(i j:Nat):SV:=(l.getD i []).getD j .nilp
def gE(l:LL)(i j:Nat):Int:=(gC l i j).gI
def gX(l:LL)(i j:Nat):By:=(gC l i j).gS
def bAt(s:By)(n:Int):Int:=((s.getD n.toNat 0).toNat:Int)
def I7(l h:Int)(n:Nat):Bool:=decide (0<=l)&&decide (l<=h)&&decide (h<=n)
def cut{a:Type}(s:List a)(l h:Int):List a:=(s.take h.toNat).drop l.toNat
def Dm2:Code->Bool | .rangeFunc _ _ _ _=>true|_=>false
def rgX:Code->Operand | .rangeFunc x _ _ _=>x|_=>.tmp 0
def rgP:Code->Array Tmp | .rangeFunc _ p _ _=>p|_=>#[]
theorem TM:∀(p:List Nat),cd p .skip = .skip
 | []=>rfl
 | 0::_=>rfl
 | 1::_=>rfl
 | (_+2)::_=>rfl
theorem Gk:∀(p q:List Nat) (c:Code),cd (p++q) c=cd q (cd p c)
 | [],q,c=>rfl
 | i::p,q,c=>by
  rw[ab8]
  match i,c with
  | 0,.seq a b=>exact Gk p q a
  | 1,.seq a b=>exact Gk p q b
  | 0,.cond _ a b=>exact Gk p q a
  | 1,.cond _ a b=>exact Gk p q b
  | 0,.block _ a=>exact Gk p q a
  | 0,.loop a=>exact Gk p q a
  | 0,.scope a=>exact Gk p q a
  | 0,.rangeFunc _ _ a b=>exact Gk p q a
  | 1,.rangeFunc _ _ a b=>exact Gk p q b
  | 0,.skip|0,.region _ _ _|0,.exit _|0,.label _|0,.goto _|0,.ret|0,.refuse _=>exact(TM q).symm
  | 1,.skip|1,.region _ _ _|1,.exit _|1,.scope _|1,.label _|1,.goto _|1,.ret|1,.refuse _|1,.block _ _|1,.loop _=>exact(TM q).symm
  | _+2,.skip|_+2,.region _ _ _|_+2,.exit _|_+2,.scope _|_+2,.label _|_+2,.goto _|_+2,.ret|_+2,.refuse _|_+2,.block _ _|_+2,.loop _|_+2,.seq _ _|_+2,.cond _ _ _|_+2,.rangeFunc _ _ _ _=>exact(TM q).symm
section
variable {Z R : Type} {C : Cfg} {L : G0} {Y : Yh Z} {B : Code} {Q : St Z} {k : Out -> St Z -> Option R}
theorem Di8(p:List Nat)(h:Dm2 (cd p B)=true):A9 C L Y (cd p B) Q k=Sz C L (opnd C Q.sl (rgX (cd p B))) Q (λa=>Jf (rgP (cd p B)) a (bd C L Y (cd (p++[0]) B)) (bd C L Y (cd (p++[1]) B))) (λa=>Aq (rgP (cd p B)) a (bd C L Y (cd (p++[0]) B)) (bd C L Y (cd (p++[1]) B))) k:=by rw[Gk,Gk];cases b:cd p B<;>rw[b] at h<;>first|rfl|cases h
theorem Ax3{c:Bool}{x y:Option R}(h:x=y):need c x=cond c y none:=by rw[h];rfl
end
abbrev pS(l:List UInt8):PV:=.s (.str l)
abbrev pB(b:Bool):PV:=.s (.bool b)
abbrev pI(n:Int):PV:=.s (.int .i64 n)
abbrev p8(n:Int):PV:=.s (.int .u8 n)
abbrev p16(n:Int):PV:=.s (.int .u16 n)
abbrev p32(n:Int):PV:=.s (.int .u32 n)
abbrev p64(n:Int):PV:=.s (.int .u64 n)
abbrev vl{a b:Type}(e:a)(f:a->b):b:=f e
theorem A4{a R:Type}{e:a}{f g:a->Option R}(h:∀x,f x=g x):vl e f=vl e g:=h e
def J6(m n:Nat):Bool:=decide (m+n<4611686018427387904)
theorem fx1{A R:Type}{f g:A->R}(b:∀a,f a=g a):f=g:=funext b
theorem fx2{A B R:Type}{f g:A->B->R}(c:∀a b,f a b=g a b):f=g:=funext λa=>fx1 (c a)
theorem fx3{A B C R:Type}{f g:A->B->C->R}(d:∀a b c,f a b c=g a b c):f=g:=funext λa=>fx2 (d a)
theorem fx4{A B C D R:Type}{f g:A->B->C->D->R}(e:∀a b c d,f a b c d=g a b c d):f=g:=funext λa=>fx3 (e a)
theorem fx5{A B C D E R:Type}{f g:A->B->C->D->E->R}(h:∀a b c d e,f a b c d e=g a b c d e):f=g:=funext λa=>fx4 (h a)
theorem fx6{A B C D E H R:Type}{f g:A->B->C->D->E->H->R}(i:∀a b c d e h,f a b c d e h=g a b c d e h):f=g:=funext λa=>fx5 (i a)
theorem fx7{A B C D E H I R:Type}{f g:A->B->C->D->E->H->I->R}(j:∀a b c d e h i,f a b c d e h i=g a b c d e h i):f=g:=funext λa=>fx6 (j a)
theorem fx8{A B C D E H I J R:Type}{f g:A->B->C->D->E->H->I->J->R}(k:∀a b c d e h i j,f a b c d e h i j=g a b c d e h i j):f=g:=funext λa=>fx7 (k a)
theorem fx9{A B C D E H I J K R:Type}{f g:A->B->C->D->E->H->I->J->K->R}(l:∀a b c d e h i j k,f a b c d e h i j k=g a b c d e h i j k):f=g:=funext λa=>fx8 (l a)
theorem Cr2{A B C D E H I J K L R:Type}{f g:A->B->C->D->E->H->I->J->K->L->R}(m:∀a b c d e h i j k l,f a b c d e h i j k l=g a b c d e h i j k l):f=g:=funext λa=>fx9 (m a)
def Dk0{α a:Type}(z:α)(f:a->List a->α->α):List a->α
 | []=>z
 | x::xs=>f x xs (Dk0 z f xs)
def Qt(n:Nat):PV->PV
 | .s (.sl z t k a)=>if n=0 then .s (.sl z t k a) else if k=n then .s (.sl z t k a) else .s (.sl z t (cond z n k) a)
 | v=>v
def Og:List Nat->List PV->List PV
 | n::r,v::l=>Qt n v::Og r l
 | _,l=>l
def Da0(a:List Nat):PV->PV
 | .agg l=>.agg (Og a l)
 | v=>Qt (a.headD 0) v
def C5:List (List Nat)->List PV->List PV
 | s::r,v::l=>Da0 s v::C5 r l
 | _,l=>l
section
variable {L : Ctx} {sh : Nat -> Option Shp} {w : World}
theorem DO{n:Nat}{v:PV}{V:Value}(h:VP L sh w v V):VP L sh w (Qt n v) V:=by
 unfold Qt;split
 ·rename_i z t k a;split
  ·exact h
  ·split
   ·exact h
   ·cases z with
    | false=>exact h
    | true=>
     have b:=h.inv_s;cases b with
     | nil=>exact .s _ _ (.nil _ _)
 ·exact h
theorem Uz:∀(a:List Nat) (l:List PV),(Og a l).length=l.length
 | [],_=>rfl
 | _::_,[]=>rfl
 | n::r,v::l=>by simp[Og,Uz r l]
theorem HS:∀(a:List Nat) (l:List PV) (j:Nat) (h:j<l.length) (b:j<(Og a l).length),∃n,(Og a l)[j]=Qt n l[j]
 | [],l,j,h,b=>⟨0,by
  have e:Og [] l=l:=by cases l<;>rfl
  simp only[e];unfold Qt;split
  ·rename_i c;rw[c];simp
  ·rfl⟩
 | n::r,v::l,0,h,b=>⟨n,rfl⟩
 | n::r,v::l,j+1,h,b=>by
  obtain⟨m,e⟩:=HS r l j (by simpa using h) (by simpa[Og] using b);exact⟨m,by simpa[Og] using e⟩
theorem Cq8{b:List Nat}{v:PV}{V:Value}(h:VP L sh w v V):VP L sh w (Da0 b v) V:=by
 unfold Da0;split
 ·rename_i l;obtain⟨A,rfl,hA,f⟩:=h.inv_agg;refine VP.mk_agg (by rw[Uz];exact hA) λj c=>?_
  have a:j<l.length:=by rw[Uz] at c;exact c
  obtain⟨U,e,k⟩:=f j a;obtain⟨m,d⟩:=HS b l j a c;exact⟨U,e,by rw[d];exact DO k⟩
 ·exact DO h
theorem ZB:∀(a:List (List Nat)) (l:List PV),(C5 a l).length=l.length
 | [],_=>rfl
 | _::_,[]=>rfl
 | n::r,v::l=>by simp[C5,ZB r l]
theorem Cq9:∀(a:List (List Nat)) (l:List PV) (V:Array Value),CR L sh w l V->CR L sh w (C5 a l) V:=by
 intro a l V h;refine⟨by rw[ZB];exact h.1,?_⟩;have key:∀(a:List (List Nat)) (l:List PV) (b:Nat->Option Value),(∀j (h:j<l.length),∃U,b j=some U/\VP L sh w (l[j]) U)->∀j (h:j<(C5 a l).length),∃U,b j=some U/\VP L sh w ((C5 a l)[j]) U:=by
  intro a
  induction a with
  | nil=>intro l b d j c;exact d j (by cases l<;>exact c)
  | cons s r f=>
   intro l b d j c;cases l with
   | nil=>simp[C5] at c
   | cons v l=>
    cases j with
    | zero=>
     obtain⟨U,e,k⟩:=d 0 (by simp);exact⟨U,e,Cq8 k⟩
    | succ j=>
     have:=f l (λj=>b (j+1)) (λj h=>d (j+1) (by simpa using h)) j (by simpa[C5] using c);simpa[C5] using this
 exact key a l (λj=>V[j]?) h.2
end
theorem B0.fix{P:Program}{G:GT}{g:Nat}{pf:List PV->Tr}(szs:List (List Nat))(h:B0 P G g pf):B0 P G g (λargs=>pf (C5 szs args)):=
 λargs ret Hc hpf C hP hGe Γ w Vs hnm hH hG hc=>h (C5 szs args) ret Hc hpf C hP hGe Γ w Vs hnm hH hG (Cq9 szs args Vs hc)
theorem I9{v:PV}{H:List Blk}{ret:PV}{a:List Blk}(h:L6 (.ret v H)=some (ret,a)):ret=v/\a=H:=by simp only[L6,Hg,p4,ag0] at h;grind
theorem C1{c:Bool}{t:Tr}{ret:PV}{a:List Blk}(h:L6 (.need c t)=some (ret,a)):c=true/\L6 t=some (ret,a):=by
 cases c with
 | true=>exact⟨rfl,h⟩
 | false=>cases h
theorem Ci5{c:Bool}{a b:Tr}{ret:PV}{d:List Blk}(h:L6 (.split c a b)=some (ret,d)):(c=true/\L6 a=some (ret,d))\/(c=false/\L6 b=some (ret,d)):=by
 cases c with
 | true=>exact .inl ⟨rfl,h⟩
 | false=>exact .inr ⟨rfl,h⟩
theorem C60:∃n:Nat,100000000000000000000<=n:=⟨_,aa7 _⟩
noncomputable def LF:Nat:=Classical.choose C60
theorem C6:100000000000000000000<=LF:=Classical.choose_spec C60
attribute [irreducible] LF
theorem Bn7(b:UInt8):Lh (D8 b)=b:=by simp[Lh,D8,SV.gI]
theorem X6(l:List UInt8):(l.map D8).map Lh=l:=by
 rw[List.map_map];have:Lh ∘ D8=id:=by funext b;exact Bn7 b
 rw[this,List.map_id]
theorem Bp7(b:UInt8):Nj (D8 b)=true:=by have:=b.toNat_lt;simp only[Nj,D8,x6,decide_eq_true_eq];omega
theorem W8(l:List UInt8):(l.map D8).all Nj=true:=by rw[List.all_map];simp[Function.comp_def,Bp7]
theorem De6(n:Nat):p7 .u8 (n:Int)=((n % 256:Nat):Int):=by simp[p7,w8,aa2]
theorem Bl3(n:Nat):p7 .u16 (n:Int)=((n % 65536:Nat):Int):=by simp[p7,w8,aa2]
theorem C27(n:Nat):p7 .u32 (n:Int)=((n % 4294967296:Nat):Int):=by simp[p7,w8,aa2]
theorem C28(n:Nat):p7 .u64 (n:Int)=((n % 18446744073709551616:Nat):Int):=by simp[p7,w8,aa2]
theorem C26(n:Int)(a:-9223372036854775808<=n)(b:n<9223372036854775808):p7 .i64 n=n:=by simp[p7,w8,aa2];split<;>omega
theorem B76(n m:Nat):Int.fdiv (n:Int) (m:Int)=((n / m:Nat):Int):=by rw[Int.fdiv_eq_ediv_of_nonneg _ (by omega)];rfl
theorem M9(n m:Nat):ab2 (n:Int) (m:Int)=((n / m:Nat):Int):=by rw[Int.tdiv_eq_ediv_of_nonneg (by omega)];rfl
theorem Hq(n m:Nat):ah4 (n:Int) (m:Int)=((n % m:Nat):Int):=by rw[Int.tmod_eq_emod_of_nonneg (by omega)];rfl
theorem C92(w a b:Nat)(c:a<2 ^ w)(d:b<2 ^ w):(x8 w (a:Int) ||| x8 w (b:Int)).toNat=a ||| b:=by simp[ac8,s8 c,s8 d]
theorem C72(w a b:Nat)(c:a<2 ^ w)(d:b<2 ^ w):(x8 w (a:Int) &&& x8 w (b:Int)).toNat=a &&& b:=by simp[ac8,s8 c,s8 d]
theorem Db7(a b i:Nat)(h:a<2 ^ i):a ||| (b*2 ^ i)=a+b*2 ^ i:=by rw[ah1 b,Nat.or_comm,ag9];exact(Nat.two_pow_add_eq_or_of_lt h b).symm
theorem A98(n:Nat):D8 (p5 n)=[SV.int .u8 ((n % 256:Nat):Int)]:=by simp[D8]
end
section
open Go Go.ChangeShapes Go.RowKit Go.Sort Go.WideShapes
theorem Rh{P:Program}{f:Nat}{fn:Func}{d:Array Value}{w:World}{R:Value->World->Prop}(m:P.funcs[f]? = some fn)(j:fn.body.isSome=true)(p:(fn.name == "runtime.NumGoroutine")=false)
  (h:Calls P f d w λe w'=>∃V,e = .returned V/\R V w'):T2 P ((callFunc f d).run P w) R:=by
 obtain⟨c,j⟩:=Option.isSome_iff_exists.1 j;intro q n o a next Q b
 have g:(callFunc f d).run P w = .ok (.enter f d) w:=by
  have k:¬ fn.name = "runtime.NumGoroutine":=by simpa using p
  simp[callFunc,m,j,k,Result.andThen]
 rw[g];simp only[Oper.uponIn_enter];refine⟨λh=>(by simp[H3,ai4] at h),?_⟩;have key:CallsIn ai4 (n-1) P f d w λe w'=>∃V,e = .returned V/\R V w':=callsIn_wide.2 h
 have i:CallsIn (H3 q) (n-1) P f d w λe w'=>∃V,e = .returned V/\R V w':=key
 refine i.mono ?_;rintro e w' ⟨V,rfl,l⟩;exact b V w' l
theorem B65{C:Cfg}{d:Ctx}{w w':World}{ret:PV}{V:Value}(a:∀b,d.nm b=none)(f:HR d [] w)(c:Below w.heap.size w w')(j:VP d (A5 []) w' ret V)(i:ret.nms=[]):Dw C I0 d [] w noΦ ret [] () V w':=by
 refine⟨d,noΦ,⟨c.os,c.tape,c.output,c.size,λ_ h=>h,λ_ h=>.inl h,λb g h=>(by rw[a] at h;cases h),λ_ h=>h.elim,λg e _ _=>c.block g e,rfl,aa7 _,λb h=>(by simp at h)⟩,
  ⟨λb k g h=>(by rw[a] at h;cases h),λb g h=>(by rw[a] at h;cases h),λg e=>ad6 (f.stlt g e) c.size,λb h=>(by simp at h),λb h=>(by simp at h)⟩,j,by rw[i];simp,λ_ h=>h,λb g h=>(by rw[a] at h;cases h)⟩
theorem Oa(w:World)(n:Nat):Below w.heap.size w (w.drewN n):=⟨rfl,rfl,rfl,aa7 _,λ_ _=>rfl⟩
theorem GP(w:World)(os:Array Obj):Below w.heap.size w (grow w os):=by refine⟨rfl,rfl,rfl,by simp[grow],λk a=>?_⟩;simp only[grow];grind
theorem Ap2(w:World)(s:ByteArray)(pos:Nat):Below w.heap.size w (w.iter s pos):=(Below.refl _ w).alloc (aa7 _) _
section
variable {Γ : Ctx} {sh : Nat -> Option Shp} {w : World}
theorem CR.arr1{a:PV}{A:Array Value}(h:CR Γ sh w [a] A):∃U,A = #[U]/\VP Γ sh w a U:=by obtain⟨U,e,k⟩:=h.2 0 (by simp);refine⟨U,?_,k⟩;have hs:A.size=1:=h.1;grind
theorem CR.arr2{a b:PV}{A:Array Value}(h:CR Γ sh w [a,b] A):∃U V,A = #[U,V]/\VP Γ sh w a U/\VP Γ sh w b V:=by obtain⟨U,e,k⟩:=h.2 0 (by simp);obtain⟨V,e',k'⟩:=h.2 1 (by simp);refine⟨U,V,?_,k,k'⟩;have hs:A.size=2:=h.1;grind
theorem CR.arr3{a b c:PV}{A:Array Value}(h:CR Γ sh w [a,b,c] A):∃U V W,A = #[U,V,W]/\VP Γ sh w a U/\VP Γ sh w b V/\VP Γ sh w c W:=by obtain⟨U,e,k⟩:=h.2 0 (by simp);obtain⟨V,e',k'⟩:=h.2 1 (by simp);obtain⟨W,e'',k''⟩:=h.2 2 (by simp);refine⟨U,V,W,?_,k,k',k''⟩;have hs:A.size=3:=h.1;grind
theorem VP.mk_str(l:List UInt8):VP Γ sh w (.s (.str l)) (.string ⟨l.toArray⟩):=by have:=VP.s (Γ:=Γ) (sh:=sh) (w:=w) _ _ (VS.str (St:=Γ.St) (w:=w) ⟨l.toArray⟩);omega
theorem VP.mk_int(k:IntKind)(n:Int):VP Γ sh w (.s (.int k n)) (.int k n):=.s _ _ (.int k n)
theorem VP.mk_bool(b:Bool):VP Γ sh w (.s (.bool b)) (.bool b):=.s _ _ (.bool b)
theorem VP.mk_tup3{a b c:PV}{U V W:Value}(h:VP Γ sh w a U)(k:VP Γ sh w b V)(l:VP Γ sh w c W):VP Γ sh w (.tup [a,b,c]) (.tuple #[U,V,W]):=
 VP.mk_tup rfl λj hj=>by grind
end
theorem I3{P:Program}{G:GT}{g:Nat}{fn:Func}{k:List PV->Tr}(q:P.funcs[g]? = some fn)(d:fn.body.isSome=true)(t:(fn.name == "runtime.NumGoroutine")=false)
  (h:∀args ret b,L6 (k args)=some (ret,b)->b=[]/\ret.nms=[]/\∀C:Cfg,C.P=P->C.G=G->∀a w c,GOK C a.St w->(∀g,a.St g->g<w.heap.size)->CR a (A5 []) w args c->
   Calls P g c w λe w'=>∃V,e = .returned V/\Below w.heap.size w w'/\VP a (A5 []) w' ret V):B0 P G g k:=by
 intro args ret b i C n m a w c f j r o;obtain⟨rfl,u,l⟩:=h args ret b i;exact Rh q d t ((l C n m a w c r j.stlt o).mono λe w' ⟨V,p,d,v⟩=>⟨V,p,B65 f j d v u⟩)
def PV.stab(szs:List Nat)(H:List Blk):PV->PV
 | .tup l=>.tup (Og szs (L8 H l))
 | v=>Qt (szs.headD 0) (v.snap H)
theorem VP.stab{Γ:Ctx}{H:List Blk}{w:World}(szs:List Nat)(hH:HR Γ H w){v:PV}{V:Value}(h:VP Γ (A5 H) w v V):VP Γ.all (A5 H) w (v.stab szs H) V:=by
 by_cases ht:∃l,v = .tup l
 ·obtain⟨l,rfl⟩:=ht;obtain⟨A,rfl,hA,hc⟩:=h.inv_tup;simp only[PV.stab];have hl:(Og szs (L8 H l)).length=l.length:=by rw[Uz,Hn,aa9]
  refine VP.mk_tup (by rw[hl];exact hA) λj hj=>?_
  obtain⟨U,e,k⟩:=hc j (by omega);refine⟨U,e,?_⟩;have hj':j<(L8 H l).length:=by rw[Hn,aa9];omega
  obtain⟨n,en⟩:=HS szs (L8 H l) j hj' hj;rw[en];have e2:(L8 H l)[j]=(l[j]'(by omega)).snap H:=by
   simp only[Hn,List.getElem_map]
  rw[e2];exact DO (k.snap hH)
 ·have e:v.stab szs H=Qt (szs.headD 0) (v.snap H):=by
   cases v with
   | tup l=>exact absurd ⟨l,rfl⟩ ht
   | _=>rfl
  rw[e];exact DO (h.snap hH)
theorem I5(n:List Nat){C₀:Cfg}{g:Nat}{pf:List PV->Tr}(M:XOK C₀)(K:Nk C₀)(P:C₀.P.follows .mixedOrders=true)
  (h:∀args ret p,L6 (pf args)=some (ret,p)->C4 args=[]/\p=[]/\ret.nms=[]/\∃d c k,evC C₀ d Unit noY g args [] ()=some (c,k,())/\c.stab n k=ret):B0 C₀.P C₀.G g pf:=by
 intro args ret p A C L t Γ w F z J I N;obtain⟨y,rfl,m,d,c,k,u,rfl⟩:=h args ret p A;have G:=Pl (C₀:=C₀) (g:=g) (pf:=λa=>match evC C₀ d Unit noY g a [] () with|some (r,H,_)=>cond (C4 a).isEmpty (.ret r H) .fail|none=>.fail) M K P (λa r H j=>by
  split at j
  ·rename_i S H' _ R;cases D:(C4 a).isEmpty with
   | true=>
    rw[D] at j;simp only[cond_true,L6,Hg,p4,ag0] at j;grind
   | false=>rw[D] at j;cases j
  ·cases j)
 refine(G args c k (by dsimp only;rw[u];dsimp only;rw[y];rfl) C L t Γ w F z J I N).mono ?_;rintro V w' ⟨o,B,e,i,Q,hvn,v,O⟩;let Γ2:Ctx:={ o.all with nm:=λ_=>none }
 have x:∀g,Γ2.St g->g<w'.heap.size:=λg f=>by
  rcases f with f|⟨b,l⟩
  ·exact i.stlt g f
  ·exact(i.lt b g l).2.1
 refine⟨Γ2,B,⟨e.os,e.tape,e.output,e.size,λg f=>.inl (e.sub g f),λg f=>?_,λb g h=>by simp[Γ2] at h,e.foot,e.frame,e.yv,aa7 _,λb l=>by simp at l⟩,
  Kz (λ_=>rfl) x,?_,by rw[m];simp,v,λb g h=>by simp[Γ2] at h⟩
 ·rcases f with f|⟨b,l⟩
  ·exact e.stnew g f
  ·rcases e.own b g l with⟨q,_⟩|q
   ·simp at q
   ·exact .inr q
 ·exact VP.mono (Γ:=o.all) (Γ':=Γ2) (w:=w') (w':=w') (sh:=A5 k) (ok:=λ_=>False) ⟨λ_ _=>rfl,λ_ h=>h,λ_ h=>h.elim,λ_ h=>h.elim,λ_ _ h=>h.elim,rfl⟩ (Q.stab n i) (by rw[m];simp)
def Tr.Good(szs:List Nat)(args:List PV)(e:Option (PV × List Blk × Unit)):Tr->Prop
 | .ret v H=>C4 args=[]/\H=[]/\v.nms=[]/\∃r H0,e=some (r,H0,())/\r.stab szs H0=v
 | .need c t=>c=true->Good szs args e t
 | .split c a b=>(c=true->Good szs args e a)/\(c=false->Good szs args e b)
 | .fail=>True
theorem Tr.Good.res{szs:List Nat}{args:List PV}{e:Option (PV × List Blk × Unit)}{ret:PV}{Hc:List Blk}:∀{t:Tr},t.Good szs args e->L6 t=some (ret,Hc)->C4 args=[]/\Hc=[]/\ret.nms=[]/\∃r H0,e=some (r,H0,())/\r.stab szs H0=ret
 | .ret v H,h,hr=>by
  obtain⟨rfl,rfl⟩:=I9 hr;exact h
 | .need c t,h,hr=>by
  obtain⟨h0,hr⟩:=C1 hr;exact res (h h0) hr
 | .split c a b,h,hr=>by
  rcases Ci5 hr with⟨h0,hr⟩|⟨h0,hr⟩
  ·exact res (h.1 h0) hr
  ·exact res (h.2 h0) hr
theorem xf(b:List Nat)(a:Cfg){g:Nat}(d:List PV->Tr){e:List (List Nat)}{l:List (Nat × (List PV->Tr))}{c:List Nat}(m:a.X=Aj5 l)(q:M0 a.P a.G l)(o:a.okf=okL c)(k:Ax7 a c=true)(n:a.P.follows .mixedOrders=true)
  (h:∀args,(d args).Good b args (evC a 1 Unit noY g args [] ())) (i:a.Y=AZ []:=by rfl) (j:a.S=AZ []:=by rfl):B0 a.P a.G g (λargs=>d (C5 e args)):=
 B0.fix e (I5 b (M0.ok m q i j) (I1 o k) n λargs ret y p=>by
  obtain⟨t,u,v,r,f,w,x⟩:=(h args).res p;exact⟨t,u,v,1,r,f,w,x⟩)
end
section
open Go
def Au8(n:Nat)(ret:PV)(H:List Blk):Bool:=ret.nms.all (ah0 · n)&&H.all λb=>b.nms.all (ah0 · n)
theorem Dw.head{C:Cfg}{Z:Type}{I:Z->(Nat->Prop)->(Nat->Prop)->World->Prop}{Γ:Ctx}{H Hc T:List Blk}{w w':World}{Φ:Nat->Prop}{s':Z}{ret:PV}{V:Value}
  (h:Dw C I Γ H w Φ ret (Hc++T) s' V w') (hl:H.length<=Hc.length) (hok:Au8 Hc.length ret Hc=true):Dw C I Γ H w Φ ret Hc s' V w':=by
 obtain⟨Γ1,Φ1,hs,hH1,hv,hvn,hi1,hd1⟩:=h;simp only[Au8,x6,List.all_eq_true,Nat.blt_eq] at hok;let Γ2:Ctx:={ Γ1 with nm:=λb=>if b<Hc.length then Γ1.nm b else none }
 have hnm:∀b g,Γ2.nm b=some g->b<Hc.length/\Γ1.nm b=some g:=λb g h=>by grind
 have get:∀b (h:b<Hc.length) (h':b<(Hc++T).length),(Hc++T)[b]=Hc[b]:=λb h h'=>List.getElem_append_left h
 have shp:∀b,b<Hc.length->A5 Hc b=A5 (Hc++T) b:=λb hb=>by
  simp only[A5];grind
 have M:Ag Γ1 (A5 (Hc++T)) w' Γ2 (A5 Hc) w' (· < Hc.length):=⟨λ_ _=>rfl,λ_ h=>h,λb hb=>by simp only[Γ2];rw[if_pos hb],λb hb=>shp b hb,λ_ _ _ _=>rfl,rfl⟩
 refine⟨Γ2,Φ1,⟨hs.os,hs.tape,hs.output,hs.size,hs.sub,hs.stnew,λb g h=>hs.own b g (hnm b g h).2,hs.foot,hs.frame,hs.yv,hl,λb hb hf=>?_⟩,
  ⟨λb b' g h1 h2=>hH1.inj b b' g (hnm b g h1).2 (hnm b' g h2).2,λb g h=>by have:=hH1.lt b g (hnm b g h).2;exact⟨(hnm b g h).1,this.2⟩,hH1.stlt,λb hb c hc=>hok.2 _ (ab9 hb) c hc,λb hb=>?_⟩,
  hv.mono M (λb hb=>hok.1 b hb),λc hc=>hok.1 c hc,hi1,λb g h=>hd1 b g (hnm b g h).2⟩
 ·obtain⟨m1,m2,m3⟩:=hs.keep b hb hf;have hb2:b<Hc.length:=ad6 hb hl;exact⟨by simp only[Γ2];rw[if_pos hb2];exact m1,by rw[shp b hb2];exact m2,m3⟩
 ·have hb':b<(Hc++T).length:=by rw[aa0];omega
  have:=hH1.blk b hb';rw[get b hb hb'] at this;exact this.mono M (M.nm b hb) (λ_ _=>rfl) (λc hc=>hok.2 _ (ab9 hb) c hc)
theorem Fq{C₀:Cfg}{g:Nat}{m:List PV->List Blk->Tr}(v:XOK C₀)(t:Nk C₀)(D:C₀.P.follows .mixedOrders=true)
  (h:∀args H ret a,L6 (m args H)=some (ret,a)->x3 H.length a.length=true/\Au8 a.length ret a=true/\∀(Z:Type) (e:Yh Z) (s:Z),∃d b,evC C₀ d Z e g args H s=some (ret,b,s)/\b.take a.length=a):BF C₀.P C₀.G g m:=by
 intro C u p Z I e R r L args H s ret a i S T w n j q z A y x F;obtain⟨B,f,o⟩:=h args H ret a i;obtain⟨d,b,c,K⟩:=o Z e s;rw[<-List.take_append_drop a.length b,K] at c;refine(Jw v t D d Z I e R r L g args H s ret (a++b.drop a.length) s c S T w n j q (z.congr p.symm) A y x F).mono ?_;rintro V w' G;obtain⟨k,l,J,M,N,O,P,Q⟩:=G.head (Nat.le_of_ble_eq_true B) f;exact⟨k,l,J.congr u.symm,M,N,O,P,Q⟩
def Gf:List Int:=(List.range 32).map λi=>((if i % 2=0 then Lib.accLo (i / 2) else Lib.accHi (i / 2):Nat):Int)
def GX:GT:=⟨λg=>cond (ab5 g 2) (some (.u8,Lib.firstTab)) (cond (ab5 g 3) (some (.u8,Gf)) (cond (ab5 g 1) (some (.u64,Lib.pow10Tab)) (cond (ab5 g 5) (some (.u8,Lib.deBruijn64tab.map λn:Nat=>(n:Int))) none))),λg=>ab5 g 0⟩
def Dj7:List (Nat × Nat × Nat × Nat)->Nat->Nat->Nat × Nat
 | [],_,_=>(0,0)
 | (t,j,e,k)::r,b,a=>cond (ab5 t b&&ab5 j a) (e,k) (Dj7 r b a)
def C76:List (Nat × Nat)->Nat->Option Nat
 | [],_=>none
 | (a,b)::r,i=>cond (ab5 a i) (some b) (C76 r i)
noncomputable def B6(g:Nat)(f:List Nat)(d:Nat->Option (List Nat))(X:List (Nat × (List PV->Tr)))(b:Nat->Option (List Nat):=λ_=>none)(h:List Nat:=[])(a:Nat->Option (List Nat):=λ_=>none)(c:Option (List Nat):=none)(Y:List (Nat × (List PV->List Blk->Tr)):=[])(S:List (Nat × (List PV->List Blk->Option (Bool × List (List PV)))):=[])(e:List Nat:=[])(nt:List (Nat × Nat × Nat × Nat):=[])(rw:List (Nat × Nat):=[]):Cfg:=
 { P:=Tryz.prog,G:=GX,X:=Aj5 X,lend:=okL e,okf:=okL f,lf:=g,keep:=d,keepR:=b,xp:=okL h,keepE:=a,keepT:=c,Y:=AZ Y,S:=AZ S,nilT:=Dj7 nt,rowR:=C76 rw }
theorem follows:Tryz.prog.follows .mixedOrders=true:=by kernel_rfl
theorem Bv4{n:Nat}:F6 n=true↔n<=68719476736:=by simp[F6]
theorem F3{n:Nat}(h:n<=68719476736):F6 n=true:=Bv4.2 h
theorem B7{a b:Int}(h:a<b):ltI a b=true:=by rw[Su];simpa using h
theorem E2{a b:Int}(h:b<=a):ltI a b=false:=by rw[Su];simpa using h
theorem Lr{a b:Int}:ltI a b=true↔a<b:=by rw[Su];simp
theorem Ov{a b:Int}:ltI a b=false↔b<=a:=by rw[Su];simp
theorem C7{n:Int}(a:-9223372036854775808<=n)(b:n<9223372036854775808):A1 n=n:=C26 n a b
theorem WY{n:Int}(a:0<=n)(b:n<18446744073709551616):De7 n=n:=by obtain⟨m,rfl⟩:=p9 a;unfold De7;rw[C28,s8 (by omega)]
theorem Bl5{n:Int}(a:0<=n)(b:n<4294967296):BD n=n:=by obtain⟨m,rfl⟩:=p9 a;unfold BD;rw[C27,s8 (by omega)]
theorem Bl4{n:Int}(a:0<=n)(b:n<65536):Mt n=n:=by obtain⟨m,rfl⟩:=p9 a;unfold Mt;rw[Bl3,s8 (by omega)]
theorem WZ{n:Int}(a:0<=n)(b:n<256):wu8 n=n:=by obtain⟨m,rfl⟩:=p9 a;unfold wu8;rw[De6,s8 (by omega)]
theorem A8{a b:Int}(h:a<b:=by omega):ltI a b=true:=B7 h
theorem A6{a b:Int}(h:b<=a:=by omega):ltI a b=false:=E2 h
theorem A7{n:Int}(h:-9223372036854775808<=n:=by omega)(g:n<9223372036854775808:=by omega):A1 n=n:=C7 h g
theorem Mu{n:Int}(h:0<=n:=by omega)(g:n<4294967296:=by omega):BD n=n:=Bl5 h g
theorem Pk{n:Int}(h:0<=n:=by omega)(g:n<65536:=by omega):Mt n=n:=Bl4 h g
theorem L9{n:Int}(h:0<=n:=by omega)(g:n<256:=by omega):wu8 n=n:=WZ h g
theorem P9{d:Sort _}{c:Prop}[Decidable c]{a b:d}(h:c:=by omega):(if c then a else b)=a:=if_pos h
theorem F5{d:Sort _}{c:Prop}[Decidable c]{a b:d}(h:¬c:=by omega):(if c then a else b)=b:=if_neg h
theorem Ak7(n:Nat):Mt (n:Int)=((n % 65536:Nat):Int):=Bl3 n
theorem VY(k:IntKind)(a m:Nat)(h:m<=k.bits):KB k (a:Int) (m:Int)=((a / 2 ^ m:Nat):Int):=by
 unfold KB;rw[j6,ab0 h];have:(2:Int) ^ m=((2 ^ m:Nat):Int):=by simp
 rw[this,B76]
theorem Cj2{n:Nat}(h:n<256):[SV.int .u8 (n:Int)]=D8 (p5 n):=by rw[A98,s8 h]
theorem Af{l h:Int}{n:Nat}(a:0<=l)(b:l<=h)(c:h<=n):I7 l h n=true:=by simp[I7,a,b,c]
theorem M8{i:Int}{n:Nat}(a:0<=i)(b:i<n):inR i n=true:=by simp[inR,a,b]
theorem I2{l h:Int}{n:Nat}(a:0<=l:=by omega)(b:l<=h:=by omega)(c:h<=n:=by omega):I7 l h n=true:=Af a b c
theorem E9{i:Int}{n:Nat}(a:0<=i:=by omega)(b:i<n:=by omega):inR i n=true:=M8 a b
end
section
open Go Go.Proofs
def EE(r:Option (PV × List Blk × Unit)):Bool:=match r with
 | some (.s (.bool true),_,_)=>true
 | _=>false
theorem VJ{r:Option (PV × List Blk × Unit)}(h:EE r=true):∃H,r=some (.s (.bool true),H,()):=by
 unfold EE at h;split at h
 ·exact⟨_,rfl⟩
 ·cases h
theorem Bc2{C₀:Cfg}{g d:Nat}(f:XOK C₀)(c:Nk C₀)(i:C₀.P.follows .mixedOrders=true)(h:EE (evC C₀ d Unit noY g [] [] ())=true):B0 C₀.P C₀.G g (λargs=>match args with|[]=>.ret (.s (.bool true)) []|_=>.fail):=
 XE f c i λargs ret j b=>by
  cases args with
  | nil=>
   obtain⟨rfl,rfl⟩:=I9 b;obtain⟨H,e⟩:=VJ h;exact⟨rfl,rfl,rfl,d,_,H,e,rfl⟩
  | cons a r=>cases b
theorem Co8{P:Program}{t:Nat}{v:PV}{f:Ty}(h:LX P t v)(e:Kq P 20 t=some [f])(i:BG P t=false):∃x,v = .s x/\f.of x:=by
 obtain⟨j,l,b,c,a⟩:=h;rw[e] at b;simp only[p4] at b;subst b;rcases a with⟨a,_⟩|⟨_,x,rfl,rfl⟩
 ·rw[i] at a;cases a
 ·simp only[Ty.ofL] at c;obtain⟨v,q,d,g,rfl⟩:=c;simp only[List.cons.injEq,and_true] at d;subst d;exact⟨_,rfl,g⟩
theorem Co9{P:Program}{t:Nat}{v:PV}(h:LX P t v)(e:Kq P 20 t=some [.str])(b:BG P t=false):∃l,v = .s (.str l)/\l.length<=maxLen:=by obtain⟨x,rfl,l,rfl,a⟩:=Co8 h e b;exact⟨l,rfl,a⟩
end
section
open Go
def D5(l:List By):LL:=l.map λs=>[SV.str s]
def D7(l:List Nat):LL:=l.map λn=>[SV.int .u16 (Int.ofNat n)]
def L5(c:UInt8):By->By->List By
 | a,[]=>[a]
 | a,b::r=>if b=c then a::L5 c [] r else L5 c (a++[b]) r
def pcs(c:UInt8)(s:By):List By:=L5 c [] s
theorem Iq(c:UInt8):∀(s a:By),(L5 c a s).length=s.count c+1
 | [],a=>rfl
 | b::r,a=>by
  simp only[L5,af2];by_cases h:b=c
  ·simp[h,Iq c r]
  ·simp[h,Iq c r]
theorem Xf(c:UInt8):∀(s a:By),c∉s->L5 c a s=[a++s]
 | [],a,_=>by simp[L5]
 | b::r,a,h=>by
  simp only[ab7,not_or] at h;simp only[L5];rw[if_neg (λe=>h.1 e.symm),Xf c r _ h.2];simp
theorem CX(c:UInt8):∀(p a s:By),c∉p->L5 c a (p++c::s)=(a++p)::L5 c [] s
 | [],a,s,_=>by simp[L5]
 | b::r,a,s,h=>by
  simp only[ab7,not_or] at h;simp only[ab8,L5];rw[if_neg (λe=>h.1 e.symm),CX c r _ s h.2];simp
theorem A88(c:UInt8)(s a:By):L5 c a s≠[]:=by intro h;have:=Iq c s a;rw[h] at this;simp at this
theorem Pd(c:UInt8):∀(s a:By),c∉a->∀x∈L5 c a s,c∉x/\x.length<=a.length+s.length
 | [],a,h,x,d=>by
  simp only[L5,List.mem_singleton] at d;subst d;exact⟨h,by simp⟩
 | b::r,a,h,x,d=>by
  simp only[L5] at d;split at d
  ·rcases ab7.1 d with rfl|d
   ·exact⟨h,by simp⟩
   ·have:=Pd c r [] (by simp) x d;refine⟨this.1,?_⟩;have:=this.2;simp at this ⊢;omega
  ·rename_i e;have:=Pd c r (a++[b]) (by simp[h,Ne.symm e]) x d;refine⟨this.1,?_⟩;have:=this.2;simp at this ⊢;omega
def W5(b:UInt8):UInt8:=if 65<=b/\b<=90 then b+32 else b
def B3(s:By):By:=s.map W5
def dig(b:UInt8):Nat:=
 if 48<=b.toNat/\b.toNat<=57 then b.toNat-48 else if 97<=b.toNat/\b.toNat<=102 then b.toNat-87 else if 65<=b.toNat/\b.toNat<=70 then b.toNat-55 else 99
def V5:Nat:=1099511627776
def E8(base:Nat):Nat->By->Option Nat
 | n,[]=>some n
 | n,b::r=>if dig b<base then E8 base (min (n*base+dig b) V5) r else none
def X4(s:By):Bool:=s.getD 0 0==48&&(s.getD 1 0==120||s.getD 1 0==88)
def Y8(s:By):Option Nat:=
 if s=[] then none else if X4 s then E8 16 0 (s.drop 2) else if 1<s.length/\s.getD 0 0=48 then E8 8 0 (s.drop 1) else E8 10 0 s
def C3(s:By):List By:=if 1<(pcs 46 s).length/\(pcs 46 s).getLastD []=[] then (pcs 46 s).dropLast else pcs 46 s
def Cl(s:By):By:=(C3 s).getLastD []
def E4(s:By):Bool:=if X4 (Cl s) then (E8 16 0 ((Cl s).drop 2)).isSome else !(Cl s).isEmpty&&(E8 10 0 (Cl s)).isSome
def Sx(free:Nat):Nat->List By->Option Nat
 | _,[]=>none
 | v,p::r=>match Y8 p with
  | none=>none
  | some n=>match r with
   | []=>if n<2 ^ free then some (v*2 ^ free+n) else none
   | r=>if n<=255 then Sx free (v*256+n) r else none
def pnB(s:By):Option Nat:=if 4<(C3 s).length then none else Sx (8*(5-(C3 s).length)) 0 (C3 s)
def oct(s:By):Option Nat:=match E8 10 0 s with
 | some n=>if n<=255/\j7 n=s then some n else none
 | none=>none
def IY:Nat->List By->Option Nat
 | v,[]=>some v
 | v,p::r=>match oct p with
  | some n=>IY (v*256+n) r
  | none=>none
def v4B(s:By):Option Nat:=if (pcs 46 s).length=4 then IY 0 (pcs 46 s) else none
def Z6(v:Nat):By:=j7 (v / 16777216)++46::(j7 (v / 65536 % 256)++46::(j7 (v / 256 % 256)++46::j7 (v % 256)))
def Z4:Nat->By->Option Nat
 | n,[]=>some n
 | n,b::r=>if dig b<16 then Z4 (n*16+dig b) r else none
def grp(s:By):Option Nat:=if s=[]\/4<s.length then none else Z4 0 s
def Cj(last:Bool):List By->Option (List Nat)
 | []=>some []
 | x::r=>match grp x with
  | some v=>(Cj last r).map (v::·)
  | none=>match v4B x with
   | some v=>if last=true/\r=[] then some [v / 65536,v % 65536] else none
   | none=>none
def O7(s:By)(last:Bool):Option (List Nat):=if s=[] then some [] else Cj last (pcs 58 s)
def v6B(s:By):Option (List Nat):=
 match O7 (x5 s [58,58]).1 (!(x5 s [58,58]).2.2),O7 (x5 s [58,58]).2.1 true with
 | some x,some y=>if (x5 s [58,58]).2.2 then (if x.length+y.length<=7 then some (x++j0 (8-x.length-y.length) 0++y) else none)
   else if x.length+y.length=8 then some (x++y) else none
 | _,_=>none
def Td(l:List Nat):Nat:=(l.takeWhile (· == 0)).length
def zGo:List Nat->Nat->Nat->Nat->Nat × Nat
 | [],_,z,m=>(z,m)
 | x::r,i,z,m=>if m<Td (x::r) then zGo r (i+1) i (Td (x::r)) else zGo r (i+1) z m
def Nh(n:Nat):UInt8:=if n<10 then p5 (48+n) else p5 (87+n)
def U7(v:Nat):By:=if h:v<16 then [Nh v] else U7 (v / 16)++[Nh (v % 16)]
 termination_by v
 decreasing_by omega
def N8(l:List Nat):By:=ad0 (l.map U7) [58]
def Co(a:List Nat):By:=if (zGo a 0 0 0).2<2 then N8 a else N8 (a.take (zGo a 0 0 0).1)++58::58::N8 (a.drop ((zGo a 0 0 0).1+(zGo a 0 0 0).2))
def V0(n:Nat):Bool:=x3 n 1114111&&(ah0 n 55296||ah0 57343 n)
def Yr(d k:Nat):Nat:=if h:455<d then Yr (d / 35) (k+36) else k+36*d / (d+38)
 termination_by d
 decreasing_by omega
def Q3(delta count:Nat)(first:Bool):Nat:=
 let d:=if first then delta / 700 else delta / 2
 Yr (d+d / count) 0
def thr(k a:Nat):Nat:=max 1 (min 26 (36*(k+1)-a))
theorem V8(k a:Nat):1<=thr k a/\thr k a<=26:=by unfold thr;omega
def Aj(d:Nat):UInt8:=if d<26 then p5 (97+d) else p5 (22+d)
def Ng(b:UInt8):Option Nat:=
 if 97<=b.toNat/\b.toNat<=122 then some (b.toNat-97) else if 65<=b.toNat/\b.toNat<=90 then some (b.toNat-65) else if 48<=b.toNat/\b.toNat<=57 then some (b.toNat-22) else none
def P4(q k a:Nat):By:=
 if h:q<thr k a then [Aj q] else Aj (thr k a+(q-thr k a) % (36-thr k a))::P4 ((q-thr k a) / (36-thr k a)) (k+1) a
 termination_by q
 decreasing_by
  have:=V8 k a;exact ad5 (af5 _ _) (by omega)
structure PH where
 delta:Nat
 bias:Nat
 done:Nat
 out:By
def H4(n a:Nat):List Nat->PH->PH
 | [],s=>s
 | p::r,s=>if p<n then H4 n a r { s with delta:=s.delta+1 }
  else if p=n then H4 n a r { delta:=0,bias:=Q3 s.delta (s.done+1) (s.done==a),done:=s.done+1,out:=s.out++P4 s.delta 0 s.bias }
  else H4 n a r s
def G9(n:Nat):List Nat->Nat->Nat
 | [],m=>m
 | p::r,m=>G9 n r (if n<=p then min m p else m)
def R3(b:List Nat)(a:Nat):Nat->Nat->PH->PH
 | 0,_,s=>s
 | f+1,n,s=>if s.done<b.length then
   let m:=G9 n b 1114112;let c:=H4 m a b { s with delta:=s.delta+(m-n)*(s.done+1) }
   R3 b a f (m+1) { c with delta:=c.delta+1 }
  else s
def H9(a:List Nat):By:=(a.filter (· < 128)).map p5
def Cx(a:List Nat):By × Nat:=
 if 256<a.length then ([],3) else if !(a.all V0) then ([],2)
 else ((R3 a (H9 a).length 256 128 { delta:=0,bias:=72,done:=(H9 a).length,out:=if (H9 a).isEmpty then [] else H9 a++[45] }).out,0)
def D6(a:Nat):By->Nat->Nat->Nat->Nat × By × Nat
 | [],i,w,k=>(0,[],4)
 | b::r,i,w,k=>match Ng b with
  | none=>(0,[],4)
  | some x=>if V5<i+x*w then (0,[],19) else if x<thr k a then (i+x*w,r,0)
   else if V5<w*(36-thr k a) then (0,[],19) else D6 a r (i+x*w) (w*(36-thr k a)) (k+1)
theorem Px(a:Nat):∀(s:By) (i w k:Nat),(D6 a s i w k).2.2=0->(D6 a s i w k).2.1.length<s.length
 | [],i,w,k,h=>by simp[D6] at h
 | b::r,i,w,k,h=>by
  unfold D6 at h ⊢;cases d:Ng b with
  | none=>simp[d] at h
  | some x=>
   simp only[d] at h ⊢;split at h
   ·simp at h
   ·rename_i e;rw[if_neg e];split at h
    ·rename_i c;rw[if_pos c];simp
    ·rename_i c;rw[if_neg c];split at h
     ·simp at h
     ·rename_i f;rw[if_neg f];have:=Px a r _ _ _ h;simp only[ac0];omega
def U9(l:List Nat)(i n:Nat):List Nat:=l.take i++n::l.drop i
def G8(s:By)(b:List Nat)(n i a:Nat)(first:Bool):List Nat × Nat:=
 if e:s=[] then (b,0) else
  let q:=D6 a s i 1 0
  if d:q.2.2=0 then
   let count:=b.length+1;let c:=n+q.1 / count
   if V0 c then (if 256<count then ([],3) else G8 q.2.1 (U9 b (q.1 % count) c) c (q.1 % count+1) (Q3 (q.1-i) count first) false)
   else ([],2)
  else ([],q.2.2)
 termination_by s.length
 decreasing_by exact Px a s i 1 0 d
def G4:By->Nat
 | []=>0
 | b::r=>if 45∈r then G4 r+1 else 0
def N6(s:By):List Nat × Nat:=
 if 1024<s.length then ([],3) else if s.any (λb=>x3 128 b.toNat) then ([],4)
 else if 256<G4 s then ([],3)
 else G8 (if G4 s=0 then s else s.drop (G4 s+1)) ((s.take (G4 s)).map (·.toNat)) 128 0 72 true
def V2:Nat->By->Option (List Nat)
 | 0,_=>some []
 | f+1,l=>if l=[] then some [] else if (ac9 l).1=65533/\(ac9 l).2=1 then none else (V2 f (l.drop (ac9 l).2)).map ((ac9 l).1::·)
def Ck(s:By):Option (List Nat):=V2 s.length s
def Dt(s:By):Bool:=
 (N6 s).2==0&&!((N6 s).1.any λp=>x3 65 p&&x3 p 90)&&((N6 s).1.any λp=>x3 128 p)&&(Cx (N6 s).1).2==0&&(Cx (N6 s).1).1==s
def K6(b:UInt8):Bool:=(x3 97 b.toNat&&x3 b.toNat 122)||(x3 48 b.toNat&&x3 b.toNat 57)||b==45||b==95
def xnB:By:=[120,110,45,45]
def J5(s:By):Bool:=
 !s.isEmpty&&x3 s.length 63&&s.getD 0 0 !=45&&s.getD (s.length-1) 0 !=45&&s.all K6&&(!(xnB.isPrefixOf s)||Dt (s.drop 4))
def H5(s:By):By × Nat:=match Ck s with
 | none=>([],4)
 | some p=>if 256<p.length then ([],3)
  else if p.length<s.length then (match Ck (B3 s) with
   | none=>([],14)
   | some q=>if (Cx q).2=0 then (if J5 (xnB++(Cx q).1) then (xnB++(Cx q).1,0) else ([],14)) else ([],14))
  else if J5 (B3 s) then (B3 s,0) else ([],14)
def Q5:By->Option By
 | []=>some []
 | b::r=>if b=37 then (match r with
   | x::y::a=>if dig x<16/\dig y<16 then (Q5 a).map (p5 (16*dig x+dig y)::·) else none
   | _=>none)
  else (Q5 r).map (b::·)
structure B2 where
 kind:Nat
 name:By
 v4:Nat
 v6:List Nat
 deriving DecidableEq
def z8:List Nat:=[0,0,0,0,0,0,0,0]
def K8:B2:=⟨0,[],0,z8⟩
def F1:List By->List By × Nat
 | []=>([],0)
 | x::r=>if (H5 x).2=0 then ((H5 x).1::(F1 r).1,(F1 r).2) else ([],(H5 x).2)
def G2(s:By):By:=if s.getLast? = some 46 then s.dropLast else s
def B9(s:By):B2 × Nat:=
 if 1024<s.length then (K8,3)
 else if s.head? = some 91 then (if s.getLast? = some 93/\2<=s.length then (match v6B ((s.take (s.length-1)).drop 1) with
   | some a=>(⟨3,[],0,a⟩,0)
   | none=>(K8,14)) else (K8,14))
 else match Q5 s with
  | none=>(K8,14)
  | some t=>if E4 (G2 t) then (match pnB (G2 t) with
    | some v=>(⟨2,[],v,z8⟩,0)
    | none=>(K8,14))
   else if (F1 (pcs 46 (G2 t))).2=0 then (
    let name:=ad0 (F1 (pcs 46 (G2 t))).1 [46]
    if 253<name.length then (K8,3) else if E4 name then (K8,14) else (⟨1,name,0,z8⟩,0))
   else (K8,(F1 (pcs 46 (G2 t))).2)
def Cg(s:By):Bool:=x3 s.length 253&&!(E4 s)&&(pcs 46 s).all J5
def L7(h:B2):Bool:=
 if h.kind=1 then Cg h.name&&h.v4==0&&h.v6==z8 else if h.kind=2 then h.name.isEmpty&&h.v6==z8 else if h.kind=3 then h.name.isEmpty&&h.v4==0 else false
def T5(h:B2):By:=if L7 h then (if h.kind=1 then h.name else if h.kind=2 then Z6 h.v4 else 91::(Co h.v6++[93])) else []
def Lg(a b:By):Bool:=Cg a&&Cg b&&(a==b||(46::a).isSuffixOf b)
def A2(n:Nat):Bool:=decide (n<=1000000000)
theorem OU{n:Nat}:A2 n=true↔n<=1000000000:=by simp[A2]
def isS:List SV->Bool|[.str _]=>true|_=>false
def elS(a:List SV):By:=(a.getD 0 .nilp).gS
def N1(o:Option Nat):Nat:=o.getD 0
def u8n(c:Int):UInt8:=p5 c.toNat
def WM(s p:By):By:=if p.isSuffixOf s then s.take (s.length-p.length) else s
def Gp(s p:By):By:=if p.isPrefixOf s then s.drop p.length else s
def ltN(v:Int)(n:Nat):Bool:=match v with
 | .ofNat m=>x3 (m+1) n
 | .negSucc _=>false
theorem E3{v:Int}{n:Nat}:ltN v n=true↔0<=v/\v<(n:Int):=by
 cases v with
 | ofNat m=>
  simp only[ltN,Nat.ble_eq,Int.ofNat_eq_natCast];omega
 | negSucc m=>
  refine⟨λh=>(by cases h),λh=>?_⟩;have:=Int.negSucc_lt_zero m;omega
def Hv(b:Nat):List PV->Tr
 | [.s (.int .i64 n)]=>.need (ltN n b) (.ret (.s (.str (j7 (b9 n)))) [])
 | _=>.fail
def Ku(b:Nat)(args:List PV):Tr:=Hv b (C5 [[0]] args)
def gvs(s:By)(last:Bool):List Nat:=(O7 s last).getD []
def v6c(i:Nat)(s:By):Nat:=((v6B s).getD z8).getD i 0
def n8(a b c d e f g h:Int):List Nat:=[a.toNat,b.toNat,c.toNat,d.toNat,e.toNat,f.toNat,g.toNat,h.toNat]
def ok8(a b c d e f g h:Int):Bool:=[a,b,c,d,e,f,g,h].all λx=>ltN x 65536
def Vo:List SV->Bool|[.int .u16 n]=>ltN n 65536|_=>false
def elN(a:List SV):Nat:=(a.getD 0 .nilp).gI.toNat
def HJ(s:By):Int:=y7 s [58,58]
def ptI(n:Int):Bool:=match n with | .ofNat m=>V0 m | .negSucc _=>false
def D9(b:UInt8):Int:=match Ng b with|some n=>n|none=>-1
def K9(k b:Int):Int:=max 1 (min 26 (k+36-b))
def Na:List SV->Bool|[.int .i64 _]=>true|_=>false
def elI(a:List SV):Int:=(a.getD 0 .nilp).gI
def W4(l:List Int):By × Nat:=if 256<l.length then ([],3) else if l.all ptI then Cx (l.map b9) else ([],2)
def T9(b:Int):By->Int->Int->Int->Int × By × Int
 | [],i,w,k=>(4,[],i)
 | c::r,i,w,k=>if D9 c<0 then (4,c::r,i) else if 1099511627776<i+D9 c*w then (19,r,i+D9 c*w)
  else if D9 c<K9 k b then (0,r,i+D9 c*w) else if 1099511627776<w*(36-K9 k b) then (19,r,i+D9 c*w)
  else T9 b r (i+D9 c*w) (w*(36-K9 k b)) (k+36)
def IV(b:Int)(s:By)(i:Int):Int:=(T9 b s i 1 0).1
def IX(b:Int)(s:By)(i:Int):By:=(T9 b s i 1 0).2.1
def Sw(b:Int)(s:By)(i:Int):Int:=(T9 b s i 1 0).2.2
def Ln(l:List (List SV))(i:Nat)(n:Int):List (List SV):=l.take i++[SV.int .i64 n]::l.drop i
structure DS where
 rest:By
 n:Int
 i:Int
 b:Int
 st:Bool
 l:List (List SV)
def F2(s:DS):Int × DS:=
 if IV s.b s.rest s.i=0 then
  let c:Int:=s.l.length+1;let x:=Sw s.b s.rest s.i;let d:DS:={ rest:=IX s.b s.rest s.i,n:=s.n+ab2 x c,i:=ah4 x c,b:=Q3 (x-s.i).toNat c.toNat (!s.st),st:=true,l:=s.l }
  if ptI d.n then (if 256<c then (3,d) else (0,{ d with i:=d.i+1,l:=Ln s.l d.i.toNat d.n })) else (2,d)
 else (IV s.b s.rest s.i,{ s with rest:=IX s.b s.rest s.i,i:=Sw s.b s.rest s.i })
def K3(c:UInt8):By->Int
 | []=>-1
 | b::r=>if K3 c r<0 then (if b=c then 0 else -1) else K3 c r+1
def Lt(l:List Nat):List (List SV):=l.map λx:Nat=>[SV.int .i64 (x:Int)]
def Qu(s:By):List Nat:=(Ck s).getD []
def Ex(b:UInt8):Int:=if dig b<16 then dig b else -1
def Fe(s:By):By:=(Q5 s).getD []
def P8(s:By):B2 × Nat:=if s.getLast? = some 93/\2<=s.length then (match v6B ((s.take (s.length-1)).drop 1) with
 | some a=>(⟨3,[],0,a⟩,0)
 | none=>(K8,14)) else (K8,14)
def mkH(b:Int)(c:By)(v4:Int)(a:List Nat):B2:=⟨if ltN b 4 then b.toNat else 0,c,v4.toNat,a⟩
def B93(s:By):Bool:=([91]:By).isPrefixOf s
end
section
open Go Go.Proofs
set_option maxRecDepth 100000
section
def Rl:List PV->Tr
 | [.s (.str s),.s (.str p),.s (.int .i64 v),.s (.int .i64 n)]=>.need (A2 (a8 s)) (.need ((a8 p)==1) (.need (v==(0:Int)) (.need (n==((-1):Int)) (.ret (.vw 0 0 (a8 (pcs (b8 p 0 0) s))) [.arr false 9 1 (D5 (pcs (b8 p 0 0) s))]))))
 | _=>.fail
def Xw(args:List PV):Tr:=Rl (C5 [[0],[0],[0],[0]] args)
def Rt:List PV->Tr
 | [.s (.str s),.s (.str p)]=>.need (A2 (a8 s)) (.need ((a8 p)==1) (.ret (.vw 0 0 (a8 (pcs (b8 p 0 0) s))) [.arr false 9 1 (D5 (pcs (b8 p 0 0) s))]))
 | _=>.fail
def MD(args:List PV):Tr:=Rt (C5 [[0],[0]] args)
def QI:List PV->Tr
 | [.s (.str s),.s (.str p)]=>.need (A2 (a8 s)) (.ret (.s (.bool (s7 p s))) [])
 | _=>.fail
def QH(args:List PV):Tr:=QI (C5 [[0],[0]] args)
def PW:List PV->Tr
 | [.s (.str s),.s (.str p)]=>.need (A2 (a8 s)) (.ret (.s (.bool (s7 p s))) [])
 | _=>.fail
def ES(args:List PV):Tr:=PW (C5 [[0],[0]] args)
def QK:List PV->Tr
 | [.s (.str s),.s (.str p)]=>.need (A2 (a8 s)) (.ret (.s (.bool (aa8 p s))) [])
 | _=>.fail
def Am4(args:List PV):Tr:=QK (C5 [[0],[0]] args)
def PX:List PV->Tr
 | [.s (.str s),.s (.str p)]=>.need (A2 (a8 s)) (.ret (.s (.bool (aa8 p s))) [])
 | _=>.fail
def B25(args:List PV):Tr:=PX (C5 [[0],[0]] args)
def FD:List PV->Tr
 | [.s (.str s),.s (.str p)]=>.need (A2 (a8 s)) (.ret (.s (.str (WM s p))) [])
 | _=>.fail
def Bd3(args:List PV):Tr:=FD (C5 [[0],[0]] args)
def GC:List PV->Tr
 | [.s (.str s),.s (.str p)]=>.need (A2 (a8 s)) (.ret (.s (.str (WM s p))) [])
 | _=>.fail
def Be9(args:List PV):Tr:=GC (C5 [[0],[0]] args)
def EX:List PV->Tr
 | [.s (.str s),.s (.str p)]=>.need (A2 (a8 s)) (.ret (.tup [.s (.str (Gp s p)),.s (.bool (s7 p s))]) [])
 | _=>.fail
def Bd0(args:List PV):Tr:=EX (C5 [[0],[0]] args)
def PI:List PV->Tr
 | [.s (.str s),.s (.str p)]=>.need (A2 (a8 s)) (.ret (.tup [.s (.str (Gp s p)),.s (.bool (s7 p s))]) [])
 | _=>.fail
def Al7(args:List PV):Tr:=PI (C5 [[0],[0]] args)
def RN:List PV->Tr
 | [.s (.str s),.s (.str p)]=>.need (A2 (a8 s)) (.ret (.s (.int .i64 (y7 s p))) [])
 | _=>.fail
def FY(args:List PV):Tr:=RN (C5 [[0],[0]] args)
def RL:List PV->Tr
 | [.s (.str s),.s (.str p)]=>.need ((a8 p)==1) (.ret (.s (.int .i64 (↑(List.count (b8 p 0 0) s):Int))) [])
 | _=>.fail
def An6(args:List PV):Tr:=RL (C5 [[0],[0]] args)
def EO:List PV->Tr
 | [.s (.str s),.s (.int .i64 n)]=>.fail
 | _=>.fail
def Jm(args:List PV):Tr:=EO (C5 [[0],[0]] args)
def Xv:List PV->Tr
 | [.s (.str s),.s (.str p),.s (.int .i64 v),.s (.int .i64 n)]=>.need (A2 (a8 s)) (.need ((a8 p)==1) (.need (v==(0:Int)) (.need (n==((-1):Int)) (.ret (.s (.sl false false 1 (D5 (pcs (b8 p 0 0) s)))) []))))
 | _=>.fail
def XL(args:List PV):Tr:=Xv (C5 [[0],[0],[0],[0]] args)
def Yk:List PV->Tr
 | [.s (.str s),.s (.str p)]=>.need (A2 (a8 s)) (.need ((a8 p)==1) (.ret (.s (.sl false false 1 (D5 (pcs (b8 p 0 0) s)))) []))
 | _=>.fail
def Uf(args:List PV):Tr:=Yk (C5 [[0],[0]] args)
def QC:List PV->Tr
 | [.s (.int .i64 n)]=>.need (ltN n 4294967296) (.ret (.s (.str (j7 (b9 n)))) [])
 | _=>.fail
def Am2(args:List PV):Tr:=QC (C5 [[0]] args)
def QG:List PV->Tr
 | [.s (.str s)]=>.need (A2 (a8 s)) (.ret (.s (.str (B3 s))) [])
 | _=>.fail
def Am3(args:List PV):Tr:=QG (C5 [[0]] args)
def PT:List PV->Tr
 | [.s (.str s)]=>.need (A2 (a8 s)) (.ret (.s (.bool (X4 s))) [])
 | _=>.fail
def Al9(args:List PV):Tr:=PT (C5 [[0]] args)
def PK:List PV->Tr
 | [.s (.str s),.s (.int .i64 base)]=>.need (A2 (a8 s)) (.need (ltN base 17) (.ret (.tup [.s (.int .i64 (↑(N1 (E8 (b9 base) 0 s)):Int)),.s (.bool (j5 (E8 (b9 base) 0 s)))]) []))
 | _=>.fail
def PJ(args:List PV):Tr:=PK (C5 [[0],[0]] args)
def Am5:List PV->Tr
 | [.s (.str s)]=>.need (A2 (a8 s)) (.ret (.tup [.s (.int .i64 (↑(N1 (Y8 s)):Int)),.s (.bool (j5 (Y8 s)))]) [])
 | _=>.fail
def B28(args:List PV):Tr:=Am5 (C5 [[0]] args)
def FF:List PV->Tr
 | [.s (.str s)]=>.need (A2 (a8 s)) (.ret (.s (.sl false false 1 (D5 (C3 s)))) [])
 | _=>.fail
def QP(args:List PV):Tr:=FF (C5 [[0]] args)
def Rm:List PV->Tr
 | [.s (.str s)]=>.need (A2 (a8 s)) (.ret (.s (.bool (E4 s))) [])
 | _=>.fail
def Pn(args:List PV):Tr:=Rm (C5 [[0]] args)
def QT:List PV->Tr
 | [.s (.str s)]=>.need (A2 (a8 s)) (.ret (.tup [.s (.int .u32 (↑(N1 (pnB s)):Int)),.s (.bool (j5 (pnB s)))]) [])
 | _=>.fail
def B31(args:List PV):Tr:=QT (C5 [[0]] args)
def Ao1:List PV->Tr
 | [.s (.str s)]=>.need (A2 (a8 s)) (.ret (.tup [.s (.int .u32 (↑(N1 (v4B s)):Int)),.s (.bool (j5 (v4B s)))]) [])
 | _=>.fail
def C64(args:List PV):Tr:=Ao1 (C5 [[0]] args)
def Ao0:List PV->Tr
 | [.s (.int .u32 v)]=>.need (ltN v 4294967296) (.ret (.s (.str (Z6 (b9 v)))) [])
 | _=>.fail
def C63(args:List PV):Tr:=Ao0 (C5 [[0]] args)
def Rn:List PV->Tr
 | [.s (.str s)]=>.need (A2 (a8 s)) (.ret (.s (.bool ((not (j8 s))&&(j5 (E8 10 0 s))))) [])
 | _=>.fail
def LZ(args:List PV):Tr:=Rn (C5 [[0]] args)
def RC:List PV->Tr
 | [.s (.str s)]=>.need (A2 (a8 s)) (.ret (.s (.str (B3 s))) [])
 | _=>.fail
def An3(args:List PV):Tr:=RC (C5 [[0]] args)
def Yf:List PV->Tr
 | [.s (.str s),.s (.int .u8 c)]=>.need (A2 (a8 s)) (.need (inR c 256) (.ret (.s (.sl false false 1 (D5 (pcs (u8n c) s)))) []))
 | _=>.fail
def Nr(args:List PV):Tr:=Yf (C5 [[0],[0]] args)
def Al8:List PV->Tr
 | [.s (.int .i64 n)]=>.need (ltN n 4294967296) (.ret (.s (.str (j7 (b9 n)))) [])
 | _=>.fail
def LY(args:List PV):Tr:=Al8 (C5 [[0]] args)
def QY:List PV->Tr
 | [.s (.int .u8 b)]=>.need (inR b 256) (.ret (.s (.int .i64 (↑(dig (u8n b)):Int))) [])
 | _=>.fail
def B33(args:List PV):Tr:=QY (C5 [[0]] args)
def RD:List PV->Tr
 | [.s (.str s)]=>.need (A2 (a8 s)) (.ret (.tup [.s (.int .i64 (↑(N1 (Y8 s)):Int)),.s (.bool (j5 (Y8 s)))]) [])
 | _=>.fail
def An4(args:List PV):Tr:=RD (C5 [[0]] args)
def Yd:List PV->Tr
 | [.s (.str s)]=>.need (A2 (a8 s)) (.ret (.s (.sl false false 1 (D5 (C3 s)))) [])
 | _=>.fail
def FO(args:List PV):Tr:=Yd (C5 [[0]] args)
def Nq:List PV->Tr
 | [.s (.str s)]=>.need (A2 (a8 s)) (.ret (.s (.bool (E4 s))) [])
 | _=>.fail
def FN(args:List PV):Tr:=Nq (C5 [[0]] args)
def FQ:List PV->Tr
 | [.s (.str s)]=>.need (A2 (a8 s)) (.ret (.tup [.s (.int .u32 (↑(N1 (pnB s)):Int)),.s (.bool (j5 (pnB s)))]) [])
 | _=>.fail
def Be0(args:List PV):Tr:=FQ (C5 [[0]] args)
def QX:List PV->Tr
 | [.s (.str s)]=>.need (A2 (a8 s)) (.ret (.tup [.s (.int .i64 (↑(N1 (oct s)):Int)),.s (.bool (j5 (oct s)))]) [])
 | _=>.fail
def B32(args:List PV):Tr:=QX (C5 [[0]] args)
def RH:List PV->Tr
 | [.s (.str s)]=>.need (A2 (a8 s)) (.ret (.tup [.s (.int .u32 (↑(N1 (v4B s)):Int)),.s (.bool (j5 (v4B s)))]) [])
 | _=>.fail
def B36(args:List PV):Tr:=RH (C5 [[0]] args)
def PO:List PV->Tr
 | [.s (.str s)]=>.need (A2 (a8 s)) (.ret (.tup [.s (.int .u16 (↑(N1 (grp s)):Int)),.s (.bool (j5 (grp s)))]) [])
 | _=>.fail
def B21(args:List PV):Tr:=PO (C5 [[0]] args)
def EQ:List PV->Tr
 | [.s (.str s),.s (.bool last)]=>.need (A2 (a8 s)) (.ret (.tup [.s (.sl (j8 (gvs s last)) (j8 (gvs s last)) 1 (D7 (gvs s last))),.s (.bool (j5 (O7 s last)))]) [])
 | _=>.fail
def Bc8(args:List PV):Tr:=EQ (C5 [[0],[0]] args)
def Ao4:List PV->Tr
 | [.s (.str s)]=>.need (A2 (a8 s)) (.ret (.tup [.agg [.s (.int .u16 (↑(v6c 0 s):Int)),.s (.int .u16 (↑(v6c 1 s):Int)),.s (.int .u16 (↑(v6c 2 s):Int)),.s (.int .u16 (↑(v6c 3 s):Int)),.s (.int .u16 (↑(v6c 4 s):Int)),.s (.int .u16 (↑(v6c 5 s):Int)),.s (.int .u16 (↑(v6c 6 s):Int)),.s (.int .u16 (↑(v6c 7 s):Int))],.s (.bool (j5 (v6B s)))]) [])
 | _=>.fail
def C67(args:List PV):Tr:=Ao4 (C5 [[0]] args)
def GH:List PV->Tr
 | [.agg [.s (.int .u16 a),.s (.int .u16 b),.s (.int .u16 c),.s (.int .u16 d),.s (.int .u16 e),.s (.int .u16 f),.s (.int .u16 g),.s (.int .u16 h)]]=>.need (ok8 a b c d e f g h) (.ret (.tup [.s (.int .i64 (↑((zGo (n8 a b c d e f g h) 0 0 0)).1:Int)),.s (.int .i64 (↑((zGo (n8 a b c d e f g h) 0 0 0)).2:Int))]) [])
 | _=>.fail
def Bf1(args:List PV):Tr:=GH (C5 [[0,0,0,0,0,0,0,0]] args)
def B40:List PV->Tr
 | [.s (.int .u64 x)]=>.need (x==(16:Int)) (.ret (.s (.int .i64 (4:Int))) [])
 | _=>.fail
def C84(args:List PV):Tr:=B40 (C5 [[0]] args)
def EU:List PV->Tr
 | [.s (.int .i64 x)]=>.need (x==(16:Int)) (.ret (.s (.bool true)) [])
 | _=>.fail
def QB(args:List PV):Tr:=EU (C5 [[0]] args)
def EP:List PV->Tr
 | [.s (.sl c a 0 ds),.s (.int .u64 v),.s (.int .i64 b),.s (.bool neg),.s (.bool app)]=>.need (ltN v 65536) (.need (b==(16:Int)) (.need (not neg) (.need (not app) (.ret (.tup [.s (.sl true true 1 List.nil),.s (.str (U7 (b9 v)))]) []))))
 | _=>.fail
def PM(args:List PV):Tr:=EP (C5 [[0],[0],[0],[0],[0]] args)
def ET:List PV->Tr
 | [.s (.int .u64 v),.s (.int .i64 b)]=>.need (ltN v 65536) (.need (b==(16:Int)) (.ret (.s (.str (U7 (b9 v)))) []))
 | _=>.fail
def QA(args:List PV):Tr:=ET (C5 [[0],[0]] args)
def PN:List PV->Tr
 | [.s (.int .u64 v),.s (.int .i64 b)]=>.need (ltN v 65536) (.need (b==(16:Int)) (.ret (.s (.str (U7 (b9 v)))) []))
 | _=>.fail
def B20(args:List PV):Tr:=PN (C5 [[0],[0]] args)
def GB:List PV->Tr
 | [.s (.sl b a 1 l),.s (.str p)]=>.need (x7 l isS) (.need (A2 (a8 (ad0 (w6 elS l) p))) (.need (A2 (a8 l)) (.ret (.s (.str (ad0 (w6 elS l) p))) [])))
 | _=>.fail
def RQ(args:List PV):Tr:=GB (C5 [[1],[0]] args)
def RM:List PV->Tr
 | [.s (.str s),.s (.str p)]=>.need (A2 (a8 s)) (.ret (.tup [.s (.str ((x5 s p)).1),.s (.str (((x5 s p)).2).1),.s (.bool (((x5 s p)).2).2)]) [])
 | _=>.fail
def An7(args:List PV):Tr:=RM (C5 [[0],[0]] args)
def Ao3:List PV->Tr
 | [.s (.sl b a 1 l)]=>.need (x7 l Vo) (.need (x3 (a8 l) 8) (.ret (.s (.str (N8 (w6 elN l)))) []))
 | _=>.fail
def C66(args:List PV):Tr:=Ao3 (C5 [[1]] args)
def Ao2:List PV->Tr
 | [.agg [.s (.int .u16 a),.s (.int .u16 b),.s (.int .u16 c),.s (.int .u16 d),.s (.int .u16 e),.s (.int .u16 f),.s (.int .u16 g),.s (.int .u16 h)]]=>.need (ok8 a b c d e f g h) (.ret (.s (.str (Co (n8 a b c d e f g h)))) [])
 | _=>.fail
def C65(args:List PV):Tr:=Ao2 (C5 [[0,0,0,0,0,0,0,0]] args)
def RA:List PV->Tr
 | [.s (.str s)]=>.need (A2 (a8 s)) (.ret (.tup [.s (.int .u16 (↑(N1 (grp s)):Int)),.s (.bool (j5 (grp s)))]) [])
 | _=>.fail
def B34(args:List PV):Tr:=RA (C5 [[0]] args)
def FJ:List PV->Tr
 | [.s (.str s),.s (.bool last)]=>.need (A2 (a8 s)) (.ret (.tup [.s (.sl (j8 (gvs s last)) (j8 (gvs s last)) 1 (D7 (gvs s last))),.s (.bool (j5 (O7 s last)))]) [])
 | _=>.fail
def Bd5(args:List PV):Tr:=FJ (C5 [[0],[0]] args)
def Ro:List PV->Tr
 | [.s (.str s)]=>.need (A2 (a8 s)) (.ret (.s (.int .i64 (HJ s))) [])
 | _=>.fail
def MA(args:List PV):Tr:=Ro (C5 [[0]] args)
def RJ:List PV->Tr
 | [.s (.str s)]=>.need (A2 (a8 s)) (.ret (.tup [.agg [.s (.int .u16 (↑(v6c 0 s):Int)),.s (.int .u16 (↑(v6c 1 s):Int)),.s (.int .u16 (↑(v6c 2 s):Int)),.s (.int .u16 (↑(v6c 3 s):Int)),.s (.int .u16 (↑(v6c 4 s):Int)),.s (.int .u16 (↑(v6c 5 s):Int)),.s (.int .u16 (↑(v6c 6 s):Int)),.s (.int .u16 (↑(v6c 7 s):Int))],.s (.bool (j5 (v6B s)))]) [])
 | _=>.fail
def B37(args:List PV):Tr:=RJ (C5 [[0]] args)
def Yb:List PV->Tr
 | [.s (.int .i64 n)]=>.ret (.s (.bool (ptI n))) []
 | _=>.fail
def Np(args:List PV):Tr:=Yb (C5 [[0]] args)
def Ya:List PV->Tr
 | [.s (.int .i64 d),.s (.int .i64 c),.s (.bool f)]=>.need (ltN d 1152921504606846976) (.need (ltN c 1000000) (.need (ltI (0:Int) c) (.ret (.s (.int .i64 (↑(Q3 (b9 d) (b9 c) f):Int))) [])))
 | _=>.fail
def No(args:List PV):Tr:=Ya (C5 [[0],[0],[0]] args)
def QR:List PV->Tr
 | [.s (.int .i64 d)]=>.need (ltN d 36) (.ret (.s (.int .u8 (↑(ai3 (Aj (b9 d))):Int))) [])
 | _=>.fail
def Am8(args:List PV):Tr:=QR (C5 [[0]] args)
def QW:List PV->Tr
 | [.s (.int .u8 b)]=>.need (inR b 256) (.ret (.s (.int .i64 (D9 (u8n b)))) [])
 | _=>.fail
def An0(args:List PV):Tr:=QW (C5 [[0]] args)
def QU:List PV->Tr
 | [.s (.int .i64 b)]=>.ret (.fnr (aa1 188) [] [.ptr 1 0 0,.ptr 0 0 0]) [.box [.s (.int .i64 b)],.box [.s (.int .i64 (0:Int))]]
 | _=>.fail
def FG(args:List PV):Tr:=QU (C5 [[0]] args)
def Pp:List PV->List Blk->Tr
 | [.ptr 0 0 0,.ptr 1 0 0],[.box [.s (.int .i64 k)],.box [.s (.int .i64 b)]]=>.need (ltN k 1000000000000) (.need (ltN b 1000000) (.ret (.s (.int .i64 (K9 k b))) [.box [.s (.int .i64 (Int.add k (36:Int)))],.box [.s (.int .i64 b)]]))
 | _,_=>.fail
def QO:List PV->List Blk->Tr
 | [.fl 0,.s (.int .i64 q),.s (.int .i64 b)],[.arr z 5 1 l]=>.need (ltN q 1152921504606846976) (.need (ltN b 1000000) (.need (x3 (a8 l) 100000) (.ret (.fl 0) [.arr z 5 1 (List.append l (w6 D8 (P4 (b9 q) 0 (b9 b))))])))
 | _,_=>.fail
def QS:List PV->Tr
 | [.s (.sl b a 1 p)]=>.need (x7 p Na) (.ret (.tup [.s (.str ((W4 (w6 elI p))).1),.s (.int .i64 (↑((W4 (w6 elI p))).2:Int))]) [])
 | _=>.fail
def Am9(args:List PV):Tr:=QS (C5 [[1]] args)
def RP:List PV->List Blk->Tr
 | [.fl 0,.s (.int .i64 i),.fl 1],[.arr z 3 1 l,.arr false 3 1 [[.int .i64 n]]]=>.need (ltN i (Nat.add (a8 l) 1)) (.need (x3 (a8 l) 100000) (.ret (.fl 0) [.arr z 3 1 (Ln l (b9 i) n),.arr false 3 1 [[.int .i64 n]]]))
 | _,_=>.fail
def PL:List PV->List Blk->Tr
 | [.ptr 0 0 0],[.box [.s (.str a),.fl 1,.s (.int .i64 n),.s (.int .i64 i),.s (.int .i64 b),.s (.bool c)],.arr z 3 1 l]=>.need (A2 (a8 a)) (.need (ltN b 1000000) (.need (ltN i 1099511627777) (.ret (.s (.int .i64 (IV b a i))) [.box [.s (.str (IX b a i)),.fl 1,.s (.int .i64 n),.s (.int .i64 (Sw b a i)),.s (.int .i64 b),.s (.bool c)],.arr z 3 1 l])))
 | _,_=>.fail
def DJ:List PV->List Blk->Tr
 | [.ptr 0 0 0],[.box [.s (.str a),.fl 1,.s (.int .i64 n),.s (.int .i64 i),.s (.int .i64 b),.s (.bool c)],.arr z 3 1 l]=>.need (A2 (a8 a)) (.need (ltN b 1000000) (.need (ltN i 1099511627777) (.need (ltN n 1152921504606846976) (.need (x3 (a8 l) 100000) (.ret (.s (.int .i64 ((F2 (DS.mk a n i b c l))).1)) [.box [.s (.str (DS.rest ((F2 (DS.mk a n i b c l))).2)),.fl 1,.s (.int .i64 (DS.n ((F2 (DS.mk a n i b c l))).2)),.s (.int .i64 (DS.i ((F2 (DS.mk a n i b c l))).2)),.s (.int .i64 (DS.b ((F2 (DS.mk a n i b c l))).2)),.s (.bool (DS.st ((F2 (DS.mk a n i b c l))).2))],.arr z 3 1 (DS.l ((F2 (DS.mk a n i b c l))).2)])))))
 | _,_=>.fail
def Xy:List PV->Tr
 | [.s (.str s),.s (.int .u8 c)]=>.need (A2 (a8 s)) (.need (inR c 256) (.ret (.s (.int .i64 (K3 (u8n c) s))) []))
 | _=>.fail
def XN(args:List PV):Tr:=Xy (C5 [[0],[0]] args)
def EW:List PV->Tr
 | [.s (.str s),.s (.int .u8 c)]=>.need (A2 (a8 s)) (.need (inR c 256) (.ret (.s (.int .i64 (K3 (u8n c) s))) []))
 | _=>.fail
def DK(args:List PV):Tr:=EW (C5 [[0],[0]] args)
def QQ:List PV->Tr
 | [.s (.str s)]=>.need (A2 (a8 s)) (.ret (.tup [.s (.sl (j8 ((N6 s)).1) (j8 ((N6 s)).1) 1 (Lt ((N6 s)).1)),.s (.int .i64 (↑((N6 s)).2:Int))]) [])
 | _=>.fail
def B30(args:List PV):Tr:=QQ (C5 [[0]] args)
def XK:List PV->Tr
 | [.s (.str t)]=>.fail
 | _=>.fail
def Tz(args:List PV):Tr:=XK (C5 [[0]] args)
def EZ:List PV->Tr
 | [.s (.str t),.s (.str p),.s (.int .i64 n)]=>.ret (.fnr (aa1 152) [] [.ptr 1 0 0,.ptr 0 0 0,.ptr 2 0 0]) [.box [.s (.str t)],.box [.s (.str p)],.box [.s (.int .i64 n)]]
 | _=>.fail
def QJ(args:List PV):Tr:=EZ (C5 [[0],[0],[0]] args)
def RR:List PV->Tr
 | [.s (.str t),.s (.str p)]=>.ret (.fnr (aa1 152) [] [.ptr 1 0 0,.ptr 0 0 0,.ptr 2 0 0]) [.box [.s (.str t)],.box [.s (.str p)],.box [.s (.int .i64 (0:Int))]]
 | _=>.fail
def An8(args:List PV):Tr:=RR (C5 [[0],[0]] args)
def DM:List PV->List Blk->Option (Bool × List (List PV))
 | [.yd,.ptr 0 0 0,.ptr 1 0 0,.ptr 2 0 0],[.box [.s (.str p)],.box [.s (.str t)],.box [.s (.int .i64 n)]]=>some (((A2 (a8 t))&&(((a8 p)==1)&&(n==(0:Int)))),w6 (λ(x:By)=>([.s (.str x)]:List PV)) (pcs (b8 p 0 0) t))
 | _,_=>none
def Ye:List PV->Tr
 | [.s (.int .i64 n)]=>.ret (.s (.bool (ptI n))) []
 | _=>.fail
def Ua(args:List PV):Tr:=Ye (C5 [[0]] args)
def Yc:List PV->Tr
 | [.s (.int .i64 d),.s (.int .i64 c),.s (.bool f)]=>.need (ltN d 1152921504606846976) (.need (ltN c 1000000) (.need (ltI (0:Int) c) (.ret (.s (.int .i64 (↑(Q3 (b9 d) (b9 c) f):Int))) [])))
 | _=>.fail
def FH(args:List PV):Tr:=Yc (C5 [[0],[0],[0]] args)
def RF:List PV->Tr
 | [.s (.int .i64 k),.s (.int .i64 b)]=>.need (ltN k 10000000000) (.need (ltN b 1000000) (.ret (.s (.int .i64 (K9 (Int.mul (36:Int) k) b))) []))
 | _=>.fail
def An5(args:List PV):Tr:=RF (C5 [[0],[0]] args)
def FI:List PV->Tr
 | [.s (.int .i64 d)]=>.need (ltN d 36) (.ret (.s (.int .u8 (↑(ai3 (Aj (b9 d))):Int))) [])
 | _=>.fail
def Bd4(args:List PV):Tr:=FI (C5 [[0]] args)
def RK:List PV->Tr
 | [.s (.int .u8 b)]=>.need (inR b 256) (.ret (.s (.int .i64 (D9 (u8n b)))) [])
 | _=>.fail
def B38(args:List PV):Tr:=RK (C5 [[0]] args)
def QZ:List PV->Tr
 | [.s (.sl b a 1 p)]=>.need (x7 p Na) (.ret (.tup [.s (.str ((W4 (w6 elI p))).1),.s (.int .i64 (↑((W4 (w6 elI p))).2:Int))]) [])
 | _=>.fail
def An1(args:List PV):Tr:=QZ (C5 [[1]] args)
def FP:List PV->Tr
 | [.s (.str s)]=>.need (A2 (a8 s)) (.ret (.tup [.s (.sl (j8 ((N6 s)).1) (j8 ((N6 s)).1) 1 (Lt ((N6 s)).1)),.s (.int .i64 (↑((N6 s)).2:Int))]) [])
 | _=>.fail
def Bd9(args:List PV):Tr:=FP (C5 [[0]] args)
def EY:List PV->Tr
 | [.s (.str s)]=>.need (A2 (a8 s)) (.ret (.s (.bool (Dt s))) [])
 | _=>.fail
def Bd1(args:List PV):Tr:=EY (C5 [[0]] args)
def QM:List PV->Tr
 | [.s (.str s)]=>.need (A2 (a8 s)) (.ret (.s (.bool (J5 s))) [])
 | _=>.fail
def QL(args:List PV):Tr:=QM (C5 [[0]] args)
def Yn:List PV->Tr
 | [.s (.str s)]=>.need (A2 (a8 s)) (.ret (.s (.bool (j5 (Ck s)))) [])
 | _=>.fail
def XT(args:List PV):Tr:=Yn (C5 [[0]] args)
def Yl:List PV->Tr
 | [.s (.str s)]=>.need (A2 (a8 s)) (.ret (.s (.int .i64 (↑(Lib.runeCountL s):Int))) [])
 | _=>.fail
def XR(args:List PV):Tr:=Yl (C5 [[0]] args)
def QE:List PV->Tr
 | [.s (.str s)]=>.need (A2 (a8 s)) (.ret (.tup [.s (.str ((H5 s)).1),.s (.int .i64 (↑((H5 s)).2:Int))]) [])
 | _=>.fail
def B27(args:List PV):Tr:=QE (C5 [[0]] args)
def RE:List PV->Tr
 | [.s (.str s)]=>.need (A2 (a8 s)) (.ret (.tup [.s (.sl (j8 (Qu s)) (j8 (Qu s)) 1 (Lt (Qu s))),.s (.bool (j5 (Ck s)))]) [])
 | _=>.fail
def B35(args:List PV):Tr:=RE (C5 [[0]] args)
def FR:List PV->Tr
 | [.s (.str s)]=>.need (A2 (a8 s)) (.ret (.s (.bool (Dt s))) [])
 | _=>.fail
def Be1(args:List PV):Tr:=FR (C5 [[0]] args)
def FM:List PV->Tr
 | [.s (.str s)]=>.need (A2 (a8 s)) (.ret (.s (.bool (J5 s))) [])
 | _=>.fail
def Bd8(args:List PV):Tr:=FM (C5 [[0]] args)
def FL:List PV->Tr
 | [.s (.str s)]=>.need (A2 (a8 s)) (.ret (.tup [.s (.str ((H5 s)).1),.s (.int .i64 (↑((H5 s)).2:Int))]) [])
 | _=>.fail
def Bd7(args:List PV):Tr:=FL (C5 [[0]] args)
def PS:List PV->Tr
 | [.s (.int .u8 b)]=>.need (inR b 256) (.ret (.s (.int .i64 (Ex (u8n b)))) [])
 | _=>.fail
def B24(args:List PV):Tr:=PS (C5 [[0]] args)
def PQ:List PV->Tr
 | [.s (.str s)]=>.need (A2 (a8 s)) (.ret (.tup [.s (.str (Fe s)),.s (.bool (j5 (Q5 s)))]) [])
 | _=>.fail
def B23(args:List PV):Tr:=PQ (C5 [[0]] args)
def ER:List PV->Tr
 | [.s (.str s)]=>.need (A2 (a8 s)) (.need (B93 s) (.ret (.tup [.agg [.s (.int .i64 (↑(B2.kind ((P8 s)).1):Int)),.s (.str (B2.name ((P8 s)).1)),.s (.int .u32 (↑(B2.v4 ((P8 s)).1):Int)),.s (.int .u16 (↑(b8 (B2.v6 ((P8 s)).1) 0 0):Int)),.s (.int .u16 (↑(b8 (B2.v6 ((P8 s)).1) 1 0):Int)),.s (.int .u16 (↑(b8 (B2.v6 ((P8 s)).1) 2 0):Int)),.s (.int .u16 (↑(b8 (B2.v6 ((P8 s)).1) 3 0):Int)),.s (.int .u16 (↑(b8 (B2.v6 ((P8 s)).1) 4 0):Int)),.s (.int .u16 (↑(b8 (B2.v6 ((P8 s)).1) 5 0):Int)),.s (.int .u16 (↑(b8 (B2.v6 ((P8 s)).1) 6 0):Int)),.s (.int .u16 (↑(b8 (B2.v6 ((P8 s)).1) 7 0):Int))],.s (.int .i64 (↑((P8 s)).2:Int))]) []))
 | _=>.fail
def Bc9(args:List PV):Tr:=ER (C5 [[0]] args)
def Xx:List PV->Tr
 | [.s (.str s)]=>.need (A2 (a8 s)) (.ret (.tup [.agg [.s (.int .i64 (↑(B2.kind ((B9 s)).1):Int)),.s (.str (B2.name ((B9 s)).1)),.s (.int .u32 (↑(B2.v4 ((B9 s)).1):Int)),.s (.int .u16 (↑(b8 (B2.v6 ((B9 s)).1) 0 0):Int)),.s (.int .u16 (↑(b8 (B2.v6 ((B9 s)).1) 1 0):Int)),.s (.int .u16 (↑(b8 (B2.v6 ((B9 s)).1) 2 0):Int)),.s (.int .u16 (↑(b8 (B2.v6 ((B9 s)).1) 3 0):Int)),.s (.int .u16 (↑(b8 (B2.v6 ((B9 s)).1) 4 0):Int)),.s (.int .u16 (↑(b8 (B2.v6 ((B9 s)).1) 5 0):Int)),.s (.int .u16 (↑(b8 (B2.v6 ((B9 s)).1) 6 0):Int)),.s (.int .u16 (↑(b8 (B2.v6 ((B9 s)).1) 7 0):Int))],.s (.int .i64 (↑((B9 s)).2:Int))]) [])
 | _=>.fail
def XM(args:List PV):Tr:=Xx (C5 [[0]] args)
def Am1:List PV->Tr
 | [.s (.str s)]=>.need (A2 (a8 s)) (.ret (.s (.bool (Cg s))) [])
 | _=>.fail
def B26(args:List PV):Tr:=Am1 (C5 [[0]] args)
def PZ:List PV->Tr
 | [.agg [.s (.int .i64 j),.s (.str i),.s (.int .u32 v4),.s (.int .u16 a),.s (.int .u16 b),.s (.int .u16 c),.s (.int .u16 d),.s (.int .u16 e),.s (.int .u16 f),.s (.int .u16 g),.s (.int .u16 h)]]=>.need (A2 (a8 i)) (.need (ltN v4 4294967296) (.need (ok8 a b c d e f g h) (.ret (.s (.bool (L7 (mkH j i v4 (n8 a b c d e f g h))))) [])))
 | _=>.fail
def PY(args:List PV):Tr:=PZ (C5 [[0,0,0,0,0,0,0,0,0,0,0]] args)
def PU:List PV->Tr
 | [.agg [.s (.int .i64 j),.s (.str i),.s (.int .u32 v4),.s (.int .u16 a),.s (.int .u16 b),.s (.int .u16 c),.s (.int .u16 d),.s (.int .u16 e),.s (.int .u16 f),.s (.int .u16 g),.s (.int .u16 h)]]=>.need (A2 (a8 i)) (.need (ltN v4 4294967296) (.need (ok8 a b c d e f g h) (.ret (.s (.str (T5 (mkH j i v4 (n8 a b c d e f g h))))) [])))
 | _=>.fail
def Am0(args:List PV):Tr:=PU (C5 [[0,0,0,0,0,0,0,0,0,0,0]] args)
def PP:List PV->Tr
 | [.s (.str p),.s (.str s)]=>.need (A2 (a8 p)) (.need (A2 (a8 s)) (.ret (.s (.bool (Lg p s))) []))
 | _=>.fail
def B22(args:List PV):Tr:=PP (C5 [[0],[0]] args)
def An2:List PV->Tr
 | [.s (.int .u8 b)]=>.need (inR b 256) (.ret (.s (.int .i64 (Ex (u8n b)))) [])
 | _=>.fail
def C62(args:List PV):Tr:=An2 (C5 [[0]] args)
def FK:List PV->Tr
 | [.s (.str s)]=>.need (A2 (a8 s)) (.ret (.tup [.s (.str (Fe s)),.s (.bool (j5 (Q5 s)))]) [])
 | _=>.fail
def Bd6(args:List PV):Tr:=FK (C5 [[0]] args)
def Rp:List PV->Tr
 | [.s (.str s)]=>.need (A2 (a8 s)) (.ret (.tup [.agg [.s (.int .i64 (↑(B2.kind ((B9 s)).1):Int)),.s (.str (B2.name ((B9 s)).1)),.s (.int .u32 (↑(B2.v4 ((B9 s)).1):Int)),.s (.int .u16 (↑(b8 (B2.v6 ((B9 s)).1) 0 0):Int)),.s (.int .u16 (↑(b8 (B2.v6 ((B9 s)).1) 1 0):Int)),.s (.int .u16 (↑(b8 (B2.v6 ((B9 s)).1) 2 0):Int)),.s (.int .u16 (↑(b8 (B2.v6 ((B9 s)).1) 3 0):Int)),.s (.int .u16 (↑(b8 (B2.v6 ((B9 s)).1) 4 0):Int)),.s (.int .u16 (↑(b8 (B2.v6 ((B9 s)).1) 5 0):Int)),.s (.int .u16 (↑(b8 (B2.v6 ((B9 s)).1) 6 0):Int)),.s (.int .u16 (↑(b8 (B2.v6 ((B9 s)).1) 7 0):Int))],.s (.int .i64 (↑((B9 s)).2:Int))]) [])
 | _=>.fail
def MB(args:List PV):Tr:=Rp (C5 [[0]] args)
end
section
variable {Z R : Type} (Y : Nat) (W : G0) (Q : Yh Z) (s : Z) (k : Out -> St Z -> Option R)
noncomputable def SU(Y:Nat):Cfg:=B6 Y [125] (A3 []) [] (A3 [(1,[6]),(0,[3,0,0])]) [] (A3 []) (some [6]) [] [] []
noncomputable def Ca2{R:Type}(Y:Nat)(d b:By)(a:Int)(c:By->By->Int->Option R):Option R:=c d b a
theorem Ca3(d:Nat)(a sep1 sepSave2):evC (SU Y) (d+1) Z Q 125 [pS a,pS sep1,pI sepSave2] [] s=Ca2 Y a sep1 sepSave2 (λa c b=>some (.fnr (aa1 152) [] [.ptr 1 0 0,.ptr 0 0 0,.ptr 2 0 0],[.box [pS a],.box [pS c],.box [pI b]],s)):=by refine(evE (fn:=Tryz.f125) (by kernel_rfl)).trans ?_;generalize evC (SU Y) d=W;unfold Ca2;kernel_rfl
noncomputable def Ar1(Y:Nat):Cfg:=B6 Y [91] (A3 []) [(125,QJ)] (A3 [(1,[4]),(0,[0,0])]) [] (A3 []) (some [4]) [] [] []
noncomputable def Dc9{R:Type}(Y:Nat)(c a:By)(b:By->By->Option R):Option R:=b c a
theorem C06(d:Nat)(a sep1):evC (Ar1 Y) (d+1) Z Q 91 [pS a,pS sep1] [] s=Dc9 Y a sep1 (λa b=>some (.fnr (aa1 152) [] [.ptr 1 0 0,.ptr 0 0 0,.ptr 2 0 0],[.box [pS a],.box [pS b],.box [pI (0:Int)]],s)):=by refine(evE (fn:=Tryz.f91) (by kernel_rfl)).trans ?_;generalize evC (Ar1 Y) d=W;unfold Dc9;kernel_rfl
noncomputable abbrev MJ:Code:=C8 af8
noncomputable def Ob(Y:Nat):Cfg:=B6 Y [64] (A3 []) [(90,Pn),(91,An8),(92,QL)] (A3 [(7,[2]),(6,[2]),(5,[2,13]),(4,[2,0]),(3,[2,9]),(2,[2]),(1,[0,1,7]),(0,[0,1])]) [90,92] (A3 [(0,[2]),(1,[2])]) (some [2]) [] [(152,DM)] []
noncomputable def DT{R:Type}(Y:Nat)(a:By)(xs:List By)(self:Unit->Option R)(c:Unit->Option R)(b:Unit->Option R):Option R:=cond (A2 a.length) (cond (not (J5 a)) (b ()) (self ())) none
noncomputable def ID{R:Type}(Y:Nat)(L:List By)(b:Unit->Option R)(c:Unit->Option R):Option R:=Dk0 (α:=Unit->Option R) (λ_=>b ()) (λa xs self _=>DT Y a xs self  b c) L ()
theorem ZQ{R:Type}(Y:Nat)(a:By)(xs:List By)(b:Unit->Option R)(c:Unit->Option R):ID Y (a::xs)  b c=DT Y a xs (λ_=>ID Y xs  b c)  b c:=rfl
theorem Bp3(L:List By):Aq #[13] (gp [(2,.ptr 0 0 0),(9,.fnr (aa1 152) [] [.bad,.bad,.bad])] 4) (bd (Ob Y) W Q (cd [1,1,0,1,0,0] MJ)) (bd (Ob Y) W Q (cd [1,1,0,1,0,1] MJ)) (L.map (λ(a:By)=>([pS a]:List PV))) [.box [pB false],.dead,.dead,.dead] s (rgK (gp [(2,.ptr 0 0 0),(9,.fnr (aa1 152) [] [.bad,.bad,.bad])] 4) (λH=>Ay H [2,1,3] [.box [.bad],.box [.bad],.box [.bad]]) k) =
 ID Y L  (λ_=>k .normal ⟨gp [(2,.ptr 0 0 0),(9,.fnr (aa1 152) [] [.bad,.bad,.bad])] 4,[.box [pB false],.box [.bad],.box [.bad],.box [.bad]],s⟩) (λ_=>k .ret ⟨gp [(2,.ptr 0 0 0),(9,.fnr (aa1 152) [] [.bad,.bad,.bad])] 4,[.box [pB false],.box [.bad],.box [.bad],.box [.bad]],s⟩):=by
 induction L with
 | nil=>rfl
 | cons a xs b=>rw[ZQ];unfold DT;exact(j1 (by kernel_rfl) (A0 (A0 rfl b) rfl))
noncomputable def TW{R:Type}(Y:Nat)(a:By)(b:Unit->Option R)(c:Unit->Option R):Option R:=cond ((A2 a.length)&&((1==1)&&((0:Int)==0))) (ID Y (pcs (b8 ([46]:List UInt8) 0 0) a)  b c) none
abbrev ZP(b:Code):Prop:=∀(k:Out->St Z->Option R) s0,A9 (Ob Y) W Q b ⟨gp [(2,.ptr 0 0 0),(9,.fnr (aa1 152) [] [.ptr 2 0 0,.ptr 1 0 0,.ptr 3 0 0])] 4,[.box [pB false],.box [pS s0],.box [pS ([46]:List UInt8)],.box [pI (0:Int)]],s⟩ k=TW Y s0 (λ_=>k .normal ⟨gp [(2,.ptr 0 0 0),(9,.fnr (aa1 152) [] [.bad,.bad,.bad])] 4,[.box [pB false],.box [.bad],.box [.bad],.box [.bad]],s⟩) (λ_=>k .ret ⟨gp [(2,.ptr 0 0 0),(9,.fnr (aa1 152) [] [.bad,.bad,.bad])] 4,[.box [pB false],.box [.bad],.box [.bad],.box [.bad]],s⟩)
theorem Bp2:ZP (R:=R) Y W Q s (cd [1,1,0,1,0] MJ):=by intro k a;unfold TW;exact((Di8 [1,1,0,1,0] (by kernel_rfl)).trans (by kernel_rfl)).trans (Ax3 (Bp3 Y W Q s k (pcs (b8 ([46]:List UInt8) 0 0) a) ))
noncomputable def hvn{R:Type}(Y:Nat)(a:By)(b:Unit->Option R)(c:Bool->Bool->Option R):Option R:=cond (ltI 253 (a.length:Int)) (b ()) (cond (A2 a.length) (cond (E4 a) (b ()) (TW Y a (λ_=>c true true) (λ_=>c false false))) none)
theorem Da1(a:Code)(c:ZP (R:=PV × List Blk × Z) Y W Q s a)(b:By):A9 (Ob Y) W Q (cd [] (G3 [1,1,0,1,0] a MJ)) ⟨[pS b]++tps 16,[],s⟩ (F7 (Ob Y) af8)=hvn Y b (λ_=>some (pB false,[.box [pB false]],s)) (λe d=>some (pB e,[.box [pB d],.box [.bad],.box [.bad],.box [.bad]],s)):=by unfold hvn;exact(j1 (by kernel_rfl) (A0 rfl (A0 (A0 rfl ((c (E6 0 (E5 (Ob Y) W Q (cd [1,1,1] MJ) (F7 (Ob Y) af8))) b).trans (by kernel_rfl))) rfl)))
theorem Da2(d:Nat)(name0):evC (Ob Y) (d+1) Z Q 64 [pS name0] [] s=hvn Y name0 (λ_=>some (pB false,[.box [pB false]],s)) (λb a=>some (pB b,[.box [pB a],.box [.bad],.box [.bad],.box [.bad]],s)):=
 (evE (fn:=af8) (by kernel_rfl)).trans (j1 (by kernel_rfl) (Da1 Y (evC (Ob Y) d) Q s (cd [1,1,0,1,0] MJ) (Bp2 Y (evC (Ob Y) d) Q s) name0))
noncomputable abbrev Uj:Code:=C8 ae6
noncomputable def An(Y:Nat):Cfg:=B6 Y [152] (A3 [(5,[0,0,0,0]),(1,[0,1])]) [(153,Tz),(154,FY)] (A3 [(10,[]),(9,[0,0,0,0]),(8,[0,0,0,0,3,34]),(7,[0,0,0,0,3,0]),(6,[0,0,0,0,3,25]),(5,[0,0,0,0,3]),(4,[0,1]),(3,[0,1,3,18]),(2,[0,1,3]),(1,[0,1,11]),(0,[0,0,0,0,7])]) [154] (A3 [(2,[0,1]),(3,[0,0,0,0]),(0,[]),(1,[0,1])]) (some []) [] [] []
noncomputable def KH{Z R:Type}(Q:Yh Z)(Y n:Nat)(d a:By)(c:Int)(s:Z)(b:By->By->Int->Z->Option R):Option R:=match n with|0=>none|n+1=>cond (ltI 0 (a.length:Int)) none (b d a c s)
theorem Ai9(n:Nat)(b c:By)(a:Int)(s:Z):D0 3 ((An Y).keep 1) (bd (An Y) W Q (cd [0,1,0,0,0,0] Uj)) n ⟨gp [(0,.yd),(1,.ptr 1 0 0)] 49,[.box [pS b],.box [pS c],.box [pI a]],s⟩ k =
 KH Q Y n b c a s (λb c a s=>k (.exit 0) ⟨gp [] 52,[.box [pS b],.box [pS c],.box [pI a]],s⟩):=by
 induction n generalizing b c a s with
 | zero=>rfl
 | succ n d=>rw[KH];kernel_rfl
noncomputable def T8{Z R:Type}(Q:Yh Z)(Y n:Nat)(c a:By)(g:Int)(s:Z)(i:By->By->Int->Z->Option R)(j:By->By->Int->Z->Option R):Option R:=match n with
 | 0=>none
 | n+1=>
  cond (A2 a.length)
   (cond (ltI (y7 a c) (0:Int))
   (i c a g s)
   (vl (A1 ((y7 a c)+g)) λe=>
    cond (I7 0 e a.length)
    (ydK (Q [pS (cut a 0 e)] s) λd b=>
     (cond (not d)
     (j c a g b)
     (vl (A1 ((y7 a c)+(c.length:Int))) λf=>
      cond (I7 f (a.length:Int) a.length)
      (vl (cut a f (a.length:Int)) λh=>
       T8 Q Y n c h g b i j)
      none)))
    none))
   none
theorem Aj0(n:Nat)(b c:By)(a:Int)(s:Z):D0 3 ((An Y).keep 5) (bd (An Y) W Q (cd [1,0,0,0] Uj)) n ⟨gp [(0,.yd),(0,.ptr 0 0 0),(0,.ptr 1 0 0),(0,.ptr 2 0 0)] 48,[.box [pS b],.box [pS c],.box [pI a]],s⟩ k =
 T8 Q Y n b c a s (λb c a s=>k (.exit 2) ⟨gp [(0,.yd),(1,.ptr 1 0 0)] 49,[.box [pS b],.box [pS c],.box [pI a]],s⟩) (λb c a s=>k .ret ⟨gp [] 52,[.box [pS b],.box [pS c],.box [pI a]],s⟩):=by
 induction n generalizing b c a s with
 | zero=>rfl
 | succ n d=>rw[T8];simp only[<-d];kernel_rfl
noncomputable def Ai8{Z R:Type}(Q:Yh Z)(Y:Nat)(p t:By)(n:Int)(s:Z)(j:By->By->Int->Z->Option R):Option R:=
 cond ((p.length:Int)==0)
 (KH Q Y Y p t n s (λm o l q=>j m o l q))
 (T8 Q Y Y p t n s (λr a c e=>ydK (Q [pS a] e) λi b=>
  (j r a c b)) (λf g d h=>j f g d h))
theorem Ch5(d:Nat)(p t n s):evC (An Y) (d+1) Z Q 152 [.yd,.ptr 0 0 0,.ptr 1 0 0,.ptr 2 0 0] [.box [pS p],.box [pS t],.box [pI n]] s=Ai8 Q Y p t n s (λb c a s=>some (.tup [],[.box [pS b],.box [pS c],.box [pI a]],s)):=by refine(evE (fn:=ae6) (by kernel_rfl)).trans ?_;generalize evC (An Y) d=W;unfold Ai8;exact(j1 (by kernel_rfl) (A0 ((Ai9 Y W Q (E6 0 (E5 (An Y) W Q (cd [0,1,0,1] Uj) (E5 (An Y) W Q (cd [1] Uj) (F7 (An Y) ae6)))) Y p t n s).trans (by kernel_rfl)) ((Aj0 Y W Q (E6 2 (E5 (An Y) W Q (cd [1,1] Uj) (F7 (An Y) ae6))) Y p t n s).trans (by kernel_rfl))))
end
section
variable {Z R : Type} (L : Nat) (Q : G0) (Y : Yh Z) (s : Z) (k : Out -> St Z -> Option R)
noncomputable abbrev Cq:Code:=C8 ae8
noncomputable def Z9(L:Nat):Cfg:=B6 L [179] (A3 [(5,[0,1,0,0,10,0])]) [] (A3 [(16,[2,0]),(15,[0,3,10,0]),(10,[0,3,10,0]),(12,[0,3,10,0]),(14,[0,3,10,0]),(8,[2,0]),(13,[0,3,1,8,0,32]),(11,[0,3,1,8,0,18]),(9,[0,3,1,8,0,5]),(7,[0,3,1,8,0]),(6,[0,3,0,9,0]),(5,[0,3,10,0,0]),(4,[0,3,10,0]),(3,[0,3]),(2,[2,0]),(1,[0,12]),(0,[0])]) [] (A3 [(0,[4]),(1,[0,3,10,0]),(2,[0,3,10,0])]) (some [2,0]) [] [] []
noncomputable def Ve{R:Type}(i:By)(v1 c g h:Int)(d:Bool)(e:By->Int->Int->Int->Option R)(f:Unit->Option R):Option R:=cond d (vl (wu8 ((wu8 (c-65))+10)) λa=>vl (bOr .u16 (Qv .u16 v1 (4:Int)) (Mt a)) λb=>e i b g h) (f ())
abbrev NF(b:Code):Prop:=∀(k:Out->St Z->Option R) c v1 b2 a n4 b5,A9 (Z9 L) Q Y b ⟨gp [(0,pS c),(3,p16 v1),(1,p8 b2),(8,pI a),(0,pI n4),(32,pB b5)] 15,[],s⟩ k=Ve c v1 b2 a n4 b5 (λc v1 d a=>k .normal ⟨gp [(0,pS c),(3,p16 v1),(10,pI d),(0,pI a)] 48,[],s⟩) (λ_=>k .ret ⟨gp [(2,p16 (0:Int)),(0,pB false)] 61,[],s⟩)
theorem At5:NF (R:=R) L Q Y s (cd [1,1,1,0,1,0,0,1,1,0,0,1,1,0,1,1,1,1,1] Cq):=by intro k e v1 a c d b;unfold Ve;kernel_rfl
noncomputable def Vf{R:Type}(o:By)(v1 a l m:Int)(r:Bool)(f:By->Int->Int->Int->Option R)(q:Unit->Option R):Option R:=cond r (vl (wu8 ((wu8 (a-97))+10)) λg=>vl (bOr .u16 (Qv .u16 v1 (4:Int)) (Mt g)) λh=>f o h l m) (cond (not (ltI a 65)) (Ve o v1 a l m (not (ltI 70 a)) (λn p i j=>f n p i j) (λ_=>q ())) (Ve o v1 a l m false (λd e b c=>f d e b c) (λ_=>q ())))
abbrev Zs(b:Code):Prop:=∀(k:Out->St Z->Option R) c v1 b2 a n4 b5,A9 (Z9 L) Q Y b ⟨gp [(0,pS c),(3,p16 v1),(1,p8 b2),(8,pI a),(0,pI n4),(18,pB b5)] 29,[],s⟩ k=Vf c v1 b2 a n4 b5 (λc v1 d a=>k .normal ⟨gp [(0,pS c),(3,p16 v1),(10,pI d),(0,pI a)] 48,[],s⟩) (λ_=>k .ret ⟨gp [(2,p16 (0:Int)),(0,pB false)] 61,[],s⟩)
theorem At6(a:Code)(b:NF (R:=R) L Q Y s a):Zs (R:=R) L Q Y s (cd [1,1,1,0,1,0,0,1,1,0,0,1,1,0,1,1,1] (G3 [1,1,1,0,1,0,0,1,1,0,0,1,1,0,1,1,1,1,1] a Cq)):=by intro k g v1 c e f d;unfold Vf;simp only[<-b k];kernel_rfl
theorem At7:Zs (R:=R) L Q Y s (cd [1,1,1,0,1,0,0,1,1,0,0,1,1,0,1,1,1] Cq):=by intro k e v1 a c d b;exact j1 (by kernel_rfl) (At6 L Q Y s (cd [1,1,1,0,1,0,0,1,1,0,0,1,1,0,1,1,1,1,1] Cq) (At5 L Q Y s) k e v1 a c d b)
noncomputable def Vg{R:Type}(p:By)(v1 a n o:Int)(r:Bool)(j:By->Int->Int->Int->Option R)(q:Unit->Option R):Option R:=cond r (vl (Mt (wu8 (a-48))) λl=>vl (bOr .u16 (Qv .u16 v1 (4:Int)) l) λm=>j p m n o) (cond (not (ltI a 97)) (Vf p v1 a n o (not (ltI 102 a)) (λf h b c=>j f h b c) (λ_=>q ())) (Vf p v1 a n o false (λg i d e=>j g i d e) (λ_=>q ())))
abbrev Qa(b:Code):Prop:=∀(k:Out->St Z->Option R) c v1 b2 a n4 b5,A9 (Z9 L) Q Y b ⟨gp [(0,pS c),(3,p16 v1),(1,p8 b2),(8,pI a),(0,pI n4),(5,pB b5)] 42,[],s⟩ k=Vg c v1 b2 a n4 b5 (λc v1 d a=>k .normal ⟨gp [(0,pS c),(3,p16 v1),(10,pI d),(0,pI a)] 48,[],s⟩) (λ_=>k .ret ⟨gp [(2,p16 (0:Int)),(0,pB false)] 61,[],s⟩)
theorem At8(a:Code)(b:Zs (R:=R) L Q Y s a):Qa (R:=R) L Q Y s (cd [1,1,1,0,1,0,0,1,1,0,0,1,1,0,1] (G3 [1,1,1,0,1,0,0,1,1,0,0,1,1,0,1,1,1] a Cq)):=by intro k g v1 c e f d;unfold Vg;simp only[<-b k];kernel_rfl
theorem At9:Qa (R:=R) L Q Y s (cd [1,1,1,0,1,0,0,1,1,0,0,1,1,0,1] Cq):=by intro k e v1 a c d b;exact j1 (by kernel_rfl) (At8 L Q Y s (cd [1,1,1,0,1,0,0,1,1,0,0,1,1,0,1,1,1] Cq) (At7 L Q Y s) k e v1 a c d b)
noncomputable def Ez{R:Type}(L n:Nat)(b:By)(v1 q a:Int)(o:Unit->Option R)(p:Int->Option R):Option R:=match n with|0=>none|n+1=>cond (ltI a q) (cond (inR a b.length) (cond (not (ltI (bAt b a) (48:Int))) (Vg b v1 (bAt b a) q a (not (ltI 57 (bAt b a))) (λi l c d=>vl (A1 (d+1)) λe=>Ez L n i l c e o p) (λ_=>o ())) (Vg b v1 (bAt b a) q a false (λj m f g=>vl (A1 (g+1)) λh=>Ez L n j m f h o p) (λ_=>o ()))) none) (p v1)
theorem Au0(a:Code)(b:Qa (R:=R) L Q Y s a)(n:Nat)(d:By)(v1 i c:Int):D0 0 ((Z9 L).keep 5) (bd (Z9 L) Q Y (cd [1,1,1,0,1,0,0] (G3 [1,1,1,0,1,0,0,1,1,0,0,1,1,0,1] a Cq))) n ⟨gp [(0,pS d),(3,p16 v1),(10,pI i),(0,pI c)] 48,[],s⟩ k =
 Ez L n d v1 i c (λ_=>k .ret ⟨gp [(2,p16 (0:Int)),(0,pB false)] 61,[],s⟩) (λv0=>k (.exit 0) ⟨gp [(4,p16 v0)] 60,[],s⟩):=by
 induction n generalizing d v1 i c with
 | zero=>rfl
 | succ n q=>rw[Ez];exact let p:=(E6 2 (E6 1 (E5 (Z9 L) Q Y (cd [1,1,1,0,1,0,0,1,1,1] Cq) (lpK 0 ((Z9 L).keep 5) (bd (Z9 L) Q Y (cd [1,1,1,0,1,0,0] (G3 [1,1,1,0,1,0,0,1,1,0,0,1,1,0,1] a Cq))) n k))));(j1 (by kernel_rfl) (A0 (A0 (A0 ((b p d v1 (bAt d c) i c (not (ltI 57 (bAt d c)))).trans (congr (congr rfl (fx4 λj m e r=>(j1 (by kernel_rfl) (A4 λf=>(q j m e f))))) (by kernel_rfl))) ((b p d v1 (bAt d c) i c false).trans (congr (congr rfl (fx4 λl o g t=>(j1 (by kernel_rfl) (A4 λh=>(q l o g h))))) (by kernel_rfl)))) rfl) rfl))
noncomputable def B82{R:Type}(L:Nat)(c:By)(b:Int->Bool->Option R):Option R:=cond (c==[]) (b 0 false) (cond (ltI 4 (c.length:Int)) (b 0 false) (Ez L L c 0 (c.length:Int) 0 (λ_=>b 0 false) (λa=>b a true)))
theorem Cr5(a:Code)(b:Qa (R:=PV × List Blk × Z) L Q Y s a)(c:By):A9 (Z9 L) Q Y (cd [] (G3 [1,1,1,0,1,0,0,1,1,0,0,1,1,0,1] a Cq)) ⟨[pS c]++tps 64,[],s⟩ (F7 (Z9 L) ae8)=B82 L c (λd e=>some (.tup [p16 d,pB e],[],s)):=by unfold B82;exact(j1 (by kernel_rfl) (A0 rfl (A0 rfl ((Au0 L Q Y s (E6 0 (E5 (Z9 L) Q Y (cd [1,1,1,1] Cq) (F7 (Z9 L) ae8))) a b L c 0 (c.length:Int) 0).trans (by kernel_rfl)))))
theorem Cr6(d:Nat)(s0):evC (Z9 L) (d+1) Z Y 179 [pS s0] [] s=B82 L s0 (λa b=>some (.tup [p16 a,pB b],[],s)):=
 (evE (fn:=ae8) (by kernel_rfl)).trans (j1 (by kernel_rfl) (Cr5 L (evC (Z9 L) d) Y s (cd [1,1,1,0,1,0,0,1,1,0,0,1,1,0,1] Cq) (At9 L (evC (Z9 L) d) Y s) s0))
noncomputable abbrev Bf4:Code:=C8 ag6
noncomputable def La(L:Nat):Cfg:=B6 L [164] (A3 [(6,[1,2,0,0,0,10,0,0])]) [(109,Uf),(179,B21),(180,C64)] (A3 [(16,[4,0]),(15,[1,4,0,10,0,0]),(14,[6]),(13,[4,0]),(12,[6,5,39]),(11,[1,4,0,0,3,0]),(10,[1,4,0,10,0,0]),(9,[1,4,0,0,0,0,7,0,0,9]),(8,[1,4,0,0,0,0,0,6,0,0]),(7,[1,4,0,0,0,8,0,0]),(6,[1,4,0,10,0,0,0]),(5,[1,4,0,10,0,0]),(4,[1,4,0]),(3,[0,0,4]),(2,[4,0]),(1,[0,0,13]),(0,[0,0])]) [179,180] (A3 [(0,[6]),(1,[1,4,0,10,0,0])]) (some [4,0]) [] [] []
noncomputable def Ec{R:Type}(L n:Nat)(a:Bool)(c:LL)(l b:Int)(d:LL)(f:LL->Option R)(g:LL->Option R):Option R:=match n with|0=>none|n+1=>cond (ltI b l) (cond (inR b c.length) (cond (okE Qx c (b9 b) 0) (cond (A2 (a8 (gX c (b9 b) 0))) (vl (↑(N1 (grp (gX c (b9 b) 0))):Int) λh=>cond (j5 (grp (gX c (b9 b) 0))) (cond (F6 (d.length+1)) (Ec L n a c l (A1 (b+1)) (d++[[(SV.int .u16 h)]]) f g) none) (cond (A2 (a8 (gX c (b9 b) 0))) (vl (↑(N1 (v4B (gX c (b9 b) 0))):Int) λe=>cond (not (j5 (v4B (gX c (b9 b) 0)))) (f d) (cond (not a) (f d) (vl (A1 ((c.length:Int)-1)) λi=>cond (ltI b i) (f d) (vl (KB .u32 e (16:Int)) λj=>cond (F6 (d.length+2)) (g (d++[[(SV.int .u16 (Mt j))],[(SV.int .u16 (Mt e))]])) none)))) none)) none) none) none) (g d)
theorem ZJ(n last0 l1 n2 n3 l4):D0 1 ((La L).keep 6) (bd (La L) Q Y (cd [1,0,1,1,1,1,0,1,0,0] Bf4)) n ⟨gp [(1,pB last0),(4,.fl 0),(0,.s (.sl false false 1 l1)),(10,.s (.sl false false 1 l1)),(0,pI n2),(0,pI n3)] 42,[.arr true 24 1 l4],s⟩ k =
 Ec L n last0 l1 n2 n3 l4 (λa=>k .ret ⟨gp [(4,.fl 1),(0,pB false)] 57,[.arr true 24 1 a,.arr true 24 1 []],s⟩) (λa=>k (.exit 0) ⟨gp [(6,.fl 0)] 56,[.arr true 24 1 a],s⟩):=by
 induction n generalizing last0 l1 n2 n3 l4 with
 | zero=>rfl
 | succ n b=>rw[Ec];simp only[<-b];kernel_rfl
noncomputable def Bg7{R:Type}(L:Nat)(e:By)(a:Bool)(f:LL->Option R)(g:LL->Option R):Option R:=cond (e==[]) (f []) (cond (A2 e.length) (cond (1==1) (vl (D5 (pcs (b8 ([58]:List UInt8) 0 0) e)) λb=>Ec L L a b (b.length:Int) 0 [] (λd=>g d) (λc=>f c)) none) none)
theorem B83(d:Nat)(s0 last1):evC (La L) (d+1) Z Y 164 [pS s0,pB last1] [] s=Bg7 L s0 last1 (λb=>some (.tup [.fl 0,pB true],[.arr true 24 1 b],s)) (λb=>some (.tup [.fl 1,pB false],[.arr true 24 1 b,.arr true 24 1 []],s)):=by refine(evE (fn:=ag6) (by kernel_rfl)).trans ?_;generalize evC (La L) d=Q;unfold Bg7;exact(j1 (by kernel_rfl) (A0 rfl (A0 (A0 (A4 λa=>((ZJ L Q Y s (E6 0 (E5 (La L) Q Y (cd [1,0,1,1,1,1,1] Bf4) (F7 (La L) ag6))) L last1 a (a.length:Int) 0 []).trans (by kernel_rfl))) rfl) rfl)))
noncomputable abbrev B55:Code:=C8 ae3
noncomputable def BJ(L:Nat):Cfg:=B6 L [135] (A3 []) [(54,An7),(164,Bc8)] (A3 [(10,[2,0]),(9,[2,1]),(8,[2,1,5]),(7,[2,0]),(6,[2,1,3,1,45]),(5,[2,1,2,0,0,0,0,0]),(4,[2,1,2,0,0,0,0]),(3,[2,1,1,0,0,0]),(2,[2,1,0,0,0]),(1,[0,1,1]),(0,[0,1])]) [54] (A3 []) (some [2,0]) [] [] []
noncomputable def Pi{R:Type}(p o d:LL)(q:LL->LL->Option R):Option R:=cond (decide (d.length=8)) (cond (decide (8<=d.length)) (vl ((y8 0 d)++((y8 8 p)++(ad3 (0+(min p.length 8)) d))) λc=>vl (A1 ((8:Int)-(o.length:Int))) λb=>cond (decide (c.length=8)) (cond (I7 b (8:Int) 8) (cond (decide (((b9 b)+(8-(b9 b)))<=c.length)) (vl ((y8 (b9 b) c)++((y8 (8-(b9 b)) o)++(ad3 ((b9 b)+(min o.length (8-(b9 b)))) c))) λa=>cond ((decide (8=(a.length*1)))&&(okS ⟨true,true,[.int .u16,.int .u16,.int .u16,.int .u16,.int .u16,.int .u16,.int .u16,.int .u16]⟩ (c9 a) 0)) (vl (SV.gI (b8 (c9 a) 0 SV.nilp)) λf=>vl (SV.gI (b8 (c9 a) 1 SV.nilp)) λg=>vl (SV.gI (b8 (c9 a) 2 SV.nilp)) λh=>vl (SV.gI (b8 (c9 a) 3 SV.nilp)) λi=>vl (SV.gI (b8 (c9 a) 4 SV.nilp)) λj=>vl (SV.gI (b8 (c9 a) 5 SV.nilp)) λl=>vl (SV.gI (b8 (c9 a) 6 SV.nilp)) λm=>vl (SV.gI (b8 (c9 a) 7 SV.nilp)) λn=>cond (decide (8=(d.length*1))) (vl (T3 1 d.length [(SV.int .u16 f),(SV.int .u16 g),(SV.int .u16 h),(SV.int .u16 i),(SV.int .u16 j),(SV.int .u16 l),(SV.int .u16 m),(SV.int .u16 n)]) λe=>q e a) none) none) none) none) none) none) none
abbrev Ak2(b:Code):Prop:=∀(k:Out->St Z->Option R) x_z0 x1 y_z2 y3 b4 l5,A9 (BJ L) Q Y b ⟨gp [(2,.ptr 0 0 0),(1,.ptr 1 0 0),(3,.s (.sl x_z0 x_z0 1 x1)),(1,.s (.sl y_z2 y_z2 1 y3)),(45,pB b4)] 11,[.arr false 25 1 l5,.arr false 25 1 l5],s⟩ k=Pi x1 y3 l5 (λa c=>k .ret ⟨gp [(2,.ptr 0 0 0),(0,pB true)] 64,[.arr false 25 1 a,.arr false 25 1 c],s⟩)
theorem B04:Ak2 (R:=R) L Q Y s (cd [1,1,1,1,1,1,1] B55):=by intro k a e b f c d;unfold Pi;kernel_rfl
noncomputable def v6p{R:Type}(L:Nat)(h:By)(g:Int->Int->Int->Int->Int->Int->Int->Int->Bool->LL->LL->Option R):Option R:=cond (A2 h.length) (vl ((x5 h ([58,58]:List UInt8))).1 λj=>vl (((x5 h ([58,58]:List UInt8))).2).1 λe=>cond (A2 j.length) (vl (D7 (gvs j (not (((x5 h ([58,58]:List UInt8))).2).2))) λf=>cond (A2 e.length) (vl (A1 ((f.length:Int)+(↑(a8 (D7 (gvs e true))):Int))) λi=>cond (not (j5 (O7 j (not (((x5 h ([58,58]:List UInt8))).2).2)))) (g 0 0 0 0 0 0 0 0 false (j0 8 [(SV.int .u16 (0:Int))]) (j0 8 [(SV.int .u16 (0:Int))])) (cond (not (j5 (O7 e true))) (g 0 0 0 0 0 0 0 0 false (j0 8 [(SV.int .u16 (0:Int))]) (j0 8 [(SV.int .u16 (0:Int))])) (cond (not (((x5 h ([58,58]:List UInt8))).2).2) (cond (i !=8) (g 0 0 0 0 0 0 0 0 false (j0 8 [(SV.int .u16 (0:Int))]) (j0 8 [(SV.int .u16 (0:Int))])) (cond (((x5 h ([58,58]:List UInt8))).2).2 (cond (ltI 7 i) (g 0 0 0 0 0 0 0 0 false (j0 8 [(SV.int .u16 (0:Int))]) (j0 8 [(SV.int .u16 (0:Int))])) (Pi f (D7 (gvs e true)) (j0 8 [(SV.int .u16 (0:Int))]) (λa l=>cond ((decide (8=(a.length*1)))&&(okS ⟨true,true,[.int .u16,.int .u16,.int .u16,.int .u16,.int .u16,.int .u16,.int .u16,.int .u16]⟩ (c9 a) 0)) (g (SV.gI (b8 (c9 a) 0 SV.nilp)) (SV.gI (b8 (c9 a) 1 SV.nilp)) (SV.gI (b8 (c9 a) 2 SV.nilp)) (SV.gI (b8 (c9 a) 3 SV.nilp)) (SV.gI (b8 (c9 a) 4 SV.nilp)) (SV.gI (b8 (c9 a) 5 SV.nilp)) (SV.gI (b8 (c9 a) 6 SV.nilp)) (SV.gI (b8 (c9 a) 7 SV.nilp)) true a l) none))) (Pi f (D7 (gvs e true)) (j0 8 [(SV.int .u16 (0:Int))]) (λb m=>cond ((decide (8=(b.length*1)))&&(okS ⟨true,true,[.int .u16,.int .u16,.int .u16,.int .u16,.int .u16,.int .u16,.int .u16,.int .u16]⟩ (c9 b) 0)) (g (SV.gI (b8 (c9 b) 0 SV.nilp)) (SV.gI (b8 (c9 b) 1 SV.nilp)) (SV.gI (b8 (c9 b) 2 SV.nilp)) (SV.gI (b8 (c9 b) 3 SV.nilp)) (SV.gI (b8 (c9 b) 4 SV.nilp)) (SV.gI (b8 (c9 b) 5 SV.nilp)) (SV.gI (b8 (c9 b) 6 SV.nilp)) (SV.gI (b8 (c9 b) 7 SV.nilp)) true b m) none)))) (cond (((x5 h ([58,58]:List UInt8))).2).2 (cond (ltI 7 i) (g 0 0 0 0 0 0 0 0 false (j0 8 [(SV.int .u16 (0:Int))]) (j0 8 [(SV.int .u16 (0:Int))])) (Pi f (D7 (gvs e true)) (j0 8 [(SV.int .u16 (0:Int))]) (λc n=>cond ((decide (8=(c.length*1)))&&(okS ⟨true,true,[.int .u16,.int .u16,.int .u16,.int .u16,.int .u16,.int .u16,.int .u16,.int .u16]⟩ (c9 c) 0)) (g (SV.gI (b8 (c9 c) 0 SV.nilp)) (SV.gI (b8 (c9 c) 1 SV.nilp)) (SV.gI (b8 (c9 c) 2 SV.nilp)) (SV.gI (b8 (c9 c) 3 SV.nilp)) (SV.gI (b8 (c9 c) 4 SV.nilp)) (SV.gI (b8 (c9 c) 5 SV.nilp)) (SV.gI (b8 (c9 c) 6 SV.nilp)) (SV.gI (b8 (c9 c) 7 SV.nilp)) true c n) none))) (Pi f (D7 (gvs e true)) (j0 8 [(SV.int .u16 (0:Int))]) (λd o=>cond ((decide (8=(d.length*1)))&&(okS ⟨true,true,[.int .u16,.int .u16,.int .u16,.int .u16,.int .u16,.int .u16,.int .u16,.int .u16]⟩ (c9 d) 0)) (g (SV.gI (b8 (c9 d) 0 SV.nilp)) (SV.gI (b8 (c9 d) 1 SV.nilp)) (SV.gI (b8 (c9 d) 2 SV.nilp)) (SV.gI (b8 (c9 d) 3 SV.nilp)) (SV.gI (b8 (c9 d) 4 SV.nilp)) (SV.gI (b8 (c9 d) 5 SV.nilp)) (SV.gI (b8 (c9 d) 6 SV.nilp)) (SV.gI (b8 (c9 d) 7 SV.nilp)) true d o) none)))))) none) none) none
theorem De3(b:Code)(a:Ak2 (R:=PV × List Blk × Z) L Q Y s b)(f:By):A9 (BJ L) Q Y (cd [] (G3 [1,1,1,1,1,1,1] b B55)) ⟨[pS f]++tps 67,[],s⟩ (F7 (BJ L) ae3)=v6p L f (λj l m n o p q r r8 i l10=>some (.tup [.agg [p16 j,p16 l,p16 m,p16 n,p16 o,p16 p,p16 q,p16 r],pB r8],[.arr false 25 1 i,.arr false 25 1 l10],s)):=by unfold v6p;exact let h:=(F7 (BJ L) ae3);(j1 (by kernel_rfl) (A0 (A4 λe=>(A4 λc=>(A0 (A4 λd=>(A0 (A4 λg=>(A0 rfl (A0 rfl (A0 (A0 rfl (A0 (A0 rfl ((a h (j8 (gvs e (not (((x5 f ([58,58]:List UInt8))).2).2))) d (j8 (gvs c true)) (D7 (gvs c true)) (ltI 7 g) (j0 8 [(SV.int .u16 (0:Int))])).trans (by kernel_rfl))) ((a h (j8 (gvs e (not (((x5 f ([58,58]:List UInt8))).2).2))) d (j8 (gvs c true)) (D7 (gvs c true)) false (j0 8 [(SV.int .u16 (0:Int))])).trans (by kernel_rfl)))) (A0 (A0 rfl ((a h (j8 (gvs e (not (((x5 f ([58,58]:List UInt8))).2).2))) d (j8 (gvs c true)) (D7 (gvs c true)) (ltI 7 g) (j0 8 [(SV.int .u16 (0:Int))])).trans (by kernel_rfl))) ((a h (j8 (gvs e (not (((x5 f ([58,58]:List UInt8))).2).2))) d (j8 (gvs c true)) (D7 (gvs c true)) false (j0 8 [(SV.int .u16 (0:Int))])).trans (by kernel_rfl))))))) rfl)) rfl))) rfl))
theorem De4(d:Nat)(s0):evC (BJ L) (d+1) Z Y 135 [pS s0] [] s=v6p L s0 (λb c e f g h i j r8 a l10=>some (.tup [.agg [p16 b,p16 c,p16 e,p16 f,p16 g,p16 h,p16 i,p16 j],pB r8],[.arr false 25 1 a,.arr false 25 1 l10],s)):=
 (evE (fn:=ae3) (by kernel_rfl)).trans (j1 (by kernel_rfl) (De3 L (evC (BJ L) d) Y s (cd [1,1,1,1,1,1,1] B55) (B04 L (evC (BJ L) d) Y s) s0))
noncomputable abbrev Pu:Code:=C8 ai1
noncomputable def Y3(L:Nat):Cfg:=B6 L [95] (A3 [(6,[1,0,0,0,0,0,0,0]),(3,[1,0,0,0,0,2])]) [] (A3 [(11,[2,0]),(10,[1,2,0,2]),(9,[1,2,0,2]),(8,[1,2,0,0,0,0,18]),(7,[1,2,0,0,0,0]),(6,[1,2,0,0,0,0,13]),(5,[1,2,0,0,0,0]),(4,[1,2,0,0,1]),(3,[1,2,0,2,0]),(2,[1,2,0,2]),(1,[1,2,0]),(0,[1])]) [] (A3 [(0,[4,0]),(1,[1,2,0,2]),(2,[1,2,0,0,0,0]),(3,[1,2,0,0,0,0])]) (some [2,0]) [] [] []
noncomputable def Hu{R:Type}(L n:Nat)(b a c d:Int)(e:LL)(f:Int->Int->Int->Int->LL->Option R):Option R:=match n with|0=>none|n+1=>cond (ltI (A1 (c+d)) (8:Int)) (cond (inR (A1 (c+d)) 8) (cond (okE ⟨true,false,[.int .u16]⟩ e (b9 (A1 (c+d))) 0) (vl (gE e (b9 (A1 (c+d))) 0) λg=>cond (g==0) (Hu L n b a c (A1 (d+1)) e f) (f b a c d e)) none) none) (f b a c d e)
theorem Al4(n b a c e d):D0 1 ((Y3 L).keep 6) (bd (Y3 L) Q Y (cd [1,1,0,1,0,0,1,1,0,0,1,1,0,0,0] Pu)) n ⟨gp [(1,.ptr 0 0 0),(2,pI b),(0,pI a),(0,pI c),(0,pI e),(0,pI c)] 24,[.arr false 25 1 d],s⟩ k =
 Hu L n b a c e d (λb a c e d=>k (.exit 2) ⟨gp [(1,.ptr 0 0 0),(2,pI b),(0,pI a),(0,pI c),(0,pI e),(0,pI c)] 24,[.arr false 25 1 d],s⟩):=by
 induction n generalizing b a c e d with
 | zero=>rfl
 | succ n f=>rw[Hu];simp only[<-f];kernel_rfl
noncomputable def Em{R:Type}(L n:Nat)(e b j:Int)(i:LL)(h:Int->Int->LL->Option R):Option R:=match n with|0=>none|n+1=>cond (ltI j 8) (Hu L L e b j 0 i (λd a c g f=>cond (ltI a g) (Em L n c g (A1 (c+1)) f h) (Em L n d a (A1 (c+1)) f h))) (h e b i)
theorem Al5(n b a n2 l3):D0 1 ((Y3 L).keep 3) (bd (Y3 L) Q Y (cd [1,1,0,1,0,0] Pu)) n ⟨gp [(1,.ptr 0 0 0),(2,pI b),(0,pI a),(2,pI n2)] 24,[.arr false 25 1 l3],s⟩ k =
 Em L n b a n2 l3 (λb a i=>k (.exit 0) ⟨gp [(4,pI b),(0,pI a)] 27,[.arr false 25 1 i],s⟩):=by
 induction n generalizing b a n2 l3 with
 | zero=>rfl
 | succ n h=>rw[Em];exact(j1 (by kernel_rfl) (A0 ((Al4 L Q Y s (E6 2 (E5 (Y3 L) Q Y (cd [1,1,0,1,0,0,1,1,0,0,1,1,1] Pu) (E6 1 (E5 (Y3 L) Q Y (cd [1,1,0,1,0,0,1,1,1] Pu) (lpK 1 ((Y3 L).keep 3) (bd (Y3 L) Q Y (cd [1,1,0,1,0,0] Pu)) n k))))) L b a n2 0 l3).trans (congr rfl (fx5 λe c d g f=>(j1 (by kernel_rfl) (A0 (h d g (A1 (d+1)) f) (h e c (A1 (d+1)) f)))))) rfl))
noncomputable def Bm3{R:Type}(L:Nat)(d e f g h i j l:Int)(m:Int->Int->LL->Option R):Option R:=Em L L 0 0 0 [[(SV.int .u16 d)],[(SV.int .u16 e)],[(SV.int .u16 f)],[(SV.int .u16 g)],[(SV.int .u16 h)],[(SV.int .u16 i)],[(SV.int .u16 j)],[(SV.int .u16 l)]] (λb a c=>m b a c)
theorem Co0(d:Nat)(a0 a1 a2 a3 a4 a5 a6 a7):evC (Y3 L) (d+1) Z Y 95 [.agg [p16 a0,p16 a1,p16 a2,p16 a3,p16 a4,p16 a5,p16 a6,p16 a7]] [] s=Bm3 L a0 a1 a2 a3 a4 a5 a6 a7 (λb c a=>some (.tup [pI b,pI c],[.arr false 25 1 a],s)):=by refine(evE (fn:=ai1) (by kernel_rfl)).trans ?_;generalize evC (Y3 L) d=Q;unfold Bm3;exact(j1 (by kernel_rfl) ((Al5 L Q Y s (E6 0 (E5 (Y3 L) Q Y (cd [1,1,1] Pu) (F7 (Y3 L) ai1))) L 0 0 0 [[(SV.int .u16 a0)],[(SV.int .u16 a1)],[(SV.int .u16 a2)],[(SV.int .u16 a3)],[(SV.int .u16 a4)],[(SV.int .u16 a5)],[(SV.int .u16 a6)],[(SV.int .u16 a7)]]).trans (by kernel_rfl)))
noncomputable abbrev C71:Code:=C8 ai2
noncomputable def HB(L:Nat):Cfg:=B6 L [96] (A3 [(3,[2,0,2,0,0])]) [(128,B20),(111,RQ)] (A3 [(7,[2]),(6,[3,2,0,0]),(5,[3,2,0,0]),(4,[3,1,0,0,0]),(3,[3,2,0,0,0]),(2,[3,2,0,0]),(1,[0,2]),(0,[0])]) [128,111] (A3 [(0,[3]),(1,[3,2,0,0])]) (some [2]) [] [] []
noncomputable def Tv{R:Type}(L n:Nat)(h g:Bool)(c:LL)(f b:Int)(d:LL)(e:LL->Option R):Option R:=match n with|0=>none|n+1=>cond (ltI b f) (cond (inR b c.length) (cond (okE ⟨true,false,[.int .u16]⟩ c (b9 b) 0) (vl (De7 (gE c (b9 b) 0)) λa=>cond (ltN a 65536) (cond ((16:Int)==16) (cond (F6 (d.length+1)) (Tv L n h g c f (A1 (b+1)) (d++[[(SV.str (U7 (b9 a)))]]) e) none) none) none) none) none) (e d)
theorem B03(n z0 t1 l2 n3 n4 l5):D0 1 ((HB L).keep 3) (bd (HB L) Q Y (cd [1,1,0,1,0,0] C71)) n ⟨gp [(3,.fl 0),(2,.s (.sl z0 t1 1 l2)),(0,pI n3),(0,pI n4)] 12,[.arr true 9 1 l5],s⟩ k =
 Tv L n z0 t1 l2 n3 n4 l5 (λb=>k (.exit 0) ⟨gp [(3,.fl 0)] 17,[.arr true 9 1 b],s⟩):=by
 induction n generalizing z0 t1 l2 n3 n4 l5 with
 | zero=>rfl
 | succ n a=>rw[Tv];simp only[<-a];kernel_rfl
noncomputable def v6j{R:Type}(L:Nat)(c b:Bool)(e:LL)(f:By->LL->Option R):Option R:=Tv L L c b e (e.length:Int) 0 [] (λa=>cond (x7 a isS) (cond (A2 (a8 (ad0 (w6 elS a) ([58]:List UInt8)))) (cond (A2 a.length) (vl (ad0 (w6 elS a) ([58]:List UInt8)) λd=>f d a) none) none) none)
theorem De1(d:Nat)(l_z0 l_t1 l2):evC (HB L) (d+1) Z Y 96 [.s (.sl l_z0 l_t1 1 l2)] [] s=v6j L l_z0 l_t1 l2 (λb a=>some (pS b,[.arr true 9 1 a],s)):=by refine(evE (fn:=ai2) (by kernel_rfl)).trans ?_;generalize evC (HB L) d=Q;unfold v6j;exact(j1 (by kernel_rfl) ((B03 L Q Y s (E6 0 (E5 (HB L) Q Y (cd [1,1,1] C71) (F7 (HB L) ai2))) L l_z0 l_t1 l2 (l2.length:Int) 0 []).trans (by kernel_rfl)))
noncomputable def B61(L:Nat):Cfg:=B6 L [68] (A3 []) [(95,Bf1),(96,C66)] (A3 [(4,[2]),(3,[2]),(2,[1,1,0,6]),(1,[1,1,0]),(0,[1])]) [95,96] (A3 []) (some [2]) [] [] []
noncomputable def v6f{R:Type}(L:Nat)(c d e f g h i j:Int)(p:By->LL->Option R):Option R:=cond (ok8 c d e f g h i j) (vl (↑((zGo (n8 c d e f g h i j) 0 0 0)).1:Int) λa=>vl (↑((zGo (n8 c d e f g h i j) 0 0 0)).2:Int) λb=>cond (ltI b 2) (cond (x7 [[(SV.int .u16 c)],[(SV.int .u16 d)],[(SV.int .u16 e)],[(SV.int .u16 f)],[(SV.int .u16 g)],[(SV.int .u16 h)],[(SV.int .u16 i)],[(SV.int .u16 j)]] Vo) (cond (x3 8 8) (vl (N8 (w6 elN [[(SV.int .u16 c)],[(SV.int .u16 d)],[(SV.int .u16 e)],[(SV.int .u16 f)],[(SV.int .u16 g)],[(SV.int .u16 h)],[(SV.int .u16 i)],[(SV.int .u16 j)]])) λo=>p o [[(SV.int .u16 c)],[(SV.int .u16 d)],[(SV.int .u16 e)],[(SV.int .u16 f)],[(SV.int .u16 g)],[(SV.int .u16 h)],[(SV.int .u16 i)],[(SV.int .u16 j)]]) none) none) (cond (I7 0 a 8) (cond (x7 (y8 ((b9 a)-0) [[(SV.int .u16 c)],[(SV.int .u16 d)],[(SV.int .u16 e)],[(SV.int .u16 f)],[(SV.int .u16 g)],[(SV.int .u16 h)],[(SV.int .u16 i)],[(SV.int .u16 j)]]) Vo) (cond (x3 (a8 (y8 ((b9 a)-0) [[(SV.int .u16 c)],[(SV.int .u16 d)],[(SV.int .u16 e)],[(SV.int .u16 f)],[(SV.int .u16 g)],[(SV.int .u16 h)],[(SV.int .u16 i)],[(SV.int .u16 j)]])) 8) (vl (N8 (w6 elN (y8 ((b9 a)-0) [[(SV.int .u16 c)],[(SV.int .u16 d)],[(SV.int .u16 e)],[(SV.int .u16 f)],[(SV.int .u16 g)],[(SV.int .u16 h)],[(SV.int .u16 i)],[(SV.int .u16 j)]]))) λl=>cond (J6 l.length 2) (vl (l++[58,58]) λm=>cond (I7 (A1 (a+b)) (8:Int) 8) (cond (x7 (y8 (8-(b9 (A1 (a+b)))) (ad3 (b9 (A1 (a+b))) [[(SV.int .u16 c)],[(SV.int .u16 d)],[(SV.int .u16 e)],[(SV.int .u16 f)],[(SV.int .u16 g)],[(SV.int .u16 h)],[(SV.int .u16 i)],[(SV.int .u16 j)]])) Vo) (cond (x3 (a8 (y8 (8-(b9 (A1 (a+b)))) (ad3 (b9 (A1 (a+b))) [[(SV.int .u16 c)],[(SV.int .u16 d)],[(SV.int .u16 e)],[(SV.int .u16 f)],[(SV.int .u16 g)],[(SV.int .u16 h)],[(SV.int .u16 i)],[(SV.int .u16 j)]]))) 8) (vl (N8 (w6 elN (y8 (8-(b9 (A1 (a+b)))) (ad3 (b9 (A1 (a+b))) [[(SV.int .u16 c)],[(SV.int .u16 d)],[(SV.int .u16 e)],[(SV.int .u16 f)],[(SV.int .u16 g)],[(SV.int .u16 h)],[(SV.int .u16 i)],[(SV.int .u16 j)]])))) λn=>cond (J6 m.length n.length) (p (m++n) [[(SV.int .u16 c)],[(SV.int .u16 d)],[(SV.int .u16 e)],[(SV.int .u16 f)],[(SV.int .u16 g)],[(SV.int .u16 h)],[(SV.int .u16 i)],[(SV.int .u16 j)]]) none) none) none) none) none) none) none) none)) none
theorem Dd9(d:Nat)(a0 a1 a2 a3 a4 a5 a6 a7):evC (B61 L) (d+1) Z Y 68 [.agg [p16 a0,p16 a1,p16 a2,p16 a3,p16 a4,p16 a5,p16 a6,p16 a7]] [] s=v6f L a0 a1 a2 a3 a4 a5 a6 a7 (λb a=>some (pS b,[.arr false 25 1 a],s)):=by refine(evE (fn:=Tryz.f68) (by kernel_rfl)).trans ?_;generalize evC (B61 L) d=Q;unfold v6f;kernel_rfl
noncomputable abbrev Cr:Code:=C8 ae4
noncomputable def Ab(L:Nat):Cfg:=B6 L [146] (A3 [(5,[0,1,0,0,0])]) [] (A3 [(15,[2,0]),(6,[0,3,0]),(10,[0,3,0]),(12,[0,3,0]),(14,[0,3,0]),(8,[2,0]),(13,[0,3,0,0,44]),(11,[0,3,0,0,30]),(9,[0,3,0,0,17]),(7,[0,3,0,0]),(5,[0,3,0,12]),(4,[0,3,0]),(3,[0,3]),(2,[2,0]),(1,[0,13]),(0,[0])]) [] (A3 [(0,[4]),(1,[0,3,0]),(2,[0,3,0])]) (some [2,0]) [] [] []
noncomputable def Wj{R:Type}(j:By)(i f d:Int)(e:Bool)(g:By->Int->Int->Option R)(h:Unit->Option R):Option R:=cond e (vl (A1 (wu8 (d-65))) λa=>vl (A1 ((A1 (i*16))+a)) λb=>vl (A1 (b+10)) λc=>g j c f) (h ())
abbrev OI(b:Code):Prop:=∀(k:Out->St Z->Option R) d c a b3 b4,A9 (Ab L) Q Y b ⟨gp [(0,pS d),(3,pI c),(0,pI a),(0,p8 b3),(44,pB b4)] 15,[],s⟩ k=Wj d c a b3 b4 (λd c a=>k .normal ⟨gp [(0,pS d),(3,pI c),(0,pI a)] 61,[],s⟩) (λ_=>k .ret ⟨gp [(2,p16 (0:Int)),(0,pB false)] 63,[],s⟩)
theorem A23:OI (R:=R) L Q Y s (cd [1,1,1,0,1,0,0,1,0,0,1,0,1,1,1,1,1] Cr):=by intro k e d c a b;unfold Wj;kernel_rfl
noncomputable def Wk{R:Type}(o:By)(m f a:Int)(q:Bool)(g:By->Int->Int->Option R)(p:Unit->Option R):Option R:=cond q (vl (A1 (wu8 (a-97))) λh=>vl (A1 ((A1 (m*16))+h)) λi=>vl (A1 (i+10)) λj=>g o j f) (cond (not (ltI a 65)) (Wj o m f a (not (ltI 70 a)) (λn l b=>g n l b) (λ_=>p ())) (Wj o m f a false (λe d c=>g e d c) (λ_=>p ())))
abbrev AP(b:Code):Prop:=∀(k:Out->St Z->Option R) d c a b3 b4,A9 (Ab L) Q Y b ⟨gp [(0,pS d),(3,pI c),(0,pI a),(0,p8 b3),(30,pB b4)] 29,[],s⟩ k=Wk d c a b3 b4 (λd c a=>k .normal ⟨gp [(0,pS d),(3,pI c),(0,pI a)] 61,[],s⟩) (λ_=>k .ret ⟨gp [(2,p16 (0:Int)),(0,pB false)] 63,[],s⟩)
theorem A24(a:Code)(b:OI (R:=R) L Q Y s a):AP (R:=R) L Q Y s (cd [1,1,1,0,1,0,0,1,0,0,1,0,1,1,1] (G3 [1,1,1,0,1,0,0,1,0,0,1,0,1,1,1,1,1] a Cr)):=by intro k g f e c d;unfold Wk;simp only[<-b k];kernel_rfl
theorem A25:AP (R:=R) L Q Y s (cd [1,1,1,0,1,0,0,1,0,0,1,0,1,1,1] Cr):=by intro k e d c a b;exact j1 (by kernel_rfl) (A24 L Q Y s (cd [1,1,1,0,1,0,0,1,0,0,1,0,1,1,1,1,1] Cr) (A23 L Q Y s) k e d c a b)
noncomputable def Wl{R:Type}(n:By)(m h a:Int)(p:Bool)(i:By->Int->Int->Option R)(o:Unit->Option R):Option R:=cond p (vl (A1 (wu8 (a-48))) λj=>vl (A1 ((A1 (m*16))+j)) λl=>i n l h) (cond (not (ltI a 97)) (Wk n m h a (not (ltI 102 a)) (λf d b=>i f d b) (λ_=>o ())) (Wk n m h a false (λg e c=>i g e c) (λ_=>o ())))
abbrev Qi(b:Code):Prop:=∀(k:Out->St Z->Option R) d c a b3 b4,A9 (Ab L) Q Y b ⟨gp [(0,pS d),(3,pI c),(0,pI a),(0,p8 b3),(17,pB b4)] 42,[],s⟩ k=Wl d c a b3 b4 (λd c a=>k .normal ⟨gp [(0,pS d),(3,pI c),(0,pI a)] 61,[],s⟩) (λ_=>k .ret ⟨gp [(2,p16 (0:Int)),(0,pB false)] 63,[],s⟩)
theorem A26(a:Code)(b:AP (R:=R) L Q Y s a):Qi (R:=R) L Q Y s (cd [1,1,1,0,1,0,0,1,0,0,1,0,1] (G3 [1,1,1,0,1,0,0,1,0,0,1,0,1,1,1] a Cr)):=by intro k g f e c d;unfold Wl;simp only[<-b k];kernel_rfl
theorem A27:Qi (R:=R) L Q Y s (cd [1,1,1,0,1,0,0,1,0,0,1,0,1] Cr):=by intro k e d c a b;exact j1 (by kernel_rfl) (A26 L Q Y s (cd [1,1,1,0,1,0,0,1,0,0,1,0,1,1,1] Cr) (A25 L Q Y s) k e d c a b)
noncomputable def Fi{R:Type}(L n:Nat)(b:By)(o a:Int)(l:Unit->Option R)(m:Int->Option R):Option R:=match n with|0=>none|n+1=>cond (ltI a (b.length:Int)) (cond (inR a b.length) (cond (not (ltI (bAt b a) (48:Int))) (Wl b o a (bAt b a) (not (ltI 57 (bAt b a))) (λi e c=>vl (A1 (c+1)) λf=>Fi L n i e f l m) (λ_=>l ())) (Wl b o a (bAt b a) false (λj g d=>vl (A1 (d+1)) λh=>Fi L n j g h l m) (λ_=>l ()))) none) (m o)
theorem A28(a:Code)(b:Qi (R:=R) L Q Y s a)(n:Nat)(d:By)(i c:Int):D0 0 ((Ab L).keep 5) (bd (Ab L) Q Y (cd [1,1,1,0,1,0,0] (G3 [1,1,1,0,1,0,0,1,0,0,1,0,1] a Cr))) n ⟨gp [(0,pS d),(3,pI i),(0,pI c)] 61,[],s⟩ k =
 Fi L n d i c (λ_=>k .ret ⟨gp [(2,p16 (0:Int)),(0,pB false)] 63,[],s⟩) (λn0=>k (.exit 0) ⟨gp [(4,pI n0)] 62,[],s⟩):=by
 induction n generalizing d i c with
 | zero=>rfl
 | succ n q=>rw[Fi];exact let m:=(E6 2 (E6 1 (E5 (Ab L) Q Y (cd [1,1,1,0,1,0,0,1,1] Cr) (lpK 0 ((Ab L).keep 5) (bd (Ab L) Q Y (cd [1,1,1,0,1,0,0] (G3 [1,1,1,0,1,0,0,1,0,0,1,0,1] a Cr))) n k))));(j1 (by kernel_rfl) (A0 (A0 (A0 ((b m d i c (bAt d c) (not (ltI 57 (bAt d c)))).trans (congr (congr rfl (fx3 λj e o=>(j1 (by kernel_rfl) (A4 λf=>(q j e f))))) (by kernel_rfl))) ((b m d i c (bAt d c) false).trans (congr (congr rfl (fx3 λl g p=>(j1 (by kernel_rfl) (A4 λh=>(q l g h))))) (by kernel_rfl)))) rfl) rfl))
noncomputable def Ce1{R:Type}(L:Nat)(c:By)(b:Int->Bool->Option R):Option R:=cond (ltI (c.length:Int) (1:Int)) (b 0 false) (cond (ltI 4 (c.length:Int)) (b 0 false) (Fi L L c 0 0 (λ_=>b 0 false) (λa=>b (Mt a) true)))
theorem Cy5(a:Code)(b:Qi (R:=PV × List Blk × Z) L Q Y s a)(c:By):A9 (Ab L) Q Y (cd [] (G3 [1,1,1,0,1,0,0,1,0,0,1,0,1] a Cr)) ⟨[pS c]++tps 66,[],s⟩ (F7 (Ab L) ae4)=Ce1 L c (λd e=>some (.tup [p16 d,pB e],[],s)):=by unfold Ce1;exact(j1 (by kernel_rfl) (A0 rfl (A0 rfl ((A28 L Q Y s (E6 0 (E5 (Ab L) Q Y (cd [1,1,1,1] Cr) (F7 (Ab L) ae4))) a b L c 0 0).trans (by kernel_rfl)))))
theorem Cy6(d:Nat)(s0):evC (Ab L) (d+1) Z Y 146 [pS s0] [] s=Ce1 L s0 (λa b=>some (.tup [p16 a,pB b],[],s)):=
 (evE (fn:=ae4) (by kernel_rfl)).trans (j1 (by kernel_rfl) (Cy5 L (evC (Ab L) d) Y s (cd [1,1,1,0,1,0,0,1,0,0,1,0,1] Cr) (A27 L (evC (Ab L) d) Y s) s0))
noncomputable abbrev Ew:Code:=C8 ae0
noncomputable def R6(L:Nat):Cfg:=B6 L [114] (A3 [(6,[1,2,0,0,0,0])]) [(88,Nr),(145,B36),(146,B34)] (A3 [(15,[4,0]),(7,[1,4,0,0]),(14,[1,4,0,0]),(13,[4,0]),(12,[1,4,0,0,2,47]),(11,[1,4,0,0,2,0]),(10,[1,4,0,0]),(9,[1,4,0,0,0,31]),(8,[1,4,0,0,0,0]),(6,[1,4,0,0,11]),(5,[1,4,0,0]),(4,[1,4,0]),(3,[0,0,4]),(2,[4,0]),(1,[0,0,12]),(0,[0,0])]) [145,146] (A3 [(0,[6]),(1,[1,4,0,0])]) (some [4,0]) [] [] []
noncomputable def Kf{R:Type}(a:Bool)(g:LL)(f d:Int)(e:Bool)(c:LL)(h:Bool->LL->Int->LL->Option R)(i:Bool->LL->Int->Int->Bool->LL->Option R):Option R:=cond e (vl (KB .u32 d (16:Int)) λb=>cond (F6 (c.length+2)) (h a g f (c++[[(SV.int .u16 (Mt b))],[(SV.int .u16 (Mt d))]])) none) (i a g f d e c)
abbrev Tb(b:Code):Prop:=∀(k:Out->St Z->Option R) a d c g e f,A9 (R6 L) Q Y b ⟨gp [(1,pB a),(4,.fl 0),(0,.s (.sl false false 1 d)),(0,pI c),(0,p32 g),(31,pB e)] 23,[.arr true 24 1 f],s⟩ k=Kf a d c g e f (λa d c h=>k (.exit 1) ⟨gp [(1,pB a),(4,.fl 0),(0,.s (.sl false false 1 d)),(0,pI c)] 56,[.arr true 24 1 h],s⟩) (λa d c g e f=>k .normal ⟨gp [(1,pB a),(4,.fl 0),(0,.s (.sl false false 1 d)),(0,pI c),(0,p32 g),(31,pB e)] 23,[.arr true 24 1 f],s⟩)
theorem Ac8:Tb (R:=R) L Q Y s (cd [1,1,1,1,0,1,0,0,1,0,0,0,1,1] Ew):=by intro k a e c f b d;unfold Kf;kernel_rfl
noncomputable def Kg{R:Type}(a:Bool)(c:LL)(b:Int)(e:LL)(f:LL->Option R)(g:Bool->LL->Int->LL->Option R):Option R:=cond (inR b c.length) (cond (okE Qx c (b9 b) 0) (cond (A2 (a8 (gX c (b9 b) 0))) (vl (↑(N1 (grp (gX c (b9 b) 0))):Int) λd=>cond (not (j5 (grp (gX c (b9 b) 0)))) (f e) (cond (F6 (e.length+1)) (g a c b (e++[[(SV.int .u16 d)]])) none)) none) none) none
abbrev Tc(b:Code):Prop:=∀(k:Out->St Z->Option R) a d c v3 b4 l5,A9 (R6 L) Q Y b ⟨gp [(1,pB a),(4,.fl 0),(0,.s (.sl false false 1 d)),(0,pI c),(0,p32 v3),(31,pB b4)] 23,[.arr true 24 1 l5],s⟩ k=Kg a d c l5 (λe=>k .ret ⟨gp [(4,.fl 1),(0,pB false)] 59,[.arr true 24 1 e,.arr true 24 1 []],s⟩) (λa d c f=>k .normal ⟨gp [(1,pB a),(4,.fl 0),(0,.s (.sl false false 1 d)),(0,pI c)] 56,[.arr true 24 1 f],s⟩)
theorem Ac9:Tc (R:=R) L Q Y s (cd [1,1,1,1,0,1,0,0,1,0,0,1] Ew):=by intro k a e c f b d;unfold Kg;kernel_rfl
noncomputable def Q6{R:Type}(L n:Nat)(a:Bool)(m:LL)(l:Int)(l3:LL)(o:LL->Option R)(p:LL->Option R):Option R:=match n with|0=>none|n+1=>cond (ltI l (m.length:Int)) (cond (inR l m.length) (cond (okE Qx m (b9 l) 0) (cond (A2 (a8 (gX m (b9 l) 0))) (vl (↑(N1 (v4B (gX m (b9 l) 0))):Int) λq=>cond (j5 (v4B (gX m (b9 l) 0))) (cond a (vl (A1 ((m.length:Int)-1)) λa9=>Kf a m l q (l==a9) l3 (λb X r B=>vl (A1 (r+1)) λP=>Q6 L n b X P B o p) (λc a0 t b3 b0 C=>Kg c a0 t C (λD=>o D) (λd a1 u F=>vl (A1 (u+1)) λS=>Q6 L n d a1 S F o p))) (Kf a m l q false l3 (λe a2 v G=>vl (A1 (v+1)) λT=>Q6 L n e a2 T G o p) (λf a3 w b4 b1 H=>Kg f a3 w H (λI=>o I) (λg a4 x J=>vl (A1 (x+1)) λU=>Q6 L n g a4 U J o p)))) (Kf a m l q false l3 (λh a5 y K=>vl (A1 (y+1)) λV=>Q6 L n h a5 V K o p) (λi a6 z b5 b2 M=>Kg i a6 z M (λN=>o N) (λj a7 A O=>vl (A1 (A+1)) λW=>Q6 L n j a7 W O o p)))) none) none) none) (p l3)
theorem Ad0(b:Code)(c:Tb (R:=R) L Q Y s b)(a:Code)(d:Tc (R:=R) L Q Y s a)(n:Nat)(e:Bool)(v:LL)(q:Int)(u:LL):D0 1 ((R6 L).keep 6) (bd (R6 L) Q Y (cd [1,1,1,1,0,1,0,0] (G3 [1,1,1,1,0,1,0,0,1,0,0,1] a (G3 [1,1,1,1,0,1,0,0,1,0,0,0,1,1] b Ew)))) n ⟨gp [(1,pB e),(4,.fl 0),(0,.s (.sl false false 1 v)),(0,pI q)] 56,[.arr true 24 1 u],s⟩ k =
 Q6 L n e v q u (λl0=>k .ret ⟨gp [(4,.fl 1),(0,pB false)] 59,[.arr true 24 1 l0,.arr true 24 1 []],s⟩) (λl0=>k (.exit 0) ⟨gp [(6,.fl 0)] 58,[.arr true 24 1 l0],s⟩):=by
 induction n generalizing e v q u with
 | zero=>rfl
 | succ n t=>rw[Q6];exact let K0:=(E6 1 (E5 (R6 L) Q Y (cd [1,1,1,1,0,1,0,0,1,1] Ew) (lpK 1 ((R6 L).keep 6) (bd (R6 L) Q Y (cd [1,1,1,1,0,1,0,0] (G3 [1,1,1,1,0,1,0,0,1,0,0,1] a (G3 [1,1,1,1,0,1,0,0,1,0,0,0,1,1] b Ew)))) n k)));let K1:=(E5 (R6 L) Q Y a K0);(j1 (by kernel_rfl) (A0 (A0 (A0 (A0 (A4 λr=>(A0 (A0 (A4 λb0=>((c K1 e v q r (q==b0) u).trans (congr (congr rfl (fx4 λf V b1 C=>(j1 (by kernel_rfl) (A4 λN=>(t f V N C))))) (fx6 λg W z a6 w D=>(j1 (by kernel_rfl) ((d K0 g W z a6 w D).trans (congr (congr rfl (by kernel_rfl)) (fx4 λh X b2 F=>(j1 (by kernel_rfl) (A4 λO=>(t h X O F))))))))))) ((c K1 e v q r false u).trans (congr (congr rfl (fx4 λi a0 b3 G=>(j1 (by kernel_rfl) (A4 λP=>(t i a0 P G))))) (fx6 λj a1 A a7 x H=>(j1 (by kernel_rfl) ((d K0 j a1 A a7 x H).trans (congr (congr rfl (by kernel_rfl)) (fx4 λl a2 b4 I=>(j1 (by kernel_rfl) (A4 λS=>(t l a2 S I))))))))))) ((c K1 e v q r false u).trans (congr (congr rfl (fx4 λm a3 b5 J=>(j1 (by kernel_rfl) (A4 λT=>(t m a3 T J))))) (fx6 λo a4 B a9 y K=>(j1 (by kernel_rfl) ((d K0 o a4 B a9 y K).trans (congr (congr rfl (by kernel_rfl)) (fx4 λp a5 b6 M=>(j1 (by kernel_rfl) (A4 λU=>(t p a5 U M)))))))))))) rfl) rfl) rfl) rfl))
noncomputable def Ac7{R:Type}(L:Nat)(e:By)(a:Bool)(f:LL->Option R)(g:LL->Option R):Option R:=cond (e==[]) (f []) (cond (A2 e.length) (vl (D5 (pcs (u8n (58:Int)) e)) λd=>Q6 L L a d 0 [] (λb=>g b) (λc=>f c)) none)
theorem Ce2(a:Code)(c:Tb (R:=PV × List Blk × Z) L Q Y s a)(b:Code)(d:Tc (R:=PV × List Blk × Z) L Q Y s b)(h:By)(e:Bool):A9 (R6 L) Q Y (cd [] (G3 [1,1,1,1,0,1,0,0,1,0,0,1] b (G3 [1,1,1,1,0,1,0,0,1,0,0,0,1,1] a Ew))) ⟨[pS h,pB e]++tps 63,[],s⟩ (F7 (R6 L) ae0)=Ac7 L h e (λg=>some (.tup [.fl 0,pB true],[.arr true 24 1 g],s)) (λg=>some (.tup [.fl 1,pB false],[.arr true 24 1 g,.arr true 24 1 []],s)):=by unfold Ac7;exact(j1 (by kernel_rfl) (A0 rfl (A0 (A4 λf=>((Ad0 L Q Y s (E6 0 (E5 (R6 L) Q Y (cd [1,1,1,1,1] Ew) (F7 (R6 L) ae0))) a c b d L e f 0 []).trans (by kernel_rfl))) rfl)))
theorem Ce3(d:Nat)(s0 last1):evC (R6 L) (d+1) Z Y 114 [pS s0,pB last1] [] s=Ac7 L s0 last1 (λa=>some (.tup [.fl 0,pB true],[.arr true 24 1 a],s)) (λa=>some (.tup [.fl 1,pB false],[.arr true 24 1 a,.arr true 24 1 []],s)):=
 (evE (fn:=ae0) (by kernel_rfl)).trans (j1 (by kernel_rfl) (Ce2 L (evC (R6 L) d) Y s (cd [1,1,1,1,0,1,0,0,1,0,0,0,1,1] Ew) (Ac8 L (evC (R6 L) d) Y s) (cd [1,1,1,1,0,1,0,0,1,0,0,1] Ew) (Ac9 L (evC (R6 L) d) Y s) s0 last1))
noncomputable abbrev ML:Code:=C8 ag2
noncomputable def Cu(L:Nat):Cfg:=B6 L [113] (A3 [(2,[0,1,0])]) [] (A3 [(6,[2]),(3,[0,2]),(5,[2]),(4,[0,2,17]),(2,[0,2,4]),(1,[0,2]),(0,[0])]) [] (A3 [(0,[]),(1,[0,2])]) (some [2]) [] [] []
noncomputable def U5{R:Type}(L n:Nat)(b:By)(a:Int)(c:Int->Option R)(d:Unit->Option R):Option R:=match n with|0=>none|n+1=>cond (ltI (A1 (a+1)) (b.length:Int)) (cond (inR a b.length) (cond ((bAt b a)==58) (cond (inR (A1 (a+1)) b.length) (vl (bAt b (A1 (a+1))) λe=>cond (e==58) (c a) (U5 L n b (A1 (a+1)) c d)) none) (U5 L n b (A1 (a+1)) c d)) none) (d ())
theorem LE(n s0 i1):D0 0 ((Cu L).keep 2) (bd (Cu L) Q Y (cd [1,0,1,0,0] ML)) n ⟨gp [(0,pS s0),(2,pI i1)] 19,[],s⟩ k =
 U5 L n s0 i1 (λn0=>k .ret ⟨gp [(2,pI n0)] 20,[],s⟩) (λ_=>k (.exit 0) ⟨gp [] 23,[],s⟩):=by
 induction n generalizing s0 i1 with
 | zero=>rfl
 | succ n a=>rw[U5];simp only[<-a];kernel_rfl
noncomputable def EC{R:Type}(L:Nat)(c:By)(b:Int->Option R):Option R:=U5 L L c 0 (λa=>b a) (λ_=>b (-1))
theorem A11(d:Nat)(s0):evC (Cu L) (d+1) Z Y 113 [pS s0] [] s=EC L s0 (λa=>some (pI a,[],s)):=by refine(evE (fn:=ag2) (by kernel_rfl)).trans ?_;generalize evC (Cu L) d=Q;unfold EC;exact(j1 (by kernel_rfl) ((LE L Q Y s (E6 0 (E5 (Cu L) Q Y (cd [1,1] ML) (F7 (Cu L) ag2))) L s0 0).trans (by kernel_rfl)))
noncomputable abbrev Sb:Code:=C8 ad8
noncomputable def Ac(L:Nat):Cfg:=B6 L [84] (A3 [(21,[2,0,0,6,2]),(17,[2,0,0,4,1,1]),(8,[2,0,0,1,1])]) [(113,MA),(114,Bd5)] (A3 [(24,[2,0]),(22,[2,1,6,2]),(23,[2,1,6,2]),(21,[2,1,6,2,73]),(20,[2,1,6,2]),(18,[2,1,4,1,1]),(19,[2,1,4,1,1]),(17,[2,1,4,1,1,62]),(16,[2,1,4,1,1]),(15,[2,0]),(14,[2,1,4,1,59]),(13,[2,1,4,0,0,0]),(12,[0,1,1,0,3,0]),(11,[2,0]),(9,[2,1,1,1]),(10,[2,1,1,1]),(8,[2,1,1,1,24]),(7,[2,1,1,1]),(6,[2,0]),(5,[2,1,1,23]),(4,[2,1,1,0]),(3,[0,1,1,0,12]),(2,[0,1,1,0]),(1,[0,1,1]),(0,[0,1])]) [113] (A3 [(4,[2,1]),(5,[2,1,6,2]),(2,[2,1,6]),(3,[2,1,4,1,1]),(0,[2,1]),(1,[2,1,1,1])]) (some [2,0]) [] [] []
noncomputable def Mh{R:Type}(L n:Nat)(b:Bool)(c:LL)(a:Int)(g d:LL)(f:LL->LL->Option R):Option R:=match n with|0=>none|n+1=>cond (ltI a 8) (cond (inR a c.length) (cond (okE ⟨true,false,[.int .u16]⟩ c (b9 a) 0) (cond (inR a 8) (cond (decide ((b9 a)<d.length)) (vl (aa6 d (b9 a) (F8 (b8 d (b9 a) []) 0 [(SV.int .u16 (gE c (b9 a) 0))])) λe=>Mh L n b c (A1 (a+1)) g e f) none) none) none) none) (f g d)
theorem A79(n l_z0 a i2 l3 l4):D0 2 ((Ac L).keep 8) (bd (Ac L) Q Y (cd [1,1,1,0,1,0,1,1,0,1,0,0] Sb)) n ⟨gp [(2,.ptr 0 0 0),(1,.ptr 1 0 0),(1,.s (.sl l_z0 l_z0 1 a)),(1,pI i2)] 93,[.arr false 25 1 l3,.arr false 25 1 l4],s⟩ k =
 Mh L n l_z0 a i2 l3 l4 (λc a=>k (.exit 0) ⟨gp [(2,.ptr 0 0 0),(1,.ptr 1 0 0)] 97,[.arr false 25 1 c,.arr false 25 1 a],s⟩):=by
 induction n generalizing l_z0 a i2 l3 l4 with
 | zero=>rfl
 | succ n b=>rw[Mh];simp only[<-b];kernel_rfl
noncomputable def Mi{R:Type}(L n:Nat)(e:Bool)(d:LL)(b:Bool)(i:LL)(a:Int)(h f:LL)(g:Bool->LL->LL->LL->Option R):Option R:=match n with|0=>none|n+1=>cond (ltI a (d.length:Int)) (cond (inR a d.length) (cond (okE ⟨true,false,[.int .u16]⟩ d (b9 a) 0) (cond (inR a 8) (cond (decide ((b9 a)<f.length)) (vl (aa6 f (b9 a) (F8 (b8 f (b9 a) []) 0 [(SV.int .u16 (gE d (b9 a) 0))])) λc=>Mi L n e d b i (A1 (a+1)) h c g) none) none) none) none) (g b i h f)
theorem A80(n l_z0 l1 r_z2 r3 i4 l5 l6):D0 2 ((Ac L).keep 17) (bd (Ac L) Q Y (cd [1,1,1,1,1,1,1,0,1,0,0] Sb)) n ⟨gp [(2,.ptr 0 0 0),(1,.ptr 1 0 0),(4,.s (.sl l_z0 l_z0 1 l1)),(1,.s (.sl r_z2 r_z2 1 r3)),(1,pI i4)] 88,[.arr false 25 1 l5,.arr false 25 1 l6],s⟩ k =
 Mi L n l_z0 l1 r_z2 r3 i4 l5 l6 (λa e c d=>k (.exit 2) ⟨gp [(2,.ptr 0 0 0),(1,.ptr 1 0 0),(6,.s (.sl a a 1 e))] 90,[.arr false 25 1 c,.arr false 25 1 d],s⟩):=by
 induction n generalizing l_z0 l1 r_z2 r3 i4 l5 l6 with
 | zero=>rfl
 | succ n b=>rw[Mi];simp only[<-b];kernel_rfl
noncomputable def Mj{R:Type}(L n:Nat)(e:Bool)(c:LL)(b:Int)(h f:LL)(g:LL->LL->Option R):Option R:=match n with|0=>none|n+1=>cond (ltI b (c.length:Int)) (vl (A1 ((8:Int)-(c.length:Int))) λa=>cond (inR b c.length) (cond (okE ⟨true,false,[.int .u16]⟩ c (b9 b) 0) (cond (inR (A1 (a+b)) 8) (cond (decide ((b9 (A1 (a+b)))<f.length)) (vl (aa6 f (b9 (A1 (a+b))) (F8 (b8 f (b9 (A1 (a+b))) []) 0 [(SV.int .u16 (gE c (b9 b) 0))])) λd=>Mj L n e c (A1 (b+1)) h d g) none) none) none) none) (g h f)
theorem A81(n r_z0 r1 i2 l3 l4):D0 2 ((Ac L).keep 21) (bd (Ac L) Q Y (cd [1,1,1,1,1,1,1,1,0,1,0,0] Sb)) n ⟨gp [(2,.ptr 0 0 0),(1,.ptr 1 0 0),(6,.s (.sl r_z0 r_z0 1 r1)),(2,pI i2)] 87,[.arr false 25 1 l3,.arr false 25 1 l4],s⟩ k =
 Mj L n r_z0 r1 i2 l3 l4 (λb c=>k (.exit 4) ⟨gp [(2,.ptr 0 0 0),(1,.ptr 1 0 0)] 97,[.arr false 25 1 b,.arr false 25 1 c],s⟩):=by
 induction n generalizing r_z0 r1 i2 l3 l4 with
 | zero=>rfl
 | succ n a=>rw[Mj];simp only[<-a];kernel_rfl
noncomputable def Cg8{R:Type}(L:Nat)(e:By)(j:Int->Int->Int->Int->Int->Int->Int->Int->Bool->LL->LL->Option R):Option R:=cond (A2 e.length) (cond (ltI (HJ e) (0:Int)) (cond (A2 e.length) (cond (not (j5 (O7 e true))) (j 0 0 0 0 0 0 0 0 false (j0 8 [(SV.int .u16 (0:Int))]) (j0 8 [(SV.int .u16 (0:Int))])) (cond ((↑(a8 (D7 (gvs e true))):Int)!=8) (j 0 0 0 0 0 0 0 0 false (j0 8 [(SV.int .u16 (0:Int))]) (j0 8 [(SV.int .u16 (0:Int))])) (Mh L L (j8 (gvs e true)) (D7 (gvs e true)) 0 (j0 8 [(SV.int .u16 (0:Int))]) (j0 8 [(SV.int .u16 (0:Int))]) (λn a=>cond ((decide (8=(a.length*1)))&&(okS ⟨true,true,[.int .u16,.int .u16,.int .u16,.int .u16,.int .u16,.int .u16,.int .u16,.int .u16]⟩ (c9 a) 0)) (vl (SV.gI (b8 (c9 a) 0 SV.nilp)) λo=>vl (SV.gI (b8 (c9 a) 1 SV.nilp)) λp=>vl (SV.gI (b8 (c9 a) 2 SV.nilp)) λq=>vl (SV.gI (b8 (c9 a) 3 SV.nilp)) λr=>vl (SV.gI (b8 (c9 a) 4 SV.nilp)) λt=>vl (SV.gI (b8 (c9 a) 5 SV.nilp)) λu=>vl (SV.gI (b8 (c9 a) 6 SV.nilp)) λv=>vl (SV.gI (b8 (c9 a) 7 SV.nilp)) λw=>cond (decide (8=(n.length*1))) (vl (T3 1 n.length [(SV.int .u16 o),(SV.int .u16 p),(SV.int .u16 q),(SV.int .u16 r),(SV.int .u16 t),(SV.int .u16 u),(SV.int .u16 v),(SV.int .u16 w)]) λb=>cond ((decide (8=(b.length*1)))&&(okS ⟨true,true,[.int .u16,.int .u16,.int .u16,.int .u16,.int .u16,.int .u16,.int .u16,.int .u16]⟩ (c9 b) 0)) (j (SV.gI (b8 (c9 b) 0 SV.nilp)) (SV.gI (b8 (c9 b) 1 SV.nilp)) (SV.gI (b8 (c9 b) 2 SV.nilp)) (SV.gI (b8 (c9 b) 3 SV.nilp)) (SV.gI (b8 (c9 b) 4 SV.nilp)) (SV.gI (b8 (c9 b) 5 SV.nilp)) (SV.gI (b8 (c9 b) 6 SV.nilp)) (SV.gI (b8 (c9 b) 7 SV.nilp)) true b a) none) none) none)))) none) (cond (I7 0 (HJ e) e.length) (vl (cut e 0 (HJ e)) λf=>cond (A2 f.length) (vl (A1 ((HJ e)+2)) λG=>cond (I7 G (e.length:Int) e.length) (vl (cut e G (e.length:Int)) λg=>cond (A2 g.length) (cond (not (j5 (O7 f false))) (j 0 0 0 0 0 0 0 0 false (j0 8 [(SV.int .u16 (0:Int))]) (j0 8 [(SV.int .u16 (0:Int))])) (cond (not (j5 (O7 g true))) (j 0 0 0 0 0 0 0 0 false (j0 8 [(SV.int .u16 (0:Int))]) (j0 8 [(SV.int .u16 (0:Int))])) (vl (A1 ((↑(a8 (D7 (gvs f false))):Int)+(↑(a8 (D7 (gvs g true))):Int))) λI=>cond (ltI 7 I) (j 0 0 0 0 0 0 0 0 false (j0 8 [(SV.int .u16 (0:Int))]) (j0 8 [(SV.int .u16 (0:Int))])) (Mi L L (j8 (gvs f false)) (D7 (gvs f false)) (j8 (gvs g true)) (D7 (gvs g true)) 0 (j0 8 [(SV.int .u16 (0:Int))]) (j0 8 [(SV.int .u16 (0:Int))]) (λh H l m=>Mj L L h H 0 l m (λi c=>cond ((decide (8=(c.length*1)))&&(okS ⟨true,true,[.int .u16,.int .u16,.int .u16,.int .u16,.int .u16,.int .u16,.int .u16,.int .u16]⟩ (c9 c) 0)) (vl (SV.gI (b8 (c9 c) 0 SV.nilp)) λx=>vl (SV.gI (b8 (c9 c) 1 SV.nilp)) λy=>vl (SV.gI (b8 (c9 c) 2 SV.nilp)) λz=>vl (SV.gI (b8 (c9 c) 3 SV.nilp)) λA=>vl (SV.gI (b8 (c9 c) 4 SV.nilp)) λB=>vl (SV.gI (b8 (c9 c) 5 SV.nilp)) λC=>vl (SV.gI (b8 (c9 c) 6 SV.nilp)) λD=>vl (SV.gI (b8 (c9 c) 7 SV.nilp)) λF=>cond (decide (8=(i.length*1))) (vl (T3 1 i.length [(SV.int .u16 x),(SV.int .u16 y),(SV.int .u16 z),(SV.int .u16 A),(SV.int .u16 B),(SV.int .u16 C),(SV.int .u16 D),(SV.int .u16 F)]) λd=>cond ((decide (8=(d.length*1)))&&(okS ⟨true,true,[.int .u16,.int .u16,.int .u16,.int .u16,.int .u16,.int .u16,.int .u16,.int .u16]⟩ (c9 d) 0)) (j (SV.gI (b8 (c9 d) 0 SV.nilp)) (SV.gI (b8 (c9 d) 1 SV.nilp)) (SV.gI (b8 (c9 d) 2 SV.nilp)) (SV.gI (b8 (c9 d) 3 SV.nilp)) (SV.gI (b8 (c9 d) 4 SV.nilp)) (SV.gI (b8 (c9 d) 5 SV.nilp)) (SV.gI (b8 (c9 d) 6 SV.nilp)) (SV.gI (b8 (c9 d) 7 SV.nilp)) true d c) none) none) none)))))) none) none) none) none)) none
theorem C01(d:Nat)(s0):evC (Ac L) (d+1) Z Y 84 [pS s0] [] s=Cg8 L s0 (λl m n o p q r t r8 h l10=>some (.tup [.agg [p16 l,p16 m,p16 n,p16 o,p16 p,p16 q,p16 r,p16 t],pB r8],[.arr false 25 1 h,.arr false 25 1 l10],s)):=by refine(evE (fn:=ad8) (by kernel_rfl)).trans ?_;generalize evC (Ac L) d=Q;unfold Cg8;exact(j1 (by kernel_rfl) (A0 (A0 (A0 (A0 rfl (A0 rfl ((A79 L Q Y s (E6 0 (E5 (Ac L) Q Y (cd [1,1,1,0,1,0,1,1,1] Sb) (E5 (Ac L) Q Y (cd [1,1,1,1] Sb) (F7 (Ac L) ad8)))) L (j8 (gvs s0 true)) (D7 (gvs s0 true)) 0 (j0 8 [(SV.int .u16 (0:Int))]) (j0 8 [(SV.int .u16 (0:Int))])).trans (by kernel_rfl)))) rfl) (A0 (A4 λf=>(A0 (A4 λi=>(A0 (A4 λg=>(A0 (A0 rfl (A0 rfl (A4 λj=>(A0 rfl ((A80 L Q Y s (E6 2 (E5 (Ac L) Q Y (cd [1,1,1,1,1,1,1,1] Sb) (F7 (Ac L) ad8))) L (j8 (gvs f false)) (D7 (gvs f false)) (j8 (gvs g true)) (D7 (gvs g true)) 0 (j0 8 [(SV.int .u16 (0:Int))]) (j0 8 [(SV.int .u16 (0:Int))])).trans (congr rfl (fx4 λa e b c=>(j1 (by kernel_rfl) ((A81 L Q Y s (E6 4 (E5 (Ac L) Q Y (cd [1,1,1,1,1,1,1,1,1] Sb) (F7 (Ac L) ad8))) L a e 0 b c).trans (by kernel_rfl)))))))))) rfl)) rfl)) rfl)) rfl)) rfl))
noncomputable def GS(L:Nat):Cfg:=B6 L [168] (A3 []) [] (A3 [(1,[2]),(0,[0])]) [] (A3 []) (some [2]) [] [] []
noncomputable def VA{R:Type}(L:Nat)(n0:Int)(a:Bool->Option R):Option R:=cond (not (ltI n0 0)) (cond (not (ltI 1114111 n0)) (cond (ltI n0 55296) (a true) (a (ltI 57343 n0))) (a false)) (a false)
theorem Bt2(d:Nat)(n0):evC (GS L) (d+1) Z Y 168 [pI n0] [] s=VA L n0 (λa=>some (pB a,[],s)):=by refine(evE (fn:=Tryz.f168) (by kernel_rfl)).trans ?_;generalize evC (GS L) d=Q;unfold VA;kernel_rfl
noncomputable abbrev Nx:Code:=C8 ae7
noncomputable def X1(L:Nat):Cfg:=B6 L [170] (A3 [(6,[0,5,0])]) [] (A3 [(9,[6]),(8,[0,6]),(7,[0,6]),(6,[0,6,11]),(5,[0,6]),(4,[0]),(2,[0,0]),(3,[0,0]),(1,[0,0,6]),(0,[0,0,0])]) [] (A3 [(0,[0,6]),(1,[0,6])]) (some [6]) [] [] []
noncomputable def Ga{R:Type}(L n:Nat)(a b:Int)(e:Int->Int->Option R):Option R:=match n with|0=>none|n+1=>cond (ltI 455 a) (vl (A1 (ab2 a (35:Int))) λc=>vl (A1 (b+36)) λd=>Ga L n c d e) (e a b)
theorem UV(n a b):D0 0 ((X1 L).keep 6) (bd (X1 L) Q Y (cd [1,1,1,1,0,0,0] Nx)) n ⟨gp [(0,pI a),(6,pI b)] 23,[],s⟩ k =
 Ga L n a b (λa b=>k (.exit 0) ⟨gp [(0,pI a),(6,pI b)] 23,[],s⟩):=by
 induction n generalizing a b with
 | zero=>rfl
 | succ n c=>rw[Ga];simp only[<-c];kernel_rfl
noncomputable def Fz{R:Type}(L:Nat)(c b:Int)(i:Int->Option R):Option R:=cond (b !=0) (vl (A1 (ab2 c b)) λh=>Ga L L (A1 (c+h)) 0 (λa e=>vl (A1 ((36:Int)*a)) λf=>vl (A1 (a+38)) λd=>cond (d !=0) (vl (A1 (ab2 f d)) λg=>i (A1 (e+g))) none)) none
abbrev CC(b:Code):Prop:=∀(k:Out->St Z->Option R) delta0 count1,A9 (X1 L) Q Y b ⟨gp [(0,pI delta0),(0,pI count1)] 29,[],s⟩ k=Fz L delta0 count1 (λn0=>k .ret ⟨gp [(6,pI n0)] 24,[],s⟩)
theorem UU:CC (R:=R) L Q Y s (cd [1,1] Nx):=by intro k a b;unfold Fz;exact(j1 (by kernel_rfl) (A0 (A4 λc=>((UV L Q Y s (E6 0 (E5 (X1 L) Q Y (cd [1,1,1,1,1] Nx) k)) L (A1 (a+c)) 0).trans (by kernel_rfl))) rfl))
noncomputable def JC{R:Type}(L:Nat)(b a:Int)(c:Bool)(h:Int->Option R):Option R:=cond c (vl (A1 (ab2 b (700:Int))) λf=>Fz L f a (λd=>h d)) (vl (A1 (ab2 b (2:Int))) λg=>Fz L g a (λe=>h e))
theorem Br8(e:Code)(a:CC (R:=PV × List Blk × Z) L Q Y s e)(c b:Int)(d:Bool):A9 (X1 L) Q Y (cd [] (G3 [1,1] e Nx)) ⟨[pI c,pI b,pB d]++tps 28,[],s⟩ (F7 (X1 L) ae7)=JC L c b d (λi=>some (pI i,[],s)):=by unfold JC;exact let h:=(F7 (X1 L) ae7);(j1 (by kernel_rfl) (A0 (A4 λf=>((a h f b).trans (by kernel_rfl))) (A4 λg=>((a h g b).trans (by kernel_rfl)))))
theorem Br9(d:Nat)(delta0 count1 first2):evC (X1 L) (d+1) Z Y 170 [pI delta0,pI count1,pB first2] [] s=JC L delta0 count1 first2 (λa=>some (pI a,[],s)):=
 (evE (fn:=ae7) (by kernel_rfl)).trans (j1 (by kernel_rfl) (Br8 L (evC (X1 L) d) Y s (cd [1,1] Nx) (UU L (evC (X1 L) d) Y s) delta0 count1 first2))
noncomputable def Aq8(L:Nat):Cfg:=B6 L [183] (A3 []) [] (A3 [(3,[2]),(2,[2]),(1,[0,3]),(0,[0])]) [] (A3 []) (some [2]) [] [] []
noncomputable def Cw5{R:Type}(L:Nat)(a:Int)(d:Int->Option R):Option R:=cond (ltI a 26) (vl (wu8 (A1 ((97:Int)+a))) λb=>d b) (vl (A1 ((A1 ((48:Int)+a))-26)) λc=>d (wu8 c))
theorem Cw6(d:Nat)(d0):evC (Aq8 L) (d+1) Z Y 183 [pI d0] [] s=Cw5 L d0 (λa=>some (p8 a,[],s)):=by refine(evE (fn:=Tryz.f183) (by kernel_rfl)).trans ?_;generalize evC (Aq8 L) d=Q;unfold Cw5;kernel_rfl
noncomputable abbrev Rz:Code:=C8 ae9
noncomputable def Iw(L:Nat):Cfg:=B6 L [189] (A3 []) [] (A3 [(7,[2]),(2,[2]),(4,[2]),(6,[2]),(5,[0,22]),(3,[0,12]),(1,[0,2]),(0,[0])]) [] (A3 [(0,[])]) (some [2]) [] [] []
noncomputable def We{R:Type}(a:Int)(g:Bool)(e:Int->Option R)(f:Int->Bool->Option R):Option R:=cond g (vl (A1 (wu8 (a-65))) λb=>e b) (cond (not (ltI a 48)) (cond (not (ltI 57 a)) (vl (A1 (wu8 (a-48))) λc=>vl (A1 (c+26)) λd=>e d) (f a (not (ltI 57 a)))) (f a false))
abbrev OD(b:Code):Prop:=∀(k:Out->St Z->Option R) a c,A9 (Iw L) Q Y b ⟨gp [(0,p8 a),(12,pB c)] 20,[],s⟩ k=We a c (λn0=>k .ret ⟨gp [(2,pI n0)] 31,[],s⟩) (λa c=>k .normal ⟨gp [(0,p8 a),(22,pB c)] 10,[],s⟩)
theorem A00:OD (R:=R) L Q Y s (cd [1,0,0,1,1,1] Rz):=by intro k a b;unfold We;kernel_rfl
noncomputable def Wf{R:Type}(a:Int)(l:Bool)(f:Int->Option R)(j:Int->Bool->Option R):Option R:=cond l (vl (A1 (wu8 (a-97))) λg=>f g) (cond (not (ltI a 65)) (We a (not (ltI 90 a)) (λh=>f h) (λb c=>j b c)) (We a false (λi=>f i) (λd e=>j d e)))
abbrev AM(b:Code):Prop:=∀(k:Out->St Z->Option R) a c,A9 (Iw L) Q Y b ⟨gp [(0,p8 a),(2,pB c)] 30,[],s⟩ k=Wf a c (λn0=>k .ret ⟨gp [(2,pI n0)] 31,[],s⟩) (λa c=>k .normal ⟨gp [(0,p8 a),(22,pB c)] 10,[],s⟩)
theorem A01(a:Code)(b:OD (R:=R) L Q Y s a):AM (R:=R) L Q Y s (cd [1,0,0,1] (G3 [1,0,0,1,1,1] a Rz)):=by intro k c d;unfold Wf;simp only[<-b k];kernel_rfl
theorem A02:AM (R:=R) L Q Y s (cd [1,0,0,1] Rz):=by intro k a b;exact j1 (by kernel_rfl) (A01 L Q Y s (cd [1,0,0,1,1,1] Rz) (A00 L Q Y s) k a b)
noncomputable def Cd2{R:Type}(L:Nat)(c:Int)(d:Int->Option R):Option R:=cond (not (ltI c 97)) (Wf c (not (ltI 122 c)) (λa=>d a) (λe f=>d (-1))) (Wf c false (λb=>d b) (λg h=>d (-1)))
theorem Cx5(b:Code)(a:AM (R:=PV × List Blk × Z) L Q Y s b)(c:Int):A9 (Iw L) Q Y (cd [] (G3 [1,0,0,1] b Rz)) ⟨[p8 c]++tps 33,[],s⟩ (F7 (Iw L) ae9)=Cd2 L c (λe=>some (pI e,[],s)):=by unfold Cd2;exact let d:=(E6 0 (E5 (Iw L) Q Y (cd [1,1] Rz) (F7 (Iw L) ae9)));(j1 (by kernel_rfl) (A0 ((a d c (not (ltI 122 c))).trans (by kernel_rfl)) ((a d c false).trans (by kernel_rfl))))
theorem Cx6(d:Nat)(b0):evC (Iw L) (d+1) Z Y 189 [p8 b0] [] s=Cd2 L b0 (λa=>some (pI a,[],s)):=
 (evE (fn:=ae9) (by kernel_rfl)).trans (j1 (by kernel_rfl) (Cx5 L (evC (Iw L) d) Y s (cd [1,0,0,1] Rz) (A02 L (evC (Iw L) d) Y s) b0))
end
section
variable {Z R : Type} (L : Nat) (Q : G0) (Y : Yh Z) (s : Z) (k : Out -> St Z -> Option R)
noncomputable def Aq5(L:Nat):Cfg:=B6 L [79] (A3 []) [] (A3 [(1,[4]),(0,[0,0])]) [] (A3 []) (some [4]) [] [] []
noncomputable def Cu7{R:Type}(L:Nat)(c a:By)(d:Bool->Option R):Option R:=cond (not (ltI (c.length:Int) (a.length:Int))) (cond (I7 0 (a.length:Int) c.length) (vl (cut c 0 (a.length:Int)) λb=>d (b==a)) none) (d false)
theorem Cu8(d:Nat)(s0 prefix1):evC (Aq5 L) (d+1) Z Y 79 [pS s0,pS prefix1] [] s=Cu7 L s0 prefix1 (λa=>some (pB a,[],s)):=by refine(evE (fn:=Tryz.f79) (by kernel_rfl)).trans ?_;generalize evC (Aq5 L) d=Q;unfold Cu7;kernel_rfl
noncomputable def Aq2(L:Nat):Cfg:=B6 L [59] (A3 []) [(79,QH)] (A3 [(1,[4]),(0,[0,0])]) [79] (A3 []) (some [4]) [] [] []
noncomputable def Ok{R:Type}(L:Nat)(b a:By)(c:Bool->Option R):Option R:=cond (A2 b.length) (c (s7 a b)) none
theorem Cs8(d:Nat)(s0 prefix1):evC (Aq2 L) (d+1) Z Y 59 [pS s0,pS prefix1] [] s=Ok L s0 prefix1 (λa=>some (pB a,[],s)):=by refine(evE (fn:=Tryz.f59) (by kernel_rfl)).trans ?_;generalize evC (Aq2 L) d=Q;unfold Ok;kernel_rfl
noncomputable def Aq6(L:Nat):Cfg:=B6 L [93] (A3 []) [] (A3 [(1,[4]),(0,[0,0])]) [] (A3 []) (some [4]) [] [] []
noncomputable def Cu9{R:Type}(L:Nat)(b a:By)(e:Bool->Option R):Option R:=cond (not (ltI (b.length:Int) (a.length:Int))) (vl (A1 ((b.length:Int)-(a.length:Int))) λc=>cond (I7 c (b.length:Int) b.length) (vl (cut b c (b.length:Int)) λd=>e (d==a)) none) (e false)
theorem Cv0(d:Nat)(s0 suffix1):evC (Aq6 L) (d+1) Z Y 93 [pS s0,pS suffix1] [] s=Cu9 L s0 suffix1 (λa=>some (pB a,[],s)):=by refine(evE (fn:=Tryz.f93) (by kernel_rfl)).trans ?_;generalize evC (Aq6 L) d=Q;unfold Cu9;kernel_rfl
noncomputable def Aq3(L:Nat):Cfg:=B6 L [65] (A3 []) [(93,Am4)] (A3 [(1,[4]),(0,[0,0])]) [93] (A3 []) (some [4]) [] [] []
noncomputable def Cs9{R:Type}(L:Nat)(b a:By)(c:Bool->Option R):Option R:=cond (A2 b.length) (c (aa8 a b)) none
theorem Ct0(d:Nat)(s0 suffix1):evC (Aq3 L) (d+1) Z Y 65 [pS s0,pS suffix1] [] s=Cs9 L s0 suffix1 (λa=>some (pB a,[],s)):=by refine(evE (fn:=Tryz.f65) (by kernel_rfl)).trans ?_;generalize evC (Aq3 L) d=Q;unfold Cs9;kernel_rfl
noncomputable def SX(L:Nat):Cfg:=B6 L [137] (A3 []) [(93,Am4)] (A3 [(3,[4]),(2,[4]),(1,[0,0,5]),(0,[0,0])]) [93] (A3 []) (some [4]) [] [] []
noncomputable def Bi2{R:Type}(L:Nat)(b a:By)(d:By->Option R):Option R:=cond (A2 b.length) (cond (aa8 a b) (vl (A1 ((b.length:Int)-(a.length:Int))) λc=>cond (I7 0 c b.length) (d (cut b 0 c)) none) (d b)) none
theorem Ca5(d:Nat)(s0 suffix1):evC (SX L) (d+1) Z Y 137 [pS s0,pS suffix1] [] s=Bi2 L s0 suffix1 (λa=>some (pS a,[],s)):=by refine(evE (fn:=Tryz.f137) (by kernel_rfl)).trans ?_;generalize evC (SX L) d=Q;unfold Bi2;kernel_rfl
noncomputable def TG(L:Nat):Cfg:=B6 L [107] (A3 []) [(137,Bd3)] (A3 [(1,[4]),(0,[0,0])]) [137] (A3 []) (some [4]) [] [] []
noncomputable def Bk8{R:Type}(L:Nat)(b a:By)(c:By->Option R):Option R:=cond (A2 b.length) (c (WM b a)) none
theorem Ci8(d:Nat)(s0 suffix1):evC (TG L) (d+1) Z Y 107 [pS s0,pS suffix1] [] s=Bk8 L s0 suffix1 (λa=>some (pS a,[],s)):=by refine(evE (fn:=Tryz.f107) (by kernel_rfl)).trans ?_;generalize evC (TG L) d=Q;unfold Bk8;kernel_rfl
noncomputable def ST(L:Nat):Cfg:=B6 L [74] (A3 []) [(79,QH)] (A3 [(3,[4,0]),(2,[4,0]),(1,[0,0,7]),(0,[0,0])]) [79] (A3 []) (some [4,0]) [] [] []
noncomputable def Bh6{R:Type}(L:Nat)(b a:By)(d:By->Bool->Option R):Option R:=cond (A2 b.length) (cond (not (s7 a b)) (d b false) (cond (I7 (a.length:Int) (b.length:Int) b.length) (vl (cut b (a.length:Int) (b.length:Int)) λc=>d c true) none)) none
theorem B99(d:Nat)(s0 prefix1):evC (ST L) (d+1) Z Y 74 [pS s0,pS prefix1] [] s=Bh6 L s0 prefix1 (λa b=>some (.tup [pS a,pB b],[],s)):=by refine(evE (fn:=Tryz.f74) (by kernel_rfl)).trans ?_;generalize evC (ST L) d=Q;unfold Bh6;kernel_rfl
noncomputable def Ap7(L:Nat):Cfg:=B6 L [57] (A3 []) [(74,Bd0)] (A3 [(1,[4,0]),(0,[0,0])]) [74] (A3 []) (some [4,0]) [] [] []
noncomputable def Cp3{R:Type}(L:Nat)(b a:By)(c:By->Bool->Option R):Option R:=cond (A2 b.length) (c (Gp b a) (s7 a b)) none
theorem Cp4(d:Nat)(s0 prefix1):evC (Ap7 L) (d+1) Z Y 57 [pS s0,pS prefix1] [] s=Cp3 L s0 prefix1 (λa b=>some (.tup [pS a,pB b],[],s)):=by refine(evE (fn:=Tryz.f57) (by kernel_rfl)).trans ?_;generalize evC (Ap7 L) d=Q;unfold Cp3;kernel_rfl
noncomputable abbrev XX:Code:=C8 ag4
noncomputable def Dy(L:Nat):Cfg:=B6 L [138] (A3 [(11,[0,0,0,0,4,0,0])]) [(165,Jm),(166,An6),(154,FY)] (A3 [(18,[8]),(17,[9,0]),(16,[0,0,0,0,5,0]),(15,[0,0,0,0,5,0]),(14,[0,0,0,0,5,0,0]),(13,[0,0,0,0,5,0,0,29]),(12,[0,0,0,0,5,0,0]),(11,[0,0,0,0,5,0,25]),(10,[0,0,0,0,5,0]),(9,[0,0,0,0,5]),(8,[0,0,0,0,5]),(7,[0,0,0,0]),(6,[0,0,0,0]),(5,[0,0,0,0,16]),(4,[8]),(3,[0,0,0,0,11]),(2,[8]),(1,[0,0,0,0,9]),(0,[0,0,0,0])]) [166,154] (A3 [(0,[0,8,0]),(1,[0,0,0,0,5,0])]) (some [8]) [] [] []
noncomputable def Bc{R:Type}(L n:Nat)(c b:By)(a l d:Int)(g:LL)(j:By->Int->LL->Option R):Option R:=match n with|0=>none|n+1=>cond (ltI d l) (cond (A2 c.length) (cond (ltI (y7 c b) (0:Int)) (j c d g) (vl (A1 ((y7 c b)+a)) λe=>cond (I7 0 e c.length) (cond (inR d g.length) (cond (decide ((b9 d)<g.length)) (vl (aa6 g (b9 d) (F8 (b8 g (b9 d) []) 0 [(SV.str (cut c 0 e))])) λh=>vl (A1 ((y7 c b)+(b.length:Int))) λf=>cond (I7 f (c.length:Int) c.length) (vl (cut c f (c.length:Int)) λi=>Bc L n i b a l (A1 (d+1)) h j) none) none) none) none)) none) (j c d g)
theorem Vh(n a sep1 sepSave2 n3 i4 l5):D0 1 ((Dy L).keep 11) (bd (Dy L) Q Y (cd [1,1,1,1,1,1,1,1,0,0,0] XX)) n ⟨gp [(0,pS a),(0,pS sep1),(0,pI sepSave2),(0,pI n3),(5,.fl 0),(0,pI i4)] 55,[.arr false 9 1 l5],s⟩ k =
 Bc L n a sep1 sepSave2 n3 i4 l5 (λa b d=>k (.exit 0) ⟨gp [(0,pS a),(8,.fl 0),(0,pI b)] 55,[.arr false 9 1 d],s⟩):=by
 induction n generalizing a sep1 sepSave2 n3 i4 l5 with
 | zero=>rfl
 | succ n c=>rw[Bc];simp only[<-c];kernel_rfl
noncomputable def HY{R:Type}(L:Nat)(t d:By)(a u:Int)(w:Unit->Option R)(v:Nat->LL->Option R):Option R:=cond (u==0) (w ()) (cond (d==[]) none (cond (ltI u 0) (cond (d.length==1) (vl (↑(List.count (b8 d 0 0) t):Int) λn=>vl (A1 ((t.length:Int)+1)) λo=>vl (if (o<(A1 (n+1))) then o else (A1 (n+1))) λg=>cond (((decide ((0:Int)<=g))&&(decide (g<=g)))&&(F6 (b9 g))) (Bc L L t d a (A1 (g-1)) 0 (j0 (b9 g) [(SV.str ([]:List UInt8))]) (λq b e=>cond (inR b e.length) (cond (decide ((b9 b)<e.length)) (vl (aa6 e (b9 b) (F8 (b8 e (b9 b) []) 0 [(SV.str q)])) λi=>vl (A1 (b+1)) λl=>cond (I7 0 l i.length) (v ((b9 l)-0) i) none) none) none)) none) none) (vl (A1 ((t.length:Int)+1)) λp=>vl (if (p<u) then p else u) λh=>cond (((decide ((0:Int)<=h))&&(decide (h<=h)))&&(F6 (b9 h))) (Bc L L t d a (A1 (h-1)) 0 (j0 (b9 h) [(SV.str ([]:List UInt8))]) (λr c f=>cond (inR c f.length) (cond (decide ((b9 c)<f.length)) (vl (aa6 f (b9 c) (F8 (b8 f (b9 c) []) 0 [(SV.str r)])) λj=>vl (A1 (c+1)) λm=>cond (I7 0 m j.length) (v ((b9 m)-0) j) none) none) none)) none)))
theorem NG(d:Nat)(s0 sep1 sepSave2 n3):evC (Dy L) (d+1) Z Y 138 [pS s0,pS sep1,pI sepSave2,pI n3] [] s=HY L s0 sep1 sepSave2 n3 (λ_=>some (.fl 0,[.arr true 9 1 []],s)) (λc f=>some (.vw 0 0 c,[.arr false 9 1 f],s)):=by refine(evE (fn:=ag4) (by kernel_rfl)).trans ?_;generalize evC (Dy L) d=Q;unfold HY;exact let e:=(E6 0 (E5 (Dy L) Q Y (cd [1,1,1,1,1,1,1,1,1] XX) (F7 (Dy L) ag4)));(j1 (by kernel_rfl) (A0 rfl (A0 rfl (A0 (A0 (A4 λg=>(A4 λh=>(A4 λa=>(A0 ((Vh L Q Y s e L s0 sep1 sepSave2 (A1 (a-1)) 0 (j0 (b9 a) [(SV.str ([]:List UInt8))])).trans (by kernel_rfl)) rfl)))) rfl) (A4 λi=>(A4 λb=>(A0 ((Vh L Q Y s e L s0 sep1 sepSave2 (A1 (b-1)) 0 (j0 (b9 b) [(SV.str ([]:List UInt8))])).trans (by kernel_rfl)) rfl)))))))
noncomputable def GY(L:Nat):Cfg:=B6 L [109] (A3 []) [(138,XL)] (A3 [(1,[4]),(0,[0,0])]) [] (A3 []) (some [4]) [] [] []
noncomputable def WH{R:Type}(L:Nat)(c a:By)(d:LL->Option R):Option R:=cond (A2 c.length) (cond (a.length==1) (cond ((0:Int)==0) (cond (((-1):Int)==((-1):Int)) (vl (D5 (pcs (b8 a 0 0) c)) λb=>d b) none) none) none) none
theorem By2(d:Nat)(s0 sep1):evC (GY L) (d+1) Z Y 109 [pS s0,pS sep1] [] s=WH L s0 sep1 (λa=>some (.s (.sl false false 1 a),[],s)):=by refine(evE (fn:=Tryz.f109) (by kernel_rfl)).trans ?_;generalize evC (GY L) d=Q;unfold WH;kernel_rfl
noncomputable abbrev B47:Code:=C8 ah7
noncomputable def Sf(L:Nat):Cfg:=B6 L [56] (A3 [(3,[0,1,0,6,0])]) [] (A3 [(10,[2]),(9,[0,2,6,0]),(8,[0,2,6,0]),(7,[0,2,1,4,0]),(6,[0,2,1,4,0,10]),(5,[0,2,1,4,0]),(4,[0,2,0,5,0]),(3,[0,2,6,0,0]),(2,[0,2,6,0]),(1,[0,2]),(0,[0])]) [] (A3 [(0,[3]),(1,[0,2,6,0])]) (some [2]) [] [] []
noncomputable def Fb{R:Type}(L n:Nat)(b:By)(e a:Int)(c:LL)(d:LL->Option R):Option R:=match n with|0=>none|n+1=>cond (ltI a e) (cond (inR a b.length) (cond (not (ltI (bAt b a) (65:Int))) (cond (not (ltI 90 (bAt b a))) (vl (wu8 ((bAt b a)+32)) λf=>cond (F6 (c.length+1)) (Fb L n b e (A1 (a+1)) (c++[[(SV.int .u8 f)]]) d) none) (cond (F6 (c.length+1)) (Fb L n b e (A1 (a+1)) (c++[[(SV.int .u8 (bAt b a))]]) d) none)) (cond (F6 (c.length+1)) (Fb L n b e (A1 (a+1)) (c++[[(SV.int .u8 (bAt b a))]]) d) none)) none) (d c)
theorem Aw3(n s0 n1 n2 l3):D0 1 ((Sf L).keep 3) (bd (Sf L) Q Y (cd [1,1,0,1,0,0] B47)) n ⟨gp [(0,pS s0),(2,.fl 0),(6,pI n1),(0,pI n2)] 20,[.arr false 5 1 l3],s⟩ k =
 Fb L n s0 n1 n2 l3 (λb=>k (.exit 0) ⟨gp [(3,.fl 0)] 28,[.arr false 5 1 b],s⟩):=by
 induction n generalizing s0 n1 n2 l3 with
 | zero=>rfl
 | succ n a=>rw[Fb];simp only[<-a];kernel_rfl
noncomputable def Cu5{R:Type}(L:Nat)(b:By)(c:By->LL->Option R):Option R:=cond ((decide ((0:Int)<=(b.length:Int)))&&(F6 (b9 (b.length:Int)))) (Fb L L b (b.length:Int) 0 [] (λa=>cond (x7 a Nj) (c (w6 Lh a) a) none)) none
theorem Cu6(d:Nat)(s0):evC (Sf L) (d+1) Z Y 56 [pS s0] [] s=Cu5 L s0 (λb a=>some (pS b,[.arr false 5 1 a],s)):=by refine(evE (fn:=ah7) (by kernel_rfl)).trans ?_;generalize evC (Sf L) d=Q;unfold Cu5;exact(j1 (by kernel_rfl) (A0 ((Aw3 L Q Y s (E6 0 (E5 (Sf L) Q Y (cd [1,1,1] B47) (F7 (Sf L) ah7))) L s0 (s0.length:Int) 0 []).trans (by kernel_rfl)) rfl))
noncomputable def Aq0(L:Nat):Cfg:=B6 L [122] (A3 []) [(59,ES)] (A3 [(1,[2]),(0,[0])]) [59] (A3 []) (some [2]) [] [] []
noncomputable def Cs3{R:Type}(L:Nat)(a:By)(b:Bool->Option R):Option R:=cond (A2 a.length) (cond (s7 ([48,120]:List UInt8) a) (b true) (cond (A2 a.length) (b (s7 ([48,88]:List UInt8) a)) none)) none
theorem Cs4(d:Nat)(s0):evC (Aq0 L) (d+1) Z Y 122 [pS s0] [] s=Cs3 L s0 (λa=>some (pB a,[],s)):=by refine(evE (fn:=Tryz.f122) (by kernel_rfl)).trans ?_;generalize evC (Aq0 L) d=Q;unfold Cs3;kernel_rfl
noncomputable abbrev Eo:Code:=C8 ae2
noncomputable def W3(L:Nat):Cfg:=B6 L [124] (A3 [(3,[0,0,2,0,0,4,0])]) [] (A3 [(18,[4,0]),(17,[0,0,4,4,0]),(16,[0,0,4,4,0]),(15,[4,0]),(14,[0,0,4,1,2,0,39]),(9,[0,0,4,1,2,0]),(11,[0,0,4,1,2,0]),(13,[0,0,4,1,2,0]),(7,[4,0]),(12,[0,0,4,2,1,0,26]),(10,[0,0,4,2,1,0,15]),(8,[0,0,4,2,1,0,5]),(6,[0,0,4,2,1,0]),(5,[0,0,4,0,3,0]),(4,[0,0,4,0,3,0]),(3,[0,0,4,4,0,0]),(2,[0,0,4,4,0]),(1,[0,0,4]),(0,[0,0])]) [] (A3 [(0,[6]),(1,[0,0,4,4,0]),(2,[0,0,4,1,2,0])]) (some [4,0]) [] [] []
noncomputable def Uo{R:Type}(m:By)(a i b j l:Int)(n:Bool)(g:By->Int->Int->Int->Int->Int->Option R)(h:Unit->Option R):Option R:=cond n (vl (A1 (wu8 (b-97))) λc=>vl (A1 (c+10)) λd=>g m a i d j l) (cond (not (ltI b 65)) (cond (not (ltI 70 b)) (vl (A1 (wu8 (b-65))) λe=>vl (A1 (e+10)) λf=>g m a i f j l) (h ())) (h ()))
abbrev MY(b:Code):Prop:=∀(k:Out->St Z->Option R) f a c b3 d e b6,A9 (W3 L) Q Y b ⟨gp [(0,pS f),(0,pI a),(4,pI c),(2,p8 b3),(1,pI d),(0,pI e),(15,pB b6)] 32,[],s⟩ k=Uo f a c b3 d e b6 (λf a c g d e=>k .normal ⟨gp [(0,pS f),(0,pI a),(4,pI c),(1,pI g),(2,pI d),(0,pI e)] 48,[],s⟩) (λ_=>k .ret ⟨gp [(4,pI (0:Int)),(0,pB false)] 55,[],s⟩)
theorem As0:MY (R:=R) L Q Y s (cd [1,1,0,1,0,0,1,1,0,0,1,1,0,1,0,1,1,1] Eo):=by intro k g a d b e f c;unfold Uo;kernel_rfl
noncomputable def Up{R:Type}(v:By)(a q d r t:Int)(x:Bool)(m:By->Int->Int->Int->Int->Int->Option R)(w:Unit->Option R):Option R:=cond x (vl (A1 (wu8 (d-48))) λn=>m v a q n r t) (cond (not (ltI d 97)) (Uo v a q d r t (not (ltI 102 d)) (λu c o l p f=>m u c o l p f) (λ_=>w ())) (Uo v a q d r t false (λj b g e h i=>m j b g e h i) (λ_=>w ())))
abbrev Py(b:Code):Prop:=∀(k:Out->St Z->Option R) f a c b3 d e b6,A9 (W3 L) Q Y b ⟨gp [(0,pS f),(0,pI a),(4,pI c),(2,p8 b3),(1,pI d),(0,pI e),(5,pB b6)] 42,[],s⟩ k=Up f a c b3 d e b6 (λf a c g d e=>k .normal ⟨gp [(0,pS f),(0,pI a),(4,pI c),(1,pI g),(2,pI d),(0,pI e)] 48,[],s⟩) (λ_=>k .ret ⟨gp [(4,pI (0:Int)),(0,pB false)] 55,[],s⟩)
theorem As1(a:Code)(b:MY (R:=R) L Q Y s a):Py (R:=R) L Q Y s (cd [1,1,0,1,0,0,1,1,0,0,1,1,0,1,0,1] (G3 [1,1,0,1,0,0,1,1,0,0,1,1,0,1,0,1,1,1] a Eo)):=by intro k i c f d g h e;unfold Up;simp only[<-b k];kernel_rfl
theorem As2:Py (R:=R) L Q Y s (cd [1,1,0,1,0,0,1,1,0,0,1,1,0,1,0,1] Eo):=by intro k g a d b e f c;exact j1 (by kernel_rfl) (As1 L Q Y s (cd [1,1,0,1,0,0,1,1,0,0,1,1,0,1,0,1,1,1] Eo) (As0 L Q Y s) k g a d b e f c)
noncomputable def Uq{R:Type}(j:By)(a g d h i:Int)(e:Unit->Option R)(f:By->Int->Int->Int->Int->Option R):Option R:=cond (not (ltI d a)) (e ()) (vl (A1 ((A1 (g*a))+d)) λb=>vl (if ((1099511627776:Int)<b) then (1099511627776:Int) else b) λc=>f j a c h i)
abbrev Zj(b:Code):Prop:=∀(k:Out->St Z->Option R) e a c d3 d n5,A9 (W3 L) Q Y b ⟨gp [(0,pS e),(0,pI a),(4,pI c),(1,pI d3),(2,pI d),(0,pI n5)] 48,[],s⟩ k=Uq e a c d3 d n5 (λ_=>k .ret ⟨gp [(4,pI (0:Int)),(0,pB false)] 55,[],s⟩) (λe a c f d=>k .normal ⟨gp [(0,pS e),(0,pI a),(4,pI c),(4,pI f),(0,pI d)] 48,[],s⟩)
theorem As3:Zj (R:=R) L Q Y s (cd [1,1,0,1,0,0,1,1,0,0,1,1,1] Eo):=by intro k f a c b d e;unfold Uq;kernel_rfl
noncomputable def Hz{R:Type}(L n:Nat)(g:By)(e H I f:Int)(h:Unit->Option R)(G:Int->Option R):Option R:=match n with|0=>none|n+1=>cond (ltI f I) (cond (inR f g.length) (cond (not (ltI (bAt g f) (48:Int))) (Up g e H (bAt g f) I f (not (ltI 57 (bAt g f))) (λB a l i m o=>Uq B a l i m o (λ_=>h ()) (λC b p q r=>vl (A1 (r+1)) λt=>Hz L n C b p q t h G)) (λ_=>h ())) (Up g e H (bAt g f) I f false (λD c u j v w=>Uq D c u j v w (λ_=>h ()) (λF d x y z=>vl (A1 (z+1)) λA=>Hz L n F d x y A h G)) (λ_=>h ()))) none) (G H)
theorem As4(b:Code)(d:Py (R:=R) L Q Y s b)(a:Code)(e:Zj (R:=R) L Q Y s a)(n:Nat)(l:By)(c C D j:Int):D0 0 ((W3 L).keep 3) (bd (W3 L) Q Y (cd [1,1,0,1,0,0] (G3 [1,1,0,1,0,0,1,1,0,0,1,1,1] a (G3 [1,1,0,1,0,0,1,1,0,0,1,1,0,1,0,1] b Eo)))) n ⟨gp [(0,pS l),(0,pI c),(4,pI C),(4,pI D),(0,pI j)] 48,[],s⟩ k =
 Hz L n l c C D j (λ_=>k .ret ⟨gp [(4,pI (0:Int)),(0,pB false)] 55,[],s⟩) (λn0=>k (.exit 0) ⟨gp [(6,pI n0)] 54,[],s⟩):=by
 induction n generalizing l c C D j with
 | zero=>rfl
 | succ n M=>rw[Hz];exact let J:=(E6 1 (E5 (W3 L) Q Y (cd [1,1,0,1,0,0,1,1,1] Eo) (lpK 0 ((W3 L).keep 3) (bd (W3 L) Q Y (cd [1,1,0,1,0,0] (G3 [1,1,0,1,0,0,1,1,0,0,1,1,1] a (G3 [1,1,0,1,0,0,1,1,0,0,1,1,0,1,0,1] b Eo)))) n k)));let K:=(E6 2 (E5 (W3 L) Q Y a J));(j1 (by kernel_rfl) (A0 (A0 (A0 ((d K l c C (bAt l j) D j (not (ltI 57 (bAt l j)))).trans (congr (congr rfl (fx6 λF f p m q r=>(j1 (by kernel_rfl) ((e J F f p m q r).trans (congr (congr rfl (by kernel_rfl)) (fx5 λG g t u N=>(j1 (by kernel_rfl) (A4 λv=>(M G g t u v))))))))) (by kernel_rfl))) ((d K l c C (bAt l j) D j false).trans (congr (congr rfl (fx6 λH h w o x y=>(j1 (by kernel_rfl) ((e J H h w o x y).trans (congr (congr rfl (by kernel_rfl)) (fx5 λI i z A O=>(j1 (by kernel_rfl) (A4 λB=>(M I i z A B))))))))) (by kernel_rfl)))) rfl) rfl))
noncomputable def B69{R:Type}(L:Nat)(d:By)(a:Int)(c:Int->Bool->Option R):Option R:=Hz L L d a 0 (d.length:Int) 0 (λ_=>c 0 false) (λb=>c b true)
theorem Cq2(a:Code)(d:Py (R:=PV × List Blk × Z) L Q Y s a)(b:Code)(e:Zj (R:=PV × List Blk × Z) L Q Y s b)(f:By)(c:Int):A9 (W3 L) Q Y (cd [] (G3 [1,1,0,1,0,0,1,1,0,0,1,1,1] b (G3 [1,1,0,1,0,0,1,1,0,0,1,1,0,1,0,1] a Eo))) ⟨[pS f,pI c]++tps 59,[],s⟩ (F7 (W3 L) ae2)=B69 L f c (λg h=>some (.tup [pI g,pB h],[],s)):=by unfold B69;exact(j1 (by kernel_rfl) ((As4 L Q Y s (E6 0 (E5 (W3 L) Q Y (cd [1,1,1] Eo) (F7 (W3 L) ae2))) a d b e L f c 0 (f.length:Int) 0).trans (by kernel_rfl)))
theorem Cq3(d:Nat)(s0 base1):evC (W3 L) (d+1) Z Y 124 [pS s0,pI base1] [] s=B69 L s0 base1 (λa b=>some (.tup [pI a,pB b],[],s)):=
 (evE (fn:=ae2) (by kernel_rfl)).trans (j1 (by kernel_rfl) (Cq2 L (evC (W3 L) d) Y s (cd [1,1,0,1,0,0,1,1,0,0,1,1,0,1,0,1] Eo) (As2 L (evC (W3 L) d) Y s) (cd [1,1,0,1,0,0,1,1,0,0,1,1,1] Eo) (As3 L (evC (W3 L) d) Y s) s0 base1))
noncomputable def B59(L:Nat):Cfg:=B6 L [123] (A3 []) [(122,Al9),(124,PJ)] (A3 [(7,[2,0]),(2,[2,0]),(4,[2,0]),(6,[2,0]),(5,[0,14]),(3,[0,6]),(1,[0,3]),(0,[0])]) [122,124] (A3 [(0,[0])]) (some [2,0]) [] [] []
noncomputable def num{R:Type}(L:Nat)(a:By)(d:Int->Bool->Option R):Option R:=cond (a==[]) (d 0 false) (cond (A2 a.length) (cond (X4 a) (cond (I7 2 (a.length:Int) a.length) (vl (cut a 2 (a.length:Int)) λb=>cond (A2 b.length) (cond (ltN 16 17) (vl (↑(N1 (E8 16 0 b)):Int) λe=>d e (j5 (E8 16 0 b))) none) none) none) (cond (ltI 1 (a.length:Int)) (cond (inR 0 a.length) (cond ((bAt a (0:Int))==48) (cond (I7 1 (a.length:Int) a.length) (vl (cut a 1 (a.length:Int)) λc=>cond (A2 c.length) (cond (ltN 8 17) (vl (↑(N1 (E8 8 0 c)):Int) λf=>d f (j5 (E8 8 0 c))) none) none) none) (cond (A2 a.length) (cond (ltN 10 17) (vl (↑(N1 (E8 10 0 a)):Int) λg=>d g (j5 (E8 10 0 a))) none) none)) none) (cond (A2 a.length) (cond (ltN 10 17) (vl (↑(N1 (E8 10 0 a)):Int) λh=>d h (j5 (E8 10 0 a))) none) none))) none)
theorem Db3(d:Nat)(s0):evC (B59 L) (d+1) Z Y 123 [pS s0] [] s=num L s0 (λa b=>some (.tup [pI a,pB b],[],s)):=by refine(evE (fn:=Tryz.f123) (by kernel_rfl)).trans ?_;generalize evC (B59 L) d=Q;unfold num;kernel_rfl
noncomputable def SZ(L:Nat):Cfg:=B6 L [121] (A3 []) [(109,Uf)] (A3 [(5,[2]),(4,[3]),(3,[3,0,13]),(2,[3,0]),(1,[3]),(0,[0])]) [] (A3 []) (some [2]) [] [] []
noncomputable def parts{R:Type}(L:Nat)(e:By)(c:LL->Option R):Option R:=cond (A2 e.length) (cond (1==1) (vl (D5 (pcs (b8 ([46]:List UInt8) 0 0) e)) λa=>vl (A1 ((a.length:Int)-1)) λb=>cond (ltI 0 b) (cond (inR b a.length) (cond (okE Qx a (b9 b) 0) (vl (gX a (b9 b) 0) λd=>cond (d==[]) (cond (I7 0 b a.length) (c (cut a 0 b)) none) (c a)) none) none) (c a)) none) none
theorem Cc6(d:Nat)(s0):evC (SZ L) (d+1) Z Y 121 [pS s0] [] s=parts L s0 (λa=>some (.s (.sl false false 1 a),[],s)):=by refine(evE (fn:=Tryz.f121) (by kernel_rfl)).trans ?_;generalize evC (SZ L) d=Q;unfold parts;kernel_rfl
noncomputable def Yz(L:Nat):Cfg:=B6 L [90] (A3 []) [(121,QP),(122,Al9),(123,B28),(124,PJ)] (A3 [(7,[2]),(6,[4,3]),(5,[2]),(4,[6]),(3,[4,13]),(2,[4]),(1,[3]),(0,[0])]) [122,123,124] (A3 []) (some [2]) [] [] []
noncomputable def DW{R:Type}(L:Nat)(c:By)(d:Bool->Option R):Option R:=cond (A2 c.length) (vl (A1 ((↑(a8 (D5 (C3 c))):Int)-1)) λb=>cond (inR b (a8 (D5 (C3 c)))) (cond (okE Qx (D5 (C3 c)) (b9 b) 0) (vl (gX (D5 (C3 c)) (b9 b) 0) λa=>cond (A2 a.length) (cond (X4 a) (cond (A2 a.length) (vl (↑(N1 (Y8 a)):Int) λe=>d (j5 (Y8 a))) none) (cond (A2 a.length) (cond (ltN 10 17) (vl (↑(N1 (E8 10 0 a)):Int) λf=>cond (j5 (E8 10 0 a)) (d (not (a==[]))) (d false)) none) none)) none) none) none) none
theorem Ax6(d:Nat)(s0):evC (Yz L) (d+1) Z Y 90 [pS s0] [] s=DW L s0 (λa=>some (pB a,[],s)):=by refine(evE (fn:=Tryz.f90) (by kernel_rfl)).trans ?_;generalize evC (Yz L) d=Q;unfold DW;kernel_rfl
noncomputable abbrev B49:Code:=C8 ag1
noncomputable def Si(L:Nat):Cfg:=B6 L [108] (A3 [(6,[2,0,0,0,10,0,0])]) [(121,QP),(123,B28)] (A3 [(20,[2,0]),(19,[4,0,10,0,0]),(18,[4,0,10,0,0]),(17,[2,0]),(16,[4,0,2,1,5,0,0,29]),(15,[4,0,2,1,5,0,0]),(14,[4,0,10,0,0]),(13,[2,0]),(12,[4,0,2,7,0,0,17]),(11,[4,0,2,7,0,0,15]),(10,[2,0]),(9,[4,0,0,1,7,0,0,10]),(8,[4,0,0,1,0,6,0,0]),(7,[4,0,0,0,8,0,0]),(6,[4,0,10,0,0,0]),(5,[4,0,10,0,0]),(4,[4,0]),(3,[2,0]),(2,[4,10]),(1,[4]),(0,[0])]) [123] (A3 [(0,[5]),(1,[4,0,10,0,0])]) (some [2,0]) [] [] []
noncomputable def Ik{R:Type}(L n:Nat)(a:LL)(v1 l d:Int)(e:Unit->Option R)(h:Int->Option R):Option R:=match n with|0=>none|n+1=>cond (ltI d l) (cond (inR d a.length) (cond (okE Qx a (b9 d) 0) (cond (A2 (a8 (gX a (b9 d) 0))) (vl (↑(N1 (Y8 (gX a (b9 d) 0))):Int) λb=>cond (not (j5 (Y8 (gX a (b9 d) 0)))) (e ()) (vl (A1 ((a.length:Int)-1)) λi=>cond (ltI d i) (cond (ltI 255 b) (e ()) (vl (bOr .i64 (Qv .i64 v1 (8:Int)) b) λj=>Ik L n a j l (A1 (d+1)) e h)) (vl (A1 ((5:Int)-(a.length:Int))) λc=>cond (decide ((0:Int)<=(A1 ((8:Int)*c)))) (vl (Qv .i64 (1:Int) (A1 ((8:Int)*c))) λf=>cond (not (ltI b f)) (e ()) (cond (decide ((0:Int)<=(A1 ((8:Int)*c)))) (vl (Qv .i64 v1 (A1 ((8:Int)*c))) λg=>Ik L n a (bOr .i64 g b) l (A1 (d+1)) e h) none)) none))) none) none) none) (h v1)
theorem Az8(n l0 v1 n2 n3):D0 0 ((Si L).keep 6) (bd (Si L) Q Y (cd [1,0,1,1,1,1,0,1,0,0] B49)) n ⟨gp [(4,.s (.sl false false 1 l0)),(0,pI v1),(10,.s (.sl false false 1 l0)),(0,pI n2),(0,pI n3)] 38,[],s⟩ k =
 Ik L n l0 v1 n2 n3 (λ_=>k .ret ⟨gp [(2,p32 (0:Int)),(0,pB false)] 53,[],s⟩) (λv0=>k (.exit 0) ⟨gp [(5,pI v0)] 51,[],s⟩):=by
 induction n generalizing l0 v1 n2 n3 with
 | zero=>rfl
 | succ n a=>rw[Ik];simp only[<-a];kernel_rfl
noncomputable def Cx0{R:Type}(L:Nat)(b:By)(c:Int->Bool->Option R):Option R:=cond (A2 b.length) (cond (ltI 4 (↑(a8 (D5 (C3 b))):Int)) (c 0 false) (Ik L L (D5 (C3 b)) 0 (↑(a8 (D5 (C3 b))):Int) 0 (λ_=>c 0 false) (λa=>c (BD a) true))) none
theorem Cx1(d:Nat)(s0):evC (Si L) (d+1) Z Y 108 [pS s0] [] s=Cx0 L s0 (λa b=>some (.tup [p32 a,pB b],[],s)):=by refine(evE (fn:=ag1) (by kernel_rfl)).trans ?_;generalize evC (Si L) d=Q;unfold Cx0;exact(j1 (by kernel_rfl) (A0 (A0 rfl ((Az8 L Q Y s (E6 0 (E5 (Si L) Q Y (cd [1,0,1,1,1,1,1] B49) (F7 (Si L) ag1))) L (D5 (C3 s0)) 0 (↑(a8 (D5 (C3 s0))):Int) 0).trans (by kernel_rfl))) rfl))
noncomputable abbrev C70:Code:=C8 ag8
noncomputable def HA(L:Nat):Cfg:=B6 L [180] (A3 [(6,[2,0,1,9,0,0])]) [(109,Uf),(124,PJ),(51,Am2)] (A3 [(13,[2,0]),(12,[5,9,0,0]),(11,[5,9,0,0]),(10,[2,0]),(9,[5,2,6,0,0,19]),(8,[5,1,0,0,5,0,0]),(7,[5,1,7,0,0]),(6,[5,9,0,0,0]),(5,[5,9,0,0]),(4,[4,0]),(3,[2,0]),(2,[4,9]),(1,[4]),(0,[0])]) [124,51] (A3 [(0,[5]),(1,[5,9,0,0])]) (some [2,0]) [] [] []
noncomputable def Tu{R:Type}(L n:Nat)(v0:Int)(c:LL)(h b:Int)(d:Unit->Option R)(g:Int->Option R):Option R:=match n with|0=>none|n+1=>cond (ltI b h) (cond (inR b c.length) (cond (okE Qx c (b9 b) 0) (cond (A2 (a8 (gX c (b9 b) 0))) (cond (ltN 10 17) (vl (↑(N1 (E8 10 0 (gX c (b9 b) 0))):Int) λa=>cond (not (j5 (E8 10 0 (gX c (b9 b) 0)))) (d ()) (cond (ltI 255 a) (d ()) (cond (ltN a 4294967296) (vl (j7 (b9 a)) λf=>cond (not (f==(gX c (b9 b) 0))) (d ()) (vl (bOr .u32 (Qv .u32 v0 (8:Int)) (BD a)) λe=>Tu L n e c h (A1 (b+1)) d g)) none))) none) none) none) none) (g v0)
theorem B02(n v0 l1 n2 n3):D0 0 ((HA L).keep 6) (bd (HA L) Q Y (cd [1,1,1,1,0,1,0,0] C70)) n ⟨gp [(5,p32 v0),(9,.s (.sl false false 1 l1)),(0,pI n2),(0,pI n3)] 27,[],s⟩ k =
 Tu L n v0 l1 n2 n3 (λ_=>k .ret ⟨gp [(2,p32 (0:Int)),(0,pB false)] 41,[],s⟩) (λv0=>k (.exit 0) ⟨gp [(5,p32 v0)] 39,[],s⟩):=by
 induction n generalizing v0 l1 n2 n3 with
 | zero=>rfl
 | succ n a=>rw[Tu];simp only[<-a];kernel_rfl
noncomputable def v4p{R:Type}(L:Nat)(d:By)(b:Int->Bool->Option R):Option R:=cond (A2 d.length) (cond (1==1) (vl (D5 (pcs (b8 ([46]:List UInt8) 0 0) d)) λa=>cond ((a.length:Int)!=4) (b 0 false) (Tu L L 0 a (a.length:Int) 0 (λ_=>b 0 false) (λc=>b c true))) none) none
theorem Dd7(d:Nat)(s0):evC (HA L) (d+1) Z Y 180 [pS s0] [] s=v4p L s0 (λb c=>some (.tup [p32 b,pB c],[],s)):=by refine(evE (fn:=ag8) (by kernel_rfl)).trans ?_;generalize evC (HA L) d=Q;unfold v4p;exact(j1 (by kernel_rfl) (A0 (A0 (A4 λa=>(A0 rfl ((B02 L Q Y s (E6 0 (E5 (HA L) Q Y (cd [1,1,1,1,1] C70) (F7 (HA L) ag8))) L 0 a (a.length:Int) 0).trans (by kernel_rfl)))) rfl) rfl))
noncomputable abbrev C69:Code:=C8 ah8
noncomputable def GZ(L:Nat):Cfg:=B6 L [67] (A3 [(3,[0,1,0,0])]) [(51,Am2)] (A3 [(6,[2]),(4,[0,2,0]),(5,[0,2,0]),(3,[0,2,0,1]),(2,[0,2,0]),(1,[0,2]),(0,[0])]) [51] (A3 [(0,[3]),(1,[0,2,0])]) (some [2]) [] [] []
noncomputable def Hs{R:Type}(L n:Nat)(v0:Int)(a:By)(e:Int)(f:By->Option R):Option R:=match n with|0=>none|n+1=>cond (not (ltI e 0)) (cond (decide ((0:Int)<=e)) (vl (Ap0 .u32 (KB .u32 v0 e) (255:Int)) λb=>cond (ltN (A1 b) 4294967296) (vl (j7 (b9 (A1 b))) λc=>cond (J6 c.length 1) (vl (c++[46]) λd=>cond (J6 a.length d.length) (Hs L n v0 (a++d) (A1 (e-8)) f) none) none) none) none) (f a)
theorem B01(n v0 out1 i2):D0 0 ((GZ L).keep 3) (bd (GZ L) Q Y (cd [1,1,0,1,0,0] C69)) n ⟨gp [(0,p32 v0),(2,pS out1),(0,pI i2)] 18,[],s⟩ k =
 Hs L n v0 out1 i2 (λa=>k (.exit 0) ⟨gp [(3,pS a)] 19,[],s⟩):=by
 induction n generalizing v0 out1 i2 with
 | zero=>rfl
 | succ n b=>rw[Hs];simp only[<-b];kernel_rfl
noncomputable def v4f{R:Type}(L:Nat)(v0:Int)(d:By->Option R):Option R:=Hs L L v0 ([]:List UInt8) 24 (λa=>vl (A1 ((a.length:Int)-1)) λb=>cond (I7 0 b a.length) (vl (cut a 0 b) λc=>d c) none)
theorem Dd6(d:Nat)(v0):evC (GZ L) (d+1) Z Y 67 [p32 v0] [] s=v4f L v0 (λa=>some (pS a,[],s)):=by refine(evE (fn:=ah8) (by kernel_rfl)).trans ?_;generalize evC (GZ L) d=Q;unfold v4f;exact(j1 (by kernel_rfl) ((B01 L Q Y s (E6 0 (E5 (GZ L) Q Y (cd [1,1,1] C69) (F7 (GZ L) ah8))) L v0 ([]:List UInt8) 24).trans (by kernel_rfl)))
noncomputable abbrev MK:Code:=C8 ag3
noncomputable def Ct(L:Nat):Cfg:=B6 L [117] (A3 [(2,[0,1,0])]) [] (A3 [(6,[2]),(3,[0,2]),(5,[2]),(4,[0,2,15]),(2,[0,2,3]),(1,[0,2]),(0,[0])]) [] (A3 [(0,[0]),(1,[0,2])]) (some [2]) [] [] []
noncomputable def Aw{R:Type}(L n:Nat)(a:By)(b:Int)(c:Unit->Option R)(d:By->Option R):Option R:=match n with|0=>none|n+1=>cond (ltI b (a.length:Int)) (cond (inR b a.length) (cond (ltI (bAt a b) (48:Int)) (c ()) (cond (inR b a.length) (cond (ltI 57 (bAt a b)) (c ()) (Aw L n a (A1 (b+1)) c d)) none)) none) (d a)
theorem LD(n a i1):D0 0 ((Ct L).keep 2) (bd (Ct L) Q Y (cd [1,0,1,0,0] MK)) n ⟨gp [(0,pS a),(2,pI i1)] 18,[],s⟩ k =
 Aw L n a i1 (λ_=>k .ret ⟨gp [(2,pB false)] 19,[],s⟩) (λa=>k (.exit 0) ⟨gp [(0,pS a)] 21,[],s⟩):=by
 induction n generalizing a i1 with
 | zero=>rfl
 | succ n b=>rw[Aw];simp only[<-b];kernel_rfl
noncomputable def EB{R:Type}(L:Nat)(c:By)(b:Bool->Option R):Option R:=Aw L L c 0 (λ_=>b false) (λa=>b (not (a==[])))
theorem A10(d:Nat)(s0):evC (Ct L) (d+1) Z Y 117 [pS s0] [] s=EB L s0 (λa=>some (pB a,[],s)):=by refine(evE (fn:=ag3) (by kernel_rfl)).trans ?_;generalize evC (Ct L) d=Q;unfold EB;exact(j1 (by kernel_rfl) ((LD L Q Y s (E6 0 (E5 (Ct L) Q Y (cd [1,1] MK) (F7 (Ct L) ag3))) L s0 0).trans (by kernel_rfl)))
noncomputable abbrev B51:Code:=C8 ah6
noncomputable def Sk(L:Nat):Cfg:=B6 L [17] (A3 [(3,[0,1,0,0])]) [] (A3 [(9,[2]),(4,[0,2,0]),(8,[0,2,0]),(7,[0,2,0,0]),(6,[0,2,0,0,14]),(5,[0,2,0,0]),(3,[0,2,0,4]),(2,[0,2,0]),(1,[0,2]),(0,[0])]) [] (A3 [(0,[3]),(1,[0,2,0])]) (some [2]) [] [] []
noncomputable def Fj{R:Type}(L n:Nat)(b:By)(a:Int)(c:LL)(d:LL->Option R):Option R:=match n with|0=>none|n+1=>cond (ltI a (b.length:Int)) (cond (inR a b.length) (cond (not (ltI (bAt b a) (65:Int))) (cond (not (ltI 90 (bAt b a))) (vl (wu8 ((bAt b a)+32)) λe=>cond (F6 (c.length+1)) (Fj L n b (A1 (a+1)) (c++[[(SV.int .u8 e)]]) d) none) (cond (F6 (c.length+1)) (Fj L n b (A1 (a+1)) (c++[[(SV.int .u8 (bAt b a))]]) d) none)) (cond (F6 (c.length+1)) (Fj L n b (A1 (a+1)) (c++[[(SV.int .u8 (bAt b a))]]) d) none)) none) (d c)
theorem A36(n s0 i1 l2):D0 1 ((Sk L).keep 3) (bd (Sk L) Q Y (cd [1,1,0,1,0,0] B51)) n ⟨gp [(0,pS s0),(2,.fl 0),(0,pI i1)] 24,[.arr true 5 1 l2],s⟩ k =
 Fj L n s0 i1 l2 (λb=>k (.exit 0) ⟨gp [(3,.fl 0)] 25,[.arr true 5 1 b],s⟩):=by
 induction n generalizing s0 i1 l2 with
 | zero=>rfl
 | succ n a=>rw[Fj];simp only[<-a];kernel_rfl
noncomputable def Cy8{R:Type}(L:Nat)(c:By)(b:By->LL->Option R):Option R:=Fj L L c 0 [] (λa=>cond (x7 a Nj) (b (w6 Lh a) a) none)
theorem Cy9(d:Nat)(s0):evC (Sk L) (d+1) Z Y 17 [pS s0] [] s=Cy8 L s0 (λb a=>some (pS b,[.arr true 5 1 a],s)):=by refine(evE (fn:=ah6) (by kernel_rfl)).trans ?_;generalize evC (Sk L) d=Q;unfold Cy8;exact(j1 (by kernel_rfl) ((A36 L Q Y s (E6 0 (E5 (Sk L) Q Y (cd [1,1,1] B51) (F7 (Sk L) ah6))) L s0 0 []).trans (by kernel_rfl)))
noncomputable abbrev YA:Code:=C8 ai0
noncomputable def Gi(L:Nat):Cfg:=B6 L [88] (A3 [(4,[0,0,2,0,0,0])]) [] (A3 [(9,[4]),(5,[0,0,3,0,0]),(8,[0,0,3,0,0]),(7,[0,0,3,1]),(6,[0,0,3,0,0,16]),(4,[0,0,3,0,0,3]),(3,[0,0,3,0,0]),(2,[0,0,3,0]),(1,[0,0,3]),(0,[0,0])]) [] (A3 [(0,[5]),(1,[0,0,3,0,0])]) (some [4]) [] [] []
noncomputable def V7{R:Type}(L n:Nat)(c:By)(d a b:Int)(e:LL)(f:LL->Option R):Option R:=match n with|0=>none|n+1=>cond (not (ltI (c.length:Int) b)) (cond (b==(c.length:Int)) (cond (I7 a b c.length) (cond (F6 (e.length+1)) (V7 L n c d (A1 (b+1)) (A1 (b+1)) (e++[[(SV.str (cut c a b))]]) f) none) none) (cond (inR b c.length) (cond ((bAt c b)==d) (cond (I7 a b c.length) (cond (F6 (e.length+1)) (V7 L n c d (A1 (b+1)) (A1 (b+1)) (e++[[(SV.str (cut c a b))]]) f) none) none) (V7 L n c d a (A1 (b+1)) e f)) none)) (f e)
theorem VR(n s0 at1 from2 i3 l4):D0 1 ((Gi L).keep 4) (bd (Gi L) Q Y (cd [1,1,1,0,1,0,0] YA)) n ⟨gp [(0,pS s0),(0,p8 at1),(3,.fl 0),(0,pI from2),(0,pI i3)] 27,[.arr true 9 1 l4],s⟩ k =
 V7 L n s0 at1 from2 i3 l4 (λb=>k (.exit 0) ⟨gp [(5,.fl 0)] 29,[.arr true 9 1 b],s⟩):=by
 induction n generalizing s0 at1 from2 i3 l4 with
 | zero=>rfl
 | succ n a=>rw[V7];simp only[<-a];kernel_rfl
noncomputable def JR{R:Type}(L:Nat)(d:By)(a:Int)(c:LL->Option R):Option R:=V7 L L d a 0 0 [] (λb=>c b)
theorem Bw2(d:Nat)(s0 at1):evC (Gi L) (d+1) Z Y 88 [pS s0,p8 at1] [] s=JR L s0 at1 (λa=>some (.fl 0,[.arr true 9 1 a],s)):=by refine(evE (fn:=ai0) (by kernel_rfl)).trans ?_;generalize evC (Gi L) d=Q;unfold JR;exact(j1 (by kernel_rfl) ((VR L Q Y s (E6 0 (E5 (Gi L) Q Y (cd [1,1,1,1] YA) (F7 (Gi L) ai0))) L s0 at1 0 0 []).trans (by kernel_rfl)))
noncomputable def Yy(L:Nat):Cfg:=B6 L [53] (A3 []) [(53,(Ku L))] (A3 [(3,[2]),(2,[2]),(1,[0,3]),(0,[0])]) [53] (A3 []) (some [2]) [] [] []
noncomputable def DP{R:Type}(L:Nat)(n0:Int)(g:By->Option R):Option R:=cond (ltI n0 10) (vl (wu8 (A1 ((48:Int)+n0))) λa=>cond (x7 [[(SV.int .u8 a)]] Nj) (vl (w6 Lh [[(SV.int .u8 a)]]) λf=>g f) none) (vl (A1 (ab2 n0 (10:Int))) λb=>cond (ltN b L) (vl (j7 (b9 b)) λd=>vl (A1 ((48:Int)+(ah4 n0 (10:Int)))) λc=>cond (x7 [[(SV.int .u8 (wu8 c))]] Nj) (vl (w6 Lh [[(SV.int .u8 (wu8 c))]]) λe=>cond (J6 d.length e.length) (g (d++e)) none) none) none)
theorem At3(d:Nat)(n0):evC (Yy L) (d+1) Z Y 53 [pI n0] [] s=DP L n0 (λa=>some (pS a,[],s)):=by refine(evE (fn:=Tryz.f53) (by kernel_rfl)).trans ?_;generalize evC (Yy L) d=Q;unfold DP;kernel_rfl
noncomputable abbrev Sa:Code:=C8 ae5
noncomputable def Ix(L:Nat):Cfg:=B6 L [147] (A3 []) [] (A3 [(7,[2]),(2,[2]),(4,[2]),(6,[2]),(5,[0,23]),(3,[0,12]),(1,[0,2]),(0,[0])]) [] (A3 [(0,[])]) (some [2]) [] [] []
noncomputable def Wh{R:Type}(a:Int)(h:Bool)(f:Int->Option R)(g:Int->Bool->Option R):Option R:=cond h (vl (A1 (wu8 (a-97))) λb=>vl (A1 (b+10)) λc=>f c) (cond (not (ltI a 65)) (cond (not (ltI 70 a)) (vl (A1 (wu8 (a-65))) λd=>vl (A1 (d+10)) λe=>f e) (g a (not (ltI 70 a)))) (g a false))
abbrev OE(b:Code):Prop:=∀(k:Out->St Z->Option R) a c,A9 (Ix L) Q Y b ⟨gp [(0,p8 a),(12,pB c)] 21,[],s⟩ k=Wh a c (λn0=>k .ret ⟨gp [(2,pI n0)] 32,[],s⟩) (λa c=>k .normal ⟨gp [(0,p8 a),(23,pB c)] 10,[],s⟩)
theorem A07:OE (R:=R) L Q Y s (cd [1,0,0,1,1,1] Sa):=by intro k a b;unfold Wh;kernel_rfl
noncomputable def Wi{R:Type}(b:Int)(l:Bool)(f:Int->Option R)(j:Int->Bool->Option R):Option R:=cond l (vl (A1 (wu8 (b-48))) λg=>f g) (cond (not (ltI b 97)) (Wh b (not (ltI 102 b)) (λh=>f h) (λc d=>j c d)) (Wh b false (λi=>f i) (λe a=>j e a)))
abbrev AN(b:Code):Prop:=∀(k:Out->St Z->Option R) a c,A9 (Ix L) Q Y b ⟨gp [(0,p8 a),(2,pB c)] 31,[],s⟩ k=Wi a c (λn0=>k .ret ⟨gp [(2,pI n0)] 32,[],s⟩) (λa c=>k .normal ⟨gp [(0,p8 a),(23,pB c)] 10,[],s⟩)
theorem A08(a:Code)(b:OE (R:=R) L Q Y s a):AN (R:=R) L Q Y s (cd [1,0,0,1] (G3 [1,0,0,1,1,1] a Sa)):=by intro k c d;unfold Wi;simp only[<-b k];kernel_rfl
theorem A09:AN (R:=R) L Q Y s (cd [1,0,0,1] Sa):=by intro k a b;exact j1 (by kernel_rfl) (A08 L Q Y s (cd [1,0,0,1,1,1] Sa) (A07 L Q Y s) k a b)
noncomputable def Cd5{R:Type}(L:Nat)(c:Int)(d:Int->Option R):Option R:=cond (not (ltI c 48)) (Wi c (not (ltI 57 c)) (λa=>d a) (λe f=>d 99)) (Wi c false (λb=>d b) (λg h=>d 99))
theorem Cx9(b:Code)(a:AN (R:=PV × List Blk × Z) L Q Y s b)(c:Int):A9 (Ix L) Q Y (cd [] (G3 [1,0,0,1] b Sa)) ⟨[p8 c]++tps 34,[],s⟩ (F7 (Ix L) ae5)=Cd5 L c (λe=>some (pI e,[],s)):=by unfold Cd5;exact let d:=(E6 0 (E5 (Ix L) Q Y (cd [1,1] Sa) (F7 (Ix L) ae5)));(j1 (by kernel_rfl) (A0 ((a d c (not (ltI 57 c))).trans (by kernel_rfl)) ((a d c false).trans (by kernel_rfl))))
theorem Cy0(d:Nat)(b0):evC (Ix L) (d+1) Z Y 147 [p8 b0] [] s=Cd5 L b0 (λa=>some (pI a,[],s)):=
 (evE (fn:=ae5) (by kernel_rfl)).trans (j1 (by kernel_rfl) (Cx9 L (evC (Ix L) d) Y s (cd [1,0,0,1] Sa) (A09 L (evC (Ix L) d) Y s) b0))
noncomputable abbrev Cs:Code:=C8 ae1
noncomputable def P3(L:Nat):Cfg:=B6 L [118] (A3 [(10,[0,1,0,0,0,0])]) [(147,B33)] (A3 [(16,[2,0]),(11,[0,3,0,0]),(15,[0,3,0,0]),(14,[2,0]),(13,[0,3,0,0,0,44]),(12,[0,3,0,0,0]),(10,[0,3,0,0,36]),(9,[0,3,0,0]),(8,[0,3,0]),(5,[0,3]),(7,[0,3]),(6,[0,3,32]),(4,[0,3,22]),(3,[0,3]),(2,[2,0]),(1,[0,8]),(0,[0])]) [147] (A3 [(0,[5]),(1,[0,3,0,0])]) (some [2,0]) [] [] []
noncomputable def EF{R:Type}(a:By)(c:By->Option R):Option R:=cond (I7 2 (a.length:Int) a.length) (vl (cut a 2 (a.length:Int)) λb=>c b) none
abbrev OJ(b:Code):Prop:=∀(k:Out->St Z->Option R) a,A9 (P3 L) Q Y b ⟨gp [(0,pS a),(3,pI (10:Int)),(22,pB true)] 32,[],s⟩ k=EF a (λa=>k .normal ⟨gp [(0,pS a),(3,pI (16:Int))] 55,[],s⟩)
theorem A39:OJ (R:=R) L Q Y s (cd [1,1,1,0,1] Cs):=by intro k a;unfold EF;kernel_rfl
noncomputable def Im{R:Type}(L n:Nat)(d:By)(h a:Int)(f:Unit->Option R)(g:Int->Option R):Option R:=match n with|0=>none|n+1=>cond (ltI a (d.length:Int)) (cond (inR a d.length) (cond (inR (bAt d a) 256) (vl (↑(dig (u8n (bAt d a))):Int) λb=>cond (not (ltI b 16)) (f ()) (vl (A1 ((A1 (h*16))+b)) λc=>vl (if ((1099511627776:Int)<c) then (1099511627776:Int) else c) λe=>Im L n d e (A1 (a+1)) f g)) none) none) (g h)
theorem A44(n s0 n1 i2):D0 0 ((P3 L).keep 10) (bd (P3 L) Q Y (cd [1,1,1,1,1,0,1,0,0] Cs)) n ⟨gp [(0,pS s0),(3,pI (16:Int)),(0,pI n1),(0,pI i2)] 53,[],s⟩ k =
 Im L n s0 n1 i2 (λ_=>k .ret ⟨gp [(2,pI (0:Int)),(0,pB false)] 56,[],s⟩) (λn0=>k (.exit 0) ⟨gp [(5,pI n0)] 54,[],s⟩):=by
 induction n generalizing s0 n1 i2 with
 | zero=>rfl
 | succ n a=>rw[Im];simp only[<-a];kernel_rfl
noncomputable def EG{R:Type}(L:Nat)(c:By)(b:Int->Bool->Option R):Option R:=Im L L c 0 0 (λ_=>b 0 false) (λa=>b a true)
abbrev OK(b:Code):Prop:=∀(k:Out->St Z->Option R) s0,A9 (P3 L) Q Y b ⟨gp [(0,pS s0),(3,pI (16:Int))] 55,[],s⟩ k=EG L s0 (λn0 a=>k .ret ⟨gp [(2,pI n0),(0,pB a)] 56,[],s⟩)
theorem A40:OK (R:=R) L Q Y s (cd [1,1,1,1] Cs):=by intro k a;unfold EG;exact(j1 (by kernel_rfl) ((A44 L Q Y s (E6 0 (E5 (P3 L) Q Y (cd [1,1,1,1,1,1] Cs) k)) L a 0 0).trans (by kernel_rfl)))
noncomputable def Qj{R:Type}(a:By)(f:Bool)(d:By->Int->Option R)(e:By->Bool->Option R):Option R:=cond f (cond (I7 2 (a.length:Int) a.length) (vl (cut a 2 (a.length:Int)) λc=>d c 16) none) (cond (not (ltI (a.length:Int) (2:Int))) (cond (inR 0 a.length) (cond ((bAt a (0:Int))==48) (cond (I7 1 (a.length:Int) a.length) (vl (cut a 1 (a.length:Int)) λb=>d b 8) none) (e a ((bAt a (0:Int))==48))) none) (e a false))
abbrev OL(b:Code):Prop:=∀(k:Out->St Z->Option R) c d,A9 (P3 L) Q Y b ⟨gp [(0,pS c),(3,pI (10:Int)),(22,pB d)] 32,[],s⟩ k=Qj c d (λc a=>k .normal ⟨gp [(0,pS c),(3,pI a)] 55,[],s⟩) (λc d=>k .normal ⟨gp [(0,pS c),(3,pI (10:Int)),(32,pB d)] 22,[],s⟩)
theorem A41:OL (R:=R) L Q Y s (cd [1,1,1,0,1] Cs):=by intro k b a;unfold Qj;kernel_rfl
noncomputable def Fk{R:Type}(L n:Nat)(f:By)(a i d:Int)(g:Unit->Option R)(h:Int->Option R):Option R:=match n with|0=>none|n+1=>cond (ltI d (f.length:Int)) (cond (inR d f.length) (cond (inR (bAt f d) 256) (vl (↑(dig (u8n (bAt f d))):Int) λb=>cond (not (ltI b a)) (g ()) (vl (A1 ((A1 (i*a))+b)) λc=>vl (if ((1099511627776:Int)<c) then (1099511627776:Int) else c) λe=>Fk L n f a e (A1 (d+1)) g h)) none) none) (h i)
theorem JQ(n s0 base1 n2 i3):D0 0 ((P3 L).keep 10) (bd (P3 L) Q Y (cd [1,1,1,1,1,0,1,0,0] Cs)) n ⟨gp [(0,pS s0),(3,pI base1),(0,pI n2),(0,pI i3)] 53,[],s⟩ k =
 Fk L n s0 base1 n2 i3 (λ_=>k .ret ⟨gp [(2,pI (0:Int)),(0,pB false)] 56,[],s⟩) (λn0=>k (.exit 0) ⟨gp [(5,pI n0)] 54,[],s⟩):=by
 induction n generalizing s0 base1 n2 i3 with
 | zero=>rfl
 | succ n a=>rw[Fk];simp only[<-a];kernel_rfl
noncomputable def Qk{R:Type}(L:Nat)(d:By)(a:Int)(c:Int->Bool->Option R):Option R:=Fk L L d a 0 0 (λ_=>c 0 false) (λb=>c b true)
abbrev OM(b:Code):Prop:=∀(k:Out->St Z->Option R) s0 base1,A9 (P3 L) Q Y b ⟨gp [(0,pS s0),(3,pI base1)] 55,[],s⟩ k=Qk L s0 base1 (λn0 a=>k .ret ⟨gp [(2,pI n0),(0,pB a)] 56,[],s⟩)
theorem A42:OM (R:=R) L Q Y s (cd [1,1,1,1] Cs):=by intro k b a;unfold Qk;exact(j1 (by kernel_rfl) ((JQ L Q Y s (E6 0 (E5 (P3 L) Q Y (cd [1,1,1,1,1,1] Cs) k)) L b a 0 0).trans (by kernel_rfl)))
noncomputable def Ql{R:Type}(L:Nat)(c:By)(b:Int->Bool->Option R):Option R:=Fk L L c 10 0 0 (λ_=>b 0 false) (λa=>b a true)
abbrev ON(b:Code):Prop:=∀(k:Out->St Z->Option R) s0 a,A9 (P3 L) Q Y b ⟨gp [(0,pS s0),(3,pI (10:Int)),(32,pB a)] 22,[],s⟩ k=Ql L s0 (λn0 a=>k .ret ⟨gp [(2,pI n0),(0,pB a)] 56,[],s⟩)
theorem A43:ON (R:=R) L Q Y s (cd [1,1,1,1] Cs):=by intro k a b;unfold Ql;exact(j1 (by kernel_rfl) ((JQ L Q Y s (E6 0 (E5 (P3 L) Q Y (cd [1,1,1,1,1,1] Cs) k)) L a 10 0 0).trans (by kernel_rfl)))
noncomputable def Ce9{R:Type}(L:Nat)(a:By)(e:Int->Bool->Option R):Option R:=cond (a==[]) (e 0 false) (cond (not (ltI (a.length:Int) (2:Int))) (cond (inR 0 a.length) (cond ((bAt a (0:Int))==48) (cond (inR 1 a.length) (cond ((bAt a (1:Int))==120) (EF a (λB=>EG L B (λA z=>e A z))) (cond (inR 1 a.length) (Qj a ((bAt a (1:Int))==88) (λt b=>Qk L t b (λm f=>e m f)) (λu C=>Ql L u (λn g=>e n g))) none)) none) (Qj a false (λv c=>Qk L v c (λo h=>e o h)) (λw D=>Ql L w (λp i=>e p i)))) none) (Qj a false (λx d=>Qk L x d (λq j=>e q j)) (λy F=>Ql L y (λr l=>e r l))))
theorem Cz0(e:Code)(f:OJ (R:=PV × List Blk × Z) L Q Y s e)(a:OL (R:=PV × List Blk × Z) L Q Y s e)(d:Code)(g:OK (R:=PV × List Blk × Z) L Q Y s d)(b:OM (R:=PV × List Blk × Z) L Q Y s d)(c:ON (R:=PV × List Blk × Z) L Q Y s d)(m:By):A9 (P3 L) Q Y (cd [] (G3 [1,1,1,1] d (G3 [1,1,1,0,1] e Cs))) ⟨[pS m]++tps 59,[],s⟩ (F7 (P3 L) ae1)=Ce9 L m (λz A=>some (.tup [pI z,pB A],[],s)):=by unfold Ce9;exact let l:=(F7 (P3 L) ae1);let x:=(E5 (P3 L) Q Y d l);(j1 (by kernel_rfl) (A0 rfl (A0 (A0 (A0 (A0 (A0 ((f x m).trans (congr rfl (fx1 λy=>(j1 (by kernel_rfl) ((g l y).trans (by kernel_rfl)))))) (A0 ((a x m ((bAt m (1:Int))==88)).trans (congr (congr rfl (fx2 λq h=>(j1 (by kernel_rfl) ((b l q h).trans (by kernel_rfl))))) (fx2 λr n=>(j1 (by kernel_rfl) ((c l r n).trans (by kernel_rfl)))))) rfl)) rfl) ((a x m false).trans (congr (congr rfl (fx2 λt i=>(j1 (by kernel_rfl) ((b l t i).trans (by kernel_rfl))))) (fx2 λu o=>(j1 (by kernel_rfl) ((c l u o).trans (by kernel_rfl))))))) rfl) ((a x m false).trans (congr (congr rfl (fx2 λv j=>(j1 (by kernel_rfl) ((b l v j).trans (by kernel_rfl))))) (fx2 λw p=>(j1 (by kernel_rfl) ((c l w p).trans (by kernel_rfl)))))))))
theorem Cz1(d:Nat)(s0):evC (P3 L) (d+1) Z Y 118 [pS s0] [] s=Ce9 L s0 (λa b=>some (.tup [pI a,pB b],[],s)):=
 (evE (fn:=ae1) (by kernel_rfl)).trans (j1 (by kernel_rfl) (Cz0 L (evC (P3 L) d) Y s (cd [1,1,1,0,1] Cs) (A39 L (evC (P3 L) d) Y s) (A41 L (evC (P3 L) d) Y s) (cd [1,1,1,1] Cs) (A40 L (evC (P3 L) d) Y s) (A42 L (evC (P3 L) d) Y s) (A43 L (evC (P3 L) d) Y s) s0))
noncomputable def GU(L:Nat):Cfg:=B6 L [116] (A3 []) [(88,Nr)] (A3 [(4,[2]),(3,[3]),(2,[3,13]),(1,[3]),(0,[0])]) [] (A3 []) (some [2]) [] [] []
noncomputable def VO{R:Type}(L:Nat)(f:By)(d:LL->Option R):Option R:=cond (A2 f.length) (vl (D5 (pcs (u8n (46:Int)) f)) λa=>cond (ltI 1 (a.length:Int)) (vl (A1 ((a.length:Int)-1)) λb=>cond (inR b a.length) (cond (okE Qx a (b9 b) 0) (vl (gX a (b9 b) 0) λe=>cond (e==[]) (vl (A1 ((a.length:Int)-1)) λc=>cond (I7 0 c a.length) (d (cut a 0 c)) none) (d a)) none) none) (d a)) none
theorem Bv6(d:Nat)(s0):evC (GU L) (d+1) Z Y 116 [pS s0] [] s=VO L s0 (λa=>some (.s (.sl false false 1 a),[],s)):=by refine(evE (fn:=Tryz.f116) (by kernel_rfl)).trans ?_;generalize evC (GU L) d=Q;unfold VO;kernel_rfl
noncomputable def Sl(L:Nat):Cfg:=B6 L [86] (A3 []) [(116,FO),(117,LZ),(118,An4)] (A3 [(6,[2]),(5,[4,1]),(4,[2]),(3,[4,11]),(2,[4]),(1,[3]),(0,[0])]) [117,118] (A3 []) (some [2]) [] [] []
noncomputable def Wr{R:Type}(L:Nat)(d:By)(c:Bool->Option R):Option R:=cond (A2 d.length) (vl (A1 ((↑(a8 (D5 (C3 d))):Int)-1)) λb=>cond (inR b (a8 (D5 (C3 d)))) (cond (okE Qx (D5 (C3 d)) (b9 b) 0) (vl (gX (D5 (C3 d)) (b9 b) 0) λa=>cond (A2 a.length) (cond ((not (j8 a))&&(j5 (E8 10 0 a))) (c true) (cond (A2 a.length) (vl (↑(N1 (Y8 a)):Int) λe=>cond (j5 (Y8 a)) (cond (not (ltI (a.length:Int) (2:Int))) (cond (inR 1 a.length) (cond ((bAt a (1:Int))==120) (c true) (cond (inR 1 a.length) (c ((bAt a (1:Int))==88)) none)) none) (c false)) (c false)) none)) none) none) none) none
theorem Ad5(d:Nat)(s0):evC (Sl L) (d+1) Z Y 86 [pS s0] [] s=Wr L s0 (λa=>some (pB a,[],s)):=by refine(evE (fn:=Tryz.f86) (by kernel_rfl)).trans ?_;generalize evC (Sl L) d=Q;unfold Wr;kernel_rfl
noncomputable abbrev Bf8:Code:=C8 ah9
noncomputable def Le(L:Nat):Cfg:=B6 L [87] (A3 [(6,[2,0,0,0,0])]) [(116,FO),(118,An4)] (A3 [(18,[2,0]),(7,[4,0,0]),(17,[4,0,0]),(16,[2,0]),(15,[4,0,0,0,38]),(14,[4,0,0]),(13,[2,0]),(12,[4,0,0,0,33]),(11,[4,0,0,0,26]),(10,[2,0]),(9,[4,0,0,0,21]),(8,[4,0,0,0,0]),(6,[4,0,0,10]),(5,[4,0,0]),(4,[4,0]),(3,[2,0]),(2,[4,8]),(1,[4]),(0,[0])]) [118] (A3 [(0,[5]),(1,[4,0,0])]) (some [2,0]) [] [] []
noncomputable def Eg{R:Type}(L n:Nat)(b:LL)(v1 a:Int)(e:Unit->Option R)(h:Int->Option R):Option R:=match n with|0=>none|n+1=>cond (ltI a (b.length:Int)) (cond (inR a b.length) (cond (okE Qx b (b9 a) 0) (cond (A2 (a8 (gX b (b9 a) 0))) (vl (↑(N1 (Y8 (gX b (b9 a) 0))):Int) λc=>cond (not (j5 (Y8 (gX b (b9 a) 0)))) (e ()) (vl (A1 ((b.length:Int)-1)) λi=>cond (a==i) (vl (A1 ((5:Int)-(b.length:Int))) λg=>cond (decide ((0:Int)<=(A1 ((8:Int)*g)))) (vl (Qv .i64 (1:Int) (A1 ((8:Int)*g))) λj=>cond (not (ltI c j)) (e ()) (Eg L n b (A1 (v1+c)) (A1 (a+1)) e h)) none) (cond (ltI 255 c) (e ()) (vl (A1 ((24:Int)-(A1 ((8:Int)*a)))) λd=>cond (decide ((0:Int)<=d)) (vl (A1 (v1+(Qv .i64 c d))) λf=>Eg L n b f (A1 (a+1)) e h) none)))) none) none) none) (h v1)
theorem Ae2(n p0 v1 i2):D0 0 ((Le L).keep 6) (bd (Le L) Q Y (cd [1,1,1,1,0,1,0,0] Bf8)) n ⟨gp [(4,.s (.sl false false 1 p0)),(0,pI v1),(0,pI i2)] 49,[],s⟩ k =
 Eg L n p0 v1 i2 (λ_=>k .ret ⟨gp [(2,p32 (0:Int)),(0,pB false)] 52,[],s⟩) (λv0=>k (.exit 0) ⟨gp [(5,pI v0)] 50,[],s⟩):=by
 induction n generalizing p0 v1 i2 with
 | zero=>rfl
 | succ n a=>rw[Eg];simp only[<-a];kernel_rfl
noncomputable def Bk1{R:Type}(L:Nat)(c:By)(b:Int->Bool->Option R):Option R:=cond (A2 c.length) (cond (ltI 4 (↑(a8 (D5 (C3 c))):Int)) (b 0 false) (Eg L L (D5 (C3 c)) 0 0 (λ_=>b 0 false) (λa=>b (BD a) true))) none
theorem Cf3(d:Nat)(s0):evC (Le L) (d+1) Z Y 87 [pS s0] [] s=Bk1 L s0 (λa b=>some (.tup [p32 a,pB b],[],s)):=by refine(evE (fn:=ah9) (by kernel_rfl)).trans ?_;generalize evC (Le L) d=Q;unfold Bk1;exact(j1 (by kernel_rfl) (A0 (A0 rfl ((Ae2 L Q Y s (E6 0 (E5 (Le L) Q Y (cd [1,1,1,1,1] Bf8) (F7 (Le L) ah9))) L (D5 (C3 s0)) 0 0).trans (by kernel_rfl))) rfl))
noncomputable abbrev B50:Code:=C8 ag7
noncomputable def Sj(L:Nat):Cfg:=B6 L [173] (A3 [(2,[0,1,0,0])]) [(53,LY)] (A3 [(6,[2,0]),(3,[0,3]),(5,[2,0]),(4,[0,3,7]),(2,[0,3,1]),(1,[0,3]),(0,[0])]) [53] (A3 [(0,[]),(1,[0,3])]) (some [2,0]) [] [] []
noncomputable def Lx{R:Type}(L n:Nat)(e:By)(a:Int)(c:Int->Option R)(d:Unit->Option R):Option R:=match n with|0=>none|n+1=>cond (ltI a 256) (cond (ltN a 4294967296) (vl (j7 (b9 a)) λb=>cond (b==e) (c a) (Lx L n e (A1 (a+1)) c d)) none) (d ())
theorem A05(n s0 n1):D0 0 ((Sj L).keep 2) (bd (Sj L) Q Y (cd [1,0,1,0,0] B50)) n ⟨gp [(0,pS s0),(3,pI n1)] 9,[],s⟩ k =
 Lx L n s0 n1 (λn0=>k .ret ⟨gp [(2,pI n0),(0,pB true)] 10,[],s⟩) (λ_=>k (.exit 0) ⟨gp [] 14,[],s⟩):=by
 induction n generalizing s0 n1 with
 | zero=>rfl
 | succ n a=>rw[Lx];simp only[<-a];kernel_rfl
noncomputable def Cx7{R:Type}(L:Nat)(c:By)(b:Int->Bool->Option R):Option R:=Lx L L c 0 (λa=>b a true) (λ_=>b 0 false)
theorem Cx8(d:Nat)(s0):evC (Sj L) (d+1) Z Y 173 [pS s0] [] s=Cx7 L s0 (λa b=>some (.tup [pI a,pB b],[],s)):=by refine(evE (fn:=ag7) (by kernel_rfl)).trans ?_;generalize evC (Sj L) d=Q;unfold Cx7;exact(j1 (by kernel_rfl) ((A05 L Q Y s (E6 0 (E5 (Sj L) Q Y (cd [1,1] B50) (F7 (Sj L) ag7))) L s0 0).trans (by kernel_rfl)))
noncomputable abbrev B52:Code:=C8 ag5
noncomputable def Sm(L:Nat):Cfg:=B6 L [145] (A3 [(6,[2,0,0,0,0])]) [(88,Nr),(173,B32)] (A3 [(12,[2,0]),(7,[4,0,0]),(11,[4,0,0]),(10,[2,0]),(9,[4,0,0,0,19]),(8,[4,0,0,0,0]),(6,[4,0,0,8]),(5,[4,0,0]),(4,[4,0]),(3,[2,0]),(2,[4,8]),(1,[4]),(0,[0])]) [173] (A3 [(0,[5]),(1,[4,0,0])]) (some [2,0]) [] [] []
noncomputable def Mg{R:Type}(L n:Nat)(b:LL)(v1 a:Int)(f:Unit->Option R)(g:Int->Option R):Option R:=match n with|0=>none|n+1=>cond (ltI a 4) (cond (inR a b.length) (cond (okE Qx b (b9 a) 0) (cond (A2 (a8 (gX b (b9 a) 0))) (vl (↑(N1 (oct (gX b (b9 a) 0))):Int) λc=>cond (not (j5 (oct (gX b (b9 a) 0)))) (f ()) (vl (BD (v1*256)) λd=>vl (BD (d+(BD c))) λe=>Mg L n b e (A1 (a+1)) f g)) none) none) none) (g v1)
theorem A78(n p0 v1 i2):D0 0 ((Sm L).keep 6) (bd (Sm L) Q Y (cd [1,1,1,1,0,1,0,0] B52)) n ⟨gp [(4,.s (.sl false false 1 p0)),(0,p32 v1),(0,pI i2)] 27,[],s⟩ k =
 Mg L n p0 v1 i2 (λ_=>k .ret ⟨gp [(2,p32 (0:Int)),(0,pB false)] 30,[],s⟩) (λv0=>k (.exit 0) ⟨gp [(5,p32 v0)] 28,[],s⟩):=by
 induction n generalizing p0 v1 i2 with
 | zero=>rfl
 | succ n a=>rw[Mg];simp only[<-a];kernel_rfl
noncomputable def Cz9{R:Type}(L:Nat)(d:By)(b:Int->Bool->Option R):Option R:=cond (A2 d.length) (vl (D5 (pcs (u8n (46:Int)) d)) λa=>cond ((a.length:Int)!=4) (b 0 false) (Mg L L a 0 0 (λ_=>b 0 false) (λc=>b c true))) none
theorem C00(d:Nat)(s0):evC (Sm L) (d+1) Z Y 145 [pS s0] [] s=Cz9 L s0 (λb c=>some (.tup [p32 b,pB c],[],s)):=by refine(evE (fn:=ag5) (by kernel_rfl)).trans ?_;generalize evC (Sm L) d=Q;unfold Cz9;exact(j1 (by kernel_rfl) (A0 (A4 λa=>(A0 rfl ((A78 L Q Y s (E6 0 (E5 (Sm L) Q Y (cd [1,1,1,1,1] B52) (F7 (Sm L) ag5))) L a 0 0).trans (by kernel_rfl)))) rfl))
noncomputable def Zd(L:Nat):Cfg:=B6 L [109] (A3 []) [(138,Xw)] (A3 [(1,[4]),(0,[0,0])]) [] (A3 []) (some [4]) [] [] []
noncomputable def EJ{R:Type}(L:Nat)(c a:By)(d:Nat->LL->Option R):Option R:=cond (A2 c.length) (cond (a.length==1) (cond ((0:Int)==0) (cond (((-1):Int)==((-1):Int)) (vl (D5 (pcs (b8 a 0 0) c)) λb=>d (a8 (pcs (b8 a 0 0) c)) b) none) none) none) none
theorem A92(d:Nat)(s0 sep1):evC (Zd L) (d+1) Z Y 109 [pS s0,pS sep1] [] s=EJ L s0 sep1 (λa b=>some (.vw 0 0 a,[.arr false 9 1 b],s)):=by refine(evE (fn:=Tryz.f109) (by kernel_rfl)).trans ?_;generalize evC (Zd L) d=Q;unfold EJ;kernel_rfl
end
end
section
open Go
attribute [simp] B7 E2 C7 WY Bl5 Bl4 WZ Af M8 F3
attribute [simp] vl
@[simp] theorem E0{n:Nat}(h:n<=1000000000):A2 n=true:=OU.2 h
@[simp] theorem Vt{v:Int}{n:Nat}(h:0<=v)(a:v<n):ltN v n=true:=E3.2 ⟨h,a⟩
theorem M5{n:Nat}(h:n<=1000000000:=by omega):A2 n=true:=E0 h
theorem N9{v:Int}{n:Nat}(h:0<=v:=by omega)(g:v<n:=by omega):ltN v n=true:=Vt h g
@[simp] theorem J7{m n:Nat}(h:m+n<4611686018427387904):J6 m n=true:=by simp[J6,h]
abbrev rv(v:PV)(H:List Blk):Option (PV × List Blk × Unit):=some (v,H,())
theorem M3{n:Nat}(h:A2 n=true):n<=1000000000:=OU.1 h
theorem D2(s:By)(i:Nat)(h:i<s.length):s.drop i=s.getD i 0::s.drop (i+1):=by rw[k9,v8 h,s9,List.getElem_cons_drop]
theorem OZ(s:By)(i:Nat)(h:i<s.length):s.take (i+1)=s.take i++[s.getD i 0]:=by rw[List.take_add_one,k9,v8 h];rfl
theorem IS(s:By)(i:Nat)(h:i<s.length):(B3 (s.take (i+1))).map D8=(B3 (s.take i)).map D8++[D8 (W5 (s.getD i 0))]:=by unfold B3;rw[OZ s i h,af4,af4];rfl
theorem J8(b:UInt8):(b.toNat<65/\W5 b=b)\/(90<b.toNat/\W5 b=b)\/(65<=b.toNat/\b.toNat<=90/\((W5 b).toNat=b.toNat+32)):=by
 unfold W5;by_cases a:b.toNat<65
 ·refine .inl ⟨a,if_neg ?_⟩;intro h;have:=aa4.1 h.1;simp at this;omega
 ·by_cases c:90<b.toNat
  ·refine .inr (.inl ⟨c,if_neg ?_⟩);intro h;have:=aa4.1 h.2;simp at this;omega
  ·refine .inr (.inr ⟨by omega,by omega,?_⟩);rw[if_pos (by constructor<;>(rw[aa4];simp;omega)),UInt8.toNat_add];simp;omega
@[simp] theorem D1(s:By)(i:Nat):bAt s (i:Int)=((s.getD i 0).toNat:Int):=by simp[bAt]
@[simp] theorem Ah(s:By):bAt s 0=((s.getD 0 0).toNat:Int):=by simp[bAt]
@[simp] theorem Bf2(s:By):bAt s 1=((s.getD 1 0).toNat:Int):=by simp[bAt]
theorem Hy{c:Type}(s:List c)(a b:Nat):cut s (a:Int) (b:Int)=(s.take b).drop a:=by simp[cut]
@[simp] theorem Q8{b:Type}(s:List b)(a:Int):cut s a (s.length:Int)=s.drop a.toNat:=by simp[cut]
@[simp] theorem K2{a:Type}(s:List a)(b:Int):cut s 0 b=s.take b.toNat:=by simp[cut]
@[simp] theorem G6(l:List By):(D5 l).length=l.length:=by simp[D5]
@[simp] theorem Y5(l:List By)(i:Nat):gX (D5 l) i 0=l.getD i []:=by
 unfold gX gC D5;by_cases h:i<l.length
 ·simp[k9,v8 h,SV.gS]
 ·simp[k9,ac7 (show l.length<=i by omega),SV.gS]
@[simp] theorem T7{l:List By}{i:Nat}(h:i<l.length):okE Qx (D5 l) i 0=true:=by unfold okE D5;simp[k9,v8 h,h,Qx,okS,SV.has]
theorem Xh(a b:List By):D5 (a++b)=D5 a++D5 b:=by simp[D5]
theorem It(b:UInt8):u8n (b.toNat:Int)=b:=by simp[u8n]
theorem WQ(b:UInt8):inR (b.toNat:Int) 256=true:=by have:=b.toNat_lt;exact E9
theorem C80{a b:UInt8}:((a.toNat:Int)==(b.toNat:Int))=(a==b):=by
 rw[ac4];simp only[beq_iff_eq];constructor
 ·intro h;exact UInt8.toNat_inj.1 (by omega)
 ·intro h;rw[h]
theorem Q7(a:UInt8)(n:Nat)(h:n<256):((a.toNat:Int)==(n:Int))=(a==p5 n):=by rw[<-C80];simp[s8 h]
theorem Es(p s:By):p.isPrefixOf s=(decide (p.length<=s.length)&&(s.take p.length==p)):=by
 rw[ac4];simp only[y5,x6,decide_eq_true_eq,beq_iff_eq];constructor
 ·intro h;exact⟨h.length_le,(ac1.1 h).symm⟩
 ·rintro⟨_,h⟩;exact ac1.2 h.symm
theorem Nb(p s:By):p.isSuffixOf s=(decide (p.length<=s.length)&&(s.drop (s.length-p.length)==p)):=by
 rw[ac4];simp only[List.isSuffixOf_iff_suffix,x6,decide_eq_true_eq,beq_iff_eq];constructor
 ·intro h;exact⟨h.length_le,(ac2.1 h).symm⟩
 ·rintro⟨_,h⟩;exact ac2.2 h.symm
theorem Cw(b:UInt8):(48<=b.toNat/\b.toNat<=57/\dig b=b.toNat-48)\/(97<=b.toNat/\b.toNat<=102/\dig b=b.toNat-87)\/(65<=b.toNat/\b.toNat<=70/\dig b=b.toNat-55)\/(¬(48<=b.toNat/\b.toNat<=57)/\¬(97<=b.toNat/\b.toNat<=102)/\¬(65<=b.toNat/\b.toNat<=70)/\dig b=99):=by
 unfold dig;split
 ·rename_i h;exact .inl ⟨h.1,h.2,rfl⟩
 ·split
  ·rename_i h;exact .inr (.inl ⟨h.1,h.2,rfl⟩)
  ·split
   ·rename_i h;exact .inr (.inr (.inl ⟨h.1,h.2,rfl⟩))
   ·exact .inr (.inr (.inr ⟨by assumption,by assumption,by assumption,rfl⟩))
theorem Ch0(m:Nat):(if (1099511627776:Int)<(m:Int) then (1099511627776:Int) else (m:Int))=((min m V5:Nat):Int):=by unfold V5;split<;>omega
theorem HK{base:Nat}:∀{s:By} {n v:Nat},n<=V5->E8 base n s=some v->v<=V5
 | [],n,v,h,e=>by simp only[E8,p4] at e;omega
 | b::r,n,v,h,e=>by
  simp only[E8] at e;split at e
  ·exact HK (by omega) e
  ·cases e
theorem Bi7{s:By}{v:Nat}(h:Y8 s=some v):v<=V5:=by
 unfold Y8 at h
 repeat' split at h
 all_goals first|(cases h;done)|exact HK (by unfold V5;omega) h
theorem MW(base:Nat):∀(x y:By) (n:Nat),E8 base n (x++y)=(E8 base n x).bind λm=>E8 base m y
 | [],y,n=>rfl
 | b::r,y,n=>by
  simp only[ab8,E8];split
  ·exact MW base r y _
  ·rfl
theorem V6(u:Nat)(h:¬u<10):j7 u=j7 (u / 10)++[p5 (48+u % 10)]:=by rw[j7,dif_neg h]
theorem C74(d:Nat)(h:d<10):dig (p5 (48+d))=d:=by
 unfold dig;have:(p5 (48+d)).toNat=48+d:=by simp;omega
 rw[this,P9];omega
theorem Zh:∀u:Nat,u<=V5->E8 10 0 (j7 u)=some u:=by
 intro u
 induction u using Nat.strongRecOn with
 | _ u a=>
  intro b;by_cases h:u<10
  ·rw[ab4 h];simp only[E8,C74 u h];rw[if_pos h];unfold V5;simp;omega
  ·rw[V6 u h,MW,a (u / 10) (by omega) (by omega)];simp only[Option.bind_some,E8,C74 (u % 10) (by omega)];rw[P9];unfold V5 at *;simp;omega
theorem Bu(u:Nat):j7 u≠[]:=by intro h;have:=Lib.decDigits_length u;have a:=Lib.nDigits_pos u;rw[h] at this;simp at this;omega
theorem Ju:∀(k u:Nat),0<k->u<10 ^ k->(j7 u).length<=k
 | 0,u,h,_=>by omega
 | k+1,u,_,h=>by
  by_cases b:u<10
  ·rw[ab4 b];simp
  ·rw[V6 u b,aa0,x9];have a:0<k:=by
    rcases Nat.eq_zero_or_pos k with rfl|a
    ·rw[ah2,Nat.pow_one] at h;omega
    ·exact a
   have:=Ju k (u / 10) a (by rw[x4] at h;omega);omega
theorem I4(u:Nat)(h:u<4294967296):(j7 u).length<=10:=Ju 10 u (by omega) (by omega)
theorem Wa{s:By}{n:Nat}:oct s=some n↔n<256/\j7 n=s:=by
 unfold oct;constructor
 ·intro h;split at h
  ·rename_i m c;split at h
   ·rename_i a;cases h;exact⟨by omega,a.2⟩
   ·cases h
  ·cases h
 ·rintro⟨b,rfl⟩;rw[Zh n (by unfold V5;omega)];exact if_pos ⟨by omega,rfl⟩
theorem C68(a b:Nat)(c:a<9223372036854775808)(d:b<9223372036854775808):bOr .i64 (a:Int) (b:Int)=((a ||| b:Nat):Int):=by
 unfold bOr;rw[show w8 .i64=64 from rfl,C92 64 a b (by omega) (by omega)];have:a ||| b<2 ^ 63:=ab6 (by omega) (by omega)
 exact A7
theorem Di4(a b:Nat)(c:a<4294967296)(d:b<4294967296):bOr .u32 (a:Int) (b:Int)=((a ||| b:Nat):Int):=by
 unfold bOr;rw[show w8 .u32=32 from rfl,C92 32 a b (by omega) (by omega)];have:a ||| b<2 ^ 32:=ab6 (by omega) (by omega)
 exact Mu
theorem C88(a b:Nat)(c:a<4294967296)(d:b<4294967296):Ap0 .u32 (a:Int) (b:Int)=((a &&& b:Nat):Int):=by unfold Ap0;rw[show w8 .u32=32 from rfl,C72 32 a b (by omega) (by omega)];have:a &&& b<2 ^ 32:=Nat.and_lt_two_pow _ (by omega);exact Mu
theorem C87(x:Nat):x &&& 255=x % 256:=Nat.and_two_pow_sub_one_eq_mod x 8
theorem Ah9(a m:Nat)(h:a*2 ^ m<9223372036854775808)(b:m<=64):Qv .i64 (a:Int) (m:Int)=((a*2 ^ m:Nat):Int):=by
 unfold Qv;rw[j6,show w8 .i64=64 from rfl,ab0 b];have:(a:Int)*2 ^ m=((a*2 ^ m:Nat):Int):=by simp
 rw[this];exact A7
theorem Dk4(a m:Nat)(h:a*2 ^ m<4294967296)(b:m<=32):Qv .u32 (a:Int) (m:Int)=((a*2 ^ m:Nat):Int):=by
 unfold Qv;rw[j6,show w8 .u32=32 from rfl,ab0 b];have:(a:Int)*2 ^ m=((a*2 ^ m:Nat):Int):=by simp
 rw[this];exact Mu
theorem DY(v n m:Nat)(h:n<2 ^ m):v*2 ^ m ||| n=v*2 ^ m+n:=by rw[Nat.or_comm,Db7 n v m h,ag9]
theorem Ke{c:UInt8}{s:By}(h:c∉s):pcs c s=[s]:=by unfold pcs;rw[Xf c s [] h];rfl
theorem DZ{c:UInt8}{p r:By}(h:c∉p):pcs c (p++c::r)=p::pcs c r:=by unfold pcs;rw[CX c p [] r h];rfl
theorem Ih(c:UInt8)(s:By):(pcs c s).length=s.count c+1:=Iq c s []
theorem UW(c:UInt8)(s:By):pcs c s≠[]:=A88 c s []
theorem Ca{c:UInt8}{s x:By}(h:x∈pcs c s):c∉x/\x.length<=s.length:=by have:=Pd c s [] (by simp) x h;simpa using this
theorem Gn(c:UInt8)(s:By):s.count c<=s.length:=List.count_le_length
theorem Q1(c:UInt8):∀s:By,c∉s\/∃p r,s=p++c::r/\c∉p
 | []=>.inl (by simp)
 | b::s=>by
  by_cases h:b=c
  ·subst h;exact .inr ⟨[],s,rfl,by simp⟩
  ·rcases Q1 c s with a|⟨p,r,rfl,d⟩
   ·exact .inl (by simp[a,Ne.symm h])
   ·exact .inr ⟨b::p,r,rfl,by simp[d,Ne.symm h]⟩
theorem Sr{c:UInt8}{s:By}(h:c∉s):y7 s [c]=-1:=by
 rcases af6 s [c] with a|⟨i,a,e,b,f⟩
 ·exact a.1
 ·exfalso;simp only[ad9,y5] at b;obtain⟨t,d⟩:=b;have:c∈s.drop i:=by rw[<-d];simp
  exact h (ad1 this)
theorem Zy{c:UInt8}{p r:By}(h:c∉p):y7 (p++c::r) [c]=(p.length:Int):=by
 rcases af6 (p++c::r) [c] with d|⟨i,d,m,f,g⟩
 ·exfalso;have:=d.2 p.length (by simp);simp[ad9] at this
 ·rw[d];have n:¬p.length<i:=by
   intro a;have:=g p.length a;simp[ad9] at this
  have k:¬i<p.length:=by
   intro a;simp only[ad9,y5] at f;obtain⟨t,b⟩:=f;have j:(p++c::r).drop i=p.drop i++c::r:=by rw[aa5 (by omega)]
   rw[j] at b;cases e:p.drop i with
   | nil=>have:=List.length_drop (i:=i) (l:=p);rw[e] at this;simp at this;omega
   | cons x y=>
    rw[e] at b;simp at b;have:x∈p:=ad1 (i:=i) (by rw[e];simp);rw[<-b.1] at this;exact h this
  omega
theorem Bs5(s:By):C3 s≠[]:=by
 unfold C3;split
 ·rename_i h;intro e;have:=congrArg a8 e;simp at this;omega
 ·exact UW _ _
theorem Lu{s x:By}(h:x∈C3 s):x.length<=s.length:=by
 unfold C3 at h;split at h
 ·exact(Ca ((List.dropLast_sublist _).subset h)).2
 ·exact(Ca h).2
theorem Av(s:By):1<=(C3 s).length/\(C3 s).length<=s.length+1:=by
 have a:=y9.2 (Bs5 s);have b:=Ih 46 s;have c:=Gn 46 s;refine⟨a,?_⟩;unfold C3;split
 ·rw[List.length_dropLast];omega
 ·omega
theorem AF(s:By):(C3 s).getD ((C3 s).length-1) []=Cl s:=by unfold Cl;rw[List.getLastD_eq_getLast?,List.getLast?_eq_getElem?,k9]
theorem NP(s:By):Cl s∈C3 s:=by have h:=(Av s).1;rw[<-AF,k9,v8 (by omega)];exact ab9 _
theorem Ja{base:Nat}:∀{s:By} {n i:Nat},i<s.length->base<=dig (s.getD i 0)->E8 base n s=none
 | [],n,i,h,_=>by simp at h
 | b::r,n,0,h,a=>by
  simp only[w9] at a;simp only[E8];rw[F5]
 | b::r,n,i+1,h,a=>by
  simp only[ad4] at a;simp only[E8];split
  ·exact Ja (i:=i) (by simpa using h) a
  ·rfl
theorem Fv(s:By):X4 s=true↔s.getD 0 0=48/\(s.getD 1 0=120\/s.getD 1 0=88):=by simp[X4]
theorem Jz{s:By}(h:X4 s=true):2<=s.length:=by
 rw[Fv] at h
 match s with
 | []=>simp at h
 | [a]=>simp at h
 | a::b::r=>simp
theorem Cb7(l:By):(if X4 l then (E8 16 0 (l.drop 2)).isSome else !l.isEmpty&&(E8 10 0 l).isSome) =
  (if (!l.isEmpty&&(E8 10 0 l).isSome)=true then true else (if (Y8 l).isSome=true then decide (2<=l.length)&&(l.getD 1 0==120||l.getD 1 0==88) else false)):=by
 by_cases b:X4 l=true
 ·have g:=Jz b;have j:=(Fv l).1 b;have f:E8 10 0 l=none:=Ja (i:=1) (by omega) (by rcases j.2 with h|h<;>rw[h]<;>decide);have d:Y8 l=E8 16 0 (l.drop 2):=by
   unfold Y8;rw[if_neg (by intro e;rw[e] at g;simp at g),if_pos b]
  rw[if_pos b,f,d];have c:(l.getD 1 0==120||l.getD 1 0==88)=true:=by simpa using j.2
  rw[c];simp[g]
 ·rw[if_neg b];cases n:(!l.isEmpty&&(E8 10 0 l).isSome) with
  | true=>rfl
  | false=>
   rw[if_neg (by simp)];cases d:Y8 l with
   | none=>rfl
   | some v=>
    rw[show(some v).isSome=true from rfl,if_pos rfl]
    symm
    rw[Bool.and_eq_false_iff];by_cases c:2<=l.length
    ·right
     apply Classical.byContradiction;intro a;have a:l.getD 1 0=120\/l.getD 1 0=88:=by
      cases k:(l.getD 1 0==120||l.getD 1 0==88) with
      | false=>exact absurd k a
      | true=>simpa using k
     have m:¬l.getD 0 0=48:=λh=>b ((Fv l).2 ⟨h,a⟩)
     have f:E8 10 0 l=none:=Ja (i:=1) (by omega) (by rcases a with h|h<;>rw[h]<;>decide);unfold Y8 at d;rw[if_neg (by intro e;rw[e] at c;simp at c),if_neg b,if_neg (by intro h;exact m h.2),f] at d;cases d
    ·left;simpa using c
end
section
open Go Go.Proofs
theorem Bq9{R:Type}{a:Bool->Option R}(s p:By)(b:A2 s.length=true):Cu7 LF s p a=a (p.isPrefixOf s):=by
 have:=M3 b;unfold Cu7;rw[Es];by_cases h:p.length<=s.length
 ·simp_all
 ·simp (disch:=omega) [h]
theorem Bp0{R:Type}{a:Bool->Option R}(s p:By)(b:A2 s.length=true):Ok LF s p a=a (p.isPrefixOf s):=by unfold Ok;rw[b];rfl
theorem Br0{R:Type}{a:Bool->Option R}(s p:By)(b:A2 s.length=true):Cu9 LF s p a=a (p.isSuffixOf s):=by
 have:=M3 b;unfold Cu9;rw[Nb];by_cases h:p.length<=s.length
 ·have e:((s.length:Int)-(p.length:Int)).toNat=s.length-p.length:=by omega
  simp (disch:=omega) [h,e]
 ·simp (disch:=omega) [h]
theorem Bp1{R:Type}{a:Bool->Option R}(s p:By)(b:A2 s.length=true):Cs9 LF s p a=a (p.isSuffixOf s):=by unfold Cs9;rw[b];rfl
theorem Aw9{R:Type}{b:By->Option R}(s p:By)(a:A2 s.length=true):Bi2 LF s p b=b (WM s p):=by
 have:=M3 a;unfold Bi2 WM;rw[a];cases h:p.isSuffixOf s with
 | false=>simp
 | true=>
  have:p.length<=s.length:=by rw[Nb] at h;simp at h;exact h.1
  have e:((s.length:Int)-(p.length:Int)).toNat=s.length-p.length:=by omega
  simp (disch:=omega) [e]
theorem A95{R:Type}{a:By->Option R}(s p:By)(b:A2 s.length=true):Bk8 LF s p a=a (WM s p):=by unfold Bk8;rw[b];rfl
theorem Av8{R:Type}{b:By->Bool->Option R}(s p:By)(a:A2 s.length=true):Bh6 LF s p b=b (Gp s p) (p.isPrefixOf s):=by
 have:=M3 a;unfold Bh6 Gp;rw[a];cases h:p.isPrefixOf s with
 | false=>simp
 | true=>
  have:p.length<=s.length:=by rw[Es] at h;simp at h;exact h.1
  simp_all
theorem Bm9{R:Type}{a:By->Bool->Option R}(s p:By)(b:A2 s.length=true):Cp3 LF s p a=a (Gp s p) (p.isPrefixOf s):=by unfold Cp3;rw[b];rfl
theorem Aj1{R:Type}{a:LL->Option R}(s p:By)(b:A2 s.length=true)(c:(p.length==1)=true):WH LF s p a=a (D5 (pcs (p.getD 0 0) s)):=by unfold WH;rw[b,c];rfl
theorem Bq6{R:Type}{k0:LL->Option R}(s:By)(o:s.length<=1000000000):∀(r i n:Nat),i+r=s.length->r<n->Fb LF n s (s.length:Int) (i:Int) ((B3 (s.take i)).map D8) k0=k0 ((B3 s).map D8):=by
 intro r
 induction r with
 | zero=>
  intro i n g j;obtain⟨n,rfl⟩:∃m,n=m+1:=⟨n-1,by omega⟩
  rw[Fb];rw[A6,aa3 (by omega)];rfl
 | succ r a=>
  intro i n g j;obtain⟨n,rfl⟩:∃m,n=m+1:=⟨n-1,by omega⟩
  rw[Fb];have h:(B3 (s.take i)).length=i:=by simp[B3];omega
  have a:=a (i+1) n (by omega) (by omega);rw[IS s i (by omega)] at a;rw[D1];have l:=(s.getD i 0).toNat_lt;generalize s.getD i 0=b at *;have c:((i:Int)+1)=((i+1:Nat):Int):=by omega
  simp (disch:=omega) only[B7,M8,cond_true,vl,aa9,h,F3,C7];rw[c];rcases J8 b with⟨d,e⟩|⟨d,e⟩|⟨d,k,e⟩
  ·simp (disch:=omega) only[B7,j4,cond_false];rw[e] at a;exact a
  ·simp (disch:=omega) only[E2,B7,j4,j2,cond_false,cond_true];rw[e] at a;exact a
  ·have f:wu8 ((b.toNat:Int)+32)=((W5 b).toNat:Int):=by
    rw[L9];omega
   simp (disch:=omega) only[E2,j2,cond_true,f];exact a
theorem Bq7{R:Type}{k0:By->LL->Option R}(s:By)(b:A2 s.length=true):Cu5 LF s k0=k0 (B3 s) ((B3 s).map D8):=by have c:=M3 b;have:=C6;unfold Cu5;simp (disch:=omega) only[j6,F3,af9];rw[show(decide ((0:Int)<=(s.length:Int)))=true by simp];have:=Bq6 (k0:=λa=>cond (x7 a Nj) (k0 (w6 Lh a) a) none) s c s.length 0 LF (by omega) (by omega);simp only[List.take_zero,B3,List.map_nil] at this;rw[cond_true];refine j1 this ?_;rw[show(w6 W5 s).map D8=(B3 s).map D8 from rfl,W8,X6];rfl
theorem Bv1{R:Type}{k0:LL->Option R}(s:By)(o:s.length<=1000000000):∀(r i n:Nat),i+r=s.length->r<n->Fj LF n s (i:Int) ((B3 (s.take i)).map D8) k0=k0 ((B3 s).map D8):=by
 intro r
 induction r with
 | zero=>
  intro i n g j;obtain⟨n,rfl⟩:∃m,n=m+1:=⟨n-1,by omega⟩
  rw[Fj];rw[A6,aa3 (by omega)];rfl
 | succ r a=>
  intro i n g j;obtain⟨n,rfl⟩:∃m,n=m+1:=⟨n-1,by omega⟩
  rw[Fj];have h:(B3 (s.take i)).length=i:=by simp[B3];omega
  have a:=a (i+1) n (by omega) (by omega);rw[IS s i (by omega)] at a;rw[D1];have l:=(s.getD i 0).toNat_lt;generalize s.getD i 0=b at *;have c:((i:Int)+1)=((i+1:Nat):Int):=by omega
  simp (disch:=omega) only[B7,M8,cond_true,vl,aa9,h,F3,C7];rw[c];rcases J8 b with⟨d,e⟩|⟨d,e⟩|⟨d,k,e⟩
  ·simp (disch:=omega) only[B7,j4,cond_false];rw[e] at a;exact a
  ·simp (disch:=omega) only[E2,B7,j4,j2,cond_false,cond_true];rw[e] at a;exact a
  ·have f:wu8 ((b.toNat:Int)+32)=((W5 b).toNat:Int):=by
    rw[L9];omega
   simp (disch:=omega) only[E2,j2,cond_true,f];exact a
theorem Bv2{R:Type}{k0:By->LL->Option R}(s:By)(b:A2 s.length=true):Cy8 LF s k0=k0 (B3 s) ((B3 s).map D8):=by have c:=M3 b;have:=C6;unfold Cy8;have:=Bv1 (k0:=λa=>cond (x7 a Nj) (k0 (w6 Lh a) a) none) s c s.length 0 LF (by omega) (by omega);refine j1 this ?_;rw[W8,X6];rfl
theorem Bo7{R:Type}{c:Bool->Option R}(s:By)(d:A2 s.length=true):Cs3 LF s c=c (X4 s):=by
 unfold Cs3;have key:X4 s=(([48,120]:By).isPrefixOf s||([48,88]:By).isPrefixOf s):=by
  match s with
  | []=>rfl
  | [a]=>simp[X4,s7]
  | a::b::r=>
   simp only[X4,s7,w9,ad4,af9];rw[ah3 (a:=(48:UInt8)),ah3 (a:=(120:UInt8)),ah3 (a:=(88:UInt8))];cases (a==48)<;>simp
 grind
theorem Bn3{R:Type}{k0:Unit->Option R}{k1:Int->Option R}(s:By)(C:s.length<=1000000000)(base:Nat)(B:base<=16):∀(r i a n:Nat),i+r=s.length->r<n->a<=V5->
  Hz LF n s (base:Int) (a:Int) (s.length:Int) (i:Int) k0 k1=match E8 base a (s.drop i) with|some v=>k1 (v:Int)|none=>k0 ():=by
 intro r
 induction r with
 | zero=>
  intro i a n u w q;obtain⟨n,rfl⟩:∃m,n=m+1:=⟨n-1,by omega⟩
  rw[Hz];rw[A6,j9 (by omega)];rfl
 | succ r l=>
  intro i a n u w q;obtain⟨n,rfl⟩:∃m,n=m+1:=⟨n-1,by omega⟩
  rw[Hz,D2 s i (by omega)];rw[D1];have t:=(s.getD i 0).toNat_lt;generalize s.getD i 0=b at *;have k:((i:Int)+1)=((i+1:Nat):Int):=by omega
  have o:V5=1099511627776:=rfl;have step:∀d:Nat,d<base->(a*base+d<100000000000000/\A1 (A1 ((a:Int)*(base:Int))+(d:Int))=((a*base+d:Nat):Int)):=by
   intro d c;have h:a*base<=1099511627776*16:=af7 (by omega) (by omega);refine⟨by omega,?_⟩;have p:A1 ((a*base:Nat):Int)=((a*base:Nat):Int):=A7;rw[<-af1,p,A7];rfl
  simp (disch:=omega) only[B7,M8,cond_true,vl,C7,Uq,Up,Uo];rw[k];simp only[E8];rcases Cw b with⟨h,j,e⟩|⟨h,j,e⟩|⟨h,j,e⟩|⟨h,j,A,e⟩
  ·have f:wu8 ((b.toNat:Int)-48)=((dig b:Nat):Int):=by rw[L9];omega
   simp (disch:=omega) only[B7,E2,j4,j2,cond_false,cond_true,f,C7];by_cases c:dig b<base
   ·rw[if_pos c,A8,(step _ c).2,Ch0];exact l (i+1) _ n (by omega) (by omega) (by omega)
   ·rw[if_neg c,A6];rfl
  ·have f:wu8 ((b.toNat:Int)-97)+10=((dig b:Nat):Int):=by rw[L9];omega
   have g:wu8 ((b.toNat:Int)-97)=((b.toNat:Int)-97):=L9;rw[g] at f;simp (disch:=omega) only[B7,E2,j4,j2,cond_false,cond_true,g,C7,f];by_cases c:dig b<base
   ·rw[if_pos c,A8,(step _ c).2,Ch0];exact l (i+1) _ n (by omega) (by omega) (by omega)
   ·rw[if_neg c,A6];rfl
  ·have f:wu8 ((b.toNat:Int)-65)+10=((dig b:Nat):Int):=by rw[L9];omega
   have g:wu8 ((b.toNat:Int)-65)=((b.toNat:Int)-65):=L9;rw[g] at f;simp (disch:=omega) only[B7,E2,j4,j2,cond_false,cond_true,g,C7,f];by_cases c:dig b<base
   ·rw[if_pos c,A8,(step _ c).2,Ch0];exact l (i+1) _ n (by omega) (by omega) (by omega)
   ·rw[if_neg c,A6];rfl
  ·rw[if_neg (show ¬dig b<base by omega)];by_cases x:b.toNat<48
   ·simp (disch:=omega) only[B7,E2,j4,j2,cond_false,cond_true]
   ·by_cases y:b.toNat<65
    ·simp (disch:=omega) only[B7,E2,j4,j2,cond_false,cond_true]
    ·by_cases z:b.toNat<97
     ·simp (disch:=omega) only[B7,E2,j4,j2,cond_false,cond_true]
     ·simp (disch:=omega) only[B7,E2,j4,j2,cond_false,cond_true]
theorem Bn4{R:Type}{k0:Int->Bool->Option R}(s:By)(base:Int)(c:A2 s.length=true)(d:ltN base 17=true):B69 LF s base k0=k0 (N1 (E8 base.toNat 0 s):Int) (E8 base.toNat 0 s).isSome:=by have f:=M3 c;have:=C6;obtain⟨a,e⟩:=E3.1 d;obtain⟨b,rfl⟩:=p9 a;unfold B69;have:=Bn3 (k0:=λ_=>k0 0 false) (k1:=λn=>k0 n true) s f b (by omega) s.length 0 0 LF (by omega) (by omega) (by unfold V5;omega);refine j1 this ?_;rw[v7,j6];cases E8 b 0 s<;>rfl
theorem Cb6{R:Type}{f:Int->Bool->Option R}(s:By)(d:A2 s.length=true):num LF s f=f (N1 (Y8 s):Int) (Y8 s).isSome:=by
 have k:=M3 d;unfold num Y8;rw[d];by_cases a:s=[]
 ·subst a;rfl
 have c:(s==([]:By))=false:=by simpa using a
 have j:0<s.length:=y9.2 a;rw[if_neg a,c];simp only[cond_true,cond_false,vl];cases h:X4 s with
 | true=>
  have:=Jz h;simp (disch:=first|omega|(simp;omega)) only[cond_true,if_true,Af,Q8,E0,Vt];rfl
 | false=>
  simp only[cond_false,z7,if_false];have i:(E8 10 0 s)=E8 10 0 s:=rfl;by_cases g:1<s.length
  ·simp (disch:=omega) only[B7,M8,cond_true,Ah,g,true_and];have e:=Q7 (s.getD 0 0) 48 (by omega);rw[show((48:Nat):Int)=48 from rfl] at e;rw[e];by_cases b:s.getD 0 0=48
   ·rw[if_pos b,b,show((48:UInt8)==p5 48)=true from rfl];simp (disch:=first|omega|(simp;omega)) only[Af,Q8,E0,Vt,cond_true];rfl
   ·rw[if_neg b,show(s.getD 0 0==p5 48)=false from beq_eq_false_iff_ne.2 b];rfl
  ·rw[A6,F5];rfl
theorem UO{R:Type}{b:Bool->Option R}(s:By)(a:A2 s.length=true):DW LF s b=b (E4 s):=by
 have i:=M3 a;have h:=Av s;have g:=Lu (NP s);have d:=AF s;have c:((C3 s).length:Int)-1=(((C3 s).length-1:Nat):Int):=by omega
 unfold DW E4;rw[a];simp (disch:=omega) only[cond_true,vl,G6,c,C7,M8,j6,T7,Y5,d,E0];cases f:X4 (Cl s) with
 | true=>
  have:=Jz f;have e:Y8 (Cl s)=E8 16 0 ((Cl s).drop 2):=by
   unfold Y8;grind
  simp[e]
 | false=>
  simp only[cond_false,z7,if_false];cases E8 10 0 (Cl s) with
  | none=>simp
  | some v=>cases Cl s<;>rfl
theorem LP{R:Type}{c:Bool->Option R}(s:By)(a:A2 s.length=true):Wr LF s c=c (E4 s):=by
 have j:=M3 a;have i:=Av s;have h:=Lu (NP s);have e:=AF s;have d:((C3 s).length:Int)-1=(((C3 s).length-1:Nat):Int):=by omega
 unfold Wr E4;rw[a,Cb7];simp (disch:=omega) only[cond_true,vl,G6,d,C7,M8,j6,T7,Y5,e,E0];generalize Cl s=l at *;cases (!l.isEmpty&&(E8 10 0 l).isSome) with
 | true=>rfl
 | false=>
  simp only[cond_false,z7,if_false];cases Y8 l with
  | none=>rfl
  | some v=>
   simp only[p6,cond_true,if_true,Bf2];by_cases b:2<=l.length
   ·simp (disch:=omega) only[E2,M8,j2,cond_true,b,decide_true,Bool.true_and];have f:=Q7 (l.getD 1 0) 120 (by omega);have g:=Q7 (l.getD 1 0) 88 (by omega);grind
   ·rw[A8];simp[b]
theorem TS{R:Type}{e:By->Option R}(b:Nat)(j:b<=9223372036854775808)(n:Int)(f:ltN n (b+1)=true):DP b n e=e (j7 n.toNat):=by
 obtain⟨a,g⟩:=E3.1 f;obtain⟨m,rfl⟩:=p9 a;have key:∀d:Nat,d<10->wu8 (A1 (48+(d:Int)))=((48+d:Nat):Int):=by
  intro d i;rw[A7,L9];rfl
 have c:∀d:Nat,d<10->[[SV.int .u8 ((48+d:Nat):Int)]]=[p5 (48+d)].map D8:=by
  intro d i;rw[Cj2 (by omega)];rfl
 unfold DP;rw[j6];by_cases h:m<10
 ·rw[A8,key m h,ab4 h];simp only[cond_true,vl];rw[c m h,W8,X6];rfl
 ·have l:=Ju 19 (m / 10) (by omega) (by omega);rw[A6,show(10:Int)=((10:Nat):Int) from rfl,M9,Hq];simp (disch:=omega) only[cond_false,vl,C7,cond_true,j6];rw[N9];simp only[cond_true];have k:=key (m % 10) (by omega);rw[A7] at k;rw[k,c (m % 10) (by omega),W8,X6,J7 (by simp;omega),V6 m h];rfl
theorem Bt9{R:Type}{f:Int->Option R}{c:Unit->Option R}(s:By):∀(r m n:Nat),m+r=256->r<n->Lx LF n s (m:Int) f c=match oct s with|some v=>(if m<=v then f (v:Int) else c ())|none=>c ():=by
 intro r
 induction r with
 | zero=>
  intro m n g i;obtain⟨n,rfl⟩:∃m,n=m+1:=⟨n-1,by omega⟩
  rw[Lx];rw[A6];cases h:oct s with
  | none=>rfl
  | some v=>have:=(Wa.1 h).1;simp only[cond_false];rw[F5]
 | succ r j=>
  intro m n g i;obtain⟨n,rfl⟩:∃m,n=m+1:=⟨n-1,by omega⟩
  rw[Lx];have b:((m:Int)+1)=((m+1:Nat):Int):=by omega
  simp (disch:=omega) only[B7,Vt,cond_true,vl,C7,j6];by_cases a:j7 m=s
  ·rw[show(j7 m==s)=true by simpa using a,Wa.2 ⟨by omega,a⟩];simp
  ·rw[show(j7 m==s)=false by simpa using a,cond_false,b,j (m+1) n (by omega) (by omega)];cases h:oct s with
   | none=>rfl
   | some v=>
    have:=(Wa.1 h).2;have:v≠m:=by intro e;subst e;exact a this
    simp only[];by_cases d:m<=v
    ·rw[if_pos d,P9]
    ·rw[if_neg d,F5]
theorem Bu0{R:Type}{a:Int->Bool->Option R}(s:By)(b:A2 s.length=true):Cx7 LF s a=a (N1 (oct s):Int) (oct s).isSome:=by have:=C6;unfold Cx7;refine j1 (Bt9 s 256 0 LF (by omega) (by omega)) ?_;cases oct s<;>rfl
theorem Di5(s:By)(a b:Nat)(h:a<=b)(c:b<s.length):cut s (a:Int) ((b+1:Nat):Int)=cut s (a:Int) (b:Int)++[s.getD b 0]:=by rw[Hy,Hy,OZ s b c,aa5 (by rw[List.length_take];omega)]
theorem B66(s:By)(a:Nat):cut s (a:Int) (a:Int)=[]:=by rw[Hy];grind
theorem Ae5{R:Type}{k0:LL->Option R}(s:By)(p:s.length<=1000000000)(c:UInt8):∀(r i a n:Nat) (l:List By),i+r=s.length->r+1<n->a<=i->l.length<=i->
  V7 LF n s (c.toNat:Int) (a:Int) (i:Int) (D5 l) k0=k0 (D5 (l++L5 c (cut s (a:Int) (i:Int)) (s.drop i))):=by
 intro r
 induction r with
 | zero=>
  intro i a n l j o f k;obtain⟨n,rfl⟩:∃m,n=m+1:=⟨n-1,by omega⟩
  obtain⟨n,rfl⟩:∃m,n=m+1:=⟨n-1,by omega⟩
  have b:i=s.length:=by omega
  subst b;rw[V7];simp (disch:=omega) only[E2,j2,cond_true,beq_self_eq_true,Af,G6,F3,C7];rw[V7];rw[A8,List.drop_length];simp only[j4,cond_false,L5,Xh];rfl
 | succ r g=>
  intro i a n l j o f k;obtain⟨n,rfl⟩:∃m,n=m+1:=⟨n-1,by omega⟩
  rw[V7];have d:((i:Int)+1)=((i+1:Nat):Int):=by omega
  have e:((i:Int)==(s.length:Int))=false:=by rw[beq_eq_false_iff_ne];omega
  simp (disch:=omega) only[E2,j2,cond_true,cond_false,e,M8,D1,C80,Af,G6,F3,C7];rw[d,D2 s i (by omega)];simp only[L5];by_cases h:s.getD i 0=c
  ·rw[show(s.getD i 0==c)=true by simpa using h,if_pos h,cond_true];have:=g (i+1) (i+1) n (l++[cut s (a:Int) (i:Int)]) (by omega) (by omega) (by omega) (by simp<;>omega);rw[Xh] at this;refine j1 this ?_;rw[B66];simp
  ·rw[show(s.getD i 0==c)=false from beq_eq_false_iff_ne.2 h,if_neg h,cond_false];rw[g (i+1) a n l (by omega) (by omega) (by omega) (by omega),Di5 s a i f (by omega)]
theorem A69{R:Type}{k0:LL->Option R}(s:By)(c:Int)(a:A2 s.length=true)(d:inR c 256=true):JR LF s c k0=k0 (D5 (pcs (u8n c) s)):=by
 have f:=M3 a;have:=C6;simp only[inR,x6,decide_eq_true_eq] at d;have e:c=((u8n c).toNat:Int):=by
  unfold u8n;simp;omega
 unfold JR;generalize u8n c=b at *;subst e;have:=Ae5 (k0:=k0) s f b s.length 0 0 LF [] (by omega) (by omega) (by omega) (by simp);refine j1 this ?_;rw[B66];rfl
theorem Aj3(c:UInt8)(s:By):(D5 (pcs c s)).isEmpty=false:=by
 cases h:pcs c s with
 | nil=>exact absurd h (UW c s)
 | cons a r=>rfl
theorem Ae6(s:By)(c:Int)(a:A2 s.length=true)(b:inR c 256=true):∃r H,JR LF s c (λl=>rv (.fl 0) [.arr true 9 1 l])=rv r H/\r.stab [1] H = .s (.sl false false 1 (D5 (pcs (u8n c) s))):=by refine⟨_,_,A69 s c a b,?_⟩;simp[PV.stab,Qt,PV.snap,Aj3]
theorem Ch1(d:List By)(x:By)(m:Nat):aa6 (D5 (d++j0 (m+1) [])) d.length (F8 (b8 (D5 (d++j0 (m+1) [])) d.length []) 0 [SV.str x])=D5 ((d++[x])++j0 m []):=by
 have a:b8 (D5 (d++j0 (m+1) [])) d.length []=[SV.str []]:=by
  unfold D5;grind
 rw[a];simp only[F8,List.set_cons_zero,Xh];rw[show d.length=(D5 d).length by simp,List.set_append_right _ _ (by omega),Nat.sub_self,List.replicate_succ];simp[D5]
theorem ZK{R:Type}{k0:By->Int->LL->Option R}(c:UInt8):∀(m n:Nat) (s:By) (d:List By),s.length<=1000000000->m=s.count c->d.length+m<=1000000000->m<n->
  ∃(f:List By) (e:By),pcs c s=f++[e]/\e.length<=s.length/\Bc LF n s [c] 0 ((d.length+m:Nat):Int) (d.length:Int) (D5 (d++j0 (m+1) [])) k0=k0 e ((d.length+m:Nat):Int) (D5 ((d++f)++[[]])):=by
 intro m
 induction m with
 | zero=>
  intro n s d k b x y;obtain⟨n,rfl⟩:∃m,n=m+1:=⟨n-1,by omega⟩
  have a:c∉s:=ab3.1 b.symm;refine⟨[],s,Ke a,aa7 _,?_⟩;rw[Bc];rw[A6];simp
 | succ m z=>
  intro n s d k b x y;obtain⟨n,rfl⟩:∃m,n=m+1:=⟨n-1,by omega⟩
  rcases Q1 c s with a|⟨p,r,rfl,a⟩
  ·rw[ab3.2 a] at b;omega
  ·have i:m=r.count c:=by
    rw[List.count_append,af2,ab3.2 a] at b;simp at b;omega
   simp only[aa0,ac0] at k;obtain⟨f,e,w,B,j⟩:=z n r (d++[p]) (by omega) i (by simp<;>omega) (by omega);refine⟨p::f,e,by rw[DZ a,w];rfl,by simp<;>omega,?_⟩;rw[Bc];have l:((p.length:Int)+1)=((p.length+1:Nat):Int):=by omega
   have o:(d.length:Int)+1=((d.length+1:Nat):Int):=by omega
   have q:((p.length+1:Nat):Int).toNat=p.length+1:=by omega
   have A:(((p++c::r).length:Nat):Int)=((p.length+(r.length+1):Nat):Int):=by simp
   have t:(p++c::r).take p.length=p:=List.take_left' rfl;have u:(p++c::r).drop (p.length+1)=r:=by
    rw[show p++c::r=(p++[c])++r by simp,List.drop_left' (by simp)]
   rw[Zy a];have v:(D5 (d++j0 (m+1+1) [])).length=d.length+(m+2):=by simp<;>omega
   simp (disch:=first|omega|(simp;omega)) only[B7,E2,E0,cond_true,cond_false,vl,Int.add_zero,C7,Af,M8,v,j6,x9,Q8,K2,t,Ch1];rw[decide_eq_true (show d.length<d.length+(m+2) by omega),cond_true,show((1:Nat):Int)=1 from rfl,l];simp (disch:=first|omega|(simp;omega)) only[C7,Af,cond_true,Q8,q,u,o];have g:((((d++[p]).length+m:Nat):Int))=((d.length+(m+1):Nat):Int):=by simp<;>omega
   have h:(((d++[p]).length:Nat):Int)=((d.length+1:Nat):Int):=by simp
   rw[g,h] at j;rw[j];simp
theorem HZ{R:Type}{k0:Unit->Option R}{g:Nat->LL->Option R}(s p:By)(v n:Int)(w:A2 s.length=true)(x:(p.length==1)=true)(y:(v==0)=true)(z:(n==(-1))=true) :
  HY LF s p v n k0 g=g (pcs (p.getD 0 0) s).length (D5 (pcs (p.getD 0 0) s)):=by
 have C:=M3 w;have:=C6;obtain⟨c,rfl⟩:∃c,p=[c]:=by
  match p,x with
  | [c],_=>exact⟨c,rfl⟩
 have:v=0:=by simpa using y
 subst this;have:n=-1:=by simpa using z
 subst this;have G:=Gn c s;have B:=Ih c s;obtain⟨d,D,u,F,h⟩:=ZK (R:=R) (k0:=λf a b=>cond (inR a (a8 b))
     (cond (decide ((b9 a)<(a8 b)))
      (vl (A1 (a+(1))) λe=>
      cond (I7 (0) e (a8 (aa6 b (b9 a) (F8 (b8 b (b9 a) []) 0 [(SV.str f)]))))
       (g ((b9 e)-0) (aa6 b (b9 a) (F8 (b8 b (b9 a) []) 0 [(SV.str f)])))
       (none))
      (none))
     (none)) c (s.count c) LF s [] C rfl (by simp<;>omega) (by omega)
 unfold HY;have i:A1 ((s.count c:Int)+1)=((s.count c+1:Nat):Int):=A7;have j:A1 ((s.length:Int)+1)=((s.length+1:Nat):Int):=A7;have k:(if ((s.length+1:Nat):Int)<((s.count c+1:Nat):Int) then ((s.length+1:Nat):Int) else ((s.count c+1:Nat):Int))=((s.count c+1:Nat):Int):=F5;have l:((s.count c+1:Nat):Int)-1=(s.count c:Int):=by omega
 have m:(j0 (s.count c+1) [SV.str ([]:By)])=D5 ([]++j0 (s.count c+1) []):=by simp[D5]
 simp only[w9,vl,x9,i,j,k,j6,m];rw[show((-1:Int)==0)=false from rfl,show([c]==([]:By))=false from rfl,show ltI (-1) 0=true from rfl,decide_eq_true (show(0:Int)<=((s.count c+1:Nat):Int) by omega),decide_eq_true (show((s.count c+1:Nat):Int)<=((s.count c+1:Nat):Int) by omega),F3 (by omega),l,A7];simp only[cond_true,cond_false,beq_self_eq_true,Bool.and_self];simp only[af3,ah2] at h;refine j1 h ?_;have o:(D5 ((([]:List By)++d)++[[]]))=D5 (d++j0 (0+1) []):=by simp
 have A:d.length=s.count c:=by grind
 have q:=Ch1 d D 0;rw[<-A,o];have t:(D5 (d++j0 (0+1) ([]:By))).length=d.length+1:=by simp
 have r:A1 ((d.length:Int)+1)=((d.length+1:Nat):Int):=A7;simp only[j6,q,t,vl,r];rw[E9,decide_eq_true (show d.length<d.length+1 by omega),Af (by omega) (by omega) (by simp),u];simp
theorem ZL(s p:By)(v n:Int)(a:A2 s.length=true)(b:(p.length==1)=true)(c:(v==0)=true)(d:(n==(-1))=true) :
  ∃r H,HY LF s p v n (λ_=>rv (.fl 0) [.arr true 9 1 []]) (λi l=>rv (.vw 0 0 i) [.arr false 9 1 l])=rv r H/\r.stab [1] H = .s (.sl false false 1 (D5 (pcs (p.getD 0 0) s))):=by
 refine⟨_,_,HZ s p v n a b c d,?_⟩;simp[PV.stab,Qt,PV.snap,aa3]
theorem WI{R:Type}{a:Nat->LL->Option R}(s p:By)(b:A2 s.length=true)(c:(p.length==1)=true):EJ LF s p a=a (pcs (p.getD 0 0) s).length (D5 (pcs (p.getD 0 0) s)):=by unfold EJ;rw[b,c];rfl
theorem NX{l:List By}{i:Nat}(h:i<l.length):l.getD i []∈l:=by grind
theorem Ay4{R:Type}{d:LL->Option R}(s:By)(b:A2 s.length=true):parts LF s d=d (D5 (C3 s)):=by
 have j:=M3 b;have g:=Ih 46 s;have i:=Gn 46 s;unfold parts;rw[b];have e:A1 (((pcs 46 s).length:Int)-1)=(((pcs 46 s).length-1:Nat):Int):=by rw[A7];omega
 simp only[cond_true,vl,w9,show((1:Nat)==1)=true from rfl,G6,e,j6];by_cases c:1<(pcs 46 s).length
 ·rw[A8,E9,T7 (by omega),Y5];have f:(pcs 46 s).getD ((pcs 46 s).length-1) []=(pcs 46 s).getLastD []:=by grind
  rw[f];by_cases a:(pcs 46 s).getLastD []=[]
  ·rw[a,show(([]:By)==[])=true from rfl,I2];have:C3 s=(pcs 46 s).dropLast:=by unfold C3;rw[if_pos ⟨c,a⟩]
   rw[this,ac6,K2,j6];simp[D5]
  ·rw[show((pcs 46 s).getLastD []==[])=false from beq_eq_false_iff_ne.2 a];have:C3 s=pcs 46 s:=by unfold C3;rw[if_neg (λh=>a h.2)]
   grind
 ·rw[A6];have:C3 s=pcs 46 s:=by unfold C3;rw[if_neg (λh=>c h.1)]
  grind
theorem Ad6{R:Type}{d:LL->Option R}(s:By)(b:A2 s.length=true):VO LF s d=d (D5 (C3 s)):=by
 have j:=M3 b;have g:=Ih 46 s;have i:=Gn 46 s;unfold VO;rw[b];have e:A1 (((pcs 46 s).length:Int)-1)=(((pcs 46 s).length-1:Nat):Int):=by rw[A7];omega
 simp only[cond_true,vl,show u8n 46=46 from rfl,G6,e,j6];by_cases c:1<(pcs 46 s).length
 ·rw[A8,E9,T7 (by omega),Y5];have f:(pcs 46 s).getD ((pcs 46 s).length-1) []=(pcs 46 s).getLastD []:=by grind
  rw[f];by_cases a:(pcs 46 s).getLastD []=[]
  ·rw[a,show(([]:By)==[])=true from rfl,I2];have:C3 s=(pcs 46 s).dropLast:=by unfold C3;rw[if_pos ⟨c,a⟩]
   rw[this,ac6,K2,j6];simp[D5]
  ·rw[show((pcs 46 s).getLastD []==[])=false from beq_eq_false_iff_ne.2 a];have:C3 s=pcs 46 s:=by unfold C3;rw[if_neg (λh=>a h.2)]
   grind
 ·rw[A6];have:C3 s=pcs 46 s:=by unfold C3;rw[if_neg (λh=>c h.1)]
  grind
theorem Je(l:List By)(i:Nat)(h:i<l.length):l.drop i=l.getD i []::l.drop (i+1):=by simp_all
theorem Bt0{R:Type}{g:Unit->Option R}{j:Int->Option R}(l:List By)(B:1<=l.length)(L:l.length<=4)(A:∀x∈l,x.length<=1000000000):∀(r i v n:Nat),i+r=l.length->0<r->r<n->v<256 ^ i->
  Ik LF n (D5 l) (v:Int) (l.length:Int) (i:Int) g j=match Sx (8*(5-l.length)) v (l.drop i) with|some w=>j (w:Int)|none=>g ():=by
 intro r
 induction r with
 | zero=>intro i v n _ h;omega
 | succ r J=>
  intro i v n K _ M H;obtain⟨n,rfl⟩:∃m,n=m+1:=⟨n-1,by omega⟩
  rw[Ik,Je l i (by omega)];have N:=A _ (NX (show i<l.length by omega));have f:V5=1099511627776:=rfl;have C:256 ^ i<=16777216:=by
   have:i=0\/i=1\/i=2\/i=3:=by omega
   rcases this with rfl|rfl|rfl|rfl<;>decide
  simp (disch:=omega) only[B7,G6,M8,cond_true,j6,T7,Y5,E0,vl];simp only[Sx];have c:((i:Int)+1)=((i+1:Nat):Int):=by omega
  cases D:Y8 (l.getD i []) with
  | none=>rfl
  | some q=>
   have F:=Bi7 D;have p:A1 ((l.length:Int)-1)=((l.length-1:Nat):Int):=by rw[A7];omega
   simp only[p6,j4,cond_false,N1,s9,p];by_cases G:r=0
   ·subst G;have t:l.drop (i+1)=[]:=j9 (by omega);have o:A1 (8*A1 (5-(l.length:Int)))=((8*(5-l.length):Nat):Int):=by
     rw[C7 (n:=5-(l.length:Int)) (by omega) (by omega),A7];omega
    have b:2 ^ (8*(5-l.length))*256 ^ i=4294967296:=by
     have:l.length=1\/l.length=2\/l.length=3\/l.length=4:=by omega
     grind
    have u:1*2 ^ (8*(5-l.length))<=4294967296:=by
     rw[<-b,ad2];exact ac3 _ (af0 (by omega))
    rw[t,A6,o,decide_eq_true (show(0:Int)<=((8*(5-l.length):Nat):Int) by omega)];simp only[cond_false,cond_true];have k:=Ah9 1 (8*(5-l.length)) (by omega) (by omega);have I:v*2 ^ (8*(5-l.length))<4294967296:=by
     rw[<-b,ah1];exact Nat.mul_lt_mul_of_pos_left H (af0 (by omega))
    have e:=Ah9 v (8*(5-l.length)) (by omega) (by omega);rw[show((1:Nat):Int)=1 from rfl] at k;rw[k,e,ad2];by_cases a:q<2 ^ (8*(5-l.length))
    ·rw[A8,if_pos a,C68 _ _ (by omega) (by omega),DY v q _ a];simp only[j4,cond_false];obtain⟨n,rfl⟩:∃m,n=m+1:=⟨n-1,by omega⟩
     rw[Ik];rw[c,A7,A6];rfl
    ·rw[A6,if_neg a];rfl
   ·obtain⟨y,z,d⟩:∃y z,l.drop (i+1)=y::z:=⟨_,_,Je l (i+1) (by omega)⟩
    rw[d,A8];simp only[cond_true];by_cases a:q<=255
    ·have e:=Ah9 v 8 (by omega) (by omega);rw[show((8:Nat):Int)=8 from rfl] at e;rw[A6,if_pos a,e,C68 _ _ (by omega) (by omega),DY v q 8 (by omega),c,A7];rw[<-d];exact J (i+1) _ n (by omega) (by omega) (by omega) (by rw[x4];omega)
    ·rw[A8,if_neg a];rfl
theorem Bj2(free m:Nat):∀(l:List By) (v w:Nat),v<256 ^ m->Sx free v l=some w->w<256 ^ (m+(l.length-1))*2 ^ free
 | [],v,w,b,h=>by cases h
 | p::r,v,w,b,h=>by
  simp only[Sx] at h;cases a:Y8 p with
  | none=>simp[a] at h
  | some q=>
   simp only[a] at h;cases r with
   | nil=>
    simp only at h;split at h
    ·rename_i c;cases h;simp only[ac0,af3,Nat.add_sub_cancel,Nat.add_zero];have:(v+1)*2 ^ free<=256 ^ m*2 ^ free:=Nat.mul_le_mul_right _ b;grind
    grind
   | cons y z=>
    simp only at h;split at h
    ·rename_i c;have:=Bj2 free (m+1) (y::z) (v*256+q) w (by rw[x4];omega) h;grind
    grind
theorem Cd0{s:By}{w:Nat}(h:pnB s=some w):w<4294967296:=by
 unfold pnB at h;split at h
 ·cases h
 ·rename_i a;have b:=Av s;have:=Bj2 _ 0 (C3 s) 0 w (by decide) h;have e:(C3 s).length=1\/(C3 s).length=2\/(C3 s).length=3\/(C3 s).length=4:=by omega
  grind
theorem Bt1{R:Type}{b:Int->Bool->Option R}(s:By)(a:A2 s.length=true):Cx0 LF s b=b (N1 (pnB s):Int) (pnB s).isSome:=by
 have f:=M3 a;have:=C6;have c:=Av s;unfold Cx0;rw[a,G6];by_cases h:4<(C3 s).length
 ·rw[A8];unfold pnB;rw[if_pos h];rfl
 ·rw[A6];simp only[cond_true,cond_false];refine j1 (Bt0 (C3 s) c.1 (by omega) (λx g=>ab1 (Lu g) f) (C3 s).length 0 0 LF (by omega) (by omega) (by omega) (by decide)) ?_;have e:pnB s=Sx (8*(5-(C3 s).length)) 0 (C3 s):=by unfold pnB;rw[if_neg h]
  rw[v7,<-e];cases d:pnB s with
  | none=>rfl
  | some w=>
   have:=Cd0 d;simp only[N1,s9,p6];rw[Mu]
theorem A54{R:Type}{k0:Unit->Option R}{k1:Int->Option R}(l:List By)(F:1<=l.length)(L:l.length<=4)(D:∀x∈l,x.length<=1000000000):∀(r i v n:Nat),i+r=l.length->0<r->r<n->v<256 ^ i->
  Eg LF n (D5 l) ((v*2 ^ (32-8*i):Nat):Int) (i:Int) k0 k1=match Sx (8*(5-l.length)) v (l.drop i) with|some w=>k1 (w:Int)|none=>k0 ():=by
 intro r
 induction r with
 | zero=>intro i v n _ h;omega
 | succ r J=>
  intro i v n K _ M N;obtain⟨n,rfl⟩:∃m,n=m+1:=⟨n-1,by omega⟩
  rw[Eg,Je l i (by omega)];have O:=D _ (NX (show i<l.length by omega));have k:V5=1099511627776:=rfl;have a:v*2 ^ (32-8*i)<4294967296:=by
   have:i=0\/i=1\/i=2\/i=3:=by omega
   rcases this with rfl|rfl|rfl|rfl
   all_goals omega
  simp (disch:=omega) only[B7,G6,M8,cond_true,j6,T7,Y5,E0,vl];simp only[Sx];have c:((i:Int)+1)=((i+1:Nat):Int):=by omega
  cases G:Y8 (l.getD i []) with
  | none=>rfl
  | some q=>
   have H:=Bi7 G;have A:A1 ((l.length:Int)-1)=((l.length-1:Nat):Int):=by rw[A7];omega
   simp only[p6,j4,cond_false,N1,s9,A];by_cases I:r=0
   ·subst I;have B:l.drop (i+1)=[]:=j9 (by omega);have u:A1 (8*A1 (5-(l.length:Int)))=((8*(5-l.length):Nat):Int):=by
     rw[C7 (n:=5-(l.length:Int)) (by omega) (by omega),A7];omega
    have f:2 ^ (8*(5-l.length))*256 ^ i=4294967296:=by
     have:l.length=1\/l.length=2\/l.length=3\/l.length=4:=by omega
     grind
    have C:1*2 ^ (8*(5-l.length))<=4294967296:=by
     rw[<-f,ad2];exact ac3 _ (af0 (by omega))
    have e:((i:Int)==((l.length-1:Nat):Int))=true:=by rw[beq_iff_eq];omega
    rw[B,e,u,decide_eq_true (show(0:Int)<=((8*(5-l.length):Nat):Int) by omega)];simp only[cond_true];have o:=Ah9 1 (8*(5-l.length)) (by omega) (by omega);rw[show((1:Nat):Int)=1 from rfl] at o;rw[o,ad2];by_cases b:q<2 ^ (8*(5-l.length))
    ·rw[A8,if_pos b];simp only[j4,cond_false];obtain⟨n,rfl⟩:∃m,n=m+1:=⟨n-1,by omega⟩
     rw[Eg];rw[c,C7 (n:=((i+1:Nat):Int)) (by omega) (by omega),G6,A6];have:32-8*i=8*(5-l.length):=by omega
     rw[this] at a ⊢;rw[cond_false,A7];rfl
    ·rw[A6,if_neg b];rfl
   ·obtain⟨y,z,d⟩:∃y z,l.drop (i+1)=y::z:=⟨_,_,Je l (i+1) (by omega)⟩
    have e:((i:Int)==((l.length-1:Nat):Int))=false:=by rw[beq_eq_false_iff_ne];omega
    rw[d,e];simp only[cond_false];by_cases b:q<=255
    ·have j:A1 (24-A1 (8*(i:Int)))=((24-8*i:Nat):Int):=by
      rw[C7 (n:=8*(i:Int)) (by omega) (by omega),A7];omega
     have g:q*2 ^ (24-8*i)<4294967296:=by
      have:i=0\/i=1\/i=2:=by omega
      clear a;rcases this with rfl|rfl|rfl
      ·show q*16777216<_;omega
      ·show q*65536<_;omega
      ·show q*256<_;omega
     have p:=Ah9 q (24-8*i) (by omega) (by omega);rw[A6,if_pos b,j,decide_eq_true (show(0:Int)<=((24-8*i:Nat):Int) by omega),p,c,C7 (n:=((i+1:Nat):Int)) (by omega) (by omega)];have t:A1 (((v*2 ^ (32-8*i):Nat):Int)+((q*2 ^ (24-8*i):Nat):Int))=(((v*256+q)*2 ^ (32-8*(i+1)):Nat):Int):=by
      rw[A7];have:i=0\/i=1\/i=2:=by omega
      clear a g p j;rcases this with rfl|rfl|rfl
      ·show((v*4294967296:Nat):Int)+((q*16777216:Nat):Int)=(((v*256+q)*16777216:Nat):Int);omega
      ·show((v*16777216:Nat):Int)+((q*65536:Nat):Int)=(((v*256+q)*65536:Nat):Int);omega
      ·show((v*65536:Nat):Int)+((q*256:Nat):Int)=(((v*256+q)*256:Nat):Int);omega
     rw[t,<-d];exact J (i+1) _ n (by omega) (by omega) (by omega) (by rw[x4];omega)
    ·rw[A8,if_neg b];rfl
theorem A55{R:Type}{k0:Int->Bool->Option R}(s:By)(a:A2 s.length=true):Bk1 LF s k0=k0 (N1 (pnB s):Int) (pnB s).isSome:=by
 have f:=M3 a;have:=C6;have c:=Av s;unfold Bk1;rw[a,G6];by_cases h:4<(C3 s).length
 ·rw[A8];unfold pnB;rw[if_pos h];rfl
 ·rw[A6];simp only[cond_true,cond_false];have b:=A54 (k0:=λ_=>k0 0 false) (k1:=λv=>k0 (BD v) true) (C3 s) c.1 (by omega) (λx g=>ab1 (Lu g) f) (C3 s).length 0 0 LF (by omega) (by omega) (by omega) (by decide);rw[Nat.zero_mul] at b;refine j1 b ?_;have e:pnB s=Sx (8*(5-(C3 s).length)) 0 (C3 s):=by unfold pnB;rw[if_neg h]
  rw[v7,<-e];cases d:pnB s with
  | none=>rfl
  | some w=>
   have:=Cd0 d;simp only[N1,s9,p6];rw[Mu]
theorem Bi8:∀(l:List By) (v w m:Nat),v<256 ^ m->IY v l=some w->w<256 ^ (m+l.length)
 | [],v,w,m,b,h=>by simp only[IY,p4] at h;subst h;simpa using b
 | p::r,v,w,m,b,h=>by
  simp only[IY] at h;cases a:oct p with
  | none=>simp[a] at h
  | some q=>
   simp only[a] at h;have c:=(Wa.1 a).1;have:=Bi8 r (v*256+q) w (m+1) (by rw[x4];omega) h;grind
theorem Cv6(s:By):oct s=match E8 10 0 s with|some n=>(if n<=255 then (if j7 n=s then some n else none) else none)|none=>none:=by unfold oct;grind
theorem Ck3{R:Type}{e:Unit->Option R}{f:Int->Option R}(l:List By)(z:l.length=4)(j:∀x∈l,x.length<=1000000000):∀(r i v n:Nat),i+r=4->r<n->v<256 ^ i->
  Tu LF n (v:Int) (D5 l) 4 (i:Int) e f=match IY v (l.drop i) with|some w=>f (w:Int)|none=>e ():=by
 intro r
 induction r with
 | zero=>
  intro i v n h k u;obtain⟨n,rfl⟩:∃m,n=m+1:=⟨n-1,by omega⟩
  rw[Tu];rw[A6,j9 (by omega)];rfl
 | succ r y=>
  intro i v n h k u;obtain⟨n,rfl⟩:∃m,n=m+1:=⟨n-1,by omega⟩
  rw[Tu,Je l i (by omega)];have A:=j _ (NX (show i<l.length by omega));have o:256 ^ i<=16777216:=by
   have:i=0\/i=1\/i=2\/i=3:=by omega
   grind
  simp (disch:=omega) only[B7,G6,M8,cond_true,j6,T7,Y5,E0,Vt,vl];simp only[IY];have b:((i:Int)+1)=((i+1:Nat):Int):=by omega
  rw[Cv6];cases p:E8 10 0 (l.getD i []) with
  | none=>rfl
  | some q=>
   have t:=HK (by unfold V5;omega) p;have d:V5=1099511627776:=rfl;simp only[p6,j4,cond_false,N1,s9,j6];by_cases c:q<=255
   ·rw[A6,if_pos c,N9];simp only[cond_false,cond_true];by_cases a:j7 q=l.getD i []
    ·have g:=Dk4 v 8 (by omega) (by omega);rw[show((8:Nat):Int)=8 from rfl] at g;rw[show(j7 q==l.getD i [])=true by simpa using a,if_pos a,g,Mu,Di4 _ _ (by omega) (by omega),DY v q 8 (by omega),b,A7];exact y (i+1) _ n (by omega) (by omega) (by rw[x4];omega)
    ·rw[show(j7 q==l.getD i [])=false from beq_eq_false_iff_ne.2 a,if_neg a];rfl
   ·rw[A8,if_neg c];rfl
theorem Ck4{R:Type}{b:Int->Bool->Option R}(s:By)(a:A2 s.length=true):v4p LF s b=b (N1 (v4B s):Int) (v4B s).isSome:=by
 have c:=M3 a;have:=C6;unfold v4p v4B;rw[a];simp only[cond_true,vl,w9,G6,show((1:Nat)==1)=true from rfl];by_cases h:(pcs 46 s).length=4
 ·rw[if_pos h,h,show(((4:Nat):Int)!=4)=false from rfl,cond_false];refine j1 (Ck3 (pcs 46 s) h (λx d=>ab1 (Ca d).2 c) 4 0 0 LF (by omega) (by omega) (by decide)) ?_;rw[v7];cases IY 0 (pcs 46 s)<;>rfl
 ·rw[if_neg h,show(((pcs 46 s).length:Int)!=4)=true by simp<;>omega];rfl
theorem Bw7{R:Type}{b:Unit->Option R}{c:Int->Option R}(l:List By)(y:l.length=4)(h:∀x∈l,x.length<=1000000000):∀(r i v n:Nat),i+r=4->r<n->v<256 ^ i->
  Mg LF n (D5 l) (v:Int) (i:Int) b c=match IY v (l.drop i) with|some w=>c (w:Int)|none=>b ():=by
 intro r
 induction r with
 | zero=>
  intro i v n g j t;obtain⟨n,rfl⟩:∃m,n=m+1:=⟨n-1,by omega⟩
  rw[Mg];rw[A6,j9 (by omega)];rfl
 | succ r u=>
  intro i v n g j t;obtain⟨n,rfl⟩:∃m,n=m+1:=⟨n-1,by omega⟩
  rw[Mg,Je l i (by omega)];have z:=h _ (NX (show i<l.length by omega));have k:256 ^ i<=16777216:=by
   have:i=0\/i=1\/i=2\/i=3:=by omega
   grind
  simp (disch:=omega) only[B7,G6,M8,cond_true,j6,T7,Y5,E0,Vt,vl];simp only[IY];have a:((i:Int)+1)=((i+1:Nat):Int):=by omega
  cases o:oct (l.getD i []) with
  | none=>rfl
  | some q=>
   have p:=(Wa.1 o).1;simp only[p6,j4,cond_false,N1,s9];have d:BD ((v:Int)*256)=((v*256:Nat):Int):=by rw[Mu];simp
   have e:BD (q:Int)=(q:Int):=Mu;have f:BD (((v*256:Nat):Int)+(q:Int))=((v*256+q:Nat):Int):=by rw[Mu];simp
   rw[d,e,f,a,A7];exact u (i+1) _ n (by omega) (by omega) (by rw[x4];omega)
theorem Bw8{R:Type}{b:Int->Bool->Option R}(s:By)(a:A2 s.length=true):Cz9 LF s b=b (N1 (v4B s):Int) (v4B s).isSome:=by
 have c:=M3 a;have:=C6;unfold Cz9 v4B;rw[a];simp only[cond_true,vl,show u8n 46=46 from rfl,G6];by_cases h:(pcs 46 s).length=4
 ·rw[if_pos h,h,show(((4:Nat):Int)!=4)=false from rfl,cond_false];refine j1 (Bw7 (pcs 46 s) h (λx d=>ab1 (Ca d).2 c) 4 0 0 LF (by omega) (by omega) (by decide)) ?_;rw[v7];cases IY 0 (pcs 46 s)<;>rfl
 ·rw[if_neg h,show(((pcs 46 s).length:Int)!=4)=true by simp<;>omega];rfl
theorem Ck2{R:Type}{j:By->Option R}(v:Int)(o:ltN v 4294967296=true):v4f LF v j=j (Z6 v.toNat):=by
 obtain⟨c,p⟩:=E3.1 o;obtain⟨m,rfl⟩:=p9 c;have:=C6;obtain⟨f,q⟩:∃f,LF=f+1+1+1+1+1:=⟨LF-5,by omega⟩
 have step:∀(n:Nat) (i:Nat) (out:By) (K:By->Option R),i<=24->out.length<=1000->Hs LF (n+1) (m:Int) out (i:Int) K=Hs LF n (m:Int) (out++(j7 (m / 2 ^ i % 256)++[46])) ((i:Int)-8) K:=by
  intro n i out K y A;rw[Hs];have g:m / 2 ^ i<4294967296:=ad5 (af5 _ _) (by omega);have k:Ap0 .u32 (KB .u32 (m:Int) (i:Int)) 255=((m / 2 ^ i % 256:Nat):Int):=by
   rw[VY .u32 m i (by show i<=32;omega),show(255:Int)=((255:Nat):Int) from rfl,C88 _ _ g (by omega),C87]
  have z:=I4 (m / 2 ^ i % 256) (by omega);have l:A1 ((m / 2 ^ i % 256:Nat):Int)=((m / 2 ^ i % 256:Nat):Int):=A7;rw[A6,decide_eq_true (show(0:Int)<=(i:Int) by omega),k];simp only[vl,l,j6,j2,cond_true];rw[N9,J7 (by omega),J7 (by simp<;>omega),A7];rfl
 have b:∀(n:Nat) (out:By) (K:By->Option R),Hs LF (n+1) (m:Int) out (-8) K=K out:=by
  intro n out K;rw[Hs];simp_all
 have x:=I4 (m / 2 ^ 24 % 256) (by omega);have w:=I4 (m / 2 ^ 16 % 256) (by omega);have D:=I4 (m / 2 ^ 8 % 256) (by omega);have C:=I4 (m / 2 ^ 0 % 256) (by omega);have u:=I4 (m / 16777216 % 256) (by omega);have t:=I4 (m / 65536 % 256) (by omega);have B:=I4 (m / 256 % 256) (by omega);have r:=I4 (m % 256) (by omega);unfold v4f;rw[show Hs LF LF=Hs LF (f+1+1+1+1+1) by rw[<-q]];rw[show(24:Int)=((24:Nat):Int) from rfl,step _ 24 _ _ (by omega) (by simp)];rw[show((24:Nat):Int)-8=((16:Nat):Int) from rfl,step _ 16 _ _ (by omega) (by simp<;>omega)];rw[show((16:Nat):Int)-8=((8:Nat):Int) from rfl,step _ 8 _ _ (by omega) (by simp<;>omega)];rw[show((8:Nat):Int)-8=((0:Nat):Int) from rfl,step _ 0 _ _ (by omega) (by simp<;>omega)];rw[show((0:Nat):Int)-8=-8 from rfl,b];have h:m / 2 ^ 24 % 256=m / 16777216:=by omega
 have e:(([]:By)++(j7 (m / 2 ^ 24 % 256)++[46])++(j7 (m / 2 ^ 16 % 256)++[46])++(j7 (m / 2 ^ 8 % 256)++[46])++(j7 (m / 2 ^ 0 % 256)++[46]))=Z6 m++[46]:=by
  unfold Z6;grind
 have a:(Z6 m++[46]).length<=1000:=by rw[<-e];simp;omega
 rw[e];have d:((Z6 m++[46]).length:Int)-1=((Z6 m).length:Int):=by simp<;>omega
 simp only[vl,d];simp only[aa0,x9] at a;rw[A7,Af (by omega) (by omega) (by simp<;>omega),K2,j6,j6];grind
theorem VD{R:Type}{g:Unit->Option R}{h:By->Option R}(s:By)(q:s.length<=1000000000):∀(r i n v:Nat),i+r=s.length->r<n->Aw LF n s (i:Int) g h=if (E8 10 v (s.drop i)).isSome then h s else g ():=by
 intro r
 induction r with
 | zero=>
  intro i n v k l;obtain⟨n,rfl⟩:∃m,n=m+1:=⟨n-1,by omega⟩
  rw[Aw];rw[A6,j9 (by omega)];rfl
 | succ r o=>
  intro i n v k l;obtain⟨n,rfl⟩:∃m,n=m+1:=⟨n-1,by omega⟩
  rw[Aw,D2 s i (by omega)];rw[D1];have j:=(s.getD i 0).toNat_lt;generalize s.getD i 0=b at *;have f:((i:Int)+1)=((i+1:Nat):Int):=by omega
  simp (disch:=omega) only[B7,M8,cond_true,C7];simp only[E8];rw[f,o (i+1) n (min (v*10+dig b) V5) (by omega) (by omega)];rcases Cw b with⟨a,d,e⟩|⟨a,d,e⟩|⟨a,d,e⟩|⟨a,d,p,e⟩
  ·simp only[if_pos (show dig b<10 by omega)];rw[A6,A6];rfl
  ·simp only[if_neg (show ¬dig b<10 by omega)];rw[A6,A8];rfl
  ·simp only[if_neg (show ¬dig b<10 by omega)];rw[A6,A8];rfl
  ·simp only[if_neg (show ¬dig b<10 by omega)];by_cases c:b.toNat<48
   ·rw[A8];rfl
   ·rw[A6,A8];rfl
theorem VE{R:Type}{a:Bool->Option R}(s:By)(b:A2 s.length=true):EB LF s a=a (!s.isEmpty&&(E8 10 0 s).isSome):=by
 have c:=M3 b;have:=C6;unfold EB;refine j1 (VD s c s.length 0 LF 0 (by omega) (by omega)) ?_;rw[v7];cases d:E8 10 0 s with
 | none=>simp
 | some v=>cases s<;>rfl
theorem Bu1{R:Type}{g:Int->Option R}(b:Int)(h:inR b 256=true):Cd5 LF b g=g (dig (u8n b):Int):=by
 simp only[inR,x6,decide_eq_true_eq] at h;have j:b=((u8n b).toNat:Int):=by
  unfold u8n;simp;omega
 generalize u8n b=c at *;subst j;have i:=c.toNat_lt;unfold Cd5;simp only[Wi,Wh,vl];rcases Cw c with⟨d,f,e⟩|⟨d,f,e⟩|⟨d,f,e⟩|⟨d,f,o,e⟩
 ·have a:A1 (wu8 ((c.toNat:Int)-48))=((dig c:Nat):Int):=by
   rw[L9,A7];omega
  simp (disch:=omega) only[B7,E2,j4,j2,cond_false,cond_true,a]
 ·have a:A1 (A1 (wu8 ((c.toNat:Int)-97))+10)=((dig c:Nat):Int):=by
   rw[L9,C7 (n:=(c.toNat:Int)-97) (by omega) (by omega),A7];omega
  simp (disch:=omega) only[B7,E2,j4,j2,cond_false,cond_true,a]
 ·have a:A1 (A1 (wu8 ((c.toNat:Int)-65))+10)=((dig c:Nat):Int):=by
   rw[L9,C7 (n:=(c.toNat:Int)-65) (by omega) (by omega),A7];omega
  simp (disch:=omega) only[B7,E2,j4,j2,cond_false,cond_true,a]
 ·rw[e];by_cases k:c.toNat<48
  ·simp (disch:=omega) only[B7,E2,j4,j2,cond_false,cond_true];rfl
  ·by_cases l:c.toNat<65
   ·simp (disch:=omega) only[B7,E2,j4,j2,cond_false,cond_true];rfl
   ·by_cases m:c.toNat<97
    ·simp (disch:=omega) only[B7,E2,j4,j2,cond_false,cond_true];rfl
    ·simp (disch:=omega) only[B7,E2,j4,j2,cond_false,cond_true];rfl
theorem Ad4{R:Type}{g:Unit->Option R}{h:Int->Option R}(s:By)(p:s.length<=1000000000):∀(r i a n:Nat),i+r=s.length->r<n->a<=V5->
  Im LF n s (a:Int) (i:Int) g h=match E8 16 a (s.drop i) with|some v=>h (v:Int)|none=>g ():=by
 intro r
 induction r with
 | zero=>
  intro i a n k l j;obtain⟨n,rfl⟩:∃m,n=m+1:=⟨n-1,by omega⟩
  rw[Im];rw[A6,j9 (by omega)];rfl
 | succ r o=>
  intro i a n k l j;obtain⟨n,rfl⟩:∃m,n=m+1:=⟨n-1,by omega⟩
  rw[Im,D2 s i (by omega)];rw[D1,It,WQ];generalize s.getD i 0=b at *;have c:((i:Int)+1)=((i+1:Nat):Int):=by omega
  have f:V5=1099511627776:=rfl;simp (disch:=omega) only[B7,M8,cond_true,vl,C7];simp only[E8];rw[c];by_cases e:dig b<16
  ·have d:A1 (A1 ((a:Int)*16)+(dig b:Int))=((a*16+dig b:Nat):Int):=by
    rw[C7 (n:=(a:Int)*16) (by omega) (by omega),A7];simp
   rw[if_pos e,A8];simp (disch:=omega) only[C7,j4,cond_false] at d ⊢;rw[d,Ch0];exact o (i+1) _ n (by omega) (by omega) (by omega)
  ·rw[if_neg e,A6];rfl
theorem A45{R:Type}{f:Unit->Option R}{g:Int->Option R}(s:By)(t:s.length<=1000000000)(base:Nat)(q:base<=16):∀(r i a n:Nat),i+r=s.length->r<n->a<=V5->
  Fk LF n s (base:Int) (a:Int) (i:Int) f g=match E8 base a (s.drop i) with|some v=>g (v:Int)|none=>f ():=by
 intro r
 induction r with
 | zero=>
  intro i a n k l j;obtain⟨n,rfl⟩:∃m,n=m+1:=⟨n-1,by omega⟩
  rw[Fk];rw[A6,j9 (by omega)];rfl
 | succ r o=>
  intro i a n k l j;obtain⟨n,rfl⟩:∃m,n=m+1:=⟨n-1,by omega⟩
  rw[Fk,D2 s i (by omega)];rw[D1,It,WQ];generalize s.getD i 0=b at *;have c:((i:Int)+1)=((i+1:Nat):Int):=by omega
  have e:V5=1099511627776:=rfl;simp only[E8,vl];rw[A8,E9,c,C7 (n:=((i+1:Nat):Int)) (by omega) (by omega)];simp only[cond_true];by_cases d:dig b<base
  ·have p:a*base<=1099511627776*16:=af7 (by omega) (by omega);have e0:A1 ((a:Int)*(base:Int))=((a*base:Nat):Int):=by
    rw[<-af1];exact A7
   have h:A1 (((a*base:Nat):Int)+(dig b:Int))=((a*base+dig b:Nat):Int):=by
    rw[A7];rfl
   rw[if_pos d,A8,e0,h,Ch0];exact o (i+1) _ n (by omega) (by omega) (by omega)
  ·rw[if_neg d,A6];rfl
theorem Bv3{R:Type}{a:Int->Bool->Option R}(s:By)(p:A2 s.length=true):Ce9 LF s a=a (N1 (Y8 s):Int) (Y8 s).isSome:=by
 have u:=M3 p;have:=C6;have o:∀x:By,x.length<=1000000000->Im LF LF x 0 0 (λ_=>a 0 false) (λn=>a n true)=a (N1 (E8 16 0 x):Int) (E8 16 0 x).isSome:=by
  intro x f;refine j1 (Ad4 x f x.length 0 0 LF (by omega) (by omega) (by unfold V5;omega)) ?_;rw[v7];cases E8 16 0 x<;>rfl
 have c:∀(x:By) (b:Nat),b<=16->x.length<=1000000000->Fk LF LF x (b:Int) 0 0 (λ_=>a 0 false) (λn=>a n true)=a (N1 (E8 b 0 x):Int) (E8 b 0 x).isSome:=by
  intro x b q f;refine j1 (A45 x f b q x.length 0 0 LF (by omega) (by omega) (by unfold V5;omega)) ?_;rw[v7];cases E8 b 0 x<;>rfl
 have d:=λx=>c x 10 (by omega)
 have g:=λx=>c x 8 (by omega)
 have i:=λx=>c x 16 (by omega)
 rw[show((10:Nat):Int)=10 from rfl] at d;rw[show((8:Nat):Int)=8 from rfl] at g;rw[show((16:Nat):Int)=16 from rfl] at i;unfold Ce9 Y8;by_cases e:s=[]
 ·subst e;rfl
 have j:(s==([]:By))=false:=by simpa using e
 have t:0<s.length:=y9.2 e;rw[if_neg e,j];simp only[cond_false,EF,EG,Qj,Qk,Ql,vl];have k:=Q7 (s.getD 0 0) 48 (by omega);have l:=Q7 (s.getD 1 0) 120 (by omega);have m:=Q7 (s.getD 1 0) 88 (by omega);rw[show((48:Nat):Int)=48 from rfl] at k;rw[show((120:Nat):Int)=120 from rfl] at l;rw[show((88:Nat):Int)=88 from rfl] at m;simp only[Ah,Bf2,k,l,m,show p5 48=(48:UInt8) from rfl,show p5 120=(120:UInt8) from rfl,show p5 88=(88:UInt8) from rfl];by_cases r:2<=s.length
 ·simp (disch:=omega) only[E2,M8,Af,j2,cond_true,Q8,show 1<s.length by omega,true_and];unfold X4;grind
 ·rw[A8];have f:X4 s=false:=by
   cases h:X4 s with
   | false=>rfl
   | true=>have:=Jz h;omega
  grind
theorem Di3(a b:Nat)(c:a<65536)(d:b<65536):bOr .u16 (a:Int) (b:Int)=((a ||| b:Nat):Int):=by
 unfold bOr;rw[show w8 .u16=16 from rfl,C92 16 a b (by omega) (by omega)];have:a ||| b<2 ^ 16:=ab6 (by omega) (by omega)
 exact Pk
theorem Dk3(a m:Nat)(h:a*2 ^ m<65536)(b:m<=16):Qv .u16 (a:Int) (m:Int)=((a*2 ^ m:Nat):Int):=by
 unfold Qv;rw[j6,show w8 .u16=16 from rfl,ab0 b];have:(a:Int)*2 ^ m=((a*2 ^ m:Nat):Int):=by simp
 rw[this];exact Pk
theorem A93(v d:Nat)(b:v<4096)(a:d<16):bOr .u16 (Qv .u16 (v:Int) 4) (d:Int)=((v*16+d:Nat):Int):=by have:=Dk3 v 4 (by omega) (by omega);rw[show((4:Nat):Int)=4 from rfl] at this;rw[this,Di3 _ _ (by omega) (by omega),DY v d 4 (by omega)]
theorem B80{R:Type}{c:Unit->Option R}{f:Int->Option R}(s:By)(B:s.length<=4):∀(r i v n:Nat),i+r=s.length->r<n->v<16 ^ i->
  Ez LF n s (v:Int) (s.length:Int) (i:Int) c f=match Z4 v (s.drop i) with|some w=>f (w:Int)|none=>c ():=by
 intro r
 induction r with
 | zero=>
  intro i v n l o p;obtain⟨n,rfl⟩:∃m,n=m+1:=⟨n-1,by omega⟩
  rw[Ez];rw[A6,j9 (by omega)];rfl
 | succ r q=>
  intro i v n l o p;obtain⟨n,rfl⟩:∃m,n=m+1:=⟨n-1,by omega⟩
  rw[Ez,D2 s i (by omega)];rw[D1];have k:=(s.getD i 0).toNat_lt;generalize s.getD i 0=b at *;have j:((i:Int)+1)=((i+1:Nat):Int):=by omega
  have A:16 ^ i<=4096:=by
   have:i=0\/i=1\/i=2\/i=3:=by omega
   rcases this with rfl|rfl|rfl|rfl<;>decide
  simp (disch:=omega) only[B7,M8,cond_true,vl,C7,Vg,Vf,Ve];rw[j];simp only[Z4];have go:∀d:Nat,d<16->Ez LF n s ((v*16+d:Nat):Int) (s.length:Int) ((i+1:Nat):Int) c f=match Z4 (v*16+d) (s.drop (i+1)) with|some w=>f (w:Int)|none=>c ():=
   λd z=>q (i+1) _ n (by omega) (by omega) (by rw[x4];omega)
  rcases Cw b with⟨g,h,e⟩|⟨g,h,e⟩|⟨g,h,e⟩|⟨g,h,y,e⟩
  ·have a:Mt (wu8 ((b.toNat:Int)-48))=((dig b:Nat):Int):=by rw[L9,Pk];omega
   simp (disch:=omega) only[B7,E2,j4,j2,cond_false,cond_true,a,A93,if_pos (show dig b<16 by omega)];exact go _ (by omega)
  ·have a:Mt (wu8 (wu8 ((b.toNat:Int)-97)+10))=((dig b:Nat):Int):=by rw[WZ (n:=(b.toNat:Int)-97) (by omega) (by omega),L9,Pk];omega
   simp (disch:=omega) only[B7,E2,j4,j2,cond_false,cond_true,a,A93,if_pos (show dig b<16 by omega)];exact go _ (by omega)
  ·have a:Mt (wu8 (wu8 ((b.toNat:Int)-65)+10))=((dig b:Nat):Int):=by rw[WZ (n:=(b.toNat:Int)-65) (by omega) (by omega),L9,Pk];omega
   simp (disch:=omega) only[B7,E2,j4,j2,cond_false,cond_true,a,A93,if_pos (show dig b<16 by omega)];exact go _ (by omega)
  ·rw[if_neg (show ¬dig b<16 by omega)];by_cases t:b.toNat<48
   ·simp (disch:=omega) only[B7,E2,j4,j2,cond_false,cond_true]
   ·by_cases u:b.toNat<65
    ·simp (disch:=omega) only[B7,E2,j4,j2,cond_false,cond_true]
    ·by_cases x:b.toNat<97
     ·simp (disch:=omega) only[B7,E2,j4,j2,cond_false,cond_true]
     ·simp (disch:=omega) only[B7,E2,j4,j2,cond_false,cond_true]
theorem Bo3{R:Type}{c:Int->Bool->Option R}(s:By)(d:A2 s.length=true):B82 LF s c=c (N1 (grp s):Int) (grp s).isSome:=by
 have:=C6;unfold B82 grp;by_cases a:s=[]
 ·subst a;rfl
 ·rw[show(s==([]:By))=false from beq_eq_false_iff_ne.2 a];by_cases b:4<s.length
  ·rw[A8,if_pos (.inr b)];rfl
  ·rw[A6,if_neg (by intro h;rcases h with h|h;exact a h;exact b h)];refine j1 (B80 s (by omega) s.length 0 0 LF (by omega) (by omega) (by decide)) ?_;rw[v7];cases Z4 0 s<;>rfl
theorem ZG:∀(s:By) (v w m:Nat),v<16 ^ m->Z4 v s=some w->w<16 ^ (m+s.length)
 | [],v,w,m,a,h=>by simp only[Z4,p4] at h;subst h;simpa using a
 | b::r,v,w,m,a,h=>by
  simp only[Z4] at h;split at h
  ·have:=ZG r (v*16+dig b) w (m+1) (by rw[x4];omega) h;grind
  ·cases h
theorem B81{s:By}{v:Nat}(h:grp s=some v):v<65536:=by
 unfold grp at h;split at h
 ·cases h
 ·rename_i a;have:=ZG s 0 v 0 (by decide) h;have b:s.length<=4:=by omega
  have:16 ^ (0+s.length)<=16 ^ 4:=Nat.pow_le_pow_right (by omega) (by omega);omega
theorem Bu4{R:Type}{c:Unit->Option R}{f:Int->Option R}(s:By)(B:s.length<=4):∀(r i v n:Nat),i+r=s.length->r<n->v<16 ^ i->
  Fi LF n s (v:Int) (i:Int) c f=match Z4 v (s.drop i) with|some w=>f (w:Int)|none=>c ():=by
 intro r
 induction r with
 | zero=>
  intro i v n l o p;obtain⟨n,rfl⟩:∃m,n=m+1:=⟨n-1,by omega⟩
  rw[Fi];rw[A6,j9 (by omega)];rfl
 | succ r q=>
  intro i v n l o p;obtain⟨n,rfl⟩:∃m,n=m+1:=⟨n-1,by omega⟩
  rw[Fi,D2 s i (by omega)];rw[D1];have k:=(s.getD i 0).toNat_lt;generalize s.getD i 0=b at *;have j:((i:Int)+1)=((i+1:Nat):Int):=by omega
  have A:16 ^ i<=4096:=by
   have:i=0\/i=1\/i=2\/i=3:=by omega
   rcases this with rfl|rfl|rfl|rfl<;>decide
  simp (disch:=omega) only[B7,M8,cond_true,vl,C7,Wl,Wk,Wj];rw[j];simp only[Z4];have go:∀d:Nat,d<16->Fi LF n s ((v*16+d:Nat):Int) ((i+1:Nat):Int) c f=match Z4 (v*16+d) (s.drop (i+1)) with|some w=>f (w:Int)|none=>c ():=
   λd z=>q (i+1) _ n (by omega) (by omega) (by rw[x4];omega)
  rcases Cw b with⟨g,h,e⟩|⟨g,h,e⟩|⟨g,h,e⟩|⟨g,h,y,e⟩
  ·have a:wu8 ((b.toNat:Int)-48)=(b.toNat:Int)-48:=L9;simp (disch:=omega) only[B7,E2,j4,j2,cond_false,cond_true,a,C7,if_pos (show dig b<16 by omega)];rw[show(v:Int)*16+((b.toNat:Int)-48)=((v*16+dig b:Nat):Int) by omega];exact go _ (by omega)
  ·have a:wu8 ((b.toNat:Int)-97)=(b.toNat:Int)-97:=L9;simp (disch:=omega) only[B7,E2,j4,j2,cond_false,cond_true,a,C7,if_pos (show dig b<16 by omega)];rw[show(v:Int)*16+((b.toNat:Int)-97)+10=((v*16+dig b:Nat):Int) by omega];exact go _ (by omega)
  ·have a:wu8 ((b.toNat:Int)-65)=(b.toNat:Int)-65:=L9;simp (disch:=omega) only[B7,E2,j4,j2,cond_false,cond_true,a,C7,if_pos (show dig b<16 by omega)];rw[show(v:Int)*16+((b.toNat:Int)-65)+10=((v*16+dig b:Nat):Int) by omega];exact go _ (by omega)
  ·rw[if_neg (show ¬dig b<16 by omega)];by_cases t:b.toNat<48
   ·simp (disch:=omega) only[B7,E2,j4,j2,cond_false,cond_true]
   ·by_cases u:b.toNat<65
    ·simp (disch:=omega) only[B7,E2,j4,j2,cond_false,cond_true]
    ·by_cases x:b.toNat<97
     ·simp (disch:=omega) only[B7,E2,j4,j2,cond_false,cond_true]
     ·simp (disch:=omega) only[B7,E2,j4,j2,cond_false,cond_true]
theorem Bu5{R:Type}{b:Int->Bool->Option R}(s:By)(f:A2 s.length=true):Ce1 LF s b=b (N1 (grp s):Int) (grp s).isSome:=by
 have:=C6;unfold Ce1;by_cases a:s=[]
 ·subst a;rfl
 ·have g:0<s.length:=y9.2 a;rw[A6];by_cases c:4<s.length
  ·rw[A8];unfold grp;rw[if_pos (.inr c)];rfl
  ·rw[A6];refine j1 (Bu4 s (by omega) s.length 0 0 LF (by omega) (by omega) (by decide)) ?_;have e:grp s=Z4 0 s:=by
    unfold grp;grind
   rw[v7,<-e];cases d:grp s with
   | none=>rfl
   | some w=>
    have:=B81 d;simp only[N1,s9,p6];rw[Pk]
theorem H6(l:List Nat):(D7 l).length=l.length:=by simp[D7]
theorem Kr(a b:List Nat):D7 (a++b)=D7 a++D7 b:=by simp[D7]
theorem Xk(l:List Nat):(D7 l).isEmpty=l.isEmpty:=by cases l<;>rfl
theorem Wc{l:List Nat}{i:Nat}(h:i<l.length):okE ⟨true,false,[.int .u16]⟩ (D7 l) i 0=true:=by unfold okE D7;simp[k9,h,okS,SV.has]
theorem HW(l:List Nat)(i:Nat):gE (D7 l) i 0=(l.getD i 0:Int):=by
 unfold gE gC D7;by_cases h:i<l.length
 ·simp[k9,v8 h,SV.gI]
 ·simp[k9,ac7 (show l.length<=i by omega),SV.gI]
theorem Jy:∀(last:Bool) (l:List By) (r:List Nat),Cj last l=some r->r.length<=2*l.length
 | last,[],r,h=>by simp only[Cj,p4] at h;subst h;simp
 | last,x::l,r,h=>by
  simp only[Cj] at h;split at h
  ·cases a:Cj last l with
   | none=>simp[a] at h
   | some q=>
    simp only[a,ac5,p4] at h;subst h;have:=Jy last l q a;grind
  grind
theorem Bb0{s:By}{v:Nat}(h:v4B s=some v):v<4294967296:=by
 unfold v4B at h;split at h
 ·rename_i a;have:=Bi8 (pcs 46 s) 0 v 0 (by decide) h;grind
 ·cases h
theorem Bg6:∀(last:Bool) (l:List By) (r:List Nat),Cj last l=some r->∀x∈r,x<65536
 | last,[],r,h,x,a=>by simp only[Cj,p4] at h;subst h;simp at a
 | last,y::l,r,h,x,a=>by
  simp only[Cj] at h;split at h
  ·rename_i v c;cases b:Cj last l with
   | none=>simp[b] at h
   | some q=>
    simp only[b,ac5,p4] at h;subst h;rcases ab7.1 a with rfl|a
    ·exact B81 c
    ·exact Bg6 last l q b x a
  ·split at h
   ·rename_i v c;split at h
    ·simp only[p4] at h;subst h;have:=Bb0 c;grind
    grind
   ·cases h
theorem Au1{R:Type}{k0:LL->Option R}{k1:LL->Option R}(last:Bool)(l:List By)(C:l.length<=1000000001)(w:∀x∈l,x.length<=1000000000):∀(r i n:Nat) (d:List Nat),i+r=l.length->r<n->d.length<=2*i->
  (∀q,Cj last (l.drop i)=some q->Ec LF n last (D5 l) (l.length:Int) (i:Int) (D7 d) k0 k1=k1 (D7 (d++q)))/\
  (Cj last (l.drop i)=none->∃k,Ec LF n last (D5 l) (l.length:Int) (i:Int) (D7 d) k0 k1=k0 k):=by
 intro r
 induction r with
 | zero=>
  intro i n d u y t;obtain⟨n,rfl⟩:∃m,n=m+1:=⟨n-1,by omega⟩
  rw[Ec,j9 (by omega)];rw[A6];refine⟨λq a=>?_,λh=>(by cases h)⟩;simp only[Cj,p4] at a;subst a;simp
 | succ r B=>
  intro i n d u y t;obtain⟨n,rfl⟩:∃m,n=m+1:=⟨n-1,by omega⟩
  rw[Ec,Je l i (by omega)];have G:=w _ (NX (show i<l.length by omega));have f:((i:Int)+1)=((i+1:Nat):Int):=by omega
  simp (disch:=omega) only[B7,G6,M8,cond_true,j6,T7,Y5,E0,vl,H6,F3,C7];rw[f];simp only[Cj];cases D:grp (l.getD i []) with
  | some v=>
   simp only[p6,cond_true,N1,s9];have c:D7 d++[[SV.int .u16 (v:Int)]]=D7 (d++[v]):=by rw[Kr];rfl
   rw[c];have:=B (i+1) n (d++[v]) (by omega) (by omega) (by simp<;>omega);refine⟨λq a=>?_,λh=>?_⟩
   ·cases b:Cj last (l.drop (i+1)) with
    | none=>simp[b] at a
    | some j=>
     simp only[b,ac5,p4] at a;subst a;rw[this.1 j b];simp
   ·cases b:Cj last (l.drop (i+1)) with
    | none=>exact this.2 b
    | some j=>simp[b] at h
  | none=>
   simp only[ad7,cond_false];cases z:v4B (l.getD i []) with
   | none=>
    simp only[ad7,j2,cond_true];exact⟨λq a=>(by cases a),λ_=>⟨_,rfl⟩⟩
   | some v=>
    have A:=Bb0 z;simp only[p6,j4,cond_false,N1,s9];cases last with
    | false=>
     simp only[j2,cond_true,z7,false_and,if_false];exact⟨λq a=>(by cases a),λ_=>⟨_,rfl⟩⟩
    | true=>
     simp only[j4,cond_false,true_and];by_cases F:r=0
     ·have e:l.drop (i+1)=[]:=j9 (by omega);rw[A6,e,if_pos rfl,show(16:Int)=((16:Nat):Int) from rfl,VY .u32 v 16 (by decide)];refine⟨λq a=>?_,λh=>(by cases h)⟩;simp only[p4] at a;subst a;have o:Mt ((v / 2 ^ 16:Nat):Int)=((v / 65536:Nat):Int):=Pk;have p:Mt (v:Int)=((v % 65536:Nat):Int):=Ak7 v;rw[o,p,Kr];rfl
     ·have g:l.drop (i+1)≠[]:=by
       rw[Je l (i+1) (by omega)];simp
      rw[A8,if_neg g];exact⟨λq a=>(by cases a),λ_=>⟨_,rfl⟩⟩
theorem Y9(c:UInt8){s:By}(a:s.length<=1000000000):(pcs c s).length<=1000000001:=by have:=Ih c s;grind
theorem Au2(s:By)(last:Bool)(f:A2 s.length=true):∃r H,Bg7 LF s last (λl=>rv (.tup [.fl 0,.s (.bool true)]) [.arr true 24 1 l]) (λl=>rv (.tup [.fl 1,.s (.bool false)]) [.arr true 24 1 l,.arr true 24 1 []])=rv r H/\
  r.stab [1,0] H = .tup [.s (.sl (gvs s last).isEmpty (gvs s last).isEmpty 1 (D7 (gvs s last))),.s (.bool (O7 s last).isSome)]:=by
 have d:=M3 f;have:=C6;unfold Bg7 gvs O7;by_cases c:s=[]
 ·subst c;exact⟨_,_,rfl,rfl⟩
 ·rw[show(s==([]:By))=false from beq_eq_false_iff_ne.2 c,f,if_neg c];simp only[cond_false,cond_true,vl,w9,G6,show((1:Nat)==1)=true from rfl];obtain⟨a,b⟩:=Au1 (k0:=λl=>rv (.tup [.fl 1,.s (.bool false)]) [.arr true 24 1 l,.arr true 24 1 []]) (k1:=λl=>rv (.tup [.fl 0,.s (.bool true)]) [.arr true 24 1 l]) last (pcs 58 s) (Y9 58 d) (λx h=>ab1 (Ca h).2 d) (pcs 58 s).length 0 LF [] (by omega) (by have:=Y9 58 d;omega) (by simp);rw[v7] at a b;cases g:Cj last (pcs 58 s) with
  | some q=>
   refine⟨_,_,a q g,?_⟩;simp[PV.stab,Og,Qt,PV.snap,L8,Xk]
  | none=>
   obtain⟨i,e⟩:=b g;refine⟨_,_,e,?_⟩;simp[PV.stab,Og,Qt,PV.snap,L8,D7]
end
end Go.Proofs.YtcfingekgbbclaaGreatDoor.E
