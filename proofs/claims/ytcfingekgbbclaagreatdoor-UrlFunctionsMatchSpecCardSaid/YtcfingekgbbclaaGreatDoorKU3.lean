/-
  Parts of the proof, merged by a program of the prover's own; no condition.
-/
import Derived.Test.YtcfingekgbbclaaGreatDoorKU2
import Derived.Deep.Draws
import Derived.KernelRfl
import Derived.Laws.RangeString
import Derived.Lib.IndexMore
import Derived.Lib.ItoaNum
import Derived.Lib.Join
import Derived.Lib.LaidTab
import Derived.Lib.LaidU8
import Derived.Lib.LastIndexLaws
import Derived.Lib.RuneCount
import Derived.Lib.TrailingZeros
import Derived.Lib.ValidU
import Derived.Sort.Grow
import Derived.Test.YtcfingekgbbclaaGreatDoorProg
open Int renaming toNat->a8,toNat_natCast->j4,eq_ofNat_of_zero_le->k9,tmod->w8,tdiv->x9,natCast_mul->ae2
open List renaming length->b8,getD->b9,flatten->c9,replicate->j0,isEmpty->j8,getD_eq_getElem?_getD->o0,drop_of_length_le->o5,isPrefixOf->o7,map->o9,getElem?_eq_getElem->p5,drop_zero->s7,all->s9,getD_cons_zero->v7,length_singleton->w9,isPrefixOf_iff_prefix->x3,take->x5,length_append->x7,take_of_length_le->y7,drop_append_of_le_length->z7,set->aa0,length_map->aa2,length_pos_iff->aa3,count_eq_zero->aa5,cons_append->aa8,getElem_mem->aa9,length_cons->ab0,prefix_iff_eq_take->ab1,suffix_iff_eq_drop->ab2,dropLast_eq_take->ab7,mem_of_mem_drop->ac1,drop->ac3,getD_cons_succ->ac4,mem_cons->ac5,count_cons->ae3,isSuffixOf->ae4,length_nil->ae5,map_append->ae6
open Eq renaming trans->j1
open Option renaming isSome->j2,isSome_some->p4,getD_some->p9
open Go.Lib renaming decDigits->j5,cut->s8,index->x4,decDigits_one->aa6,decodeL->ab9,join->ac0,occAt->ad0,index_spec->ae8
open Bool renaming not_true->j6,not_false->j7,and_eq_true->v8,false_eq_true->aa4,eq_iff_iff->ab5,and_true->af2
open UInt8 renaming ofNat->j9,le_iff_toNat_le->y9,toNat->ah6
open Go.IntKind renaming wrap->o6,bits->p6,signed->y5
open Nat renaming mod_eq_of_lt->o8,ble->p7,pow_succ->x6,le_refl->aa1,beq->aa7,le_mul_of_pos_right->ab3,le_trans->ab4,min_eq_left->ab6,one_mul->ac2,lt_of_le_of_lt->ac6,lt_of_lt_of_le->ac7,or_lt_two_pow->ac8,pow_pos->ae1,div_le_self->ae7,mul_le_mul->ae9,add_comm->ag2,blt->ag3,mul_comm->ag4,zero_add->ag5
open BitVec renaming ofInt->w6,ofInt_natCast->ab8
open Go.Fn renaming func->x8
open Option.some renaming injEq->y8
open Go.Proofs.Tryz renaming f84->ac9,f114->ad1,f118->ad2,f124->ad3,f135->ad4,f146->ad5,f147->ad6,f152->ad7,f170->ad8,f179->ad9,f189->ae0,f64->af0,f71->af1,f108->af4,f113->af5,f117->af6,f138->af7,f145->af8,f164->af9,f173->ag0,f180->ag1,f17->ag8,f56->ag9,f67->ah0,f87->ah1,f88->ah2,f95->ah3,f96->ah4,f98->ah5
open Prod.mk renaming injEq->af3
open BEq renaming comm->ag6
open Go.Fence renaming wide->ah7
namespace Go.Proofs.YtcfingekgbbclaaGreatDoor.E
set_option linter.all false
section
open Go
section
variable {Z R : Type} {C : Cfg} {Y : F7} {Q : Yh Z} {c a b : Code} {L : St Z} {k : Out -> St Z -> Option R} {id : Nat}
theorem A0{b:Bool}{x y d e:Option R}(f:x=d)(g:y=e):cond b x y=cond b d e:=by rw[f,g]
end
def Cb8{α:Type}(z:α)(f:Nat->α->α):Nat->α
 | 0=>z
 | n+1=>f n (Cb8 z f n)
def A2{b:Type}:List (Nat × b)->Nat->Option b
 | [],_=>none
 | (a,l)::r,n=>cond (aa7 n a) (some l) (A2 r n)
def bds(n:Nat):List PV:=j0 n .bad
def tps(n:Nat):List PV:=j0 n (.tup [])
def gp:List (Nat × PV)->Nat->List PV
 | [],n=>bds n
 | (m,v)::r,n=>bds m++v::gp r n
abbrev LL:=List (List SV)
abbrev By:=List UInt8
def A1(n:Int):Int:=o6 .i64 n
def Dd2(n:Int):Int:=o6 .u64 n
def AY(n:Int):Int:=o6 .u32 n
def Db(n:Int):Int:=o6 .u16 n
def wu8(n:Int):Int:=o6 .u8 n
def An4(k:IntKind)(a b:Int):Int:=k.wrap (w6 k.bits a &&& w6 k.bits b).toNat
def bOr(k:IntKind)(a b:Int):Int:=k.wrap (w6 k.bits a ||| w6 k.bits b).toNat
def Qx(k:IntKind)(a b:Int):Int:=k.wrap (a*2 ^ min b.toNat k.bits)
def Tu(k:IntKind)(a b:Int):Int:=a.fdiv (2 ^ min b.toNat k.bits)
def inR(n:Int)(m:Nat):Bool:=decide (0<=n)&&decide (n<m)
def Kk:TI:=⟨true,false,[.int .i64]⟩
def Oz:TI:=⟨true,false,[.str]⟩
def okE(t:TI)(l:LL)(i o:Nat):Bool:=decide (i<l.length)&&okS t (l.getD i []) o
def gC(l:LL)(i j:Nat):SV:=(l.getD i []).getD j .nilp
def gE(l:LL)(i j:Nat):Int:=(gC l i j).gI
def gX(l:LL)(i j:Nat):By:=(gC l i j).gS
def bAt(s:By)(n:Int):Int:=((s.getD n.toNat 0).toNat:Int)
def I2(l h:Int)(n:Nat):Bool:=decide (0<=l)&&decide (l<=h)&&decide (h<=n)
def cut{a:Type}(s:List a)(l h:Int):List a:=(s.take h.toNat).drop l.toNat
def Dk4:Code->Bool | .rangeFunc _ _ _ _=>true|_=>false
def rgX:Code->Operand | .rangeFunc x _ _ _=>x|_=>.tmp 0
def rgP:Code->Array Tmp | .rangeFunc _ p _ _=>p|_=>#[]
theorem TL:∀(p:List Nat),cd p .skip = .skip
 | []=>rfl
 | 0::_=>rfl
 | 1::_=>rfl
 | (_+2)::_=>rfl
theorem Fz:∀(p q:List Nat) (c:Code),cd (p++q) c=cd q (cd p c)
 | [],q,c=>rfl
 | i::p,q,c=>by
  rw[aa8]
  match i,c with
  | 0,.seq a b=>exact Fz p q a
  | 1,.seq a b=>exact Fz p q b
  | 0,.cond _ a b=>exact Fz p q a
  | 1,.cond _ a b=>exact Fz p q b
  | 0,.block _ a=>exact Fz p q a
  | 0,.loop a=>exact Fz p q a
  | 0,.scope a=>exact Fz p q a
  | 0,.rangeFunc _ _ a b=>exact Fz p q a
  | 1,.rangeFunc _ _ a b=>exact Fz p q b
  | 0,.skip|0,.region _ _ _|0,.exit _|0,.label _|0,.goto _|0,.ret|0,.refuse _=>exact(TL q).symm
  | 1,.skip|1,.region _ _ _|1,.exit _|1,.scope _|1,.label _|1,.goto _|1,.ret|1,.refuse _|1,.block _ _|1,.loop _=>exact(TL q).symm
  | _+2,.skip|_+2,.region _ _ _|_+2,.exit _|_+2,.scope _|_+2,.label _|_+2,.goto _|_+2,.ret|_+2,.refuse _|_+2,.block _ _|_+2,.loop _|_+2,.seq _ _|_+2,.cond _ _ _|_+2,.rangeFunc _ _ _ _=>exact(TL q).symm
section
variable {Z R : Type} {C : Cfg} {L : F7} {Y : Yh Z} {B : Code} {Q : St Z} {k : Out -> St Z -> Option R}
theorem Dh6(p:List Nat)(h:Dk4 (cd p B)=true):A9 C L Y (cd p B) Q k=Td C L (opnd C Q.sl (rgX (cd p B))) Q (λa=>Jb (rgP (cd p B)) a (bd C L Y (cd (p++[0]) B)) (bd C L Y (cd (p++[1]) B))) (λa=>Al (rgP (cd p B)) a (bd C L Y (cd (p++[0]) B)) (bd C L Y (cd (p++[1]) B))) k:=by rw[Fz,Fz];cases b:cd p B<;>rw[b] at h<;>first|rfl|cases h
theorem Av7{c:Bool}{x y:Option R}(h:x=y):need c x=cond c y none:=by rw[h];rfl
end
abbrev pS(l:List UInt8):PV:=.s (.str l)
abbrev pB(b:Bool):PV:=.s (.bool b)
abbrev pI(n:Int):PV:=.s (.int .i64 n)
abbrev p8(n:Int):PV:=.s (.int .u8 n)
abbrev p16(n:Int):PV:=.s (.int .u16 n)
abbrev p32(n:Int):PV:=.s (.int .u32 n)
abbrev p64(n:Int):PV:=.s (.int .u64 n)
abbrev vl{a b:Type}(e:a)(f:a->b):b:=f e
theorem A4{a R:Type}{e:a}{f g:a->Option R}(h:∀x,f x=g x):vl e f=vl e g:=h e
def E5(m n:Nat):Bool:=decide (m+n<4611686018427387904)
theorem fx1{A R:Type}{f g:A->R}(b:∀a,f a=g a):f=g:=funext b
theorem fx2{A B R:Type}{f g:A->B->R}(c:∀a b,f a b=g a b):f=g:=funext λa=>fx1 (c a)
theorem fx3{A B C R:Type}{f g:A->B->C->R}(d:∀a b c,f a b c=g a b c):f=g:=funext λa=>fx2 (d a)
theorem fx4{A B C D R:Type}{f g:A->B->C->D->R}(e:∀a b c d,f a b c d=g a b c d):f=g:=funext λa=>fx3 (e a)
theorem fx5{A B C D E R:Type}{f g:A->B->C->D->E->R}(h:∀a b c d e,f a b c d e=g a b c d e):f=g:=funext λa=>fx4 (h a)
theorem fx6{A B C D E H R:Type}{f g:A->B->C->D->E->H->R}(i:∀a b c d e h,f a b c d e h=g a b c d e h):f=g:=funext λa=>fx5 (i a)
theorem fx7{A B C D E H I R:Type}{f g:A->B->C->D->E->H->I->R}(j:∀a b c d e h i,f a b c d e h i=g a b c d e h i):f=g:=funext λa=>fx6 (j a)
theorem fx8{A B C D E H I J R:Type}{f g:A->B->C->D->E->H->I->J->R}(k:∀a b c d e h i j,f a b c d e h i j=g a b c d e h i j):f=g:=funext λa=>fx7 (k a)
theorem fx9{A B C D E H I J K R:Type}{f g:A->B->C->D->E->H->I->J->K->R}(l:∀a b c d e h i j k,f a b c d e h i j k=g a b c d e h i j k):f=g:=funext λa=>fx8 (l a)
theorem Cq7{A B C D E H I J K L R:Type}{f g:A->B->C->D->E->H->I->J->K->L->R}(m:∀a b c d e h i j k l,f a b c d e h i j k l=g a b c d e h i j k l):f=g:=funext λa=>fx9 (m a)
def Di6{α a:Type}(z:α)(f:a->List a->α->α):List a->α
 | []=>z
 | x::xs=>f x xs (Di6 z f xs)
def Qu(n:Nat):PV->PV
 | .s (.sl z t k a)=>if n=0 then .s (.sl z t k a) else if k=n then .s (.sl z t k a) else .s (.sl z t (cond z n k) a)
 | v=>v
def Of:List Nat->List PV->List PV
 | n::r,v::l=>Qu n v::Of r l
 | _,l=>l
def C94(a:List Nat):PV->PV
 | .agg l=>.agg (Of a l)
 | v=>Qu (a.headD 0) v
def B8:List (List Nat)->List PV->List PV
 | s::r,v::l=>C94 s v::B8 r l
 | _,l=>l
section
variable {L : Ctx} {sh : Nat -> Option Shp} {w : World}
theorem DI{n:Nat}{v:PV}{V:Value}(h:VP L sh w v V):VP L sh w (Qu n v) V:=by
 unfold Qu;split
 ·rename_i z t k a;split
  ·exact h
  ·split
   ·exact h
   ·cases z with
    | false=>exact h
    | true=>
     have b:=h.inv_s;cases b with
     | nil=>exact .s _ _ (.nil _ _)
 ·exact h
theorem Vb:∀(a:List Nat) (l:List PV),(Of a l).length=l.length
 | [],_=>rfl
 | _::_,[]=>rfl
 | n::r,v::l=>by simp[Of,Vb r l]
theorem HU:∀(a:List Nat) (l:List PV) (j:Nat) (h:j<l.length) (b:j<(Of a l).length),∃n,(Of a l)[j]=Qu n l[j]
 | [],l,j,h,b=>⟨0,by
  have e:Of [] l=l:=by cases l<;>rfl
  simp only[e];unfold Qu;split
  ·rename_i c;rw[c];simp
  ·rfl⟩
 | n::r,v::l,0,h,b=>⟨n,rfl⟩
 | n::r,v::l,j+1,h,b=>by
  obtain⟨m,e⟩:=HU r l j (by simpa using h) (by simpa[Of] using b);exact⟨m,by simpa[Of] using e⟩
theorem Cq3{b:List Nat}{v:PV}{V:Value}(h:VP L sh w v V):VP L sh w (C94 b v) V:=by
 unfold C94;split
 ·rename_i l;obtain⟨A,rfl,hA,f⟩:=h.inv_agg;refine VP.mk_agg (by rw[Vb];exact hA) λj c=>?_
  have a:j<l.length:=by rw[Vb] at c;exact c
  obtain⟨U,e,k⟩:=f j a;obtain⟨m,d⟩:=HU b l j a c;exact⟨U,e,by rw[d];exact DI k⟩
 ·exact DI h
theorem YY:∀(a:List (List Nat)) (l:List PV),(B8 a l).length=l.length
 | [],_=>rfl
 | _::_,[]=>rfl
 | n::r,v::l=>by simp[B8,YY r l]
theorem Cq4:∀(a:List (List Nat)) (l:List PV) (V:Array Value),CR L sh w l V->CR L sh w (B8 a l) V:=by
 intro a l V h;refine⟨by rw[YY];exact h.1,?_⟩;have key:∀(a:List (List Nat)) (l:List PV) (b:Nat->Option Value),(∀j (h:j<l.length),∃U,b j=some U/\VP L sh w (l[j]) U)->∀j (h:j<(B8 a l).length),∃U,b j=some U/\VP L sh w ((B8 a l)[j]) U:=by
  intro a
  induction a with
  | nil=>intro l b d j c;exact d j (by cases l<;>exact c)
  | cons s r f=>
   intro l b d j c;cases l with
   | nil=>simp[B8] at c
   | cons v l=>
    cases j with
    | zero=>
     obtain⟨U,e,k⟩:=d 0 (by simp);exact⟨U,e,Cq3 k⟩
    | succ j=>
     have:=f l (λj=>b (j+1)) (λj h=>d (j+1) (by simpa using h)) j (by simpa[B8] using c);simpa[B8] using this
 exact key a l (λj=>V[j]?) h.2
end
theorem B0.fix{P:Program}{G:GT}{g:Nat}{pf:List PV->Tr}(szs:List (List Nat))(h:B0 P G g pf):B0 P G g (λargs=>pf (B8 szs args)):=
 λargs ret Hc hpf C hP hGe Γ w Vs hnm hH hG hc=>h (B8 szs args) ret Hc hpf C hP hGe Γ w Vs hnm hH hG (Cq4 szs args Vs hc)
theorem I7{v:PV}{H:List Blk}{ret:PV}{a:List Blk}(h:L2 (.ret v H)=some (ret,a)):ret=v/\a=H:=by simp only[L2,Gv,y8,af3] at h;grind
theorem B9{c:Bool}{t:Tr}{ret:PV}{a:List Blk}(h:L2 (.need c t)=some (ret,a)):c=true/\L2 t=some (ret,a):=by
 cases c with
 | true=>exact⟨rfl,h⟩
 | false=>cases h
theorem Ch7{c:Bool}{a b:Tr}{ret:PV}{d:List Blk}(h:L2 (.split c a b)=some (ret,d)):(c=true/\L2 a=some (ret,d))\/(c=false/\L2 b=some (ret,d)):=by
 cases c with
 | true=>exact .inl ⟨rfl,h⟩
 | false=>exact .inr ⟨rfl,h⟩
theorem C57:∃n:Nat,100000000000000000000<=n:=⟨_,aa1 _⟩
noncomputable def LF:Nat:=Classical.choose C57
theorem C2:100000000000000000000<=LF:=Classical.choose_spec C57
attribute [irreducible] LF
theorem Bm7(b:UInt8):Lc (D7 b)=b:=by simp[Lc,D7,SV.gI]
theorem W8(l:List UInt8):(l.map D7).map Lc=l:=by
 rw[List.map_map];have:Lc ∘ D7=id:=by funext b;exact Bm7 b
 rw[this,List.map_id]
theorem Bo4(b:UInt8):Nh (D7 b)=true:=by have:=b.toNat_lt;simp only[Nh,D7,v8,decide_eq_true_eq];omega
theorem W0(l:List UInt8):(l.map D7).all Nh=true:=by rw[List.all_map];simp[Function.comp_def,Bo4]
theorem Dd1(n:Nat):o6 .u8 (n:Int)=((n % 256:Nat):Int):=by simp[o6,p6,y5]
theorem Bk1(n:Nat):o6 .u16 (n:Int)=((n % 65536:Nat):Int):=by simp[o6,p6,y5]
theorem C21(n:Nat):o6 .u32 (n:Int)=((n % 4294967296:Nat):Int):=by simp[o6,p6,y5]
theorem C22(n:Nat):o6 .u64 (n:Int)=((n % 18446744073709551616:Nat):Int):=by simp[o6,p6,y5]
theorem C20(n:Int)(a:-9223372036854775808<=n)(b:n<9223372036854775808):o6 .i64 n=n:=by simp[o6,p6,y5];split<;>omega
theorem B64(n m:Nat):Int.fdiv (n:Int) (m:Int)=((n / m:Nat):Int):=by rw[Int.fdiv_eq_ediv_of_nonneg _ (by omega)];rfl
theorem L1(n m:Nat):x9 (n:Int) (m:Int)=((n / m:Nat):Int):=by rw[Int.tdiv_eq_ediv_of_nonneg (by omega)];rfl
theorem Bx(n m:Nat):w8 (n:Int) (m:Int)=((n % m:Nat):Int):=by rw[Int.tmod_eq_emod_of_nonneg (by omega)];rfl
theorem C87(w a b:Nat)(c:a<2 ^ w)(d:b<2 ^ w):(w6 w (a:Int) ||| w6 w (b:Int)).toNat=a ||| b:=by simp[ab8,o8 c,o8 d]
theorem C69(w a b:Nat)(c:a<2 ^ w)(d:b<2 ^ w):(w6 w (a:Int) &&& w6 w (b:Int)).toNat=a &&& b:=by simp[ab8,o8 c,o8 d]
theorem Da4(a b i:Nat)(h:a<2 ^ i):a ||| (b*2 ^ i)=a+b*2 ^ i:=by rw[ag4 b,Nat.or_comm,ag2];exact(Nat.two_pow_add_eq_or_of_lt h b).symm
theorem A83(n:Nat):D7 (j9 n)=[SV.int .u8 ((n % 256:Nat):Int)]:=by simp[D7]
end
section
open Go Go.ChangeShapes Go.RowKit Go.Sort Go.WideShapes
theorem Rh{P:Program}{f:Nat}{fn:Func}{d:Array Value}{w:World}{R:Value->World->Prop}(m:P.funcs[f]? = some fn)(j:fn.body.isSome=true)(p:(fn.name == "runtime.NumGoroutine")=false)
  (h:Calls P f d w λe w'=>∃V,e = .returned V/\R V w'):R6 P ((callFunc f d).run P w) R:=by
 obtain⟨c,j⟩:=Option.isSome_iff_exists.1 j;intro q n o a next Q b
 have g:(callFunc f d).run P w = .ok (.enter f d) w:=by
  have k:¬ fn.name = "runtime.NumGoroutine":=by simpa using p
  simp[callFunc,m,j,k,Result.andThen]
 rw[g];simp only[Oper.uponIn_enter];refine⟨λh=>(by simp[H5,ah7] at h),?_⟩;have key:CallsIn ah7 (n-1) P f d w λe w'=>∃V,e = .returned V/\R V w':=callsIn_wide.2 h
 have i:CallsIn (H5 q) (n-1) P f d w λe w'=>∃V,e = .returned V/\R V w':=key
 refine i.mono ?_;rintro e w' ⟨V,rfl,l⟩;exact b V w' l
theorem B56{C:Cfg}{d:Ctx}{w w':World}{ret:PV}{V:Value}(a:∀b,d.nm b=none)(f:HR d [] w)(c:Below w.heap.size w w')(j:VP d (A5 []) w' ret V)(i:ret.nms=[]):Dj C I0 d [] w noΦ ret [] () V w':=by
 refine⟨d,noΦ,⟨c.os,c.tape,c.output,c.size,λ_ h=>h,λ_ h=>.inl h,λb g h=>(by rw[a] at h;cases h),λ_ h=>h.elim,λg e _ _=>c.block g e,rfl,aa1 _,λb h=>(by simp at h)⟩,
  ⟨λb k g h=>(by rw[a] at h;cases h),λb g h=>(by rw[a] at h;cases h),λg e=>ac7 (f.stlt g e) c.size,λb h=>(by simp at h),λb h=>(by simp at h)⟩,j,by rw[i];simp,λ_ h=>h,λb g h=>(by rw[a] at h;cases h)⟩
theorem Ny(w:World)(n:Nat):Below w.heap.size w (w.drewN n):=⟨rfl,rfl,rfl,aa1 _,λ_ _=>rfl⟩
theorem GO(w:World)(os:Array Obj):Below w.heap.size w (grow w os):=by refine⟨rfl,rfl,rfl,by simp[grow],λk a=>?_⟩;simp only[grow];grind
theorem An6(w:World)(s:ByteArray)(pos:Nat):Below w.heap.size w (w.iter s pos):=(Below.refl _ w).alloc (aa1 _) _
section
variable {Γ : Ctx} {sh : Nat -> Option Shp} {w : World}
theorem CR.arr1{a:PV}{A:Array Value}(h:CR Γ sh w [a] A):∃U,A = #[U]/\VP Γ sh w a U:=by obtain⟨U,e,k⟩:=h.2 0 (by simp);refine⟨U,?_,k⟩;have hs:A.size=1:=h.1;grind
theorem CR.arr2{a b:PV}{A:Array Value}(h:CR Γ sh w [a,b] A):∃U V,A = #[U,V]/\VP Γ sh w a U/\VP Γ sh w b V:=by obtain⟨U,e,k⟩:=h.2 0 (by simp);obtain⟨V,e',k'⟩:=h.2 1 (by simp);refine⟨U,V,?_,k,k'⟩;have hs:A.size=2:=h.1;grind
theorem CR.arr3{a b c:PV}{A:Array Value}(h:CR Γ sh w [a,b,c] A):∃U V W,A = #[U,V,W]/\VP Γ sh w a U/\VP Γ sh w b V/\VP Γ sh w c W:=by obtain⟨U,e,k⟩:=h.2 0 (by simp);obtain⟨V,e',k'⟩:=h.2 1 (by simp);obtain⟨W,e'',k''⟩:=h.2 2 (by simp);refine⟨U,V,W,?_,k,k',k''⟩;have hs:A.size=3:=h.1;grind
theorem VP.mk_str(l:List UInt8):VP Γ sh w (.s (.str l)) (.string ⟨l.toArray⟩):=by have:=VP.s (Γ:=Γ) (sh:=sh) (w:=w) _ _ (VS.str (St:=Γ.St) (w:=w) ⟨l.toArray⟩);omega
theorem VP.mk_int(k:IntKind)(n:Int):VP Γ sh w (.s (.int k n)) (.int k n):=.s _ _ (.int k n)
theorem VP.mk_bool(b:Bool):VP Γ sh w (.s (.bool b)) (.bool b):=.s _ _ (.bool b)
theorem VP.mk_tup3{a b c:PV}{U V W:Value}(h:VP Γ sh w a U)(k:VP Γ sh w b V)(l:VP Γ sh w c W):VP Γ sh w (.tup [a,b,c]) (.tuple #[U,V,W]):=
 VP.mk_tup rfl λj hj=>by grind
end
theorem G7{P:Program}{G:GT}{g:Nat}{fn:Func}{k:List PV->Tr}(q:P.funcs[g]? = some fn)(d:fn.body.isSome=true)(t:(fn.name == "runtime.NumGoroutine")=false)
  (h:∀args ret b,L2 (k args)=some (ret,b)->b=[]/\ret.nms=[]/\∀C:Cfg,C.P=P->C.G=G->∀a w c,GOK C a.St w->(∀g,a.St g->g<w.heap.size)->CR a (A5 []) w args c->
   Calls P g c w λe w'=>∃V,e = .returned V/\Below w.heap.size w w'/\VP a (A5 []) w' ret V):B0 P G g k:=by
 intro args ret b i C n m a w c f j r o;obtain⟨rfl,u,l⟩:=h args ret b i;exact Rh q d t ((l C n m a w c r j.stlt o).mono λe w' ⟨V,p,d,v⟩=>⟨V,p,B56 f j d v u⟩)
def PV.stab(szs:List Nat)(H:List Blk):PV->PV
 | .tup l=>.tup (Of szs (L3 H l))
 | v=>Qu (szs.headD 0) (v.snap H)
theorem VP.stab{Γ:Ctx}{H:List Blk}{w:World}(szs:List Nat)(hH:HR Γ H w){v:PV}{V:Value}(h:VP Γ (A5 H) w v V):VP Γ.all (A5 H) w (v.stab szs H) V:=by
 by_cases ht:∃l,v = .tup l
 ·obtain⟨l,rfl⟩:=ht;obtain⟨A,rfl,hA,hc⟩:=h.inv_tup;simp only[PV.stab];have hl:(Of szs (L3 H l)).length=l.length:=by rw[Vb,Hd,aa2]
  refine VP.mk_tup (by rw[hl];exact hA) λj hj=>?_
  obtain⟨U,e,k⟩:=hc j (by omega);refine⟨U,e,?_⟩;have hj':j<(L3 H l).length:=by rw[Hd,aa2];omega
  obtain⟨n,en⟩:=HU szs (L3 H l) j hj' hj;rw[en];have e2:(L3 H l)[j]=(l[j]'(by omega)).snap H:=by
   simp only[Hd,List.getElem_map]
  rw[e2];exact DI (k.snap hH)
 ·have e:v.stab szs H=Qu (szs.headD 0) (v.snap H):=by
   cases v with
   | tup l=>exact absurd ⟨l,rfl⟩ ht
   | _=>rfl
  rw[e];exact DI (h.snap hH)
theorem I6(n:List Nat){C₀:Cfg}{g:Nat}{pf:List PV->Tr}(M:XOK C₀)(K:Nj C₀)(P:C₀.P.follows .mixedOrders=true)
  (h:∀args ret p,L2 (pf args)=some (ret,p)->C3 args=[]/\p=[]/\ret.nms=[]/\∃d c k,evC C₀ d Unit noY g args [] ()=some (c,k,())/\c.stab n k=ret):B0 C₀.P C₀.G g pf:=by
 intro args ret p A C L t Γ w F z J I N;obtain⟨y,rfl,m,d,c,k,u,rfl⟩:=h args ret p A;have G:=Pi (C₀:=C₀) (g:=g) (pf:=λa=>match evC C₀ d Unit noY g a [] () with|some (r,H,_)=>cond (C3 a).isEmpty (.ret r H) .fail|none=>.fail) M K P (λa r H j=>by
  split at j
  ·rename_i S H' _ R;cases D:(C3 a).isEmpty with
   | true=>
    rw[D] at j;simp only[cond_true,L2,Gv,y8,af3] at j;grind
   | false=>rw[D] at j;cases j
  ·cases j)
 refine(G args c k (by dsimp only;rw[u];dsimp only;rw[y];rfl) C L t Γ w F z J I N).mono ?_;rintro V w' ⟨o,B,e,i,Q,hvn,v,O⟩;let Γ2:Ctx:={ o.all with nm:=λ_=>none }
 have x:∀g,Γ2.St g->g<w'.heap.size:=λg f=>by
  rcases f with f|⟨b,l⟩
  ·exact i.stlt g f
  ·exact(i.lt b g l).2.1
 refine⟨Γ2,B,⟨e.os,e.tape,e.output,e.size,λg f=>.inl (e.sub g f),λg f=>?_,λb g h=>by simp[Γ2] at h,e.foot,e.frame,e.yv,aa1 _,λb l=>by simp at l⟩,
  Ku (λ_=>rfl) x,?_,by rw[m];simp,v,λb g h=>by simp[Γ2] at h⟩
 ·rcases f with f|⟨b,l⟩
  ·exact e.stnew g f
  ·rcases e.own b g l with⟨q,_⟩|q
   ·simp at q
   ·exact .inr q
 ·exact VP.mono (Γ:=o.all) (Γ':=Γ2) (w:=w') (w':=w') (sh:=A5 k) (ok:=λ_=>False) ⟨λ_ _=>rfl,λ_ h=>h,λ_ h=>h.elim,λ_ h=>h.elim,λ_ _ h=>h.elim,rfl⟩ (Q.stab n i) (by rw[m];simp)
def Tr.Good(szs:List Nat)(args:List PV)(e:Option (PV × List Blk × Unit)):Tr->Prop
 | .ret v H=>C3 args=[]/\H=[]/\v.nms=[]/\∃r H0,e=some (r,H0,())/\r.stab szs H0=v
 | .need c t=>c=true->Good szs args e t
 | .split c a b=>(c=true->Good szs args e a)/\(c=false->Good szs args e b)
 | .fail=>True
theorem Tr.Good.res{szs:List Nat}{args:List PV}{e:Option (PV × List Blk × Unit)}{ret:PV}{Hc:List Blk}:∀{t:Tr},t.Good szs args e->L2 t=some (ret,Hc)->C3 args=[]/\Hc=[]/\ret.nms=[]/\∃r H0,e=some (r,H0,())/\r.stab szs H0=ret
 | .ret v H,h,hr=>by
  obtain⟨rfl,rfl⟩:=I7 hr;exact h
 | .need c t,h,hr=>by
  obtain⟨h0,hr⟩:=B9 hr;exact res (h h0) hr
 | .split c a b,h,hr=>by
  rcases Ch7 hr with⟨h0,hr⟩|⟨h0,hr⟩
  ·exact res (h.1 h0) hr
  ·exact res (h.2 h0) hr
theorem xf(b:List Nat)(a:Cfg){g:Nat}(d:List PV->Tr){e:List (List Nat)}{l:List (Nat × (List PV->Tr))}{c:List Nat}(m:a.X=Ai4 l)(q:L5 a.P a.G l)(o:a.okf=okL c)(k:Aw1 a c=true)(n:a.P.follows .mixedOrders=true)
  (h:∀args,(d args).Good b args (evC a 1 Unit noY g args [] ())) (i:a.Y=AU []:=by rfl) (j:a.S=AU []:=by rfl):B0 a.P a.G g (λargs=>d (B8 e args)):=
 B0.fix e (I6 b (L5.ok m q i j) (I4 o k) n λargs ret y p=>by
  obtain⟨t,u,v,r,f,w,x⟩:=(h args).res p;exact⟨t,u,v,1,r,f,w,x⟩)
end
section
open Go
def At3(n:Nat)(ret:PV)(H:List Blk):Bool:=ret.nms.all (ag3 · n)&&H.all λb=>b.nms.all (ag3 · n)
theorem Dj.head{C:Cfg}{Z:Type}{I:Z->(Nat->Prop)->(Nat->Prop)->World->Prop}{Γ:Ctx}{H Hc T:List Blk}{w w':World}{Φ:Nat->Prop}{s':Z}{ret:PV}{V:Value}
  (h:Dj C I Γ H w Φ ret (Hc++T) s' V w') (hl:H.length<=Hc.length) (hok:At3 Hc.length ret Hc=true):Dj C I Γ H w Φ ret Hc s' V w':=by
 obtain⟨Γ1,Φ1,hs,hH1,hv,hvn,hi1,hd1⟩:=h;simp only[At3,v8,List.all_eq_true,Nat.blt_eq] at hok;let Γ2:Ctx:={ Γ1 with nm:=λb=>if b<Hc.length then Γ1.nm b else none }
 have hnm:∀b g,Γ2.nm b=some g->b<Hc.length/\Γ1.nm b=some g:=λb g h=>by grind
 have get:∀b (h:b<Hc.length) (h':b<(Hc++T).length),(Hc++T)[b]=Hc[b]:=λb h h'=>List.getElem_append_left h
 have shp:∀b,b<Hc.length->A5 Hc b=A5 (Hc++T) b:=λb hb=>by
  simp only[A5];grind
 have M:Z8 Γ1 (A5 (Hc++T)) w' Γ2 (A5 Hc) w' (· < Hc.length):=⟨λ_ _=>rfl,λ_ h=>h,λb hb=>by simp only[Γ2];rw[if_pos hb],λb hb=>shp b hb,λ_ _ _ _=>rfl,rfl⟩
 refine⟨Γ2,Φ1,⟨hs.os,hs.tape,hs.output,hs.size,hs.sub,hs.stnew,λb g h=>hs.own b g (hnm b g h).2,hs.foot,hs.frame,hs.yv,hl,λb hb hf=>?_⟩,
  ⟨λb b' g h1 h2=>hH1.inj b b' g (hnm b g h1).2 (hnm b' g h2).2,λb g h=>by have:=hH1.lt b g (hnm b g h).2;exact⟨(hnm b g h).1,this.2⟩,hH1.stlt,λb hb c hc=>hok.2 _ (aa9 hb) c hc,λb hb=>?_⟩,
  hv.mono M (λb hb=>hok.1 b hb),λc hc=>hok.1 c hc,hi1,λb g h=>hd1 b g (hnm b g h).2⟩
 ·obtain⟨m1,m2,m3⟩:=hs.keep b hb hf;have hb2:b<Hc.length:=ac7 hb hl;exact⟨by simp only[Γ2];rw[if_pos hb2];exact m1,by rw[shp b hb2];exact m2,m3⟩
 ·have hb':b<(Hc++T).length:=by rw[x7];omega
  have:=hH1.blk b hb';rw[get b hb hb'] at this;exact this.mono M (M.nm b hb) (λ_ _=>rfl) (λc hc=>hok.2 _ (aa9 hb) c hc)
theorem Fe{C₀:Cfg}{g:Nat}{m:List PV->List Blk->Tr}(v:XOK C₀)(t:Nj C₀)(D:C₀.P.follows .mixedOrders=true)
  (h:∀args H ret a,L2 (m args H)=some (ret,a)->p7 H.length a.length=true/\At3 a.length ret a=true/\∀(Z:Type) (e:Yh Z) (s:Z),∃d b,evC C₀ d Z e g args H s=some (ret,b,s)/\b.take a.length=a):BA C₀.P C₀.G g m:=by
 intro C u p Z I e R r L args H s ret a i S T w n j q z A y x F;obtain⟨B,f,o⟩:=h args H ret a i;obtain⟨d,b,c,K⟩:=o Z e s;rw[<-List.take_append_drop a.length b,K] at c;refine(Jp v t D d Z I e R r L g args H s ret (a++b.drop a.length) s c S T w n j q (z.congr p.symm) A y x F).mono ?_;rintro V w' G;obtain⟨k,l,J,M,N,O,P,Q⟩:=G.head (Nat.le_of_ble_eq_true B) f;exact⟨k,l,J.congr u.symm,M,N,O,P,Q⟩
def Ft:List Int:=(List.range 32).map λi=>((if i % 2=0 then Lib.accLo (i / 2) else Lib.accHi (i / 2):Nat):Int)
def GX:GT:=⟨λg=>cond (aa7 g 2) (some (.u8,Lib.firstTab)) (cond (aa7 g 3) (some (.u8,Ft)) (cond (aa7 g 1) (some (.u64,Lib.pow10Tab)) (cond (aa7 g 5) (some (.u8,Lib.deBruijn64tab.map λn:Nat=>(n:Int))) none))),λg=>aa7 g 0⟩
def Di3:List (Nat × Nat × Nat × Nat)->Nat->Nat->Nat × Nat
 | [],_,_=>(0,0)
 | (t,j,e,k)::r,b,a=>cond (aa7 t b&&aa7 j a) (e,k) (Di3 r b a)
def C72:List (Nat × Nat)->Nat->Option Nat
 | [],_=>none
 | (a,b)::r,i=>cond (aa7 a i) (some b) (C72 r i)
noncomputable def B4(g:Nat)(f:List Nat)(d:Nat->Option (List Nat))(X:List (Nat × (List PV->Tr)))(b:Nat->Option (List Nat):=λ_=>none)(h:List Nat:=[])(a:Nat->Option (List Nat):=λ_=>none)(c:Option (List Nat):=none)(Y:List (Nat × (List PV->List Blk->Tr)):=[])(S:List (Nat × (List PV->List Blk->Option (Bool × List (List PV)))):=[])(e:List Nat:=[])(nt:List (Nat × Nat × Nat × Nat):=[])(rw:List (Nat × Nat):=[]):Cfg:=
 { P:=Tryz.prog,G:=GX,X:=Ai4 X,lend:=okL e,okf:=okL f,lf:=g,keep:=d,keepR:=b,xp:=okL h,keepE:=a,keepT:=c,Y:=AU Y,S:=AU S,nilT:=Di3 nt,rowR:=C72 rw }
theorem follows:Tryz.prog.follows .mixedOrders=true:=by kernel_rfl
theorem Bt9{n:Nat}:F6 n=true↔n<=68719476736:=by simp[F6]
theorem F0{n:Nat}(h:n<=68719476736):F6 n=true:=Bt9.2 h
theorem B5{a b:Int}(h:a<b):ltI a b=true:=by rw[Ll];simpa using h
theorem E1{a b:Int}(h:b<=a):ltI a b=false:=by rw[Ll];simpa using h
theorem Lm{a b:Int}:ltI a b=true↔a<b:=by rw[Ll];simp
theorem Jv{a b:Int}:ltI a b=false↔b<=a:=by rw[Ll];simp
theorem C6{n:Int}(a:-9223372036854775808<=n)(b:n<9223372036854775808):A1 n=n:=C20 n a b
theorem WW{n:Int}(a:0<=n)(b:n<18446744073709551616):Dd2 n=n:=by obtain⟨m,rfl⟩:=k9 a;unfold Dd2;rw[C22,o8 (by omega)]
theorem Bk3{n:Int}(a:0<=n)(b:n<4294967296):AY n=n:=by obtain⟨m,rfl⟩:=k9 a;unfold AY;rw[C21,o8 (by omega)]
theorem Bk2{n:Int}(a:0<=n)(b:n<65536):Db n=n:=by obtain⟨m,rfl⟩:=k9 a;unfold Db;rw[Bk1,o8 (by omega)]
theorem WX{n:Int}(a:0<=n)(b:n<256):wu8 n=n:=by obtain⟨m,rfl⟩:=k9 a;unfold wu8;rw[Dd1,o8 (by omega)]
theorem A8{a b:Int}(h:a<b:=by omega):ltI a b=true:=B5 h
theorem A6{a b:Int}(h:b<=a:=by omega):ltI a b=false:=E1 h
theorem A7{n:Int}(h:-9223372036854775808<=n:=by omega)(g:n<9223372036854775808:=by omega):A1 n=n:=C6 h g
theorem Mr{n:Int}(h:0<=n:=by omega)(g:n<4294967296:=by omega):AY n=n:=Bk3 h g
theorem Jh{n:Int}(h:0<=n:=by omega)(g:n<65536:=by omega):Db n=n:=Bk2 h g
theorem L4{n:Int}(h:0<=n:=by omega)(g:n<256:=by omega):wu8 n=n:=WX h g
theorem R9{d:Sort _}{c:Prop}[Decidable c]{a b:d}(h:c:=by omega):(if c then a else b)=a:=if_pos h
theorem F9{d:Sort _}{c:Prop}[Decidable c]{a b:d}(h:¬c:=by omega):(if c then a else b)=b:=if_neg h
theorem Aj6(n:Nat):Db (n:Int)=((n % 65536:Nat):Int):=Bk1 n
theorem Qp(k:IntKind)(a m:Nat)(h:m<=k.bits):Tu k (a:Int) (m:Int)=((a / 2 ^ m:Nat):Int):=by
 unfold Tu;rw[j4,ab6 h];have:(2:Int) ^ m=((2 ^ m:Nat):Int):=by simp
 rw[this,B64]
theorem Ci4{n:Nat}(h:n<256):[SV.int .u8 (n:Int)]=D7 (j9 n):=by rw[A83,o8 h]
theorem Z5{l h:Int}{n:Nat}(a:0<=l)(b:l<=h)(c:h<=n):I2 l h n=true:=by simp[I2,a,b,c]
theorem J6{i:Int}{n:Nat}(a:0<=i)(b:i<n):inR i n=true:=by simp[inR,a,b]
theorem H9{l h:Int}{n:Nat}(a:0<=l:=by omega)(b:l<=h:=by omega)(c:h<=n:=by omega):I2 l h n=true:=Z5 a b c
theorem E6{i:Int}{n:Nat}(a:0<=i:=by omega)(b:i<n:=by omega):inR i n=true:=J6 a b
end
section
open Go Go.Proofs
def DW(r:Option (PV × List Blk × Unit)):Bool:=match r with
 | some (.s (.bool true),_,_)=>true
 | _=>false
theorem VG{r:Option (PV × List Blk × Unit)}(h:DW r=true):∃H,r=some (.s (.bool true),H,()):=by
 unfold DW at h;split at h
 ·exact⟨_,rfl⟩
 ·cases h
theorem Ba5{C₀:Cfg}{g d:Nat}(f:XOK C₀)(c:Nj C₀)(i:C₀.P.follows .mixedOrders=true)(h:DW (evC C₀ d Unit noY g [] [] ())=true):B0 C₀.P C₀.G g (λargs=>match args with|[]=>.ret (.s (.bool true)) []|_=>.fail):=
 XB f c i λargs ret j b=>by
  cases args with
  | nil=>
   obtain⟨rfl,rfl⟩:=I7 b;obtain⟨H,e⟩:=VG h;exact⟨rfl,rfl,rfl,d,_,H,e,rfl⟩
  | cons a r=>cases b
end
section
open Go
def D4(l:List By):LL:=l.map λs=>[SV.str s]
def C9(l:List Nat):LL:=l.map λn=>[SV.int .u16 (Int.ofNat n)]
def O8(c:UInt8):By->By->List By
 | a,[]=>[a]
 | a,b::r=>if b=c then a::O8 c [] r else O8 c (a++[b]) r
def pcs(c:UInt8)(s:By):List By:=O8 c [] s
theorem Ii(c:UInt8):∀(s a:By),(O8 c a s).length=s.count c+1
 | [],a=>rfl
 | b::r,a=>by
  simp only[O8,ae3];by_cases h:b=c
  ·simp[h,Ii c r]
  ·simp[h,Ii c r]
theorem Xg(c:UInt8):∀(s a:By),c∉s->O8 c a s=[a++s]
 | [],a,_=>by simp[O8]
 | b::r,a,h=>by
  simp only[ac5,not_or] at h;simp only[O8];rw[if_neg (λe=>h.1 e.symm),Xg c r _ h.2];simp
theorem CP(c:UInt8):∀(p a s:By),c∉p->O8 c a (p++c::s)=(a++p)::O8 c [] s
 | [],a,s,_=>by simp[O8]
 | b::r,a,s,h=>by
  simp only[ac5,not_or] at h;simp only[aa8,O8];rw[if_neg (λe=>h.1 e.symm),CP c r _ s h.2];simp
theorem A73(c:UInt8)(s a:By):O8 c a s≠[]:=by intro h;have:=Ii c s a;rw[h] at this;simp at this
theorem Oy(c:UInt8):∀(s a:By),c∉a->∀x∈O8 c a s,c∉x/\x.length<=a.length+s.length
 | [],a,h,x,d=>by
  simp only[O8,List.mem_singleton] at d;subst d;exact⟨h,by simp⟩
 | b::r,a,h,x,d=>by
  simp only[O8] at d;split at d
  ·rcases ac5.1 d with rfl|d
   ·exact⟨h,by simp⟩
   ·have:=Oy c r [] (by simp) x d;refine⟨this.1,?_⟩;have:=this.2;simp at this ⊢;omega
  ·rename_i e;have:=Oy c r (a++[b]) (by simp[h,Ne.symm e]) x d;refine⟨this.1,?_⟩;have:=this.2;simp at this ⊢;omega
def Bp(b:UInt8):UInt8:=if 65<=b/\b<=90 then b+32 else b
def B6(s:By):By:=s.map Bp
def dig(b:UInt8):Nat:=
 if 48<=b.toNat/\b.toNat<=57 then b.toNat-48 else if 97<=b.toNat/\b.toNat<=102 then b.toNat-87 else if 65<=b.toNat/\b.toNat<=70 then b.toNat-55 else 99
def Cb:Nat:=1099511627776
def E7(base:Nat):Nat->By->Option Nat
 | n,[]=>some n
 | n,b::r=>if dig b<base then E7 base (min (n*base+dig b) Cb) r else none
def Bn(s:By):Bool:=s.getD 0 0==48&&(s.getD 1 0==120||s.getD 1 0==88)
def Ad(s:By):Option Nat:=
 if s=[] then none else if Bn s then E7 16 0 (s.drop 2) else if 1<s.length/\s.getD 0 0=48 then E7 8 0 (s.drop 1) else E7 10 0 s
def C8(s:By):List By:=if 1<(pcs 46 s).length/\(pcs 46 s).getLastD []=[] then (pcs 46 s).dropLast else pcs 46 s
def Ju(s:By):By:=(C8 s).getLastD []
def G0(s:By):Bool:=if Bn (Ju s) then (E7 16 0 ((Ju s).drop 2)).isSome else !(Ju s).isEmpty&&(E7 10 0 (Ju s)).isSome
def We(free:Nat):Nat->List By->Option Nat
 | _,[]=>none
 | v,p::r=>match Ad p with
  | none=>none
  | some n=>match r with
   | []=>if n<2 ^ free then some (v*2 ^ free+n) else none
   | r=>if n<=255 then We free (v*256+n) r else none
def pnB(s:By):Option Nat:=if 4<(C8 s).length then none else We (8*(5-(C8 s).length)) 0 (C8 s)
def oct(s:By):Option Nat:=match E7 10 0 s with
 | some n=>if n<=255/\j5 n=s then some n else none
 | none=>none
def IV:Nat->List By->Option Nat
 | v,[]=>some v
 | v,p::r=>match oct p with
  | some n=>IV (v*256+n) r
  | none=>none
def v4B(s:By):Option Nat:=if (pcs 46 s).length=4 then IV 0 (pcs 46 s) else none
def Hh(v:Nat):By:=j5 (v / 16777216)++46::(j5 (v / 65536 % 256)++46::(j5 (v / 256 % 256)++46::j5 (v % 256)))
def Gi:Nat->By->Option Nat
 | n,[]=>some n
 | n,b::r=>if dig b<16 then Gi (n*16+dig b) r else none
def grp(s:By):Option Nat:=if s=[]\/4<s.length then none else Gi 0 s
def Dp(last:Bool):List By->Option (List Nat)
 | []=>some []
 | x::r=>match grp x with
  | some v=>(Dp last r).map (v::·)
  | none=>match v4B x with
   | some v=>if last=true/\r=[] then some [v / 65536,v % 65536] else none
   | none=>none
def P0(s:By)(last:Bool):Option (List Nat):=if s=[] then some [] else Dp last (pcs 58 s)
def v6B(s:By):Option (List Nat):=
 match P0 (s8 s [58,58]).1 (!(s8 s [58,58]).2.2),P0 (s8 s [58,58]).2.1 true with
 | some x,some y=>if (s8 s [58,58]).2.2 then (if x.length+y.length<=7 then some (x++j0 (8-x.length-y.length) 0++y) else none)
   else if x.length+y.length=8 then some (x++y) else none
 | _,_=>none
def Ov(l:List Nat):Nat:=(l.takeWhile (· == 0)).length
def zGo:List Nat->Nat->Nat->Nat->Nat × Nat
 | [],_,z,m=>(z,m)
 | x::r,i,z,m=>if m<Ov (x::r) then zGo r (i+1) i (Ov (x::r)) else zGo r (i+1) z m
def Qv(n:Nat):UInt8:=if n<10 then j9 (48+n) else j9 (87+n)
def R2(v:Nat):By:=if h:v<16 then [Qv v] else R2 (v / 16)++[Qv (v % 16)]
 termination_by v
 decreasing_by omega
def S8(l:List Nat):By:=ac0 (l.map R2) [58]
def Nd(a:List Nat):By:=if (zGo a 0 0 0).2<2 then S8 a else S8 (a.take (zGo a 0 0 0).1)++58::58::S8 (a.drop ((zGo a 0 0 0).1+(zGo a 0 0 0).2))
def U3(n:Nat):Bool:=p7 n 1114111&&(ag3 n 55296||ag3 57343 n)
def Yu(d k:Nat):Nat:=if h:455<d then Yu (d / 35) (k+36) else k+36*d / (d+38)
 termination_by d
 decreasing_by omega
def P4(delta count:Nat)(first:Bool):Nat:=
 let d:=if first then delta / 700 else delta / 2
 Yu (d+d / count) 0
def thr(k a:Nat):Nat:=max 1 (min 26 (36*(k+1)-a))
theorem U7(k a:Nat):1<=thr k a/\thr k a<=26:=by unfold thr;omega
def Ac(d:Nat):UInt8:=if d<26 then j9 (97+d) else j9 (22+d)
def Nf(b:UInt8):Option Nat:=
 if 97<=b.toNat/\b.toNat<=122 then some (b.toNat-97) else if 65<=b.toNat/\b.toNat<=90 then some (b.toNat-65) else if 48<=b.toNat/\b.toNat<=57 then some (b.toNat-22) else none
def O4(q k a:Nat):By:=
 if h:q<thr k a then [Ac q] else Ac (thr k a+(q-thr k a) % (36-thr k a))::O4 ((q-thr k a) / (36-thr k a)) (k+1) a
 termination_by q
 decreasing_by
  have:=U7 k a;exact ac6 (ae7 _ _) (by omega)
structure OU where
 delta:Nat
 bias:Nat
 done:Nat
 out:By
def H6(n a:Nat):List Nat->OU->OU
 | [],s=>s
 | p::r,s=>if p<n then H6 n a r { s with delta:=s.delta+1 }
  else if p=n then H6 n a r { delta:=0,bias:=P4 s.delta (s.done+1) (s.done==a),done:=s.done+1,out:=s.out++O4 s.delta 0 s.bias }
  else H6 n a r s
def H3(n:Nat):List Nat->Nat->Nat
 | [],m=>m
 | p::r,m=>H3 n r (if n<=p then min m p else m)
def Q1(b:List Nat)(a:Nat):Nat->Nat->OU->OU
 | 0,_,s=>s
 | f+1,n,s=>if s.done<b.length then
   let m:=H3 n b 1114112;let c:=H6 m a b { s with delta:=s.delta+(m-n)*(s.done+1) }
   Q1 b a f (m+1) { c with delta:=c.delta+1 }
  else s
def I3(a:List Nat):By:=(a.filter (· < 128)).map j9
def Cl(a:List Nat):By × Nat:=
 if 256<a.length then ([],3) else if !(a.all U3) then ([],2)
 else ((Q1 a (I3 a).length 256 128 { delta:=0,bias:=72,done:=(I3 a).length,out:=if (I3 a).isEmpty then [] else I3 a++[45] }).out,0)
def D6(a:Nat):By->Nat->Nat->Nat->Nat × By × Nat
 | [],i,w,k=>(0,[],4)
 | b::r,i,w,k=>match Nf b with
  | none=>(0,[],4)
  | some x=>if Cb<i+x*w then (0,[],19) else if x<thr k a then (i+x*w,r,0)
   else if Cb<w*(36-thr k a) then (0,[],19) else D6 a r (i+x*w) (w*(36-thr k a)) (k+1)
theorem Pv(a:Nat):∀(s:By) (i w k:Nat),(D6 a s i w k).2.2=0->(D6 a s i w k).2.1.length<s.length
 | [],i,w,k,h=>by simp[D6] at h
 | b::r,i,w,k,h=>by
  unfold D6 at h ⊢;cases d:Nf b with
  | none=>simp[d] at h
  | some x=>
   simp only[d] at h ⊢;split at h
   ·simp at h
   ·rename_i e;rw[if_neg e];split at h
    ·rename_i c;rw[if_pos c];simp
    ·rename_i c;rw[if_neg c];split at h
     ·simp at h
     ·rename_i f;rw[if_neg f];have:=Pv a r _ _ _ h;simp only[ab0];omega
def U1(l:List Nat)(i n:Nat):List Nat:=l.take i++n::l.drop i
def G9(s:By)(b:List Nat)(n i a:Nat)(first:Bool):List Nat × Nat:=
 if e:s=[] then (b,0) else
  let q:=D6 a s i 1 0
  if d:q.2.2=0 then
   let count:=b.length+1;let c:=n+q.1 / count
   if U3 c then (if 256<count then ([],3) else G9 q.2.1 (U1 b (q.1 % count) c) c (q.1 % count+1) (P4 (q.1-i) count first) false)
   else ([],2)
  else ([],q.2.2)
 termination_by s.length
 decreasing_by exact Pv a s i 1 0 d
def G3:By->Nat
 | []=>0
 | b::r=>if 45∈r then G3 r+1 else 0
def M7(s:By):List Nat × Nat:=
 if 1024<s.length then ([],3) else if s.any (λb=>p7 128 b.toNat) then ([],4)
 else if 256<G3 s then ([],3)
 else G9 (if G3 s=0 then s else s.drop (G3 s+1)) ((s.take (G3 s)).map (·.toNat)) 128 0 72 true
def Y7:Nat->By->Option (List Nat)
 | 0,_=>some []
 | f+1,l=>if l=[] then some [] else if (ab9 l).1=65533/\(ab9 l).2=1 then none else (Y7 f (l.drop (ab9 l).2)).map ((ab9 l).1::·)
def Cv(s:By):Option (List Nat):=Y7 s.length s
def Dg(s:By):Bool:=
 (M7 s).2==0&&!((M7 s).1.any λp=>p7 65 p&&p7 p 90)&&((M7 s).1.any λp=>p7 128 p)&&(Cl (M7 s).1).2==0&&(Cl (M7 s).1).1==s
def T1(b:UInt8):Bool:=(p7 97 b.toNat&&p7 b.toNat 122)||(p7 48 b.toNat&&p7 b.toNat 57)||b==45||b==95
def xnB:By:=[120,110,45,45]
def K5(s:By):Bool:=
 !s.isEmpty&&p7 s.length 63&&s.getD 0 0 !=45&&s.getD (s.length-1) 0 !=45&&s.all T1&&(!(xnB.isPrefixOf s)||Dg (s.drop 4))
def I5(s:By):By × Nat:=match Cv s with
 | none=>([],4)
 | some p=>if 256<p.length then ([],3)
  else if p.length<s.length then (match Cv (B6 s) with
   | none=>([],14)
   | some q=>if (Cl q).2=0 then (if K5 (xnB++(Cl q).1) then (xnB++(Cl q).1,0) else ([],14)) else ([],14))
  else if K5 (B6 s) then (B6 s,0) else ([],14)
def R1:By->Option By
 | []=>some []
 | b::r=>if b=37 then (match r with
   | x::y::a=>if dig x<16/\dig y<16 then (R1 a).map (j9 (16*dig x+dig y)::·) else none
   | _=>none)
  else (R1 r).map (b::·)
structure B2 where
 kind:Nat
 name:By
 v4:Nat
 v6:List Nat
 deriving DecidableEq
def z8:List Nat:=[0,0,0,0,0,0,0,0]
def K3:B2:=⟨0,[],0,z8⟩
def F4:List By->List By × Nat
 | []=>([],0)
 | x::r=>if (I5 x).2=0 then ((I5 x).1::(F4 r).1,(F4 r).2) else ([],(I5 x).2)
def I1(s:By):By:=if s.getLast? = some 46 then s.dropLast else s
def C7(s:By):B2 × Nat:=
 if 1024<s.length then (K3,3)
 else if s.head? = some 91 then (if s.getLast? = some 93/\2<=s.length then (match v6B ((s.take (s.length-1)).drop 1) with
   | some a=>(⟨3,[],0,a⟩,0)
   | none=>(K3,14)) else (K3,14))
 else match R1 s with
  | none=>(K3,14)
  | some t=>if G0 (I1 t) then (match pnB (I1 t) with
    | some v=>(⟨2,[],v,z8⟩,0)
    | none=>(K3,14))
   else if (F4 (pcs 46 (I1 t))).2=0 then (
    let name:=ac0 (F4 (pcs 46 (I1 t))).1 [46]
    if 253<name.length then (K3,3) else if G0 name then (K3,14) else (⟨1,name,0,z8⟩,0))
   else (K3,(F4 (pcs 46 (I1 t))).2)
def Ee(s:By):Bool:=p7 s.length 253&&!(G0 s)&&(pcs 46 s).all K5
def T8(h:B2):Bool:=
 if h.kind=1 then Ee h.name&&h.v4==0&&h.v6==z8 else if h.kind=2 then h.name.isEmpty&&h.v6==z8 else if h.kind=3 then h.name.isEmpty&&h.v4==0 else false
def Iv(h:B2):By:=if T8 h then (if h.kind=1 then h.name else if h.kind=2 then Hh h.v4 else 91::(Nd h.v6++[93])) else []
def A3(n:Nat):Bool:=decide (n<=1000000000)
theorem OH{n:Nat}:A3 n=true↔n<=1000000000:=by simp[A3]
def isS:List SV->Bool|[.str _]=>true|_=>false
def elS(a:List SV):By:=(a.getD 0 .nilp).gS
def M0(o:Option Nat):Nat:=o.getD 0
def u8n(c:Int):UInt8:=j9 c.toNat
def WJ(s p:By):By:=if p.isSuffixOf s then s.take (s.length-p.length) else s
def Gd(s p:By):By:=if p.isPrefixOf s then s.drop p.length else s
def ltN(v:Int)(n:Nat):Bool:=match v with
 | .ofNat m=>p7 (m+1) n
 | .negSucc _=>false
theorem D9{v:Int}{n:Nat}:ltN v n=true↔0<=v/\v<(n:Int):=by
 cases v with
 | ofNat m=>
  simp only[ltN,Nat.ble_eq,Int.ofNat_eq_natCast];omega
 | negSucc m=>
  refine⟨λh=>(by cases h),λh=>?_⟩;have:=Int.negSucc_lt_zero m;omega
def Hl(b:Nat):List PV->Tr
 | [.s (.int .i64 n)]=>.need (ltN n b) (.ret (.s (.str (j5 (a8 n)))) [])
 | _=>.fail
def Ko(b:Nat)(args:List PV):Tr:=Hl b (B8 [[0]] args)
def gvs(s:By)(last:Bool):List Nat:=(P0 s last).getD []
def v6c(i:Nat)(s:By):Nat:=((v6B s).getD z8).getD i 0
def n8(a b c d e f g h:Int):List Nat:=[a.toNat,b.toNat,c.toNat,d.toNat,e.toNat,f.toNat,g.toNat,h.toNat]
def ok8(a b c d e f g h:Int):Bool:=[a,b,c,d,e,f,g,h].all λx=>ltN x 65536
def Vr:List SV->Bool|[.int .u16 n]=>ltN n 65536|_=>false
def elN(a:List SV):Nat:=(a.getD 0 .nilp).gI.toNat
def HL(s:By):Int:=x4 s [58,58]
def ptI(n:Int):Bool:=match n with | .ofNat m=>U3 m | .negSucc _=>false
def D8(b:UInt8):Int:=match Nf b with|some n=>n|none=>-1
def K4(k b:Int):Int:=max 1 (min 26 (k+36-b))
def Mx:List SV->Bool|[.int .i64 _]=>true|_=>false
def elI(a:List SV):Int:=(a.getD 0 .nilp).gI
def V2(l:List Int):By × Nat:=if 256<l.length then ([],3) else if l.all ptI then Cl (l.map a8) else ([],2)
def S7(b:Int):By->Int->Int->Int->Int × By × Int
 | [],i,w,k=>(4,[],i)
 | c::r,i,w,k=>if D8 c<0 then (4,c::r,i) else if 1099511627776<i+D8 c*w then (19,r,i+D8 c*w)
  else if D8 c<K4 k b then (0,r,i+D8 c*w) else if 1099511627776<w*(36-K4 k b) then (19,r,i+D8 c*w)
  else S7 b r (i+D8 c*w) (w*(36-K4 k b)) (k+36)
def IS(b:Int)(s:By)(i:Int):Int:=(S7 b s i 1 0).1
def IU(b:Int)(s:By)(i:Int):By:=(S7 b s i 1 0).2.1
def Tb(b:Int)(s:By)(i:Int):Int:=(S7 b s i 1 0).2.2
def Lh(l:List (List SV))(i:Nat)(n:Int):List (List SV):=l.take i++[SV.int .i64 n]::l.drop i
structure DS where
 rest:By
 n:Int
 i:Int
 b:Int
 st:Bool
 l:List (List SV)
def E9(s:DS):Int × DS:=
 if IS s.b s.rest s.i=0 then
  let c:Int:=s.l.length+1;let x:=Tb s.b s.rest s.i;let d:DS:={ rest:=IU s.b s.rest s.i,n:=s.n+x9 x c,i:=w8 x c,b:=P4 (x-s.i).toNat c.toNat (!s.st),st:=true,l:=s.l }
  if ptI d.n then (if 256<c then (3,d) else (0,{ d with i:=d.i+1,l:=Lh s.l d.i.toNat d.n })) else (2,d)
 else (IS s.b s.rest s.i,{ s with rest:=IU s.b s.rest s.i,i:=Tb s.b s.rest s.i })
def K9(c:UInt8):By->Int
 | []=>-1
 | b::r=>if K9 c r<0 then (if b=c then 0 else -1) else K9 c r+1
def Lo(l:List Nat):List (List SV):=l.map λx:Nat=>[SV.int .i64 (x:Int)]
def Qw(s:By):List Nat:=(Cv s).getD []
def El(b:UInt8):Int:=if dig b<16 then dig b else -1
def Et(s:By):By:=(R1 s).getD []
def O9(s:By):B2 × Nat:=if s.getLast? = some 93/\2<=s.length then (match v6B ((s.take (s.length-1)).drop 1) with
 | some a=>(⟨3,[],0,a⟩,0)
 | none=>(K3,14)) else (K3,14)
def mkH(b:Int)(c:By)(v4:Int)(a:List Nat):B2:=⟨if ltN b 4 then b.toNat else 0,c,v4.toNat,a⟩
def Mi(n:Int)(l:List By):Bool:=l.all λs=>!(ltI n (s.length:Int))
def B82(s:By):Bool:=([91]:By).isPrefixOf s
end
section
open Go Go.Proofs
set_option maxRecDepth 100000
section
def Rl:List PV->Tr
 | [.s (.str s),.s (.str p),.s (.int .i64 v),.s (.int .i64 n)]=>.need (A3 (b8 s)) (.need ((b8 p)==1) (.need (v==(0:Int)) (.need (n==((-1):Int)) (.ret (.vw 0 0 (b8 (pcs (b9 p 0 0) s))) [.arr false 9 1 (D4 (pcs (b9 p 0 0) s))]))))
 | _=>.fail
def Xx(args:List PV):Tr:=Rl (B8 [[0],[0],[0],[0]] args)
def Rt:List PV->Tr
 | [.s (.str s),.s (.str p)]=>.need (A3 (b8 s)) (.need ((b8 p)==1) (.ret (.vw 0 0 (b8 (pcs (b9 p 0 0) s))) [.arr false 9 1 (D4 (pcs (b9 p 0 0) s))]))
 | _=>.fail
def LX(args:List PV):Tr:=Rt (B8 [[0],[0]] args)
def PQ:List PV->Tr
 | [.s (.str s),.s (.str p)]=>.need (A3 (b8 s)) (.ret (.s (.bool (o7 p s))) [])
 | _=>.fail
def PP(args:List PV):Tr:=PQ (B8 [[0],[0]] args)
def PI:List PV->Tr
 | [.s (.str s),.s (.str p)]=>.need (A3 (b8 s)) (.ret (.s (.bool (o7 p s))) [])
 | _=>.fail
def EJ(args:List PV):Tr:=PI (B8 [[0],[0]] args)
def PT:List PV->Tr
 | [.s (.str s),.s (.str p)]=>.need (A3 (b8 s)) (.ret (.s (.bool (ae4 p s))) [])
 | _=>.fail
def B14(args:List PV):Tr:=PT (B8 [[0],[0]] args)
def ET:List PV->Tr
 | [.s (.str s),.s (.str p)]=>.need (A3 (b8 s)) (.ret (.s (.str (WJ s p))) [])
 | _=>.fail
def Bb5(args:List PV):Tr:=ET (B8 [[0],[0]] args)
def FY:List PV->Tr
 | [.s (.str s),.s (.str p)]=>.need (A3 (b8 s)) (.ret (.s (.str (WJ s p))) [])
 | _=>.fail
def Bd2(args:List PV):Tr:=FY (B8 [[0],[0]] args)
def EP:List PV->Tr
 | [.s (.str s),.s (.str p)]=>.need (A3 (b8 s)) (.ret (.tup [.s (.str (Gd s p)),.s (.bool (o7 p s))]) [])
 | _=>.fail
def Bb2(args:List PV):Tr:=EP (B8 [[0],[0]] args)
def OW:List PV->Tr
 | [.s (.str s),.s (.str p)]=>.need (A3 (b8 s)) (.ret (.tup [.s (.str (Gd s p)),.s (.bool (o7 p s))]) [])
 | _=>.fail
def Ak5(args:List PV):Tr:=OW (B8 [[0],[0]] args)
def RD:List PV->Tr
 | [.s (.str s),.s (.str p)]=>.need (A3 (b8 s)) (.ret (.s (.int .i64 (x4 s p))) [])
 | _=>.fail
def FT(args:List PV):Tr:=RD (B8 [[0],[0]] args)
def RA:List PV->Tr
 | [.s (.str s),.s (.str p)]=>.need ((b8 p)==1) (.ret (.s (.int .i64 (↑(List.count (b9 p 0 0) s):Int))) [])
 | _=>.fail
def Am0(args:List PV):Tr:=RA (B8 [[0],[0]] args)
def EE:List PV->Tr
 | [.s (.str s),.s (.int .i64 n)]=>.fail
 | _=>.fail
def Ji(args:List PV):Tr:=EE (B8 [[0],[0]] args)
def Xw:List PV->Tr
 | [.s (.str s),.s (.str p),.s (.int .i64 v),.s (.int .i64 n)]=>.need (A3 (b8 s)) (.need ((b8 p)==1) (.need (v==(0:Int)) (.need (n==((-1):Int)) (.ret (.s (.sl false false 1 (D4 (pcs (b9 p 0 0) s)))) []))))
 | _=>.fail
def XJ(args:List PV):Tr:=Xw (B8 [[0],[0],[0],[0]] args)
def Yn:List PV->Tr
 | [.s (.str s),.s (.str p)]=>.need (A3 (b8 s)) (.need ((b8 p)==1) (.ret (.s (.sl false false 1 (D4 (pcs (b9 p 0 0) s)))) []))
 | _=>.fail
def Uh(args:List PV):Tr:=Yn (B8 [[0],[0]] args)
def PM:List PV->Tr
 | [.s (.int .i64 n)]=>.need (ltN n 4294967296) (.ret (.s (.str (j5 (a8 n)))) [])
 | _=>.fail
def Ak9(args:List PV):Tr:=PM (B8 [[0]] args)
def PO:List PV->Tr
 | [.s (.str s)]=>.need (A3 (b8 s)) (.ret (.s (.str (B6 s))) [])
 | _=>.fail
def Al0(args:List PV):Tr:=PO (B8 [[0]] args)
def PG:List PV->Tr
 | [.s (.str s)]=>.need (A3 (b8 s)) (.ret (.s (.bool (Bn s))) [])
 | _=>.fail
def Ak7(args:List PV):Tr:=PG (B8 [[0]] args)
def OY:List PV->Tr
 | [.s (.str s),.s (.int .i64 base)]=>.need (A3 (b8 s)) (.need (ltN base 17) (.ret (.tup [.s (.int .i64 (↑(M0 (E7 (a8 base) 0 s)):Int)),.s (.bool (j2 (E7 (a8 base) 0 s)))]) []))
 | _=>.fail
def OX(args:List PV):Tr:=OY (B8 [[0],[0]] args)
def Al1:List PV->Tr
 | [.s (.str s)]=>.need (A3 (b8 s)) (.ret (.tup [.s (.int .i64 (↑(M0 (Ad s)):Int)),.s (.bool (j2 (Ad s)))]) [])
 | _=>.fail
def B15(args:List PV):Tr:=Al1 (B8 [[0]] args)
def EU:List PV->Tr
 | [.s (.str s)]=>.need (A3 (b8 s)) (.ret (.s (.sl false false 1 (D4 (C8 s)))) [])
 | _=>.fail
def PY(args:List PV):Tr:=EU (B8 [[0]] args)
def Rm:List PV->Tr
 | [.s (.str s)]=>.need (A3 (b8 s)) (.ret (.s (.bool (G0 s))) [])
 | _=>.fail
def Pk(args:List PV):Tr:=Rm (B8 [[0]] args)
def QC:List PV->Tr
 | [.s (.str s)]=>.need (A3 (b8 s)) (.ret (.tup [.s (.int .u32 (↑(M0 (pnB s)):Int)),.s (.bool (j2 (pnB s)))]) [])
 | _=>.fail
def B17(args:List PV):Tr:=QC (B8 [[0]] args)
def Am6:List PV->Tr
 | [.s (.str s)]=>.need (A3 (b8 s)) (.ret (.tup [.s (.int .u32 (↑(M0 (v4B s)):Int)),.s (.bool (j2 (v4B s)))]) [])
 | _=>.fail
def C61(args:List PV):Tr:=Am6 (B8 [[0]] args)
def Am5:List PV->Tr
 | [.s (.int .u32 v)]=>.need (ltN v 4294967296) (.ret (.s (.str (Hh (a8 v)))) [])
 | _=>.fail
def C60(args:List PV):Tr:=Am5 (B8 [[0]] args)
def Rn:List PV->Tr
 | [.s (.str s)]=>.need (A3 (b8 s)) (.ret (.s (.bool ((not (j8 s))&&(j2 (E7 10 0 s))))) [])
 | _=>.fail
def LT(args:List PV):Tr:=Rn (B8 [[0]] args)
def QL:List PV->Tr
 | [.s (.str s)]=>.need (A3 (b8 s)) (.ret (.s (.str (B6 s))) [])
 | _=>.fail
def Al7(args:List PV):Tr:=QL (B8 [[0]] args)
def Yi:List PV->Tr
 | [.s (.str s),.s (.int .u8 c)]=>.need (A3 (b8 s)) (.need (inR c 256) (.ret (.s (.sl false false 1 (D4 (pcs (u8n c) s)))) []))
 | _=>.fail
def Jj(args:List PV):Tr:=Yi (B8 [[0],[0]] args)
def Ak6:List PV->Tr
 | [.s (.int .i64 n)]=>.need (ltN n 4294967296) (.ret (.s (.str (j5 (a8 n)))) [])
 | _=>.fail
def Xv(args:List PV):Tr:=Ak6 (B8 [[0]] args)
def QH:List PV->Tr
 | [.s (.int .u8 b)]=>.need (inR b 256) (.ret (.s (.int .i64 (↑(dig (u8n b)):Int))) [])
 | _=>.fail
def B19(args:List PV):Tr:=QH (B8 [[0]] args)
def QN:List PV->Tr
 | [.s (.str s)]=>.need (A3 (b8 s)) (.ret (.tup [.s (.int .i64 (↑(M0 (Ad s)):Int)),.s (.bool (j2 (Ad s)))]) [])
 | _=>.fail
def Al8(args:List PV):Tr:=QN (B8 [[0]] args)
def Yf:List PV->Tr
 | [.s (.str s)]=>.need (A3 (b8 s)) (.ret (.s (.sl false false 1 (D4 (C8 s)))) [])
 | _=>.fail
def FH(args:List PV):Tr:=Yf (B8 [[0]] args)
def No:List PV->Tr
 | [.s (.str s)]=>.need (A3 (b8 s)) (.ret (.s (.bool (G0 s))) [])
 | _=>.fail
def Rq(args:List PV):Tr:=No (B8 [[0]] args)
def FJ:List PV->Tr
 | [.s (.str s)]=>.need (A3 (b8 s)) (.ret (.tup [.s (.int .u32 (↑(M0 (pnB s)):Int)),.s (.bool (j2 (pnB s)))]) [])
 | _=>.fail
def Bc4(args:List PV):Tr:=FJ (B8 [[0]] args)
def QG:List PV->Tr
 | [.s (.str s)]=>.need (A3 (b8 s)) (.ret (.tup [.s (.int .i64 (↑(M0 (oct s)):Int)),.s (.bool (j2 (oct s)))]) [])
 | _=>.fail
def B18(args:List PV):Tr:=QG (B8 [[0]] args)
def QW:List PV->Tr
 | [.s (.str s)]=>.need (A3 (b8 s)) (.ret (.tup [.s (.int .u32 (↑(M0 (v4B s)):Int)),.s (.bool (j2 (v4B s)))]) [])
 | _=>.fail
def B24(args:List PV):Tr:=QW (B8 [[0]] args)
def QU:List PV->Tr
 | [.s (.int .u32 v)]=>.need (ltN v 4294967296) (.ret (.s (.str (Hh (a8 v)))) [])
 | _=>.fail
def B23(args:List PV):Tr:=QU (B8 [[0]] args)
def PC:List PV->Tr
 | [.s (.str s)]=>.need (A3 (b8 s)) (.ret (.tup [.s (.int .u16 (↑(M0 (grp s)):Int)),.s (.bool (j2 (grp s)))]) [])
 | _=>.fail
def B08(args:List PV):Tr:=PC (B8 [[0]] args)
def EH:List PV->Tr
 | [.s (.str s),.s (.bool last)]=>.need (A3 (b8 s)) (.ret (.tup [.s (.sl (j8 (gvs s last)) (j8 (gvs s last)) 1 (C9 (gvs s last))),.s (.bool (j2 (P0 s last)))]) [])
 | _=>.fail
def Ba9(args:List PV):Tr:=EH (B8 [[0],[0]] args)
def Am9:List PV->Tr
 | [.s (.str s)]=>.need (A3 (b8 s)) (.ret (.tup [.agg [.s (.int .u16 (↑(v6c 0 s):Int)),.s (.int .u16 (↑(v6c 1 s):Int)),.s (.int .u16 (↑(v6c 2 s):Int)),.s (.int .u16 (↑(v6c 3 s):Int)),.s (.int .u16 (↑(v6c 4 s):Int)),.s (.int .u16 (↑(v6c 5 s):Int)),.s (.int .u16 (↑(v6c 6 s):Int)),.s (.int .u16 (↑(v6c 7 s):Int))],.s (.bool (j2 (v6B s)))]) [])
 | _=>.fail
def C64(args:List PV):Tr:=Am9 (B8 [[0]] args)
def GF:List PV->Tr
 | [.agg [.s (.int .u16 a),.s (.int .u16 b),.s (.int .u16 c),.s (.int .u16 d),.s (.int .u16 e),.s (.int .u16 f),.s (.int .u16 g),.s (.int .u16 h)]]=>.need (ok8 a b c d e f g h) (.ret (.tup [.s (.int .i64 (↑((zGo (n8 a b c d e f g h) 0 0 0)).1:Int)),.s (.int .i64 (↑((zGo (n8 a b c d e f g h) 0 0 0)).2:Int))]) [])
 | _=>.fail
def Bd3(args:List PV):Tr:=GF (B8 [[0,0,0,0,0,0,0,0]] args)
def B29:List PV->Tr
 | [.s (.int .u64 x)]=>.need (x==(16:Int)) (.ret (.s (.int .i64 (4:Int))) [])
 | _=>.fail
def C79(args:List PV):Tr:=B29 (B8 [[0]] args)
def EL:List PV->Tr
 | [.s (.int .i64 x)]=>.need (x==(16:Int)) (.ret (.s (.bool true)) [])
 | _=>.fail
def PL(args:List PV):Tr:=EL (B8 [[0]] args)
def EF:List PV->Tr
 | [.s (.sl c a 0 ds),.s (.int .u64 v),.s (.int .i64 b),.s (.bool neg),.s (.bool app)]=>.need (ltN v 65536) (.need (b==(16:Int)) (.need (not neg) (.need (not app) (.ret (.tup [.s (.sl true true 1 List.nil),.s (.str (R2 (a8 v)))]) []))))
 | _=>.fail
def PA(args:List PV):Tr:=EF (B8 [[0],[0],[0],[0],[0]] args)
def EK:List PV->Tr
 | [.s (.int .u64 v),.s (.int .i64 b)]=>.need (ltN v 65536) (.need (b==(16:Int)) (.ret (.s (.str (R2 (a8 v)))) []))
 | _=>.fail
def PK(args:List PV):Tr:=EK (B8 [[0],[0]] args)
def PB:List PV->Tr
 | [.s (.int .u64 v),.s (.int .i64 b)]=>.need (ltN v 65536) (.need (b==(16:Int)) (.ret (.s (.str (R2 (a8 v)))) []))
 | _=>.fail
def B07(args:List PV):Tr:=PB (B8 [[0],[0]] args)
def FX:List PV->Tr
 | [.s (.sl b a 1 l),.s (.str p)]=>.need (s9 l isS) (.need (A3 (b8 (ac0 (o9 elS l) p))) (.need (A3 (b8 l)) (.ret (.s (.str (ac0 (o9 elS l) p))) [])))
 | _=>.fail
def RG(args:List PV):Tr:=FX (B8 [[1],[0]] args)
def RC:List PV->Tr
 | [.s (.str s),.s (.str p)]=>.need (A3 (b8 s)) (.ret (.tup [.s (.str ((s8 s p)).1),.s (.str (((s8 s p)).2).1),.s (.bool (((s8 s p)).2).2)]) [])
 | _=>.fail
def Am1(args:List PV):Tr:=RC (B8 [[0],[0]] args)
def Am8:List PV->Tr
 | [.s (.sl b a 1 l)]=>.need (s9 l Vr) (.need (p7 (b8 l) 8) (.ret (.s (.str (S8 (o9 elN l)))) []))
 | _=>.fail
def C63(args:List PV):Tr:=Am8 (B8 [[1]] args)
def Am7:List PV->Tr
 | [.agg [.s (.int .u16 a),.s (.int .u16 b),.s (.int .u16 c),.s (.int .u16 d),.s (.int .u16 e),.s (.int .u16 f),.s (.int .u16 g),.s (.int .u16 h)]]=>.need (ok8 a b c d e f g h) (.ret (.s (.str (Nd (n8 a b c d e f g h)))) [])
 | _=>.fail
def C62(args:List PV):Tr:=Am7 (B8 [[0,0,0,0,0,0,0,0]] args)
def QJ:List PV->Tr
 | [.s (.str s)]=>.need (A3 (b8 s)) (.ret (.tup [.s (.int .u16 (↑(M0 (grp s)):Int)),.s (.bool (j2 (grp s)))]) [])
 | _=>.fail
def B20(args:List PV):Tr:=QJ (B8 [[0]] args)
def EY:List PV->Tr
 | [.s (.str s),.s (.bool last)]=>.need (A3 (b8 s)) (.ret (.tup [.s (.sl (j8 (gvs s last)) (j8 (gvs s last)) 1 (C9 (gvs s last))),.s (.bool (j2 (P0 s last)))]) [])
 | _=>.fail
def Bb7(args:List PV):Tr:=EY (B8 [[0],[0]] args)
def Ro:List PV->Tr
 | [.s (.str s)]=>.need (A3 (b8 s)) (.ret (.s (.int .i64 (HL s))) [])
 | _=>.fail
def LU(args:List PV):Tr:=Ro (B8 [[0]] args)
def QY:List PV->Tr
 | [.s (.str s)]=>.need (A3 (b8 s)) (.ret (.tup [.agg [.s (.int .u16 (↑(v6c 0 s):Int)),.s (.int .u16 (↑(v6c 1 s):Int)),.s (.int .u16 (↑(v6c 2 s):Int)),.s (.int .u16 (↑(v6c 3 s):Int)),.s (.int .u16 (↑(v6c 4 s):Int)),.s (.int .u16 (↑(v6c 5 s):Int)),.s (.int .u16 (↑(v6c 6 s):Int)),.s (.int .u16 (↑(v6c 7 s):Int))],.s (.bool (j2 (v6B s)))]) [])
 | _=>.fail
def B26(args:List PV):Tr:=QY (B8 [[0]] args)
def FC:List PV->Tr
 | [.s (.int .u16 v)]=>.need (ltN v 65536) (.ret (.s (.str (R2 (a8 v)))) [])
 | _=>.fail
def Bb9(args:List PV):Tr:=FC (B8 [[0]] args)
def QX:List PV->Tr
 | [.agg [.s (.int .u16 a),.s (.int .u16 b),.s (.int .u16 c),.s (.int .u16 d),.s (.int .u16 e),.s (.int .u16 f),.s (.int .u16 g),.s (.int .u16 h)]]=>.need (ok8 a b c d e f g h) (.ret (.s (.str (Nd (n8 a b c d e f g h)))) [])
 | _=>.fail
def B25(args:List PV):Tr:=QX (B8 [[0,0,0,0,0,0,0,0]] args)
def Yd:List PV->Tr
 | [.s (.int .i64 n)]=>.ret (.s (.bool (ptI n))) []
 | _=>.fail
def Nn(args:List PV):Tr:=Yd (B8 [[0]] args)
def Yc:List PV->Tr
 | [.s (.int .i64 d),.s (.int .i64 c),.s (.bool f)]=>.need (ltN d 1152921504606846976) (.need (ltN c 1000000) (.need (ltI (0:Int) c) (.ret (.s (.int .i64 (↑(P4 (a8 d) (a8 c) f):Int))) [])))
 | _=>.fail
def Nm(args:List PV):Tr:=Yc (B8 [[0],[0],[0]] args)
def QA:List PV->Tr
 | [.s (.int .i64 d)]=>.need (ltN d 36) (.ret (.s (.int .u8 (↑(ah6 (Ac (a8 d))):Int))) [])
 | _=>.fail
def Al2(args:List PV):Tr:=QA (B8 [[0]] args)
def QE:List PV->Tr
 | [.s (.int .u8 b)]=>.need (inR b 256) (.ret (.s (.int .i64 (D8 (u8n b)))) [])
 | _=>.fail
def Al4(args:List PV):Tr:=QE (B8 [[0]] args)
def QD:List PV->Tr
 | [.s (.int .i64 b)]=>.ret (.fnr (x8 188) [] [.ptr 1 0 0,.ptr 0 0 0]) [.box [.s (.int .i64 b)],.box [.s (.int .i64 (0:Int))]]
 | _=>.fail
def EV(args:List PV):Tr:=QD (B8 [[0]] args)
def Pl:List PV->List Blk->Tr
 | [.ptr 0 0 0,.ptr 1 0 0],[.box [.s (.int .i64 k)],.box [.s (.int .i64 b)]]=>.need (ltN k 1000000000000) (.need (ltN b 1000000) (.ret (.s (.int .i64 (K4 k b))) [.box [.s (.int .i64 (Int.add k (36:Int)))],.box [.s (.int .i64 b)]]))
 | _,_=>.fail
def PX:List PV->List Blk->Tr
 | [.fl 0,.s (.int .i64 q),.s (.int .i64 b)],[.arr z 5 1 l]=>.need (ltN q 1152921504606846976) (.need (ltN b 1000000) (.need (p7 (b8 l) 100000) (.ret (.fl 0) [.arr z 5 1 (List.append l (o9 D7 (O4 (a8 q) 0 (a8 b))))])))
 | _,_=>.fail
def QB:List PV->Tr
 | [.s (.sl b a 1 p)]=>.need (s9 p Mx) (.ret (.tup [.s (.str ((V2 (o9 elI p))).1),.s (.int .i64 (↑((V2 (o9 elI p))).2:Int))]) [])
 | _=>.fail
def Al3(args:List PV):Tr:=QB (B8 [[1]] args)
def RF:List PV->List Blk->Tr
 | [.fl 0,.s (.int .i64 i),.fl 1],[.arr z 3 1 l,.arr false 3 1 [[.int .i64 n]]]=>.need (ltN i (Nat.add (b8 l) 1)) (.need (p7 (b8 l) 100000) (.ret (.fl 0) [.arr z 3 1 (Lh l (a8 i) n),.arr false 3 1 [[.int .i64 n]]]))
 | _,_=>.fail
def OZ:List PV->List Blk->Tr
 | [.ptr 0 0 0],[.box [.s (.str a),.fl 1,.s (.int .i64 n),.s (.int .i64 i),.s (.int .i64 b),.s (.bool c)],.arr z 3 1 l]=>.need (A3 (b8 a)) (.need (ltN b 1000000) (.need (ltN i 1099511627777) (.ret (.s (.int .i64 (IS b a i))) [.box [.s (.str (IU b a i)),.fl 1,.s (.int .i64 n),.s (.int .i64 (Tb b a i)),.s (.int .i64 b),.s (.bool c)],.arr z 3 1 l])))
 | _,_=>.fail
def DB:List PV->List Blk->Tr
 | [.ptr 0 0 0],[.box [.s (.str a),.fl 1,.s (.int .i64 n),.s (.int .i64 i),.s (.int .i64 b),.s (.bool c)],.arr z 3 1 l]=>.need (A3 (b8 a)) (.need (ltN b 1000000) (.need (ltN i 1099511627777) (.need (ltN n 1152921504606846976) (.need (p7 (b8 l) 100000) (.ret (.s (.int .i64 ((E9 (DS.mk a n i b c l))).1)) [.box [.s (.str (DS.rest ((E9 (DS.mk a n i b c l))).2)),.fl 1,.s (.int .i64 (DS.n ((E9 (DS.mk a n i b c l))).2)),.s (.int .i64 (DS.i ((E9 (DS.mk a n i b c l))).2)),.s (.int .i64 (DS.b ((E9 (DS.mk a n i b c l))).2)),.s (.bool (DS.st ((E9 (DS.mk a n i b c l))).2))],.arr z 3 1 (DS.l ((E9 (DS.mk a n i b c l))).2)])))))
 | _,_=>.fail
def Xz:List PV->Tr
 | [.s (.str s),.s (.int .u8 c)]=>.need (A3 (b8 s)) (.need (inR c 256) (.ret (.s (.int .i64 (K9 (u8n c) s))) []))
 | _=>.fail
def XL(args:List PV):Tr:=Xz (B8 [[0],[0]] args)
def EO:List PV->Tr
 | [.s (.str s),.s (.int .u8 c)]=>.need (A3 (b8 s)) (.need (inR c 256) (.ret (.s (.int .i64 (K9 (u8n c) s))) []))
 | _=>.fail
def DD(args:List PV):Tr:=EO (B8 [[0],[0]] args)
def PZ:List PV->Tr
 | [.s (.str s)]=>.need (A3 (b8 s)) (.ret (.tup [.s (.sl (j8 ((M7 s)).1) (j8 ((M7 s)).1) 1 (Lo ((M7 s)).1)),.s (.int .i64 (↑((M7 s)).2:Int))]) [])
 | _=>.fail
def B16(args:List PV):Tr:=PZ (B8 [[0]] args)
def XH:List PV->Tr
 | [.s (.str t)]=>.fail
 | _=>.fail
def Uc(args:List PV):Tr:=XH (B8 [[0]] args)
def ER:List PV->Tr
 | [.s (.str t),.s (.str p),.s (.int .i64 n)]=>.ret (.fnr (x8 152) [] [.ptr 1 0 0,.ptr 0 0 0,.ptr 2 0 0]) [.box [.s (.str t)],.box [.s (.str p)],.box [.s (.int .i64 n)]]
 | _=>.fail
def PS(args:List PV):Tr:=ER (B8 [[0],[0],[0]] args)
def RH:List PV->Tr
 | [.s (.str t),.s (.str p)]=>.ret (.fnr (x8 152) [] [.ptr 1 0 0,.ptr 0 0 0,.ptr 2 0 0]) [.box [.s (.str t)],.box [.s (.str p)],.box [.s (.int .i64 (0:Int))]]
 | _=>.fail
def Am2(args:List PV):Tr:=RH (B8 [[0],[0]] args)
def DF:List PV->List Blk->Option (Bool × List (List PV))
 | [.yd,.ptr 0 0 0,.ptr 1 0 0,.ptr 2 0 0],[.box [.s (.str p)],.box [.s (.str t)],.box [.s (.int .i64 n)]]=>some (((A3 (b8 t))&&(((b8 p)==1)&&(n==(0:Int)))),o9 (λ(x:By)=>([.s (.str x)]:List PV)) (pcs (b9 p 0 0) t))
 | _,_=>none
def Yg:List PV->Tr
 | [.s (.int .i64 n)]=>.ret (.s (.bool (ptI n))) []
 | _=>.fail
def Ud(args:List PV):Tr:=Yg (B8 [[0]] args)
def Ye:List PV->Tr
 | [.s (.int .i64 d),.s (.int .i64 c),.s (.bool f)]=>.need (ltN d 1152921504606846976) (.need (ltN c 1000000) (.need (ltI (0:Int) c) (.ret (.s (.int .i64 (↑(P4 (a8 d) (a8 c) f):Int))) [])))
 | _=>.fail
def EW(args:List PV):Tr:=Ye (B8 [[0],[0],[0]] args)
def QP:List PV->Tr
 | [.s (.int .i64 k),.s (.int .i64 b)]=>.need (ltN k 10000000000) (.need (ltN b 1000000) (.ret (.s (.int .i64 (K4 (Int.mul (36:Int) k) b))) []))
 | _=>.fail
def Al9(args:List PV):Tr:=QP (B8 [[0],[0]] args)
def EX:List PV->Tr
 | [.s (.int .i64 d)]=>.need (ltN d 36) (.ret (.s (.int .u8 (↑(ah6 (Ac (a8 d))):Int))) [])
 | _=>.fail
def Bb6(args:List PV):Tr:=EX (B8 [[0]] args)
def QZ:List PV->Tr
 | [.s (.int .u8 b)]=>.need (inR b 256) (.ret (.s (.int .i64 (D8 (u8n b)))) [])
 | _=>.fail
def B27(args:List PV):Tr:=QZ (B8 [[0]] args)
def QI:List PV->Tr
 | [.s (.sl b a 1 p)]=>.need (s9 p Mx) (.ret (.tup [.s (.str ((V2 (o9 elI p))).1),.s (.int .i64 (↑((V2 (o9 elI p))).2:Int))]) [])
 | _=>.fail
def Al5(args:List PV):Tr:=QI (B8 [[1]] args)
def FI:List PV->Tr
 | [.s (.str s)]=>.need (A3 (b8 s)) (.ret (.tup [.s (.sl (j8 ((M7 s)).1) (j8 ((M7 s)).1) 1 (Lo ((M7 s)).1)),.s (.int .i64 (↑((M7 s)).2:Int))]) [])
 | _=>.fail
def Bc3(args:List PV):Tr:=FI (B8 [[0]] args)
def EQ:List PV->Tr
 | [.s (.str s)]=>.need (A3 (b8 s)) (.ret (.s (.bool (Dg s))) [])
 | _=>.fail
def Bb3(args:List PV):Tr:=EQ (B8 [[0]] args)
def PW:List PV->Tr
 | [.s (.str s)]=>.need (A3 (b8 s)) (.ret (.s (.bool (K5 s))) [])
 | _=>.fail
def PU(args:List PV):Tr:=PW (B8 [[0]] args)
def Yr:List PV->Tr
 | [.s (.str s)]=>.need (A3 (b8 s)) (.ret (.s (.bool (j2 (Cv s)))) [])
 | _=>.fail
def XS(args:List PV):Tr:=Yr (B8 [[0]] args)
def Yo:List PV->Tr
 | [.s (.str s)]=>.need (A3 (b8 s)) (.ret (.s (.int .i64 (↑(Lib.runeCountL s):Int))) [])
 | _=>.fail
def XQ(args:List PV):Tr:=Yo (B8 [[0]] args)
def PN:List PV->Tr
 | [.s (.str s)]=>.need (A3 (b8 s)) (.ret (.tup [.s (.str ((I5 s)).1),.s (.int .i64 (↑((I5 s)).2:Int))]) [])
 | _=>.fail
def B13(args:List PV):Tr:=PN (B8 [[0]] args)
def QO:List PV->Tr
 | [.s (.str s)]=>.need (A3 (b8 s)) (.ret (.tup [.s (.sl (j8 (Qw s)) (j8 (Qw s)) 1 (Lo (Qw s))),.s (.bool (j2 (Cv s)))]) [])
 | _=>.fail
def B22(args:List PV):Tr:=QO (B8 [[0]] args)
def FK:List PV->Tr
 | [.s (.str s)]=>.need (A3 (b8 s)) (.ret (.s (.bool (Dg s))) [])
 | _=>.fail
def Bc5(args:List PV):Tr:=FK (B8 [[0]] args)
def FG:List PV->Tr
 | [.s (.str s)]=>.need (A3 (b8 s)) (.ret (.s (.bool (K5 s))) [])
 | _=>.fail
def QM(args:List PV):Tr:=FG (B8 [[0]] args)
def FF:List PV->Tr
 | [.s (.str s)]=>.need (A3 (b8 s)) (.ret (.tup [.s (.str ((I5 s)).1),.s (.int .i64 (↑((I5 s)).2:Int))]) [])
 | _=>.fail
def Bc2(args:List PV):Tr:=FF (B8 [[0]] args)
def PE:List PV->Tr
 | [.s (.int .u8 b)]=>.need (inR b 256) (.ret (.s (.int .i64 (El (u8n b)))) [])
 | _=>.fail
def B10(args:List PV):Tr:=PE (B8 [[0]] args)
def PD:List PV->Tr
 | [.s (.str s)]=>.need (A3 (b8 s)) (.ret (.tup [.s (.str (Et s)),.s (.bool (j2 (R1 s)))]) [])
 | _=>.fail
def B09(args:List PV):Tr:=PD (B8 [[0]] args)
def EI:List PV->Tr
 | [.s (.str s)]=>.need (A3 (b8 s)) (.need (B82 s) (.ret (.tup [.agg [.s (.int .i64 (↑(B2.kind ((O9 s)).1):Int)),.s (.str (B2.name ((O9 s)).1)),.s (.int .u32 (↑(B2.v4 ((O9 s)).1):Int)),.s (.int .u16 (↑(b9 (B2.v6 ((O9 s)).1) 0 0):Int)),.s (.int .u16 (↑(b9 (B2.v6 ((O9 s)).1) 1 0):Int)),.s (.int .u16 (↑(b9 (B2.v6 ((O9 s)).1) 2 0):Int)),.s (.int .u16 (↑(b9 (B2.v6 ((O9 s)).1) 3 0):Int)),.s (.int .u16 (↑(b9 (B2.v6 ((O9 s)).1) 4 0):Int)),.s (.int .u16 (↑(b9 (B2.v6 ((O9 s)).1) 5 0):Int)),.s (.int .u16 (↑(b9 (B2.v6 ((O9 s)).1) 6 0):Int)),.s (.int .u16 (↑(b9 (B2.v6 ((O9 s)).1) 7 0):Int))],.s (.int .i64 (↑((O9 s)).2:Int))]) []))
 | _=>.fail
def Bb0(args:List PV):Tr:=EI (B8 [[0]] args)
def Xy:List PV->Tr
 | [.s (.str s)]=>.need (A3 (b8 s)) (.ret (.tup [.agg [.s (.int .i64 (↑(B2.kind ((C7 s)).1):Int)),.s (.str (B2.name ((C7 s)).1)),.s (.int .u32 (↑(B2.v4 ((C7 s)).1):Int)),.s (.int .u16 (↑(b9 (B2.v6 ((C7 s)).1) 0 0):Int)),.s (.int .u16 (↑(b9 (B2.v6 ((C7 s)).1) 1 0):Int)),.s (.int .u16 (↑(b9 (B2.v6 ((C7 s)).1) 2 0):Int)),.s (.int .u16 (↑(b9 (B2.v6 ((C7 s)).1) 3 0):Int)),.s (.int .u16 (↑(b9 (B2.v6 ((C7 s)).1) 4 0):Int)),.s (.int .u16 (↑(b9 (B2.v6 ((C7 s)).1) 5 0):Int)),.s (.int .u16 (↑(b9 (B2.v6 ((C7 s)).1) 6 0):Int)),.s (.int .u16 (↑(b9 (B2.v6 ((C7 s)).1) 7 0):Int))],.s (.int .i64 (↑((C7 s)).2:Int))]) [])
 | _=>.fail
def XK(args:List PV):Tr:=Xy (B8 [[0]] args)
def Ak8:List PV->Tr
 | [.s (.str s)]=>.need (A3 (b8 s)) (.ret (.s (.bool (Ee s))) [])
 | _=>.fail
def C58(args:List PV):Tr:=Ak8 (B8 [[0]] args)
def PJ:List PV->Tr
 | [.agg [.s (.int .i64 j),.s (.str i),.s (.int .u32 v4),.s (.int .u16 a),.s (.int .u16 b),.s (.int .u16 c),.s (.int .u16 d),.s (.int .u16 e),.s (.int .u16 f),.s (.int .u16 g),.s (.int .u16 h)]]=>.need (A3 (b8 i)) (.need (ltN v4 4294967296) (.need (ok8 a b c d e f g h) (.ret (.s (.bool (T8 (mkH j i v4 (n8 a b c d e f g h))))) [])))
 | _=>.fail
def B12(args:List PV):Tr:=PJ (B8 [[0,0,0,0,0,0,0,0,0,0,0]] args)
def PH:List PV->Tr
 | [.agg [.s (.int .i64 j),.s (.str i),.s (.int .u32 v4),.s (.int .u16 a),.s (.int .u16 b),.s (.int .u16 c),.s (.int .u16 d),.s (.int .u16 e),.s (.int .u16 f),.s (.int .u16 g),.s (.int .u16 h)]]=>.need (A3 (b8 i)) (.need (ltN v4 4294967296) (.need (ok8 a b c d e f g h) (.ret (.s (.str (Iv (mkH j i v4 (n8 a b c d e f g h))))) [])))
 | _=>.fail
def B11(args:List PV):Tr:=PH (B8 [[0,0,0,0,0,0,0,0,0,0,0]] args)
def Al6:List PV->Tr
 | [.s (.int .u8 b)]=>.need (inR b 256) (.ret (.s (.int .i64 (El (u8n b)))) [])
 | _=>.fail
def C59(args:List PV):Tr:=Al6 (B8 [[0]] args)
def EZ:List PV->Tr
 | [.s (.str s)]=>.need (A3 (b8 s)) (.ret (.tup [.s (.str (Et s)),.s (.bool (j2 (R1 s)))]) [])
 | _=>.fail
def Bb8(args:List PV):Tr:=EZ (B8 [[0]] args)
def Rp:List PV->Tr
 | [.s (.str s)]=>.need (A3 (b8 s)) (.ret (.tup [.agg [.s (.int .i64 (↑(B2.kind ((C7 s)).1):Int)),.s (.str (B2.name ((C7 s)).1)),.s (.int .u32 (↑(B2.v4 ((C7 s)).1):Int)),.s (.int .u16 (↑(b9 (B2.v6 ((C7 s)).1) 0 0):Int)),.s (.int .u16 (↑(b9 (B2.v6 ((C7 s)).1) 1 0):Int)),.s (.int .u16 (↑(b9 (B2.v6 ((C7 s)).1) 2 0):Int)),.s (.int .u16 (↑(b9 (B2.v6 ((C7 s)).1) 3 0):Int)),.s (.int .u16 (↑(b9 (B2.v6 ((C7 s)).1) 4 0):Int)),.s (.int .u16 (↑(b9 (B2.v6 ((C7 s)).1) 5 0):Int)),.s (.int .u16 (↑(b9 (B2.v6 ((C7 s)).1) 6 0):Int)),.s (.int .u16 (↑(b9 (B2.v6 ((C7 s)).1) 7 0):Int))],.s (.int .i64 (↑((C7 s)).2:Int))]) [])
 | _=>.fail
def LV(args:List PV):Tr:=Rp (B8 [[0]] args)
def QK:List PV->Tr
 | [.s (.str s)]=>.need (A3 (b8 s)) (.ret (.s (.bool (Ee s))) [])
 | _=>.fail
def B21(args:List PV):Tr:=QK (B8 [[0]] args)
def FE:List PV->Tr
 | [.agg [.s (.int .i64 j),.s (.str i),.s (.int .u32 v4),.s (.int .u16 a),.s (.int .u16 b),.s (.int .u16 c),.s (.int .u16 d),.s (.int .u16 e),.s (.int .u16 f),.s (.int .u16 g),.s (.int .u16 h)]]=>.need (A3 (b8 i)) (.need (ltN v4 4294967296) (.need (ok8 a b c d e f g h) (.ret (.s (.bool (T8 (mkH j i v4 (n8 a b c d e f g h))))) [])))
 | _=>.fail
def Bc1(args:List PV):Tr:=FE (B8 [[0,0,0,0,0,0,0,0,0,0,0]] args)
def FD:List PV->Tr
 | [.agg [.s (.int .i64 j),.s (.str i),.s (.int .u32 v4),.s (.int .u16 a),.s (.int .u16 b),.s (.int .u16 c),.s (.int .u16 d),.s (.int .u16 e),.s (.int .u16 f),.s (.int .u16 g),.s (.int .u16 h)]]=>.need (A3 (b8 i)) (.need (ltN v4 4294967296) (.need (ok8 a b c d e f g h) (.ret (.s (.str (Iv (mkH j i v4 (n8 a b c d e f g h))))) [])))
 | _=>.fail
def Bc0(args:List PV):Tr:=FD (B8 [[0,0,0,0,0,0,0,0,0,0,0]] args)
def Ya:List PV->Tr
 | [.s (.int .i64 n),.s (.sl b a 1 l)]=>.need (s9 l isS) (.need (A3 (b8 l)) (.ret (.s (.bool (Mi n (o9 elS l)))) []))
 | _=>.fail
def XM(args:List PV):Tr:=Ya (B8 [[0],[1]] args)
end
section
variable {Z R : Type} (Y : Nat) (W : F7) (Q : Yh Z) (s : Z) (k : Out -> St Z -> Option R)
noncomputable def SO(Y:Nat):Cfg:=B4 Y [125] (A2 []) [] (A2 [(1,[6]),(0,[3,0,0])]) [] (A2 []) (some [6]) [] [] []
noncomputable def B89{R:Type}(Y:Nat)(d b:By)(a:Int)(c:By->By->Int->Option R):Option R:=c d b a
theorem B90(d:Nat)(a sep1 sepSave2):evC (SO Y) (d+1) Z Q 125 [pS a,pS sep1,pI sepSave2] [] s=B89 Y a sep1 sepSave2 (λa c b=>some (.fnr (x8 152) [] [.ptr 1 0 0,.ptr 0 0 0,.ptr 2 0 0],[.box [pS a],.box [pS c],.box [pI b]],s)):=by refine(evE (fn:=Tryz.f125) (by kernel_rfl)).trans ?_;generalize evC (SO Y) d=W;unfold B89;kernel_rfl
noncomputable def Ap3(Y:Nat):Cfg:=B4 Y [91] (A2 []) [(125,PS)] (A2 [(1,[4]),(0,[0,0])]) [] (A2 []) (some [4]) [] [] []
noncomputable def Db4{R:Type}(Y:Nat)(c a:By)(b:By->By->Option R):Option R:=b c a
theorem Cz5(d:Nat)(a sep1):evC (Ap3 Y) (d+1) Z Q 91 [pS a,pS sep1] [] s=Db4 Y a sep1 (λa b=>some (.fnr (x8 152) [] [.ptr 1 0 0,.ptr 0 0 0,.ptr 2 0 0],[.box [pS a],.box [pS b],.box [pI (0:Int)]],s)):=by refine(evE (fn:=Tryz.f91) (by kernel_rfl)).trans ?_;generalize evC (Ap3 Y) d=W;unfold Db4;kernel_rfl
noncomputable abbrev ME:Code:=C4 af0
noncomputable def Oa(Y:Nat):Cfg:=B4 Y [64] (A2 []) [(90,Pk),(91,Am2),(92,PU)] (A2 [(7,[2]),(6,[2]),(5,[2,13]),(4,[2,0]),(3,[2,9]),(2,[2]),(1,[0,1,7]),(0,[0,1])]) [90,92] (A2 [(0,[2]),(1,[2])]) (some [2]) [] [(152,DF)] []
noncomputable def DM{R:Type}(Y:Nat)(a:By)(xs:List By)(self:Unit->Option R)(c:Unit->Option R)(b:Unit->Option R):Option R:=cond (A3 a.length) (cond (not (K5 a)) (b ()) (self ())) none
noncomputable def IC{R:Type}(Y:Nat)(L:List By)(b:Unit->Option R)(c:Unit->Option R):Option R:=Di6 (α:=Unit->Option R) (λ_=>b ()) (λa xs self _=>DM Y a xs self  b c) L ()
theorem ZK{R:Type}(Y:Nat)(a:By)(xs:List By)(b:Unit->Option R)(c:Unit->Option R):IC Y (a::xs)  b c=DM Y a xs (λ_=>IC Y xs  b c)  b c:=rfl
theorem Bo0(L:List By):Al #[13] (gp [(2,.ptr 0 0 0),(9,.fnr (x8 152) [] [.bad,.bad,.bad])] 4) (bd (Oa Y) W Q (cd [1,1,0,1,0,0] ME)) (bd (Oa Y) W Q (cd [1,1,0,1,0,1] ME)) (L.map (λ(a:By)=>([pS a]:List PV))) [.box [pB false],.dead,.dead,.dead] s (rgK (gp [(2,.ptr 0 0 0),(9,.fnr (x8 152) [] [.bad,.bad,.bad])] 4) (λH=>Au H [2,1,3] [.box [.bad],.box [.bad],.box [.bad]]) k) =
 IC Y L  (λ_=>k .normal ⟨gp [(2,.ptr 0 0 0),(9,.fnr (x8 152) [] [.bad,.bad,.bad])] 4,[.box [pB false],.box [.bad],.box [.bad],.box [.bad]],s⟩) (λ_=>k .ret ⟨gp [(2,.ptr 0 0 0),(9,.fnr (x8 152) [] [.bad,.bad,.bad])] 4,[.box [pB false],.box [.bad],.box [.bad],.box [.bad]],s⟩):=by
 induction L with
 | nil=>rfl
 | cons a xs b=>rw[ZK];unfold DM;exact(j1 (by kernel_rfl) (A0 (A0 rfl b) rfl))
noncomputable def TU{R:Type}(Y:Nat)(a:By)(b:Unit->Option R)(c:Unit->Option R):Option R:=cond ((A3 a.length)&&((1==1)&&((0:Int)==0))) (IC Y (pcs (b9 ([46]:List UInt8) 0 0) a)  b c) none
abbrev ZJ(b:Code):Prop:=∀(k:Out->St Z->Option R) s0,A9 (Oa Y) W Q b ⟨gp [(2,.ptr 0 0 0),(9,.fnr (x8 152) [] [.ptr 2 0 0,.ptr 1 0 0,.ptr 3 0 0])] 4,[.box [pB false],.box [pS s0],.box [pS ([46]:List UInt8)],.box [pI (0:Int)]],s⟩ k=TU Y s0 (λ_=>k .normal ⟨gp [(2,.ptr 0 0 0),(9,.fnr (x8 152) [] [.bad,.bad,.bad])] 4,[.box [pB false],.box [.bad],.box [.bad],.box [.bad]],s⟩) (λ_=>k .ret ⟨gp [(2,.ptr 0 0 0),(9,.fnr (x8 152) [] [.bad,.bad,.bad])] 4,[.box [pB false],.box [.bad],.box [.bad],.box [.bad]],s⟩)
theorem Bn9:ZJ (R:=R) Y W Q s (cd [1,1,0,1,0] ME):=by intro k a;unfold TU;exact((Dh6 [1,1,0,1,0] (by kernel_rfl)).trans (by kernel_rfl)).trans (Av7 (Bo0 Y W Q s k (pcs (b9 ([46]:List UInt8) 0 0) a) ))
noncomputable def hvn{R:Type}(Y:Nat)(a:By)(b:Unit->Option R)(c:Bool->Bool->Option R):Option R:=cond (ltI 253 (a.length:Int)) (b ()) (cond (A3 a.length) (cond (G0 a) (b ()) (TU Y a (λ_=>c true true) (λ_=>c false false))) none)
theorem C95(a:Code)(c:ZJ (R:=PV × List Blk × Z) Y W Q s a)(b:By):A9 (Oa Y) W Q (cd [] (G5 [1,1,0,1,0] a ME)) ⟨[pS b]++tps 16,[],s⟩ (F5 (Oa Y) af0)=hvn Y b (λ_=>some (pB false,[.box [pB false]],s)) (λe d=>some (pB e,[.box [pB d],.box [.bad],.box [.bad],.box [.bad]],s)):=by unfold hvn;exact(j1 (by kernel_rfl) (A0 rfl (A0 (A0 rfl ((c (E3 0 (E2 (Oa Y) W Q (cd [1,1,1] ME) (F5 (Oa Y) af0))) b).trans (by kernel_rfl))) rfl)))
theorem C96(d:Nat)(name0):evC (Oa Y) (d+1) Z Q 64 [pS name0] [] s=hvn Y name0 (λ_=>some (pB false,[.box [pB false]],s)) (λb a=>some (pB b,[.box [pB a],.box [.bad],.box [.bad],.box [.bad]],s)):=
 (evE (fn:=af0) (by kernel_rfl)).trans (j1 (by kernel_rfl) (C95 Y (evC (Oa Y) d) Q s (cd [1,1,0,1,0] ME) (Bn9 Y (evC (Oa Y) d) Q s) name0))
noncomputable abbrev Ul:Code:=C4 ad7
noncomputable def Ah(Y:Nat):Cfg:=B4 Y [152] (A2 [(5,[0,0,0,0]),(1,[0,1])]) [(153,Uc),(154,FT)] (A2 [(10,[]),(9,[0,0,0,0]),(8,[0,0,0,0,3,34]),(7,[0,0,0,0,3,0]),(6,[0,0,0,0,3,25]),(5,[0,0,0,0,3]),(4,[0,1]),(3,[0,1,3,18]),(2,[0,1,3]),(1,[0,1,11]),(0,[0,0,0,0,7])]) [154] (A2 [(2,[0,1]),(3,[0,0,0,0]),(0,[]),(1,[0,1])]) (some []) [] [] []
noncomputable def KA{Z R:Type}(Q:Yh Z)(Y n:Nat)(d a:By)(c:Int)(s:Z)(b:By->By->Int->Z->Option R):Option R:=match n with|0=>none|n+1=>cond (ltI 0 (a.length:Int)) none (b d a c s)
theorem Ah8(n:Nat)(b c:By)(a:Int)(s:Z):C5 3 ((Ah Y).keep 1) (bd (Ah Y) W Q (cd [0,1,0,0,0,0] Ul)) n ⟨gp [(0,.yd),(1,.ptr 1 0 0)] 49,[.box [pS b],.box [pS c],.box [pI a]],s⟩ k =
 KA Q Y n b c a s (λb c a s=>k (.exit 0) ⟨gp [] 52,[.box [pS b],.box [pS c],.box [pI a]],s⟩):=by
 induction n generalizing b c a s with
 | zero=>rfl
 | succ n d=>rw[KA];kernel_rfl
noncomputable def S6{Z R:Type}(Q:Yh Z)(Y n:Nat)(c a:By)(g:Int)(s:Z)(i:By->By->Int->Z->Option R)(j:By->By->Int->Z->Option R):Option R:=match n with
 | 0=>none
 | n+1=>
  cond (A3 a.length)
   (cond (ltI (x4 a c) (0:Int))
   (i c a g s)
   (vl (A1 ((x4 a c)+g)) λe=>
    cond (I2 0 e a.length)
    (ydK (Q [pS (cut a 0 e)] s) λd b=>
     (cond (not d)
     (j c a g b)
     (vl (A1 ((x4 a c)+(c.length:Int))) λf=>
      cond (I2 f (a.length:Int) a.length)
      (vl (cut a f (a.length:Int)) λh=>
       S6 Q Y n c h g b i j)
      none)))
    none))
   none
theorem Ah9(n:Nat)(b c:By)(a:Int)(s:Z):C5 3 ((Ah Y).keep 5) (bd (Ah Y) W Q (cd [1,0,0,0] Ul)) n ⟨gp [(0,.yd),(0,.ptr 0 0 0),(0,.ptr 1 0 0),(0,.ptr 2 0 0)] 48,[.box [pS b],.box [pS c],.box [pI a]],s⟩ k =
 S6 Q Y n b c a s (λb c a s=>k (.exit 2) ⟨gp [(0,.yd),(1,.ptr 1 0 0)] 49,[.box [pS b],.box [pS c],.box [pI a]],s⟩) (λb c a s=>k .ret ⟨gp [] 52,[.box [pS b],.box [pS c],.box [pI a]],s⟩):=by
 induction n generalizing b c a s with
 | zero=>rfl
 | succ n d=>rw[S6];simp only[<-d];kernel_rfl
noncomputable def Ah7{Z R:Type}(Q:Yh Z)(Y:Nat)(p t:By)(n:Int)(s:Z)(j:By->By->Int->Z->Option R):Option R:=
 cond ((p.length:Int)==0)
 (KA Q Y Y p t n s (λm o l q=>j m o l q))
 (S6 Q Y Y p t n s (λr a c e=>ydK (Q [pS a] e) λi b=>
  (j r a c b)) (λf g d h=>j f g d h))
theorem Cg7(d:Nat)(p t n s):evC (Ah Y) (d+1) Z Q 152 [.yd,.ptr 0 0 0,.ptr 1 0 0,.ptr 2 0 0] [.box [pS p],.box [pS t],.box [pI n]] s=Ah7 Q Y p t n s (λb c a s=>some (.tup [],[.box [pS b],.box [pS c],.box [pI a]],s)):=by refine(evE (fn:=ad7) (by kernel_rfl)).trans ?_;generalize evC (Ah Y) d=W;unfold Ah7;exact(j1 (by kernel_rfl) (A0 ((Ah8 Y W Q (E3 0 (E2 (Ah Y) W Q (cd [0,1,0,1] Ul) (E2 (Ah Y) W Q (cd [1] Ul) (F5 (Ah Y) ad7)))) Y p t n s).trans (by kernel_rfl)) ((Ah9 Y W Q (E3 2 (E2 (Ah Y) W Q (cd [1,1] Ul) (F5 (Ah Y) ad7))) Y p t n s).trans (by kernel_rfl))))
end
section
variable {Z R : Type} (L : Nat) (Q : F7) (Y : Yh Z) (s : Z) (k : Out -> St Z -> Option R)
noncomputable abbrev Ce:Code:=C4 ad9
noncomputable def Y9(L:Nat):Cfg:=B4 L [179] (A2 [(5,[0,1,0,0,10,0])]) [] (A2 [(16,[2,0]),(15,[0,3,10,0]),(10,[0,3,10,0]),(12,[0,3,10,0]),(14,[0,3,10,0]),(8,[2,0]),(13,[0,3,1,8,0,32]),(11,[0,3,1,8,0,18]),(9,[0,3,1,8,0,5]),(7,[0,3,1,8,0]),(6,[0,3,0,9,0]),(5,[0,3,10,0,0]),(4,[0,3,10,0]),(3,[0,3]),(2,[2,0]),(1,[0,12]),(0,[0])]) [] (A2 [(0,[4]),(1,[0,3,10,0]),(2,[0,3,10,0])]) (some [2,0]) [] [] []
noncomputable def Vg{R:Type}(i:By)(v1 c g h:Int)(d:Bool)(e:By->Int->Int->Int->Option R)(f:Unit->Option R):Option R:=cond d (vl (wu8 ((wu8 (c-65))+10)) λa=>vl (bOr .u16 (Qx .u16 v1 (4:Int)) (Db a)) λb=>e i b g h) (f ())
abbrev MZ(b:Code):Prop:=∀(k:Out->St Z->Option R) c v1 b2 a n4 b5,A9 (Y9 L) Q Y b ⟨gp [(0,pS c),(3,p16 v1),(1,p8 b2),(8,pI a),(0,pI n4),(32,pB b5)] 15,[],s⟩ k=Vg c v1 b2 a n4 b5 (λc v1 d a=>k .normal ⟨gp [(0,pS c),(3,p16 v1),(10,pI d),(0,pI a)] 48,[],s⟩) (λ_=>k .ret ⟨gp [(2,p16 (0:Int)),(0,pB false)] 61,[],s⟩)
theorem As0:MZ (R:=R) L Q Y s (cd [1,1,1,0,1,0,0,1,1,0,0,1,1,0,1,1,1,1,1] Ce):=by intro k e v1 a c d b;unfold Vg;kernel_rfl
noncomputable def Vh{R:Type}(o:By)(v1 a l m:Int)(r:Bool)(f:By->Int->Int->Int->Option R)(q:Unit->Option R):Option R:=cond r (vl (wu8 ((wu8 (a-97))+10)) λg=>vl (bOr .u16 (Qx .u16 v1 (4:Int)) (Db g)) λh=>f o h l m) (cond (not (ltI a 65)) (Vg o v1 a l m (not (ltI 70 a)) (λn p i j=>f n p i j) (λ_=>q ())) (Vg o v1 a l m false (λd e b c=>f d e b c) (λ_=>q ())))
abbrev Zq(b:Code):Prop:=∀(k:Out->St Z->Option R) c v1 b2 a n4 b5,A9 (Y9 L) Q Y b ⟨gp [(0,pS c),(3,p16 v1),(1,p8 b2),(8,pI a),(0,pI n4),(18,pB b5)] 29,[],s⟩ k=Vh c v1 b2 a n4 b5 (λc v1 d a=>k .normal ⟨gp [(0,pS c),(3,p16 v1),(10,pI d),(0,pI a)] 48,[],s⟩) (λ_=>k .ret ⟨gp [(2,p16 (0:Int)),(0,pB false)] 61,[],s⟩)
theorem As1(a:Code)(b:MZ (R:=R) L Q Y s a):Zq (R:=R) L Q Y s (cd [1,1,1,0,1,0,0,1,1,0,0,1,1,0,1,1,1] (G5 [1,1,1,0,1,0,0,1,1,0,0,1,1,0,1,1,1,1,1] a Ce)):=by intro k g v1 c e f d;unfold Vh;simp only[<-b k];kernel_rfl
theorem As2:Zq (R:=R) L Q Y s (cd [1,1,1,0,1,0,0,1,1,0,0,1,1,0,1,1,1] Ce):=by intro k e v1 a c d b;exact j1 (by kernel_rfl) (As1 L Q Y s (cd [1,1,1,0,1,0,0,1,1,0,0,1,1,0,1,1,1,1,1] Ce) (As0 L Q Y s) k e v1 a c d b)
noncomputable def Vi{R:Type}(p:By)(v1 a n o:Int)(r:Bool)(j:By->Int->Int->Int->Option R)(q:Unit->Option R):Option R:=cond r (vl (Db (wu8 (a-48))) λl=>vl (bOr .u16 (Qx .u16 v1 (4:Int)) l) λm=>j p m n o) (cond (not (ltI a 97)) (Vh p v1 a n o (not (ltI 102 a)) (λf h b c=>j f h b c) (λ_=>q ())) (Vh p v1 a n o false (λg i d e=>j g i d e) (λ_=>q ())))
abbrev Py(b:Code):Prop:=∀(k:Out->St Z->Option R) c v1 b2 a n4 b5,A9 (Y9 L) Q Y b ⟨gp [(0,pS c),(3,p16 v1),(1,p8 b2),(8,pI a),(0,pI n4),(5,pB b5)] 42,[],s⟩ k=Vi c v1 b2 a n4 b5 (λc v1 d a=>k .normal ⟨gp [(0,pS c),(3,p16 v1),(10,pI d),(0,pI a)] 48,[],s⟩) (λ_=>k .ret ⟨gp [(2,p16 (0:Int)),(0,pB false)] 61,[],s⟩)
theorem As3(a:Code)(b:Zq (R:=R) L Q Y s a):Py (R:=R) L Q Y s (cd [1,1,1,0,1,0,0,1,1,0,0,1,1,0,1] (G5 [1,1,1,0,1,0,0,1,1,0,0,1,1,0,1,1,1] a Ce)):=by intro k g v1 c e f d;unfold Vi;simp only[<-b k];kernel_rfl
theorem As4:Py (R:=R) L Q Y s (cd [1,1,1,0,1,0,0,1,1,0,0,1,1,0,1] Ce):=by intro k e v1 a c d b;exact j1 (by kernel_rfl) (As3 L Q Y s (cd [1,1,1,0,1,0,0,1,1,0,0,1,1,0,1,1,1] Ce) (As2 L Q Y s) k e v1 a c d b)
noncomputable def En{R:Type}(L n:Nat)(b:By)(v1 q a:Int)(o:Unit->Option R)(p:Int->Option R):Option R:=match n with|0=>none|n+1=>cond (ltI a q) (cond (inR a b.length) (cond (not (ltI (bAt b a) (48:Int))) (Vi b v1 (bAt b a) q a (not (ltI 57 (bAt b a))) (λi l c d=>vl (A1 (d+1)) λe=>En L n i l c e o p) (λ_=>o ())) (Vi b v1 (bAt b a) q a false (λj m f g=>vl (A1 (g+1)) λh=>En L n j m f h o p) (λ_=>o ()))) none) (p v1)
theorem As5(a:Code)(b:Py (R:=R) L Q Y s a)(n:Nat)(d:By)(v1 i c:Int):C5 0 ((Y9 L).keep 5) (bd (Y9 L) Q Y (cd [1,1,1,0,1,0,0] (G5 [1,1,1,0,1,0,0,1,1,0,0,1,1,0,1] a Ce))) n ⟨gp [(0,pS d),(3,p16 v1),(10,pI i),(0,pI c)] 48,[],s⟩ k =
 En L n d v1 i c (λ_=>k .ret ⟨gp [(2,p16 (0:Int)),(0,pB false)] 61,[],s⟩) (λv0=>k (.exit 0) ⟨gp [(4,p16 v0)] 60,[],s⟩):=by
 induction n generalizing d v1 i c with
 | zero=>rfl
 | succ n q=>rw[En];exact let p:=(E3 2 (E3 1 (E2 (Y9 L) Q Y (cd [1,1,1,0,1,0,0,1,1,1] Ce) (lpK 0 ((Y9 L).keep 5) (bd (Y9 L) Q Y (cd [1,1,1,0,1,0,0] (G5 [1,1,1,0,1,0,0,1,1,0,0,1,1,0,1] a Ce))) n k))));(j1 (by kernel_rfl) (A0 (A0 (A0 ((b p d v1 (bAt d c) i c (not (ltI 57 (bAt d c)))).trans (congr (congr rfl (fx4 λj m e r=>(j1 (by kernel_rfl) (A4 λf=>(q j m e f))))) (by kernel_rfl))) ((b p d v1 (bAt d c) i c false).trans (congr (congr rfl (fx4 λl o g t=>(j1 (by kernel_rfl) (A4 λh=>(q l o g h))))) (by kernel_rfl)))) rfl) rfl))
noncomputable def B70{R:Type}(L:Nat)(c:By)(b:Int->Bool->Option R):Option R:=cond (c==[]) (b 0 false) (cond (ltI 4 (c.length:Int)) (b 0 false) (En L L c 0 (c.length:Int) 0 (λ_=>b 0 false) (λa=>b a true)))
theorem Cq9(a:Code)(b:Py (R:=PV × List Blk × Z) L Q Y s a)(c:By):A9 (Y9 L) Q Y (cd [] (G5 [1,1,1,0,1,0,0,1,1,0,0,1,1,0,1] a Ce)) ⟨[pS c]++tps 64,[],s⟩ (F5 (Y9 L) ad9)=B70 L c (λd e=>some (.tup [p16 d,pB e],[],s)):=by unfold B70;exact(j1 (by kernel_rfl) (A0 rfl (A0 rfl ((As5 L Q Y s (E3 0 (E2 (Y9 L) Q Y (cd [1,1,1,1] Ce) (F5 (Y9 L) ad9))) a b L c 0 (c.length:Int) 0).trans (by kernel_rfl)))))
theorem Cr0(d:Nat)(s0):evC (Y9 L) (d+1) Z Y 179 [pS s0] [] s=B70 L s0 (λa b=>some (.tup [p16 a,pB b],[],s)):=
 (evE (fn:=ad9) (by kernel_rfl)).trans (j1 (by kernel_rfl) (Cq9 L (evC (Y9 L) d) Y s (cd [1,1,1,0,1,0,0,1,1,0,0,1,1,0,1] Ce) (As4 L (evC (Y9 L) d) Y s) s0))
noncomputable abbrev Bd5:Code:=C4 af9
noncomputable def Kv(L:Nat):Cfg:=B4 L [164] (A2 [(6,[1,2,0,0,0,10,0,0])]) [(109,Uh),(179,B08),(180,C61)] (A2 [(16,[4,0]),(15,[1,4,0,10,0,0]),(14,[6]),(13,[4,0]),(12,[6,5,39]),(11,[1,4,0,0,3,0]),(10,[1,4,0,10,0,0]),(9,[1,4,0,0,0,0,7,0,0,9]),(8,[1,4,0,0,0,0,0,6,0,0]),(7,[1,4,0,0,0,8,0,0]),(6,[1,4,0,10,0,0,0]),(5,[1,4,0,10,0,0]),(4,[1,4,0]),(3,[0,0,4]),(2,[4,0]),(1,[0,0,13]),(0,[0,0])]) [179,180] (A2 [(0,[6]),(1,[1,4,0,10,0,0])]) (some [4,0]) [] [] []
noncomputable def Dq{R:Type}(L n:Nat)(a:Bool)(c:LL)(l b:Int)(d:LL)(f:LL->Option R)(g:LL->Option R):Option R:=match n with|0=>none|n+1=>cond (ltI b l) (cond (inR b c.length) (cond (okE Oz c (a8 b) 0) (cond (A3 (b8 (gX c (a8 b) 0))) (vl (↑(M0 (grp (gX c (a8 b) 0))):Int) λh=>cond (j2 (grp (gX c (a8 b) 0))) (cond (F6 (d.length+1)) (Dq L n a c l (A1 (b+1)) (d++[[(SV.int .u16 h)]]) f g) none) (cond (A3 (b8 (gX c (a8 b) 0))) (vl (↑(M0 (v4B (gX c (a8 b) 0))):Int) λe=>cond (not (j2 (v4B (gX c (a8 b) 0)))) (f d) (cond (not a) (f d) (vl (A1 ((c.length:Int)-1)) λi=>cond (ltI b i) (f d) (vl (Tu .u32 e (16:Int)) λj=>cond (F6 (d.length+2)) (g (d++[[(SV.int .u16 (Db j))],[(SV.int .u16 (Db e))]])) none)))) none)) none) none) none) (g d)
theorem ZF(n last0 l1 n2 n3 l4):C5 1 ((Kv L).keep 6) (bd (Kv L) Q Y (cd [1,0,1,1,1,1,0,1,0,0] Bd5)) n ⟨gp [(1,pB last0),(4,.fl 0),(0,.s (.sl false false 1 l1)),(10,.s (.sl false false 1 l1)),(0,pI n2),(0,pI n3)] 42,[.arr true 24 1 l4],s⟩ k =
 Dq L n last0 l1 n2 n3 l4 (λa=>k .ret ⟨gp [(4,.fl 1),(0,pB false)] 57,[.arr true 24 1 a,.arr true 24 1 []],s⟩) (λa=>k (.exit 0) ⟨gp [(6,.fl 0)] 56,[.arr true 24 1 a],s⟩):=by
 induction n generalizing last0 l1 n2 n3 l4 with
 | zero=>rfl
 | succ n b=>rw[Dq];simp only[<-b];kernel_rfl
noncomputable def Bf0{R:Type}(L:Nat)(e:By)(a:Bool)(f:LL->Option R)(g:LL->Option R):Option R:=cond (e==[]) (f []) (cond (A3 e.length) (cond (1==1) (vl (D4 (pcs (b9 ([58]:List UInt8) 0 0) e)) λb=>Dq L L a b (b.length:Int) 0 [] (λd=>g d) (λc=>f c)) none) none)
theorem B71(d:Nat)(s0 last1):evC (Kv L) (d+1) Z Y 164 [pS s0,pB last1] [] s=Bf0 L s0 last1 (λb=>some (.tup [.fl 0,pB true],[.arr true 24 1 b],s)) (λb=>some (.tup [.fl 1,pB false],[.arr true 24 1 b,.arr true 24 1 []],s)):=by refine(evE (fn:=af9) (by kernel_rfl)).trans ?_;generalize evC (Kv L) d=Q;unfold Bf0;exact(j1 (by kernel_rfl) (A0 rfl (A0 (A0 (A4 λa=>((ZF L Q Y s (E3 0 (E2 (Kv L) Q Y (cd [1,0,1,1,1,1,1] Bd5) (F5 (Kv L) af9))) L last1 a (a.length:Int) 0 []).trans (by kernel_rfl))) rfl) rfl)))
noncomputable abbrev B47:Code:=C4 ad4
noncomputable def BD(L:Nat):Cfg:=B4 L [135] (A2 []) [(54,Am1),(164,Ba9)] (A2 [(10,[2,0]),(9,[2,1]),(8,[2,1,5]),(7,[2,0]),(6,[2,1,3,1,45]),(5,[2,1,2,0,0,0,0,0]),(4,[2,1,2,0,0,0,0]),(3,[2,1,1,0,0,0]),(2,[2,1,0,0,0]),(1,[0,1,1]),(0,[0,1])]) [54] (A2 []) (some [2,0]) [] [] []
noncomputable def Pe{R:Type}(p o d:LL)(q:LL->LL->Option R):Option R:=cond (decide (d.length=8)) (cond (decide (8<=d.length)) (vl ((x5 0 d)++((x5 8 p)++(ac3 (0+(min p.length 8)) d))) λc=>vl (A1 ((8:Int)-(o.length:Int))) λb=>cond (decide (c.length=8)) (cond (I2 b (8:Int) 8) (cond (decide (((a8 b)+(8-(a8 b)))<=c.length)) (vl ((x5 (a8 b) c)++((x5 (8-(a8 b)) o)++(ac3 ((a8 b)+(min o.length (8-(a8 b)))) c))) λa=>cond ((decide (8=(a.length*1)))&&(okS ⟨true,true,[.int .u16,.int .u16,.int .u16,.int .u16,.int .u16,.int .u16,.int .u16,.int .u16]⟩ (c9 a) 0)) (vl (SV.gI (b9 (c9 a) 0 SV.nilp)) λf=>vl (SV.gI (b9 (c9 a) 1 SV.nilp)) λg=>vl (SV.gI (b9 (c9 a) 2 SV.nilp)) λh=>vl (SV.gI (b9 (c9 a) 3 SV.nilp)) λi=>vl (SV.gI (b9 (c9 a) 4 SV.nilp)) λj=>vl (SV.gI (b9 (c9 a) 5 SV.nilp)) λl=>vl (SV.gI (b9 (c9 a) 6 SV.nilp)) λm=>vl (SV.gI (b9 (c9 a) 7 SV.nilp)) λn=>cond (decide (8=(d.length*1))) (vl (R7 1 d.length [(SV.int .u16 f),(SV.int .u16 g),(SV.int .u16 h),(SV.int .u16 i),(SV.int .u16 j),(SV.int .u16 l),(SV.int .u16 m),(SV.int .u16 n)]) λe=>q e a) none) none) none) none) none) none) none
abbrev Aj0(b:Code):Prop:=∀(k:Out->St Z->Option R) x_z0 x1 y_z2 y3 b4 l5,A9 (BD L) Q Y b ⟨gp [(2,.ptr 0 0 0),(1,.ptr 1 0 0),(3,.s (.sl x_z0 x_z0 1 x1)),(1,.s (.sl y_z2 y_z2 1 y3)),(45,pB b4)] 11,[.arr false 25 1 l5,.arr false 25 1 l5],s⟩ k=Pe x1 y3 l5 (λa c=>k .ret ⟨gp [(2,.ptr 0 0 0),(0,pB true)] 64,[.arr false 25 1 a,.arr false 25 1 c],s⟩)
theorem Bz2:Aj0 (R:=R) L Q Y s (cd [1,1,1,1,1,1,1] B47):=by intro k a e b f c d;unfold Pe;kernel_rfl
noncomputable def v6p{R:Type}(L:Nat)(h:By)(g:Int->Int->Int->Int->Int->Int->Int->Int->Bool->LL->LL->Option R):Option R:=cond (A3 h.length) (vl ((s8 h ([58,58]:List UInt8))).1 λj=>vl (((s8 h ([58,58]:List UInt8))).2).1 λe=>cond (A3 j.length) (vl (C9 (gvs j (not (((s8 h ([58,58]:List UInt8))).2).2))) λf=>cond (A3 e.length) (vl (A1 ((f.length:Int)+(↑(b8 (C9 (gvs e true))):Int))) λi=>cond (not (j2 (P0 j (not (((s8 h ([58,58]:List UInt8))).2).2)))) (g 0 0 0 0 0 0 0 0 false (j0 8 [(SV.int .u16 (0:Int))]) (j0 8 [(SV.int .u16 (0:Int))])) (cond (not (j2 (P0 e true))) (g 0 0 0 0 0 0 0 0 false (j0 8 [(SV.int .u16 (0:Int))]) (j0 8 [(SV.int .u16 (0:Int))])) (cond (not (((s8 h ([58,58]:List UInt8))).2).2) (cond (i !=8) (g 0 0 0 0 0 0 0 0 false (j0 8 [(SV.int .u16 (0:Int))]) (j0 8 [(SV.int .u16 (0:Int))])) (cond (((s8 h ([58,58]:List UInt8))).2).2 (cond (ltI 7 i) (g 0 0 0 0 0 0 0 0 false (j0 8 [(SV.int .u16 (0:Int))]) (j0 8 [(SV.int .u16 (0:Int))])) (Pe f (C9 (gvs e true)) (j0 8 [(SV.int .u16 (0:Int))]) (λa l=>cond ((decide (8=(a.length*1)))&&(okS ⟨true,true,[.int .u16,.int .u16,.int .u16,.int .u16,.int .u16,.int .u16,.int .u16,.int .u16]⟩ (c9 a) 0)) (g (SV.gI (b9 (c9 a) 0 SV.nilp)) (SV.gI (b9 (c9 a) 1 SV.nilp)) (SV.gI (b9 (c9 a) 2 SV.nilp)) (SV.gI (b9 (c9 a) 3 SV.nilp)) (SV.gI (b9 (c9 a) 4 SV.nilp)) (SV.gI (b9 (c9 a) 5 SV.nilp)) (SV.gI (b9 (c9 a) 6 SV.nilp)) (SV.gI (b9 (c9 a) 7 SV.nilp)) true a l) none))) (Pe f (C9 (gvs e true)) (j0 8 [(SV.int .u16 (0:Int))]) (λb m=>cond ((decide (8=(b.length*1)))&&(okS ⟨true,true,[.int .u16,.int .u16,.int .u16,.int .u16,.int .u16,.int .u16,.int .u16,.int .u16]⟩ (c9 b) 0)) (g (SV.gI (b9 (c9 b) 0 SV.nilp)) (SV.gI (b9 (c9 b) 1 SV.nilp)) (SV.gI (b9 (c9 b) 2 SV.nilp)) (SV.gI (b9 (c9 b) 3 SV.nilp)) (SV.gI (b9 (c9 b) 4 SV.nilp)) (SV.gI (b9 (c9 b) 5 SV.nilp)) (SV.gI (b9 (c9 b) 6 SV.nilp)) (SV.gI (b9 (c9 b) 7 SV.nilp)) true b m) none)))) (cond (((s8 h ([58,58]:List UInt8))).2).2 (cond (ltI 7 i) (g 0 0 0 0 0 0 0 0 false (j0 8 [(SV.int .u16 (0:Int))]) (j0 8 [(SV.int .u16 (0:Int))])) (Pe f (C9 (gvs e true)) (j0 8 [(SV.int .u16 (0:Int))]) (λc n=>cond ((decide (8=(c.length*1)))&&(okS ⟨true,true,[.int .u16,.int .u16,.int .u16,.int .u16,.int .u16,.int .u16,.int .u16,.int .u16]⟩ (c9 c) 0)) (g (SV.gI (b9 (c9 c) 0 SV.nilp)) (SV.gI (b9 (c9 c) 1 SV.nilp)) (SV.gI (b9 (c9 c) 2 SV.nilp)) (SV.gI (b9 (c9 c) 3 SV.nilp)) (SV.gI (b9 (c9 c) 4 SV.nilp)) (SV.gI (b9 (c9 c) 5 SV.nilp)) (SV.gI (b9 (c9 c) 6 SV.nilp)) (SV.gI (b9 (c9 c) 7 SV.nilp)) true c n) none))) (Pe f (C9 (gvs e true)) (j0 8 [(SV.int .u16 (0:Int))]) (λd o=>cond ((decide (8=(d.length*1)))&&(okS ⟨true,true,[.int .u16,.int .u16,.int .u16,.int .u16,.int .u16,.int .u16,.int .u16,.int .u16]⟩ (c9 d) 0)) (g (SV.gI (b9 (c9 d) 0 SV.nilp)) (SV.gI (b9 (c9 d) 1 SV.nilp)) (SV.gI (b9 (c9 d) 2 SV.nilp)) (SV.gI (b9 (c9 d) 3 SV.nilp)) (SV.gI (b9 (c9 d) 4 SV.nilp)) (SV.gI (b9 (c9 d) 5 SV.nilp)) (SV.gI (b9 (c9 d) 6 SV.nilp)) (SV.gI (b9 (c9 d) 7 SV.nilp)) true d o) none)))))) none) none) none
theorem Dc7(b:Code)(a:Aj0 (R:=PV × List Blk × Z) L Q Y s b)(f:By):A9 (BD L) Q Y (cd [] (G5 [1,1,1,1,1,1,1] b B47)) ⟨[pS f]++tps 67,[],s⟩ (F5 (BD L) ad4)=v6p L f (λj l m n o p q r r8 i l10=>some (.tup [.agg [p16 j,p16 l,p16 m,p16 n,p16 o,p16 p,p16 q,p16 r],pB r8],[.arr false 25 1 i,.arr false 25 1 l10],s)):=by unfold v6p;exact let h:=(F5 (BD L) ad4);(j1 (by kernel_rfl) (A0 (A4 λe=>(A4 λc=>(A0 (A4 λd=>(A0 (A4 λg=>(A0 rfl (A0 rfl (A0 (A0 rfl (A0 (A0 rfl ((a h (j8 (gvs e (not (((s8 f ([58,58]:List UInt8))).2).2))) d (j8 (gvs c true)) (C9 (gvs c true)) (ltI 7 g) (j0 8 [(SV.int .u16 (0:Int))])).trans (by kernel_rfl))) ((a h (j8 (gvs e (not (((s8 f ([58,58]:List UInt8))).2).2))) d (j8 (gvs c true)) (C9 (gvs c true)) false (j0 8 [(SV.int .u16 (0:Int))])).trans (by kernel_rfl)))) (A0 (A0 rfl ((a h (j8 (gvs e (not (((s8 f ([58,58]:List UInt8))).2).2))) d (j8 (gvs c true)) (C9 (gvs c true)) (ltI 7 g) (j0 8 [(SV.int .u16 (0:Int))])).trans (by kernel_rfl))) ((a h (j8 (gvs e (not (((s8 f ([58,58]:List UInt8))).2).2))) d (j8 (gvs c true)) (C9 (gvs c true)) false (j0 8 [(SV.int .u16 (0:Int))])).trans (by kernel_rfl))))))) rfl)) rfl))) rfl))
theorem Dc8(d:Nat)(s0):evC (BD L) (d+1) Z Y 135 [pS s0] [] s=v6p L s0 (λb c e f g h i j r8 a l10=>some (.tup [.agg [p16 b,p16 c,p16 e,p16 f,p16 g,p16 h,p16 i,p16 j],pB r8],[.arr false 25 1 a,.arr false 25 1 l10],s)):=
 (evE (fn:=ad4) (by kernel_rfl)).trans (j1 (by kernel_rfl) (Dc7 L (evC (BD L) d) Y s (cd [1,1,1,1,1,1,1] B47) (Bz2 L (evC (BD L) d) Y s) s0))
noncomputable abbrev Pr:Code:=C4 ah3
noncomputable def X8(L:Nat):Cfg:=B4 L [95] (A2 [(6,[1,0,0,0,0,0,0,0]),(3,[1,0,0,0,0,2])]) [] (A2 [(11,[2,0]),(10,[1,2,0,2]),(9,[1,2,0,2]),(8,[1,2,0,0,0,0,18]),(7,[1,2,0,0,0,0]),(6,[1,2,0,0,0,0,13]),(5,[1,2,0,0,0,0]),(4,[1,2,0,0,1]),(3,[1,2,0,2,0]),(2,[1,2,0,2]),(1,[1,2,0]),(0,[1])]) [] (A2 [(0,[4,0]),(1,[1,2,0,2]),(2,[1,2,0,0,0,0]),(3,[1,2,0,0,0,0])]) (some [2,0]) [] [] []
noncomputable def Hj{R:Type}(L n:Nat)(b a c d:Int)(e:LL)(f:Int->Int->Int->Int->LL->Option R):Option R:=match n with|0=>none|n+1=>cond (ltI (A1 (c+d)) (8:Int)) (cond (inR (A1 (c+d)) 8) (cond (okE ⟨true,false,[.int .u16]⟩ e (a8 (A1 (c+d))) 0) (vl (gE e (a8 (A1 (c+d))) 0) λg=>cond (g==0) (Hj L n b a c (A1 (d+1)) e f) (f b a c d e)) none) none) (f b a c d e)
theorem Ak2(n b a c e d):C5 1 ((X8 L).keep 6) (bd (X8 L) Q Y (cd [1,1,0,1,0,0,1,1,0,0,1,1,0,0,0] Pr)) n ⟨gp [(1,.ptr 0 0 0),(2,pI b),(0,pI a),(0,pI c),(0,pI e),(0,pI c)] 24,[.arr false 25 1 d],s⟩ k =
 Hj L n b a c e d (λb a c e d=>k (.exit 2) ⟨gp [(1,.ptr 0 0 0),(2,pI b),(0,pI a),(0,pI c),(0,pI e),(0,pI c)] 24,[.arr false 25 1 d],s⟩):=by
 induction n generalizing b a c e d with
 | zero=>rfl
 | succ n f=>rw[Hj];simp only[<-f];kernel_rfl
noncomputable def Dz{R:Type}(L n:Nat)(e b j:Int)(i:LL)(h:Int->Int->LL->Option R):Option R:=match n with|0=>none|n+1=>cond (ltI j 8) (Hj L L e b j 0 i (λd a c g f=>cond (ltI a g) (Dz L n c g (A1 (c+1)) f h) (Dz L n d a (A1 (c+1)) f h))) (h e b i)
theorem Ak3(n b a n2 l3):C5 1 ((X8 L).keep 3) (bd (X8 L) Q Y (cd [1,1,0,1,0,0] Pr)) n ⟨gp [(1,.ptr 0 0 0),(2,pI b),(0,pI a),(2,pI n2)] 24,[.arr false 25 1 l3],s⟩ k =
 Dz L n b a n2 l3 (λb a i=>k (.exit 0) ⟨gp [(4,pI b),(0,pI a)] 27,[.arr false 25 1 i],s⟩):=by
 induction n generalizing b a n2 l3 with
 | zero=>rfl
 | succ n h=>rw[Dz];exact(j1 (by kernel_rfl) (A0 ((Ak2 L Q Y s (E3 2 (E2 (X8 L) Q Y (cd [1,1,0,1,0,0,1,1,0,0,1,1,1] Pr) (E3 1 (E2 (X8 L) Q Y (cd [1,1,0,1,0,0,1,1,1] Pr) (lpK 1 ((X8 L).keep 3) (bd (X8 L) Q Y (cd [1,1,0,1,0,0] Pr)) n k))))) L b a n2 0 l3).trans (congr rfl (fx5 λe c d g f=>(j1 (by kernel_rfl) (A0 (h d g (A1 (d+1)) f) (h e c (A1 (d+1)) f)))))) rfl))
noncomputable def Bl3{R:Type}(L:Nat)(d e f g h i j l:Int)(m:Int->Int->LL->Option R):Option R:=Dz L L 0 0 0 [[(SV.int .u16 d)],[(SV.int .u16 e)],[(SV.int .u16 f)],[(SV.int .u16 g)],[(SV.int .u16 h)],[(SV.int .u16 i)],[(SV.int .u16 j)],[(SV.int .u16 l)]] (λb a c=>m b a c)
theorem Cn5(d:Nat)(a0 a1 a2 a3 a4 a5 a6 a7):evC (X8 L) (d+1) Z Y 95 [.agg [p16 a0,p16 a1,p16 a2,p16 a3,p16 a4,p16 a5,p16 a6,p16 a7]] [] s=Bl3 L a0 a1 a2 a3 a4 a5 a6 a7 (λb c a=>some (.tup [pI b,pI c],[.arr false 25 1 a],s)):=by refine(evE (fn:=ah3) (by kernel_rfl)).trans ?_;generalize evC (X8 L) d=Q;unfold Bl3;exact(j1 (by kernel_rfl) ((Ak3 L Q Y s (E3 0 (E2 (X8 L) Q Y (cd [1,1,1] Pr) (F5 (X8 L) ah3))) L 0 0 0 [[(SV.int .u16 a0)],[(SV.int .u16 a1)],[(SV.int .u16 a2)],[(SV.int .u16 a3)],[(SV.int .u16 a4)],[(SV.int .u16 a5)],[(SV.int .u16 a6)],[(SV.int .u16 a7)]]).trans (by kernel_rfl)))
noncomputable abbrev C68:Code:=C4 ah4
noncomputable def HD(L:Nat):Cfg:=B4 L [96] (A2 [(3,[2,0,2,0,0])]) [(128,B07),(111,RG)] (A2 [(7,[2]),(6,[3,2,0,0]),(5,[3,2,0,0]),(4,[3,1,0,0,0]),(3,[3,2,0,0,0]),(2,[3,2,0,0]),(1,[0,2]),(0,[0])]) [128,111] (A2 [(0,[3]),(1,[3,2,0,0])]) (some [2]) [] [] []
noncomputable def Tz{R:Type}(L n:Nat)(h g:Bool)(c:LL)(f b:Int)(d:LL)(e:LL->Option R):Option R:=match n with|0=>none|n+1=>cond (ltI b f) (cond (inR b c.length) (cond (okE ⟨true,false,[.int .u16]⟩ c (a8 b) 0) (vl (Dd2 (gE c (a8 b) 0)) λa=>cond (ltN a 65536) (cond ((16:Int)==16) (cond (F6 (d.length+1)) (Tz L n h g c f (A1 (b+1)) (d++[[(SV.str (R2 (a8 a)))]]) e) none) none) none) none) none) (e d)
theorem Bz1(n z0 t1 l2 n3 n4 l5):C5 1 ((HD L).keep 3) (bd (HD L) Q Y (cd [1,1,0,1,0,0] C68)) n ⟨gp [(3,.fl 0),(2,.s (.sl z0 t1 1 l2)),(0,pI n3),(0,pI n4)] 12,[.arr true 9 1 l5],s⟩ k =
 Tz L n z0 t1 l2 n3 n4 l5 (λb=>k (.exit 0) ⟨gp [(3,.fl 0)] 17,[.arr true 9 1 b],s⟩):=by
 induction n generalizing z0 t1 l2 n3 n4 l5 with
 | zero=>rfl
 | succ n a=>rw[Tz];simp only[<-a];kernel_rfl
noncomputable def v6j{R:Type}(L:Nat)(c b:Bool)(e:LL)(f:By->LL->Option R):Option R:=Tz L L c b e (e.length:Int) 0 [] (λa=>cond (s9 a isS) (cond (A3 (b8 (ac0 (o9 elS a) ([58]:List UInt8)))) (cond (A3 a.length) (vl (ac0 (o9 elS a) ([58]:List UInt8)) λd=>f d a) none) none) none)
theorem Dc5(d:Nat)(l_z0 l_t1 l2):evC (HD L) (d+1) Z Y 96 [.s (.sl l_z0 l_t1 1 l2)] [] s=v6j L l_z0 l_t1 l2 (λb a=>some (pS b,[.arr true 9 1 a],s)):=by refine(evE (fn:=ah4) (by kernel_rfl)).trans ?_;generalize evC (HD L) d=Q;unfold v6j;exact(j1 (by kernel_rfl) ((Bz1 L Q Y s (E3 0 (E2 (HD L) Q Y (cd [1,1,1] C68) (F5 (HD L) ah4))) L l_z0 l_t1 l2 (l2.length:Int) 0 []).trans (by kernel_rfl)))
noncomputable def B52(L:Nat):Cfg:=B4 L [68] (A2 []) [(95,Bd3),(96,C63)] (A2 [(4,[2]),(3,[2]),(2,[1,1,0,6]),(1,[1,1,0]),(0,[1])]) [95,96] (A2 []) (some [2]) [] [] []
noncomputable def v6f{R:Type}(L:Nat)(c d e f g h i j:Int)(p:By->LL->Option R):Option R:=cond (ok8 c d e f g h i j) (vl (↑((zGo (n8 c d e f g h i j) 0 0 0)).1:Int) λa=>vl (↑((zGo (n8 c d e f g h i j) 0 0 0)).2:Int) λb=>cond (ltI b 2) (cond (s9 [[(SV.int .u16 c)],[(SV.int .u16 d)],[(SV.int .u16 e)],[(SV.int .u16 f)],[(SV.int .u16 g)],[(SV.int .u16 h)],[(SV.int .u16 i)],[(SV.int .u16 j)]] Vr) (cond (p7 8 8) (vl (S8 (o9 elN [[(SV.int .u16 c)],[(SV.int .u16 d)],[(SV.int .u16 e)],[(SV.int .u16 f)],[(SV.int .u16 g)],[(SV.int .u16 h)],[(SV.int .u16 i)],[(SV.int .u16 j)]])) λo=>p o [[(SV.int .u16 c)],[(SV.int .u16 d)],[(SV.int .u16 e)],[(SV.int .u16 f)],[(SV.int .u16 g)],[(SV.int .u16 h)],[(SV.int .u16 i)],[(SV.int .u16 j)]]) none) none) (cond (I2 0 a 8) (cond (s9 (x5 ((a8 a)-0) [[(SV.int .u16 c)],[(SV.int .u16 d)],[(SV.int .u16 e)],[(SV.int .u16 f)],[(SV.int .u16 g)],[(SV.int .u16 h)],[(SV.int .u16 i)],[(SV.int .u16 j)]]) Vr) (cond (p7 (b8 (x5 ((a8 a)-0) [[(SV.int .u16 c)],[(SV.int .u16 d)],[(SV.int .u16 e)],[(SV.int .u16 f)],[(SV.int .u16 g)],[(SV.int .u16 h)],[(SV.int .u16 i)],[(SV.int .u16 j)]])) 8) (vl (S8 (o9 elN (x5 ((a8 a)-0) [[(SV.int .u16 c)],[(SV.int .u16 d)],[(SV.int .u16 e)],[(SV.int .u16 f)],[(SV.int .u16 g)],[(SV.int .u16 h)],[(SV.int .u16 i)],[(SV.int .u16 j)]]))) λl=>cond (E5 l.length 2) (vl (l++[58,58]) λm=>cond (I2 (A1 (a+b)) (8:Int) 8) (cond (s9 (x5 (8-(a8 (A1 (a+b)))) (ac3 (a8 (A1 (a+b))) [[(SV.int .u16 c)],[(SV.int .u16 d)],[(SV.int .u16 e)],[(SV.int .u16 f)],[(SV.int .u16 g)],[(SV.int .u16 h)],[(SV.int .u16 i)],[(SV.int .u16 j)]])) Vr) (cond (p7 (b8 (x5 (8-(a8 (A1 (a+b)))) (ac3 (a8 (A1 (a+b))) [[(SV.int .u16 c)],[(SV.int .u16 d)],[(SV.int .u16 e)],[(SV.int .u16 f)],[(SV.int .u16 g)],[(SV.int .u16 h)],[(SV.int .u16 i)],[(SV.int .u16 j)]]))) 8) (vl (S8 (o9 elN (x5 (8-(a8 (A1 (a+b)))) (ac3 (a8 (A1 (a+b))) [[(SV.int .u16 c)],[(SV.int .u16 d)],[(SV.int .u16 e)],[(SV.int .u16 f)],[(SV.int .u16 g)],[(SV.int .u16 h)],[(SV.int .u16 i)],[(SV.int .u16 j)]])))) λn=>cond (E5 m.length n.length) (p (m++n) [[(SV.int .u16 c)],[(SV.int .u16 d)],[(SV.int .u16 e)],[(SV.int .u16 f)],[(SV.int .u16 g)],[(SV.int .u16 h)],[(SV.int .u16 i)],[(SV.int .u16 j)]]) none) none) none) none) none) none) none) none)) none
theorem Dc3(d:Nat)(a0 a1 a2 a3 a4 a5 a6 a7):evC (B52 L) (d+1) Z Y 68 [.agg [p16 a0,p16 a1,p16 a2,p16 a3,p16 a4,p16 a5,p16 a6,p16 a7]] [] s=v6f L a0 a1 a2 a3 a4 a5 a6 a7 (λb a=>some (pS b,[.arr false 25 1 a],s)):=by refine(evE (fn:=Tryz.f68) (by kernel_rfl)).trans ?_;generalize evC (B52 L) d=Q;unfold v6f;kernel_rfl
noncomputable abbrev Cf:Code:=C4 ad5
noncomputable def Z1(L:Nat):Cfg:=B4 L [146] (A2 [(5,[0,1,0,0,0])]) [] (A2 [(15,[2,0]),(6,[0,3,0]),(10,[0,3,0]),(12,[0,3,0]),(14,[0,3,0]),(8,[2,0]),(13,[0,3,0,0,44]),(11,[0,3,0,0,30]),(9,[0,3,0,0,17]),(7,[0,3,0,0]),(5,[0,3,0,12]),(4,[0,3,0]),(3,[0,3]),(2,[2,0]),(1,[0,13]),(0,[0])]) [] (A2 [(0,[4]),(1,[0,3,0]),(2,[0,3,0])]) (some [2,0]) [] [] []
noncomputable def Wk{R:Type}(j:By)(i f d:Int)(e:Bool)(g:By->Int->Int->Option R)(h:Unit->Option R):Option R:=cond e (vl (A1 (wu8 (d-65))) λa=>vl (A1 ((A1 (i*16))+a)) λb=>vl (A1 (b+10)) λc=>g j c f) (h ())
abbrev NW(b:Code):Prop:=∀(k:Out->St Z->Option R) d c a b3 b4,A9 (Z1 L) Q Y b ⟨gp [(0,pS d),(3,pI c),(0,pI a),(0,p8 b3),(44,pB b4)] 15,[],s⟩ k=Wk d c a b3 b4 (λd c a=>k .normal ⟨gp [(0,pS d),(3,pI c),(0,pI a)] 61,[],s⟩) (λ_=>k .ret ⟨gp [(2,p16 (0:Int)),(0,pB false)] 63,[],s⟩)
theorem A04:NW (R:=R) L Q Y s (cd [1,1,1,0,1,0,0,1,0,0,1,0,1,1,1,1,1] Cf):=by intro k e d c a b;unfold Wk;kernel_rfl
noncomputable def Wl{R:Type}(o:By)(m f a:Int)(q:Bool)(g:By->Int->Int->Option R)(p:Unit->Option R):Option R:=cond q (vl (A1 (wu8 (a-97))) λh=>vl (A1 ((A1 (m*16))+h)) λi=>vl (A1 (i+10)) λj=>g o j f) (cond (not (ltI a 65)) (Wk o m f a (not (ltI 70 a)) (λn l b=>g n l b) (λ_=>p ())) (Wk o m f a false (λe d c=>g e d c) (λ_=>p ())))
abbrev AJ(b:Code):Prop:=∀(k:Out->St Z->Option R) d c a b3 b4,A9 (Z1 L) Q Y b ⟨gp [(0,pS d),(3,pI c),(0,pI a),(0,p8 b3),(30,pB b4)] 29,[],s⟩ k=Wl d c a b3 b4 (λd c a=>k .normal ⟨gp [(0,pS d),(3,pI c),(0,pI a)] 61,[],s⟩) (λ_=>k .ret ⟨gp [(2,p16 (0:Int)),(0,pB false)] 63,[],s⟩)
theorem A05(a:Code)(b:NW (R:=R) L Q Y s a):AJ (R:=R) L Q Y s (cd [1,1,1,0,1,0,0,1,0,0,1,0,1,1,1] (G5 [1,1,1,0,1,0,0,1,0,0,1,0,1,1,1,1,1] a Cf)):=by intro k g f e c d;unfold Wl;simp only[<-b k];kernel_rfl
theorem A06:AJ (R:=R) L Q Y s (cd [1,1,1,0,1,0,0,1,0,0,1,0,1,1,1] Cf):=by intro k e d c a b;exact j1 (by kernel_rfl) (A05 L Q Y s (cd [1,1,1,0,1,0,0,1,0,0,1,0,1,1,1,1,1] Cf) (A04 L Q Y s) k e d c a b)
noncomputable def Wm{R:Type}(n:By)(m h a:Int)(p:Bool)(i:By->Int->Int->Option R)(o:Unit->Option R):Option R:=cond p (vl (A1 (wu8 (a-48))) λj=>vl (A1 ((A1 (m*16))+j)) λl=>i n l h) (cond (not (ltI a 97)) (Wl n m h a (not (ltI 102 a)) (λf d b=>i f d b) (λ_=>o ())) (Wl n m h a false (λg e c=>i g e c) (λ_=>o ())))
abbrev Qh(b:Code):Prop:=∀(k:Out->St Z->Option R) d c a b3 b4,A9 (Z1 L) Q Y b ⟨gp [(0,pS d),(3,pI c),(0,pI a),(0,p8 b3),(17,pB b4)] 42,[],s⟩ k=Wm d c a b3 b4 (λd c a=>k .normal ⟨gp [(0,pS d),(3,pI c),(0,pI a)] 61,[],s⟩) (λ_=>k .ret ⟨gp [(2,p16 (0:Int)),(0,pB false)] 63,[],s⟩)
theorem A07(a:Code)(b:AJ (R:=R) L Q Y s a):Qh (R:=R) L Q Y s (cd [1,1,1,0,1,0,0,1,0,0,1,0,1] (G5 [1,1,1,0,1,0,0,1,0,0,1,0,1,1,1] a Cf)):=by intro k g f e c d;unfold Wm;simp only[<-b k];kernel_rfl
theorem A08:Qh (R:=R) L Q Y s (cd [1,1,1,0,1,0,0,1,0,0,1,0,1] Cf):=by intro k e d c a b;exact j1 (by kernel_rfl) (A07 L Q Y s (cd [1,1,1,0,1,0,0,1,0,0,1,0,1,1,1] Cf) (A06 L Q Y s) k e d c a b)
noncomputable def Ex{R:Type}(L n:Nat)(b:By)(o a:Int)(l:Unit->Option R)(m:Int->Option R):Option R:=match n with|0=>none|n+1=>cond (ltI a (b.length:Int)) (cond (inR a b.length) (cond (not (ltI (bAt b a) (48:Int))) (Wm b o a (bAt b a) (not (ltI 57 (bAt b a))) (λi e c=>vl (A1 (c+1)) λf=>Ex L n i e f l m) (λ_=>l ())) (Wm b o a (bAt b a) false (λj g d=>vl (A1 (d+1)) λh=>Ex L n j g h l m) (λ_=>l ()))) none) (m o)
theorem A09(a:Code)(b:Qh (R:=R) L Q Y s a)(n:Nat)(d:By)(i c:Int):C5 0 ((Z1 L).keep 5) (bd (Z1 L) Q Y (cd [1,1,1,0,1,0,0] (G5 [1,1,1,0,1,0,0,1,0,0,1,0,1] a Cf))) n ⟨gp [(0,pS d),(3,pI i),(0,pI c)] 61,[],s⟩ k =
 Ex L n d i c (λ_=>k .ret ⟨gp [(2,p16 (0:Int)),(0,pB false)] 63,[],s⟩) (λn0=>k (.exit 0) ⟨gp [(4,pI n0)] 62,[],s⟩):=by
 induction n generalizing d i c with
 | zero=>rfl
 | succ n q=>rw[Ex];exact let m:=(E3 2 (E3 1 (E2 (Z1 L) Q Y (cd [1,1,1,0,1,0,0,1,1] Cf) (lpK 0 ((Z1 L).keep 5) (bd (Z1 L) Q Y (cd [1,1,1,0,1,0,0] (G5 [1,1,1,0,1,0,0,1,0,0,1,0,1] a Cf))) n k))));(j1 (by kernel_rfl) (A0 (A0 (A0 ((b m d i c (bAt d c) (not (ltI 57 (bAt d c)))).trans (congr (congr rfl (fx3 λj e o=>(j1 (by kernel_rfl) (A4 λf=>(q j e f))))) (by kernel_rfl))) ((b m d i c (bAt d c) false).trans (congr (congr rfl (fx3 λl g p=>(j1 (by kernel_rfl) (A4 λh=>(q l g h))))) (by kernel_rfl)))) rfl) rfl))
noncomputable def Cc2{R:Type}(L:Nat)(c:By)(b:Int->Bool->Option R):Option R:=cond (ltI (c.length:Int) (1:Int)) (b 0 false) (cond (ltI 4 (c.length:Int)) (b 0 false) (Ex L L c 0 0 (λ_=>b 0 false) (λa=>b (Db a) true)))
theorem Cw7(a:Code)(b:Qh (R:=PV × List Blk × Z) L Q Y s a)(c:By):A9 (Z1 L) Q Y (cd [] (G5 [1,1,1,0,1,0,0,1,0,0,1,0,1] a Cf)) ⟨[pS c]++tps 66,[],s⟩ (F5 (Z1 L) ad5)=Cc2 L c (λd e=>some (.tup [p16 d,pB e],[],s)):=by unfold Cc2;exact(j1 (by kernel_rfl) (A0 rfl (A0 rfl ((A09 L Q Y s (E3 0 (E2 (Z1 L) Q Y (cd [1,1,1,1] Cf) (F5 (Z1 L) ad5))) a b L c 0 0).trans (by kernel_rfl)))))
theorem Cw8(d:Nat)(s0):evC (Z1 L) (d+1) Z Y 146 [pS s0] [] s=Cc2 L s0 (λa b=>some (.tup [p16 a,pB b],[],s)):=
 (evE (fn:=ad5) (by kernel_rfl)).trans (j1 (by kernel_rfl) (Cw7 L (evC (Z1 L) d) Y s (cd [1,1,1,0,1,0,0,1,0,0,1,0,1] Cf) (A08 L (evC (Z1 L) d) Y s) s0))
noncomputable abbrev Ej:Code:=C4 ad1
noncomputable def Q4(L:Nat):Cfg:=B4 L [114] (A2 [(6,[1,2,0,0,0,0])]) [(88,Jj),(145,B24),(146,B20)] (A2 [(15,[4,0]),(7,[1,4,0,0]),(14,[1,4,0,0]),(13,[4,0]),(12,[1,4,0,0,2,47]),(11,[1,4,0,0,2,0]),(10,[1,4,0,0]),(9,[1,4,0,0,0,31]),(8,[1,4,0,0,0,0]),(6,[1,4,0,0,11]),(5,[1,4,0,0]),(4,[1,4,0]),(3,[0,0,4]),(2,[4,0]),(1,[0,0,12]),(0,[0,0])]) [145,146] (A2 [(0,[6]),(1,[1,4,0,0])]) (some [4,0]) [] [] []
noncomputable def Ka{R:Type}(a:Bool)(g:LL)(f d:Int)(e:Bool)(c:LL)(h:Bool->LL->Int->LL->Option R)(i:Bool->LL->Int->Int->Bool->LL->Option R):Option R:=cond e (vl (Tu .u32 d (16:Int)) λb=>cond (F6 (c.length+2)) (h a g f (c++[[(SV.int .u16 (Db b))],[(SV.int .u16 (Db d))]])) none) (i a g f d e c)
abbrev Tf(b:Code):Prop:=∀(k:Out->St Z->Option R) a d c g e f,A9 (Q4 L) Q Y b ⟨gp [(1,pB a),(4,.fl 0),(0,.s (.sl false false 1 d)),(0,pI c),(0,p32 g),(31,pB e)] 23,[.arr true 24 1 f],s⟩ k=Ka a d c g e f (λa d c h=>k (.exit 1) ⟨gp [(1,pB a),(4,.fl 0),(0,.s (.sl false false 1 d)),(0,pI c)] 56,[.arr true 24 1 h],s⟩) (λa d c g e f=>k .normal ⟨gp [(1,pB a),(4,.fl 0),(0,.s (.sl false false 1 d)),(0,pI c),(0,p32 g),(31,pB e)] 23,[.arr true 24 1 f],s⟩)
theorem Ab6:Tf (R:=R) L Q Y s (cd [1,1,1,1,0,1,0,0,1,0,0,0,1,1] Ej):=by intro k a e c f b d;unfold Ka;kernel_rfl
noncomputable def Kb{R:Type}(a:Bool)(c:LL)(b:Int)(e:LL)(f:LL->Option R)(g:Bool->LL->Int->LL->Option R):Option R:=cond (inR b c.length) (cond (okE Oz c (a8 b) 0) (cond (A3 (b8 (gX c (a8 b) 0))) (vl (↑(M0 (grp (gX c (a8 b) 0))):Int) λd=>cond (not (j2 (grp (gX c (a8 b) 0)))) (f e) (cond (F6 (e.length+1)) (g a c b (e++[[(SV.int .u16 d)]])) none)) none) none) none
abbrev Tg(b:Code):Prop:=∀(k:Out->St Z->Option R) a d c v3 b4 l5,A9 (Q4 L) Q Y b ⟨gp [(1,pB a),(4,.fl 0),(0,.s (.sl false false 1 d)),(0,pI c),(0,p32 v3),(31,pB b4)] 23,[.arr true 24 1 l5],s⟩ k=Kb a d c l5 (λe=>k .ret ⟨gp [(4,.fl 1),(0,pB false)] 59,[.arr true 24 1 e,.arr true 24 1 []],s⟩) (λa d c f=>k .normal ⟨gp [(1,pB a),(4,.fl 0),(0,.s (.sl false false 1 d)),(0,pI c)] 56,[.arr true 24 1 f],s⟩)
theorem Ab7:Tg (R:=R) L Q Y s (cd [1,1,1,1,0,1,0,0,1,0,0,1] Ej):=by intro k a e c f b d;unfold Kb;kernel_rfl
noncomputable def P6{R:Type}(L n:Nat)(a:Bool)(m:LL)(l:Int)(l3:LL)(o:LL->Option R)(p:LL->Option R):Option R:=match n with|0=>none|n+1=>cond (ltI l (m.length:Int)) (cond (inR l m.length) (cond (okE Oz m (a8 l) 0) (cond (A3 (b8 (gX m (a8 l) 0))) (vl (↑(M0 (v4B (gX m (a8 l) 0))):Int) λq=>cond (j2 (v4B (gX m (a8 l) 0))) (cond a (vl (A1 ((m.length:Int)-1)) λa9=>Ka a m l q (l==a9) l3 (λb X r B=>vl (A1 (r+1)) λP=>P6 L n b X P B o p) (λc a0 t b3 b0 C=>Kb c a0 t C (λD=>o D) (λd a1 u F=>vl (A1 (u+1)) λS=>P6 L n d a1 S F o p))) (Ka a m l q false l3 (λe a2 v G=>vl (A1 (v+1)) λT=>P6 L n e a2 T G o p) (λf a3 w b4 b1 H=>Kb f a3 w H (λI=>o I) (λg a4 x J=>vl (A1 (x+1)) λU=>P6 L n g a4 U J o p)))) (Ka a m l q false l3 (λh a5 y K=>vl (A1 (y+1)) λV=>P6 L n h a5 V K o p) (λi a6 z b5 b2 M=>Kb i a6 z M (λN=>o N) (λj a7 A O=>vl (A1 (A+1)) λW=>P6 L n j a7 W O o p)))) none) none) none) (p l3)
theorem Ab8(b:Code)(c:Tf (R:=R) L Q Y s b)(a:Code)(d:Tg (R:=R) L Q Y s a)(n:Nat)(e:Bool)(v:LL)(q:Int)(u:LL):C5 1 ((Q4 L).keep 6) (bd (Q4 L) Q Y (cd [1,1,1,1,0,1,0,0] (G5 [1,1,1,1,0,1,0,0,1,0,0,1] a (G5 [1,1,1,1,0,1,0,0,1,0,0,0,1,1] b Ej)))) n ⟨gp [(1,pB e),(4,.fl 0),(0,.s (.sl false false 1 v)),(0,pI q)] 56,[.arr true 24 1 u],s⟩ k =
 P6 L n e v q u (λl0=>k .ret ⟨gp [(4,.fl 1),(0,pB false)] 59,[.arr true 24 1 l0,.arr true 24 1 []],s⟩) (λl0=>k (.exit 0) ⟨gp [(6,.fl 0)] 58,[.arr true 24 1 l0],s⟩):=by
 induction n generalizing e v q u with
 | zero=>rfl
 | succ n t=>rw[P6];exact let K0:=(E3 1 (E2 (Q4 L) Q Y (cd [1,1,1,1,0,1,0,0,1,1] Ej) (lpK 1 ((Q4 L).keep 6) (bd (Q4 L) Q Y (cd [1,1,1,1,0,1,0,0] (G5 [1,1,1,1,0,1,0,0,1,0,0,1] a (G5 [1,1,1,1,0,1,0,0,1,0,0,0,1,1] b Ej)))) n k)));let K1:=(E2 (Q4 L) Q Y a K0);(j1 (by kernel_rfl) (A0 (A0 (A0 (A0 (A4 λr=>(A0 (A0 (A4 λb0=>((c K1 e v q r (q==b0) u).trans (congr (congr rfl (fx4 λf V b1 C=>(j1 (by kernel_rfl) (A4 λN=>(t f V N C))))) (fx6 λg W z a6 w D=>(j1 (by kernel_rfl) ((d K0 g W z a6 w D).trans (congr (congr rfl (by kernel_rfl)) (fx4 λh X b2 F=>(j1 (by kernel_rfl) (A4 λO=>(t h X O F))))))))))) ((c K1 e v q r false u).trans (congr (congr rfl (fx4 λi a0 b3 G=>(j1 (by kernel_rfl) (A4 λP=>(t i a0 P G))))) (fx6 λj a1 A a7 x H=>(j1 (by kernel_rfl) ((d K0 j a1 A a7 x H).trans (congr (congr rfl (by kernel_rfl)) (fx4 λl a2 b4 I=>(j1 (by kernel_rfl) (A4 λS=>(t l a2 S I))))))))))) ((c K1 e v q r false u).trans (congr (congr rfl (fx4 λm a3 b5 J=>(j1 (by kernel_rfl) (A4 λT=>(t m a3 T J))))) (fx6 λo a4 B a9 y K=>(j1 (by kernel_rfl) ((d K0 o a4 B a9 y K).trans (congr (congr rfl (by kernel_rfl)) (fx4 λp a5 b6 M=>(j1 (by kernel_rfl) (A4 λU=>(t p a5 U M)))))))))))) rfl) rfl) rfl) rfl))
noncomputable def Ab5{R:Type}(L:Nat)(e:By)(a:Bool)(f:LL->Option R)(g:LL->Option R):Option R:=cond (e==[]) (f []) (cond (A3 e.length) (vl (D4 (pcs (u8n (58:Int)) e)) λd=>P6 L L a d 0 [] (λb=>g b) (λc=>f c)) none)
theorem Cc3(a:Code)(c:Tf (R:=PV × List Blk × Z) L Q Y s a)(b:Code)(d:Tg (R:=PV × List Blk × Z) L Q Y s b)(h:By)(e:Bool):A9 (Q4 L) Q Y (cd [] (G5 [1,1,1,1,0,1,0,0,1,0,0,1] b (G5 [1,1,1,1,0,1,0,0,1,0,0,0,1,1] a Ej))) ⟨[pS h,pB e]++tps 63,[],s⟩ (F5 (Q4 L) ad1)=Ab5 L h e (λg=>some (.tup [.fl 0,pB true],[.arr true 24 1 g],s)) (λg=>some (.tup [.fl 1,pB false],[.arr true 24 1 g,.arr true 24 1 []],s)):=by unfold Ab5;exact(j1 (by kernel_rfl) (A0 rfl (A0 (A4 λf=>((Ab8 L Q Y s (E3 0 (E2 (Q4 L) Q Y (cd [1,1,1,1,1] Ej) (F5 (Q4 L) ad1))) a c b d L e f 0 []).trans (by kernel_rfl))) rfl)))
theorem Cc4(d:Nat)(s0 last1):evC (Q4 L) (d+1) Z Y 114 [pS s0,pB last1] [] s=Ab5 L s0 last1 (λa=>some (.tup [.fl 0,pB true],[.arr true 24 1 a],s)) (λa=>some (.tup [.fl 1,pB false],[.arr true 24 1 a,.arr true 24 1 []],s)):=
 (evE (fn:=ad1) (by kernel_rfl)).trans (j1 (by kernel_rfl) (Cc3 L (evC (Q4 L) d) Y s (cd [1,1,1,1,0,1,0,0,1,0,0,0,1,1] Ej) (Ab6 L (evC (Q4 L) d) Y s) (cd [1,1,1,1,0,1,0,0,1,0,0,1] Ej) (Ab7 L (evC (Q4 L) d) Y s) s0 last1))
noncomputable abbrev MG:Code:=C4 af5
noncomputable def Ci(L:Nat):Cfg:=B4 L [113] (A2 [(2,[0,1,0])]) [] (A2 [(6,[2]),(3,[0,2]),(5,[2]),(4,[0,2,17]),(2,[0,2,4]),(1,[0,2]),(0,[0])]) [] (A2 [(0,[]),(1,[0,2])]) (some [2]) [] [] []
noncomputable def T6{R:Type}(L n:Nat)(b:By)(a:Int)(c:Int->Option R)(d:Unit->Option R):Option R:=match n with|0=>none|n+1=>cond (ltI (A1 (a+1)) (b.length:Int)) (cond (inR a b.length) (cond ((bAt b a)==58) (cond (inR (A1 (a+1)) b.length) (vl (bAt b (A1 (a+1))) λe=>cond (e==58) (c a) (T6 L n b (A1 (a+1)) c d)) none) (T6 L n b (A1 (a+1)) c d)) none) (d ())
theorem LB(n s0 i1):C5 0 ((Ci L).keep 2) (bd (Ci L) Q Y (cd [1,0,1,0,0] MG)) n ⟨gp [(0,pS s0),(2,pI i1)] 19,[],s⟩ k =
 T6 L n s0 i1 (λn0=>k .ret ⟨gp [(2,pI n0)] 20,[],s⟩) (λ_=>k (.exit 0) ⟨gp [] 23,[],s⟩):=by
 induction n generalizing s0 i1 with
 | zero=>rfl
 | succ n a=>rw[T6];simp only[<-a];kernel_rfl
noncomputable def DU{R:Type}(L:Nat)(c:By)(b:Int->Option R):Option R:=T6 L L c 0 (λa=>b a) (λ_=>b (-1))
theorem Az2(d:Nat)(s0):evC (Ci L) (d+1) Z Y 113 [pS s0] [] s=DU L s0 (λa=>some (pI a,[],s)):=by refine(evE (fn:=af5) (by kernel_rfl)).trans ?_;generalize evC (Ci L) d=Q;unfold DU;exact(j1 (by kernel_rfl) ((LB L Q Y s (E3 0 (E2 (Ci L) Q Y (cd [1,1] MG) (F5 (Ci L) af5))) L s0 0).trans (by kernel_rfl)))
noncomputable abbrev Sb:Code:=C4 ac9
noncomputable def Z2(L:Nat):Cfg:=B4 L [84] (A2 [(21,[2,0,0,6,2]),(17,[2,0,0,4,1,1]),(8,[2,0,0,1,1])]) [(113,LU),(114,Bb7)] (A2 [(24,[2,0]),(22,[2,1,6,2]),(23,[2,1,6,2]),(21,[2,1,6,2,73]),(20,[2,1,6,2]),(18,[2,1,4,1,1]),(19,[2,1,4,1,1]),(17,[2,1,4,1,1,62]),(16,[2,1,4,1,1]),(15,[2,0]),(14,[2,1,4,1,59]),(13,[2,1,4,0,0,0]),(12,[0,1,1,0,3,0]),(11,[2,0]),(9,[2,1,1,1]),(10,[2,1,1,1]),(8,[2,1,1,1,24]),(7,[2,1,1,1]),(6,[2,0]),(5,[2,1,1,23]),(4,[2,1,1,0]),(3,[0,1,1,0,12]),(2,[0,1,1,0]),(1,[0,1,1]),(0,[0,1])]) [113] (A2 [(4,[2,1]),(5,[2,1,6,2]),(2,[2,1,6]),(3,[2,1,4,1,1]),(0,[2,1]),(1,[2,1,1,1])]) (some [2,0]) [] [] []
noncomputable def Me{R:Type}(L n:Nat)(b:Bool)(c:LL)(a:Int)(g d:LL)(f:LL->LL->Option R):Option R:=match n with|0=>none|n+1=>cond (ltI a 8) (cond (inR a c.length) (cond (okE ⟨true,false,[.int .u16]⟩ c (a8 a) 0) (cond (inR a 8) (cond (decide ((a8 a)<d.length)) (vl (aa0 d (a8 a) (F8 (b9 d (a8 a) []) 0 [(SV.int .u16 (gE c (a8 a) 0))])) λe=>Me L n b c (A1 (a+1)) g e f) none) none) none) none) (f g d)
theorem A64(n l_z0 a i2 l3 l4):C5 2 ((Z2 L).keep 8) (bd (Z2 L) Q Y (cd [1,1,1,0,1,0,1,1,0,1,0,0] Sb)) n ⟨gp [(2,.ptr 0 0 0),(1,.ptr 1 0 0),(1,.s (.sl l_z0 l_z0 1 a)),(1,pI i2)] 93,[.arr false 25 1 l3,.arr false 25 1 l4],s⟩ k =
 Me L n l_z0 a i2 l3 l4 (λc a=>k (.exit 0) ⟨gp [(2,.ptr 0 0 0),(1,.ptr 1 0 0)] 97,[.arr false 25 1 c,.arr false 25 1 a],s⟩):=by
 induction n generalizing l_z0 a i2 l3 l4 with
 | zero=>rfl
 | succ n b=>rw[Me];simp only[<-b];kernel_rfl
noncomputable def Mg{R:Type}(L n:Nat)(e:Bool)(d:LL)(b:Bool)(i:LL)(a:Int)(h f:LL)(g:Bool->LL->LL->LL->Option R):Option R:=match n with|0=>none|n+1=>cond (ltI a (d.length:Int)) (cond (inR a d.length) (cond (okE ⟨true,false,[.int .u16]⟩ d (a8 a) 0) (cond (inR a 8) (cond (decide ((a8 a)<f.length)) (vl (aa0 f (a8 a) (F8 (b9 f (a8 a) []) 0 [(SV.int .u16 (gE d (a8 a) 0))])) λc=>Mg L n e d b i (A1 (a+1)) h c g) none) none) none) none) (g b i h f)
theorem A65(n l_z0 l1 r_z2 r3 i4 l5 l6):C5 2 ((Z2 L).keep 17) (bd (Z2 L) Q Y (cd [1,1,1,1,1,1,1,0,1,0,0] Sb)) n ⟨gp [(2,.ptr 0 0 0),(1,.ptr 1 0 0),(4,.s (.sl l_z0 l_z0 1 l1)),(1,.s (.sl r_z2 r_z2 1 r3)),(1,pI i4)] 88,[.arr false 25 1 l5,.arr false 25 1 l6],s⟩ k =
 Mg L n l_z0 l1 r_z2 r3 i4 l5 l6 (λa e c d=>k (.exit 2) ⟨gp [(2,.ptr 0 0 0),(1,.ptr 1 0 0),(6,.s (.sl a a 1 e))] 90,[.arr false 25 1 c,.arr false 25 1 d],s⟩):=by
 induction n generalizing l_z0 l1 r_z2 r3 i4 l5 l6 with
 | zero=>rfl
 | succ n b=>rw[Mg];simp only[<-b];kernel_rfl
noncomputable def Mh{R:Type}(L n:Nat)(e:Bool)(c:LL)(b:Int)(h f:LL)(g:LL->LL->Option R):Option R:=match n with|0=>none|n+1=>cond (ltI b (c.length:Int)) (vl (A1 ((8:Int)-(c.length:Int))) λa=>cond (inR b c.length) (cond (okE ⟨true,false,[.int .u16]⟩ c (a8 b) 0) (cond (inR (A1 (a+b)) 8) (cond (decide ((a8 (A1 (a+b)))<f.length)) (vl (aa0 f (a8 (A1 (a+b))) (F8 (b9 f (a8 (A1 (a+b))) []) 0 [(SV.int .u16 (gE c (a8 b) 0))])) λd=>Mh L n e c (A1 (b+1)) h d g) none) none) none) none) (g h f)
theorem A66(n r_z0 r1 i2 l3 l4):C5 2 ((Z2 L).keep 21) (bd (Z2 L) Q Y (cd [1,1,1,1,1,1,1,1,0,1,0,0] Sb)) n ⟨gp [(2,.ptr 0 0 0),(1,.ptr 1 0 0),(6,.s (.sl r_z0 r_z0 1 r1)),(2,pI i2)] 87,[.arr false 25 1 l3,.arr false 25 1 l4],s⟩ k =
 Mh L n r_z0 r1 i2 l3 l4 (λb c=>k (.exit 4) ⟨gp [(2,.ptr 0 0 0),(1,.ptr 1 0 0)] 97,[.arr false 25 1 b,.arr false 25 1 c],s⟩):=by
 induction n generalizing r_z0 r1 i2 l3 l4 with
 | zero=>rfl
 | succ n a=>rw[Mh];simp only[<-a];kernel_rfl
noncomputable def Cg1{R:Type}(L:Nat)(e:By)(j:Int->Int->Int->Int->Int->Int->Int->Int->Bool->LL->LL->Option R):Option R:=cond (A3 e.length) (cond (ltI (HL e) (0:Int)) (cond (A3 e.length) (cond (not (j2 (P0 e true))) (j 0 0 0 0 0 0 0 0 false (j0 8 [(SV.int .u16 (0:Int))]) (j0 8 [(SV.int .u16 (0:Int))])) (cond ((↑(b8 (C9 (gvs e true))):Int)!=8) (j 0 0 0 0 0 0 0 0 false (j0 8 [(SV.int .u16 (0:Int))]) (j0 8 [(SV.int .u16 (0:Int))])) (Me L L (j8 (gvs e true)) (C9 (gvs e true)) 0 (j0 8 [(SV.int .u16 (0:Int))]) (j0 8 [(SV.int .u16 (0:Int))]) (λn a=>cond ((decide (8=(a.length*1)))&&(okS ⟨true,true,[.int .u16,.int .u16,.int .u16,.int .u16,.int .u16,.int .u16,.int .u16,.int .u16]⟩ (c9 a) 0)) (vl (SV.gI (b9 (c9 a) 0 SV.nilp)) λo=>vl (SV.gI (b9 (c9 a) 1 SV.nilp)) λp=>vl (SV.gI (b9 (c9 a) 2 SV.nilp)) λq=>vl (SV.gI (b9 (c9 a) 3 SV.nilp)) λr=>vl (SV.gI (b9 (c9 a) 4 SV.nilp)) λt=>vl (SV.gI (b9 (c9 a) 5 SV.nilp)) λu=>vl (SV.gI (b9 (c9 a) 6 SV.nilp)) λv=>vl (SV.gI (b9 (c9 a) 7 SV.nilp)) λw=>cond (decide (8=(n.length*1))) (vl (R7 1 n.length [(SV.int .u16 o),(SV.int .u16 p),(SV.int .u16 q),(SV.int .u16 r),(SV.int .u16 t),(SV.int .u16 u),(SV.int .u16 v),(SV.int .u16 w)]) λb=>cond ((decide (8=(b.length*1)))&&(okS ⟨true,true,[.int .u16,.int .u16,.int .u16,.int .u16,.int .u16,.int .u16,.int .u16,.int .u16]⟩ (c9 b) 0)) (j (SV.gI (b9 (c9 b) 0 SV.nilp)) (SV.gI (b9 (c9 b) 1 SV.nilp)) (SV.gI (b9 (c9 b) 2 SV.nilp)) (SV.gI (b9 (c9 b) 3 SV.nilp)) (SV.gI (b9 (c9 b) 4 SV.nilp)) (SV.gI (b9 (c9 b) 5 SV.nilp)) (SV.gI (b9 (c9 b) 6 SV.nilp)) (SV.gI (b9 (c9 b) 7 SV.nilp)) true b a) none) none) none)))) none) (cond (I2 0 (HL e) e.length) (vl (cut e 0 (HL e)) λf=>cond (A3 f.length) (vl (A1 ((HL e)+2)) λG=>cond (I2 G (e.length:Int) e.length) (vl (cut e G (e.length:Int)) λg=>cond (A3 g.length) (cond (not (j2 (P0 f false))) (j 0 0 0 0 0 0 0 0 false (j0 8 [(SV.int .u16 (0:Int))]) (j0 8 [(SV.int .u16 (0:Int))])) (cond (not (j2 (P0 g true))) (j 0 0 0 0 0 0 0 0 false (j0 8 [(SV.int .u16 (0:Int))]) (j0 8 [(SV.int .u16 (0:Int))])) (vl (A1 ((↑(b8 (C9 (gvs f false))):Int)+(↑(b8 (C9 (gvs g true))):Int))) λI=>cond (ltI 7 I) (j 0 0 0 0 0 0 0 0 false (j0 8 [(SV.int .u16 (0:Int))]) (j0 8 [(SV.int .u16 (0:Int))])) (Mg L L (j8 (gvs f false)) (C9 (gvs f false)) (j8 (gvs g true)) (C9 (gvs g true)) 0 (j0 8 [(SV.int .u16 (0:Int))]) (j0 8 [(SV.int .u16 (0:Int))]) (λh H l m=>Mh L L h H 0 l m (λi c=>cond ((decide (8=(c.length*1)))&&(okS ⟨true,true,[.int .u16,.int .u16,.int .u16,.int .u16,.int .u16,.int .u16,.int .u16,.int .u16]⟩ (c9 c) 0)) (vl (SV.gI (b9 (c9 c) 0 SV.nilp)) λx=>vl (SV.gI (b9 (c9 c) 1 SV.nilp)) λy=>vl (SV.gI (b9 (c9 c) 2 SV.nilp)) λz=>vl (SV.gI (b9 (c9 c) 3 SV.nilp)) λA=>vl (SV.gI (b9 (c9 c) 4 SV.nilp)) λB=>vl (SV.gI (b9 (c9 c) 5 SV.nilp)) λC=>vl (SV.gI (b9 (c9 c) 6 SV.nilp)) λD=>vl (SV.gI (b9 (c9 c) 7 SV.nilp)) λF=>cond (decide (8=(i.length*1))) (vl (R7 1 i.length [(SV.int .u16 x),(SV.int .u16 y),(SV.int .u16 z),(SV.int .u16 A),(SV.int .u16 B),(SV.int .u16 C),(SV.int .u16 D),(SV.int .u16 F)]) λd=>cond ((decide (8=(d.length*1)))&&(okS ⟨true,true,[.int .u16,.int .u16,.int .u16,.int .u16,.int .u16,.int .u16,.int .u16,.int .u16]⟩ (c9 d) 0)) (j (SV.gI (b9 (c9 d) 0 SV.nilp)) (SV.gI (b9 (c9 d) 1 SV.nilp)) (SV.gI (b9 (c9 d) 2 SV.nilp)) (SV.gI (b9 (c9 d) 3 SV.nilp)) (SV.gI (b9 (c9 d) 4 SV.nilp)) (SV.gI (b9 (c9 d) 5 SV.nilp)) (SV.gI (b9 (c9 d) 6 SV.nilp)) (SV.gI (b9 (c9 d) 7 SV.nilp)) true d c) none) none) none)))))) none) none) none) none)) none
theorem Cz0(d:Nat)(s0):evC (Z2 L) (d+1) Z Y 84 [pS s0] [] s=Cg1 L s0 (λl m n o p q r t r8 h l10=>some (.tup [.agg [p16 l,p16 m,p16 n,p16 o,p16 p,p16 q,p16 r,p16 t],pB r8],[.arr false 25 1 h,.arr false 25 1 l10],s)):=by refine(evE (fn:=ac9) (by kernel_rfl)).trans ?_;generalize evC (Z2 L) d=Q;unfold Cg1;exact(j1 (by kernel_rfl) (A0 (A0 (A0 (A0 rfl (A0 rfl ((A64 L Q Y s (E3 0 (E2 (Z2 L) Q Y (cd [1,1,1,0,1,0,1,1,1] Sb) (E2 (Z2 L) Q Y (cd [1,1,1,1] Sb) (F5 (Z2 L) ac9)))) L (j8 (gvs s0 true)) (C9 (gvs s0 true)) 0 (j0 8 [(SV.int .u16 (0:Int))]) (j0 8 [(SV.int .u16 (0:Int))])).trans (by kernel_rfl)))) rfl) (A0 (A4 λf=>(A0 (A4 λi=>(A0 (A4 λg=>(A0 (A0 rfl (A0 rfl (A4 λj=>(A0 rfl ((A65 L Q Y s (E3 2 (E2 (Z2 L) Q Y (cd [1,1,1,1,1,1,1,1] Sb) (F5 (Z2 L) ac9))) L (j8 (gvs f false)) (C9 (gvs f false)) (j8 (gvs g true)) (C9 (gvs g true)) 0 (j0 8 [(SV.int .u16 (0:Int))]) (j0 8 [(SV.int .u16 (0:Int))])).trans (congr rfl (fx4 λa e b c=>(j1 (by kernel_rfl) ((A66 L Q Y s (E3 4 (E2 (Z2 L) Q Y (cd [1,1,1,1,1,1,1,1,1] Sb) (F5 (Z2 L) ac9))) L a e 0 b c).trans (by kernel_rfl)))))))))) rfl)) rfl)) rfl)) rfl)) rfl))
noncomputable abbrev Bd8:Code:=C4 ah5
noncomputable def Ky(L:Nat):Cfg:=B4 L [98] (A2 [(3,[2,0,0])]) [] (A2 [(6,[2]),(4,[3,0]),(5,[3,0]),(3,[3,0,6]),(2,[3,0]),(1,[0,2]),(0,[0])]) [] (A2 [(0,[3]),(1,[3,0])]) (some [2]) [] [] []
noncomputable def Ae{R:Type}(L n:Nat)(a:By)(v1:Int)(f:By->Option R):Option R:=match n with|0=>none|n+1=>cond (ltI 0 v1) (vl (Db ((w8 v1 (16:Int))+1)) λb=>cond (I2 (w8 v1 (16:Int)) b 16) (vl (cut ([48,49,50,51,52,53,54,55,56,57,97,98,99,100,101,102]:List UInt8) (w8 v1 (16:Int)) b) λd=>cond (E5 d.length a.length) (vl (Db (x9 v1 (16:Int))) λg=>Ae L n (d++a) g f) none) none) (cond (a==[]) (vl (Db ((w8 v1 (16:Int))+1)) λc=>cond (I2 (w8 v1 (16:Int)) c 16) (vl (cut ([48,49,50,51,52,53,54,55,56,57,97,98,99,100,101,102]:List UInt8) (w8 v1 (16:Int)) c) λe=>cond (E5 e.length a.length) (vl (Db (x9 v1 (16:Int))) λh=>Ae L n (e++a) h f) none) none) (f a))
theorem Ac0(n a v1):C5 0 ((Ky L).keep 3) (bd (Ky L) Q Y (cd [1,1,0,1,0,0] Bd8)) n ⟨gp [(3,pS a),(0,p16 v1)] 18,[],s⟩ k =
 Ae L n a v1 (λa=>k (.exit 0) ⟨gp [(3,pS a)] 19,[],s⟩):=by
 induction n generalizing a v1 with
 | zero=>rfl
 | succ n b=>rw[Ae];simp only[<-b];kernel_rfl
noncomputable def Bi0{R:Type}(L:Nat)(b:Int)(c:By->Option R):Option R:=Ae L L ([]:List UInt8) b (λa=>c a)
theorem Cc7(d:Nat)(g0):evC (Ky L) (d+1) Z Y 98 [p16 g0] [] s=Bi0 L g0 (λa=>some (pS a,[],s)):=by refine(evE (fn:=ah5) (by kernel_rfl)).trans ?_;generalize evC (Ky L) d=Q;unfold Bi0;exact(j1 (by kernel_rfl) ((Ac0 L Q Y s (E3 0 (E2 (Ky L) Q Y (cd [1,1,1] Bd8) (F5 (Ky L) ah5))) L ([]:List UInt8) g0).trans (by kernel_rfl)))
noncomputable abbrev Nw:Code:=C4 af1
noncomputable def W5(L:Nat):Cfg:=B4 L [71] (A2 [(12,[1,0,0,0,2,0]),(6,[1,0,0,0,0,0]),(3,[1,0,0,0,0])]) [(98,Bb9)] (A2 [(20,[2]),(13,[1,1,0,2,0]),(19,[1,1,0,2,0]),(18,[1,1,0,2,0]),(17,[1,1,0,2,0,45]),(16,[1,1,0,2,0]),(15,[1,1,0,2,0]),(14,[1,1,0,2,0,29]),(12,[1,1,0,2,0,24]),(11,[1,1,0,2,0]),(10,[1,1,0,2]),(4,[1,1,0,0]),(9,[1,1,0,0]),(8,[1,1,0,0,0,22]),(7,[1,1,0,0,0]),(6,[1,1,0,0,0,17]),(5,[1,1,0,0,0]),(3,[1,1,0,0,4]),(2,[1,1,0,0]),(1,[1,1,0]),(0,[1])]) [98] (A2 [(4,[7]),(5,[1,1,0,2,0]),(0,[1,1,0]),(1,[1,1,0,0]),(2,[1,1,0,0,0]),(3,[1,1,0,0,0])]) (some [2]) [] [] []
noncomputable def Md{R:Type}(L n:Nat)(b a c d:Int)(e:LL)(f:Int->Int->Int->Int->LL->Option R):Option R:=match n with|0=>none|n+1=>cond (ltI (A1 (c+d)) (8:Int)) (cond (inR (A1 (c+d)) 8) (cond (okE ⟨true,false,[.int .u16]⟩ e (a8 (A1 (c+d))) 0) (vl (gE e (a8 (A1 (c+d))) 0) λg=>cond (g==0) (Md L n b a c (A1 (d+1)) e f) (f b a c d e)) none) none) (f b a c d e)
theorem A61(n b a c e d):C5 1 ((W5 L).keep 6) (bd (W5 L) Q Y (cd [1,1,0,1,0,0,1,0,0,1,0,0,0] Nw)) n ⟨gp [(1,.ptr 0 0 0),(1,pI b),(0,pI a),(0,pI c),(0,pI e)] 57,[.arr false 25 1 d],s⟩ k =
 Md L n b a c e d (λb a c e d=>k (.exit 2) ⟨gp [(1,.ptr 0 0 0),(1,pI b),(0,pI a),(0,pI c),(0,pI e)] 57,[.arr false 25 1 d],s⟩):=by
 induction n generalizing b a c e d with
 | zero=>rfl
 | succ n f=>rw[Md];simp only[<-f];kernel_rfl
noncomputable def Ic{R:Type}(L n:Nat)(e b i:Int)(j:LL)(h:Int->Int->LL->Option R):Option R:=match n with|0=>none|n+1=>cond (ltI i 8) (Md L L e b i 0 j (λd a c g f=>cond (ltI a g) (Ic L n c g (A1 (c+1)) f h) (Ic L n d a (A1 (c+1)) f h))) (h e b j)
theorem A62(n b a i2 l3):C5 1 ((W5 L).keep 3) (bd (W5 L) Q Y (cd [1,1,0,1,0,0] Nw)) n ⟨gp [(1,.ptr 0 0 0),(1,pI b),(0,pI a),(0,pI i2)] 58,[.arr false 25 1 l3],s⟩ k =
 Ic L n b a i2 l3 (λb a i=>k (.exit 0) ⟨gp [(1,.ptr 0 0 0),(1,pI b),(0,pI a)] 59,[.arr false 25 1 i],s⟩):=by
 induction n generalizing b a i2 l3 with
 | zero=>rfl
 | succ n h=>rw[Ic];exact(j1 (by kernel_rfl) (A0 ((A61 L Q Y s (E3 2 (E2 (W5 L) Q Y (cd [1,1,0,1,0,0,1,0,0,1,1] Nw) (E3 1 (E2 (W5 L) Q Y (cd [1,1,0,1,0,0,1,1] Nw) (lpK 1 ((W5 L).keep 3) (bd (W5 L) Q Y (cd [1,1,0,1,0,0] Nw)) n k))))) L b a i2 0 l3).trans (congr rfl (fx5 λe c d g f=>(j1 (by kernel_rfl) (A0 (h d g (A1 (d+1)) f) (h e c (A1 (d+1)) f)))))) rfl))
noncomputable def R5{R:Type}(L n:Nat)(e a:Int)(d:By)(b:Int)(c:LL)(l:By->LL->Option R):Option R:=match n with|0=>none|n+1=>cond (ltI b 8) (cond (b==e) (cond (E5 d.length 2) (vl (d++[58,58]) λp=>vl (A1 (a-1)) λm=>vl (A1 ((A1 (b+m))+1)) λo=>R5 L n e a p o c l) none) (cond (not (d==[])) (vl (A1 ((d.length:Int)-1)) λf=>cond (inR f d.length) (cond ((bAt d f)!=58) (cond (E5 d.length 1) (vl (d++[58]) λg=>cond (inR b 8) (cond (okE ⟨true,false,[.int .u16]⟩ c (a8 b) 0) (cond (ltN (gE c (a8 b) 0) 65536) (vl (R2 (a8 (gE c (a8 b) 0))) λh=>cond (E5 g.length h.length) (R5 L n e a (g++h) (A1 (b+1)) c l) none) none) none) none) none) (cond (inR b 8) (cond (okE ⟨true,false,[.int .u16]⟩ c (a8 b) 0) (cond (ltN (gE c (a8 b) 0) 65536) (vl (R2 (a8 (gE c (a8 b) 0))) λi=>cond (E5 d.length i.length) (R5 L n e a (d++i) (A1 (b+1)) c l) none) none) none) none)) none) (cond (inR b 8) (cond (okE ⟨true,false,[.int .u16]⟩ c (a8 b) 0) (cond (ltN (gE c (a8 b) 0) 65536) (vl (R2 (a8 (gE c (a8 b) 0))) λj=>cond (E5 d.length j.length) (R5 L n e a (d++j) (A1 (b+1)) c l) none) none) none) none))) (l d c)
theorem A63(n at0 most1 s2 i3 l4):C5 1 ((W5 L).keep 12) (bd (W5 L) Q Y (cd [1,1,1,1,0,1,0,0] Nw)) n ⟨gp [(1,.ptr 0 0 0),(1,pI at0),(0,pI most1),(2,pS s2),(0,pI i3)] 55,[.arr false 25 1 l4],s⟩ k =
 R5 L n at0 most1 s2 i3 l4 (λc b=>k (.exit 4) ⟨gp [(7,pS c)] 56,[.arr false 25 1 b],s⟩):=by
 induction n generalizing at0 most1 s2 i3 l4 with
 | zero=>rfl
 | succ n a=>rw[R5];simp only[<-a];kernel_rfl
noncomputable def Cy7{R:Type}(L:Nat)(f g h i j l m n:Int)(o:By->LL->Option R):Option R:=Ic L L (-1) 1 0 [[(SV.int .u16 f)],[(SV.int .u16 g)],[(SV.int .u16 h)],[(SV.int .u16 i)],[(SV.int .u16 j)],[(SV.int .u16 l)],[(SV.int .u16 m)],[(SV.int .u16 n)]] (λb a e=>R5 L L b a ([]:List UInt8) 0 e (λd c=>o d c))
theorem Cy8(d:Nat)(a0 a1 a2 a3 a4 a5 a6 a7):evC (W5 L) (d+1) Z Y 71 [.agg [p16 a0,p16 a1,p16 a2,p16 a3,p16 a4,p16 a5,p16 a6,p16 a7]] [] s=Cy7 L a0 a1 a2 a3 a4 a5 a6 a7 (λf e=>some (pS f,[.arr false 25 1 e],s)):=by refine(evE (fn:=af1) (by kernel_rfl)).trans ?_;generalize evC (W5 L) d=Q;unfold Cy7;exact(j1 (by kernel_rfl) ((A62 L Q Y s (E3 0 (E2 (W5 L) Q Y (cd [1,1,1] Nw) (F5 (W5 L) af1))) L (-1) 1 0 [[(SV.int .u16 a0)],[(SV.int .u16 a1)],[(SV.int .u16 a2)],[(SV.int .u16 a3)],[(SV.int .u16 a4)],[(SV.int .u16 a5)],[(SV.int .u16 a6)],[(SV.int .u16 a7)]]).trans (congr rfl (fx3 λb a c=>(j1 (by kernel_rfl) ((A63 L Q Y s (E3 4 (E2 (W5 L) Q Y (cd [1,1,1,1,1] Nw) (F5 (W5 L) af1))) L b a ([]:List UInt8) 0 c).trans (by kernel_rfl)))))))
noncomputable def GS(L:Nat):Cfg:=B4 L [168] (A2 []) [] (A2 [(1,[2]),(0,[0])]) [] (A2 []) (some [2]) [] [] []
noncomputable def UX{R:Type}(L:Nat)(n0:Int)(a:Bool->Option R):Option R:=cond (not (ltI n0 0)) (cond (not (ltI 1114111 n0)) (cond (ltI n0 55296) (a true) (a (ltI 57343 n0))) (a false)) (a false)
theorem Br6(d:Nat)(n0):evC (GS L) (d+1) Z Y 168 [pI n0] [] s=UX L n0 (λa=>some (pB a,[],s)):=by refine(evE (fn:=Tryz.f168) (by kernel_rfl)).trans ?_;generalize evC (GS L) d=Q;unfold UX;kernel_rfl
noncomputable abbrev Nu:Code:=C4 ad8
noncomputable def W3(L:Nat):Cfg:=B4 L [170] (A2 [(6,[0,5,0])]) [] (A2 [(9,[6]),(8,[0,6]),(7,[0,6]),(6,[0,6,11]),(5,[0,6]),(4,[0]),(2,[0,0]),(3,[0,0]),(1,[0,0,6]),(0,[0,0,0])]) [] (A2 [(0,[0,6]),(1,[0,6])]) (some [6]) [] [] []
noncomputable def Fo{R:Type}(L n:Nat)(a b:Int)(e:Int->Int->Option R):Option R:=match n with|0=>none|n+1=>cond (ltI 455 a) (vl (A1 (x9 a (35:Int))) λc=>vl (A1 (b+36)) λd=>Fo L n c d e) (e a b)
theorem UT(n a b):C5 0 ((W3 L).keep 6) (bd (W3 L) Q Y (cd [1,1,1,1,0,0,0] Nu)) n ⟨gp [(0,pI a),(6,pI b)] 23,[],s⟩ k =
 Fo L n a b (λa b=>k (.exit 0) ⟨gp [(0,pI a),(6,pI b)] 23,[],s⟩):=by
 induction n generalizing a b with
 | zero=>rfl
 | succ n c=>rw[Fo];simp only[<-c];kernel_rfl
noncomputable def Fm{R:Type}(L:Nat)(c b:Int)(i:Int->Option R):Option R:=cond (b !=0) (vl (A1 (x9 c b)) λh=>Fo L L (A1 (c+h)) 0 (λa e=>vl (A1 ((36:Int)*a)) λf=>vl (A1 (a+38)) λd=>cond (d !=0) (vl (A1 (x9 f d)) λg=>i (A1 (e+g))) none)) none
abbrev BX(b:Code):Prop:=∀(k:Out->St Z->Option R) delta0 count1,A9 (W3 L) Q Y b ⟨gp [(0,pI delta0),(0,pI count1)] 29,[],s⟩ k=Fm L delta0 count1 (λn0=>k .ret ⟨gp [(6,pI n0)] 24,[],s⟩)
theorem US:BX (R:=R) L Q Y s (cd [1,1] Nu):=by intro k a b;unfold Fm;exact(j1 (by kernel_rfl) (A0 (A4 λc=>((UT L Q Y s (E3 0 (E2 (W3 L) Q Y (cd [1,1,1,1,1] Nu) k)) L (A1 (a+c)) 0).trans (by kernel_rfl))) rfl))
noncomputable def IY{R:Type}(L:Nat)(b a:Int)(c:Bool)(h:Int->Option R):Option R:=cond c (vl (A1 (x9 b (700:Int))) λf=>Fm L f a (λd=>h d)) (vl (A1 (x9 b (2:Int))) λg=>Fm L g a (λe=>h e))
theorem Bq2(e:Code)(a:BX (R:=PV × List Blk × Z) L Q Y s e)(c b:Int)(d:Bool):A9 (W3 L) Q Y (cd [] (G5 [1,1] e Nu)) ⟨[pI c,pI b,pB d]++tps 28,[],s⟩ (F5 (W3 L) ad8)=IY L c b d (λi=>some (pI i,[],s)):=by unfold IY;exact let h:=(F5 (W3 L) ad8);(j1 (by kernel_rfl) (A0 (A4 λf=>((a h f b).trans (by kernel_rfl))) (A4 λg=>((a h g b).trans (by kernel_rfl)))))
theorem Bq3(d:Nat)(delta0 count1 first2):evC (W3 L) (d+1) Z Y 170 [pI delta0,pI count1,pB first2] [] s=IY L delta0 count1 first2 (λa=>some (pI a,[],s)):=
 (evE (fn:=ad8) (by kernel_rfl)).trans (j1 (by kernel_rfl) (Bq2 L (evC (W3 L) d) Y s (cd [1,1] Nu) (US L (evC (W3 L) d) Y s) delta0 count1 first2))
noncomputable def Ao9(L:Nat):Cfg:=B4 L [183] (A2 []) [] (A2 [(3,[2]),(2,[2]),(1,[0,3]),(0,[0])]) [] (A2 []) (some [2]) [] [] []
noncomputable def Cu6{R:Type}(L:Nat)(a:Int)(d:Int->Option R):Option R:=cond (ltI a 26) (vl (wu8 (A1 ((97:Int)+a))) λb=>d b) (vl (A1 ((A1 ((48:Int)+a))-26)) λc=>d (wu8 c))
theorem Cu7(d:Nat)(d0):evC (Ao9 L) (d+1) Z Y 183 [pI d0] [] s=Cu6 L d0 (λa=>some (p8 a,[],s)):=by refine(evE (fn:=Tryz.f183) (by kernel_rfl)).trans ?_;generalize evC (Ao9 L) d=Q;unfold Cu6;kernel_rfl
noncomputable abbrev Rz:Code:=C4 ae0
noncomputable def Io(L:Nat):Cfg:=B4 L [189] (A2 []) [] (A2 [(7,[2]),(2,[2]),(4,[2]),(6,[2]),(5,[0,22]),(3,[0,12]),(1,[0,2]),(0,[0])]) [] (A2 [(0,[])]) (some [2]) [] [] []
noncomputable def Wf{R:Type}(a:Int)(g:Bool)(e:Int->Option R)(f:Int->Bool->Option R):Option R:=cond g (vl (A1 (wu8 (a-65))) λb=>e b) (cond (not (ltI a 48)) (cond (not (ltI 57 a)) (vl (A1 (wu8 (a-48))) λc=>vl (A1 (c+26)) λd=>e d) (f a (not (ltI 57 a)))) (f a false))
abbrev NR(b:Code):Prop:=∀(k:Out->St Z->Option R) a c,A9 (Io L) Q Y b ⟨gp [(0,p8 a),(12,pB c)] 20,[],s⟩ k=Wf a c (λn0=>k .ret ⟨gp [(2,pI n0)] 31,[],s⟩) (λa c=>k .normal ⟨gp [(0,p8 a),(22,pB c)] 10,[],s⟩)
theorem Ay1:NR (R:=R) L Q Y s (cd [1,0,0,1,1,1] Rz):=by intro k a b;unfold Wf;kernel_rfl
noncomputable def Wg{R:Type}(a:Int)(l:Bool)(f:Int->Option R)(j:Int->Bool->Option R):Option R:=cond l (vl (A1 (wu8 (a-97))) λg=>f g) (cond (not (ltI a 65)) (Wf a (not (ltI 90 a)) (λh=>f h) (λb c=>j b c)) (Wf a false (λi=>f i) (λd e=>j d e)))
abbrev AG(b:Code):Prop:=∀(k:Out->St Z->Option R) a c,A9 (Io L) Q Y b ⟨gp [(0,p8 a),(2,pB c)] 30,[],s⟩ k=Wg a c (λn0=>k .ret ⟨gp [(2,pI n0)] 31,[],s⟩) (λa c=>k .normal ⟨gp [(0,p8 a),(22,pB c)] 10,[],s⟩)
theorem Ay2(a:Code)(b:NR (R:=R) L Q Y s a):AG (R:=R) L Q Y s (cd [1,0,0,1] (G5 [1,0,0,1,1,1] a Rz)):=by intro k c d;unfold Wg;simp only[<-b k];kernel_rfl
theorem Ay3:AG (R:=R) L Q Y s (cd [1,0,0,1] Rz):=by intro k a b;exact j1 (by kernel_rfl) (Ay2 L Q Y s (cd [1,0,0,1,1,1] Rz) (Ay1 L Q Y s) k a b)
noncomputable def Cb3{R:Type}(L:Nat)(c:Int)(d:Int->Option R):Option R:=cond (not (ltI c 97)) (Wg c (not (ltI 122 c)) (λa=>d a) (λe f=>d (-1))) (Wg c false (λb=>d b) (λg h=>d (-1)))
theorem Cv7(b:Code)(a:AG (R:=PV × List Blk × Z) L Q Y s b)(c:Int):A9 (Io L) Q Y (cd [] (G5 [1,0,0,1] b Rz)) ⟨[p8 c]++tps 33,[],s⟩ (F5 (Io L) ae0)=Cb3 L c (λe=>some (pI e,[],s)):=by unfold Cb3;exact let d:=(E3 0 (E2 (Io L) Q Y (cd [1,1] Rz) (F5 (Io L) ae0)));(j1 (by kernel_rfl) (A0 ((a d c (not (ltI 122 c))).trans (by kernel_rfl)) ((a d c false).trans (by kernel_rfl))))
theorem Cv8(d:Nat)(b0):evC (Io L) (d+1) Z Y 189 [p8 b0] [] s=Cb3 L b0 (λa=>some (pI a,[],s)):=
 (evE (fn:=ae0) (by kernel_rfl)).trans (j1 (by kernel_rfl) (Cv7 L (evC (Io L) d) Y s (cd [1,0,0,1] Rz) (Ay3 L (evC (Io L) d) Y s) b0))
end
section
variable {Z R : Type} (L : Nat) (Q : F7) (Y : Yh Z) (s : Z) (k : Out -> St Z -> Option R)
noncomputable def Ao7(L:Nat):Cfg:=B4 L [79] (A2 []) [] (A2 [(1,[4]),(0,[0,0])]) [] (A2 []) (some [4]) [] [] []
noncomputable def Ct1{R:Type}(L:Nat)(c a:By)(d:Bool->Option R):Option R:=cond (not (ltI (c.length:Int) (a.length:Int))) (cond (I2 0 (a.length:Int) c.length) (vl (cut c 0 (a.length:Int)) λb=>d (b==a)) none) (d false)
theorem Ct2(d:Nat)(s0 prefix1):evC (Ao7 L) (d+1) Z Y 79 [pS s0,pS prefix1] [] s=Ct1 L s0 prefix1 (λa=>some (pB a,[],s)):=by refine(evE (fn:=Tryz.f79) (by kernel_rfl)).trans ?_;generalize evC (Ao7 L) d=Q;unfold Ct1;kernel_rfl
noncomputable def Ao5(L:Nat):Cfg:=B4 L [59] (A2 []) [(79,PP)] (A2 [(1,[4]),(0,[0,0])]) [79] (A2 []) (some [4]) [] [] []
noncomputable def Sw{R:Type}(L:Nat)(b a:By)(c:Bool->Option R):Option R:=cond (A3 b.length) (c (o7 a b)) none
theorem Cr9(d:Nat)(s0 prefix1):evC (Ao5 L) (d+1) Z Y 59 [pS s0,pS prefix1] [] s=Sw L s0 prefix1 (λa=>some (pB a,[],s)):=by refine(evE (fn:=Tryz.f59) (by kernel_rfl)).trans ?_;generalize evC (Ao5 L) d=Q;unfold Sw;kernel_rfl
noncomputable def Ao8(L:Nat):Cfg:=B4 L [93] (A2 []) [] (A2 [(1,[4]),(0,[0,0])]) [] (A2 []) (some [4]) [] [] []
noncomputable def Ct3{R:Type}(L:Nat)(b a:By)(e:Bool->Option R):Option R:=cond (not (ltI (b.length:Int) (a.length:Int))) (vl (A1 ((b.length:Int)-(a.length:Int))) λc=>cond (I2 c (b.length:Int) b.length) (vl (cut b c (b.length:Int)) λd=>e (d==a)) none) (e false)
theorem Ct4(d:Nat)(s0 suffix1):evC (Ao8 L) (d+1) Z Y 93 [pS s0,pS suffix1] [] s=Ct3 L s0 suffix1 (λa=>some (pB a,[],s)):=by refine(evE (fn:=Tryz.f93) (by kernel_rfl)).trans ?_;generalize evC (Ao8 L) d=Q;unfold Ct3;kernel_rfl
noncomputable def SQ(L:Nat):Cfg:=B4 L [137] (A2 []) [(93,B14)] (A2 [(3,[4]),(2,[4]),(1,[0,0,5]),(0,[0,0])]) [93] (A2 []) (some [4]) [] [] []
noncomputable def Bg5{R:Type}(L:Nat)(b a:By)(d:By->Option R):Option R:=cond (A3 b.length) (cond (ae4 a b) (vl (A1 ((b.length:Int)-(a.length:Int))) λc=>cond (I2 0 c b.length) (d (cut b 0 c)) none) (d b)) none
theorem B92(d:Nat)(s0 suffix1):evC (SQ L) (d+1) Z Y 137 [pS s0,pS suffix1] [] s=Bg5 L s0 suffix1 (λa=>some (pS a,[],s)):=by refine(evE (fn:=Tryz.f137) (by kernel_rfl)).trans ?_;generalize evC (SQ L) d=Q;unfold Bg5;kernel_rfl
noncomputable def TF(L:Nat):Cfg:=B4 L [107] (A2 []) [(137,Bb5)] (A2 [(1,[4]),(0,[0,0])]) [137] (A2 []) (some [4]) [] [] []
noncomputable def Bj5{R:Type}(L:Nat)(b a:By)(c:By->Option R):Option R:=cond (A3 b.length) (c (WJ b a)) none
theorem Ci0(d:Nat)(s0 suffix1):evC (TF L) (d+1) Z Y 107 [pS s0,pS suffix1] [] s=Bj5 L s0 suffix1 (λa=>some (pS a,[],s)):=by refine(evE (fn:=Tryz.f107) (by kernel_rfl)).trans ?_;generalize evC (TF L) d=Q;unfold Bj5;kernel_rfl
noncomputable def SN(L:Nat):Cfg:=B4 L [74] (A2 []) [(79,PP)] (A2 [(3,[4,0]),(2,[4,0]),(1,[0,0,7]),(0,[0,0])]) [79] (A2 []) (some [4,0]) [] [] []
noncomputable def Bg0{R:Type}(L:Nat)(b a:By)(d:By->Bool->Option R):Option R:=cond (A3 b.length) (cond (not (o7 a b)) (d b false) (cond (I2 (a.length:Int) (b.length:Int) b.length) (vl (cut b (a.length:Int) (b.length:Int)) λc=>d c true) none)) none
theorem B87(d:Nat)(s0 prefix1):evC (SN L) (d+1) Z Y 74 [pS s0,pS prefix1] [] s=Bg0 L s0 prefix1 (λa b=>some (.tup [pS a,pB b],[],s)):=by refine(evE (fn:=Tryz.f74) (by kernel_rfl)).trans ?_;generalize evC (SN L) d=Q;unfold Bg0;kernel_rfl
noncomputable def Ao1(L:Nat):Cfg:=B4 L [57] (A2 []) [(74,Bb2)] (A2 [(1,[4,0]),(0,[0,0])]) [74] (A2 []) (some [4,0]) [] [] []
noncomputable def Co9{R:Type}(L:Nat)(b a:By)(c:By->Bool->Option R):Option R:=cond (A3 b.length) (c (Gd b a) (o7 a b)) none
theorem Cp0(d:Nat)(s0 prefix1):evC (Ao1 L) (d+1) Z Y 57 [pS s0,pS prefix1] [] s=Co9 L s0 prefix1 (λa b=>some (.tup [pS a,pB b],[],s)):=by refine(evE (fn:=Tryz.f57) (by kernel_rfl)).trans ?_;generalize evC (Ao1 L) d=Q;unfold Co9;kernel_rfl
noncomputable abbrev XW:Code:=C4 af7
noncomputable def Dk(L:Nat):Cfg:=B4 L [138] (A2 [(11,[0,0,0,0,4,0,0])]) [(165,Ji),(166,Am0),(154,FT)] (A2 [(18,[8]),(17,[9,0]),(16,[0,0,0,0,5,0]),(15,[0,0,0,0,5,0]),(14,[0,0,0,0,5,0,0]),(13,[0,0,0,0,5,0,0,29]),(12,[0,0,0,0,5,0,0]),(11,[0,0,0,0,5,0,25]),(10,[0,0,0,0,5,0]),(9,[0,0,0,0,5]),(8,[0,0,0,0,5]),(7,[0,0,0,0]),(6,[0,0,0,0]),(5,[0,0,0,0,16]),(4,[8]),(3,[0,0,0,0,11]),(2,[8]),(1,[0,0,0,0,9]),(0,[0,0,0,0])]) [166,154] (A2 [(0,[0,8,0]),(1,[0,0,0,0,5,0])]) (some [8]) [] [] []
noncomputable def Ay{R:Type}(L n:Nat)(c b:By)(a l d:Int)(g:LL)(j:By->Int->LL->Option R):Option R:=match n with|0=>none|n+1=>cond (ltI d l) (cond (A3 c.length) (cond (ltI (x4 c b) (0:Int)) (j c d g) (vl (A1 ((x4 c b)+a)) λe=>cond (I2 0 e c.length) (cond (inR d g.length) (cond (decide ((a8 d)<g.length)) (vl (aa0 g (a8 d) (F8 (b9 g (a8 d) []) 0 [(SV.str (cut c 0 e))])) λh=>vl (A1 ((x4 c b)+(b.length:Int))) λf=>cond (I2 f (c.length:Int) c.length) (vl (cut c f (c.length:Int)) λi=>Ay L n i b a l (A1 (d+1)) h j) none) none) none) none)) none) (j c d g)
theorem Vj(n a sep1 sepSave2 n3 i4 l5):C5 1 ((Dk L).keep 11) (bd (Dk L) Q Y (cd [1,1,1,1,1,1,1,1,0,0,0] XW)) n ⟨gp [(0,pS a),(0,pS sep1),(0,pI sepSave2),(0,pI n3),(5,.fl 0),(0,pI i4)] 55,[.arr false 9 1 l5],s⟩ k =
 Ay L n a sep1 sepSave2 n3 i4 l5 (λa b d=>k (.exit 0) ⟨gp [(0,pS a),(8,.fl 0),(0,pI b)] 55,[.arr false 9 1 d],s⟩):=by
 induction n generalizing a sep1 sepSave2 n3 i4 l5 with
 | zero=>rfl
 | succ n c=>rw[Ay];simp only[<-c];kernel_rfl
noncomputable def HY{R:Type}(L:Nat)(t d:By)(a u:Int)(w:Unit->Option R)(v:Nat->LL->Option R):Option R:=cond (u==0) (w ()) (cond (d==[]) none (cond (ltI u 0) (cond (d.length==1) (vl (↑(List.count (b9 d 0 0) t):Int) λn=>vl (A1 ((t.length:Int)+1)) λo=>vl (if (o<(A1 (n+1))) then o else (A1 (n+1))) λg=>cond (((decide ((0:Int)<=g))&&(decide (g<=g)))&&(F6 (a8 g))) (Ay L L t d a (A1 (g-1)) 0 (j0 (a8 g) [(SV.str ([]:List UInt8))]) (λq b e=>cond (inR b e.length) (cond (decide ((a8 b)<e.length)) (vl (aa0 e (a8 b) (F8 (b9 e (a8 b) []) 0 [(SV.str q)])) λi=>vl (A1 (b+1)) λl=>cond (I2 0 l i.length) (v ((a8 l)-0) i) none) none) none)) none) none) (vl (A1 ((t.length:Int)+1)) λp=>vl (if (p<u) then p else u) λh=>cond (((decide ((0:Int)<=h))&&(decide (h<=h)))&&(F6 (a8 h))) (Ay L L t d a (A1 (h-1)) 0 (j0 (a8 h) [(SV.str ([]:List UInt8))]) (λr c f=>cond (inR c f.length) (cond (decide ((a8 c)<f.length)) (vl (aa0 f (a8 c) (F8 (b9 f (a8 c) []) 0 [(SV.str r)])) λj=>vl (A1 (c+1)) λm=>cond (I2 0 m j.length) (v ((a8 m)-0) j) none) none) none)) none)))
theorem NA(d:Nat)(s0 sep1 sepSave2 n3):evC (Dk L) (d+1) Z Y 138 [pS s0,pS sep1,pI sepSave2,pI n3] [] s=HY L s0 sep1 sepSave2 n3 (λ_=>some (.fl 0,[.arr true 9 1 []],s)) (λc f=>some (.vw 0 0 c,[.arr false 9 1 f],s)):=by refine(evE (fn:=af7) (by kernel_rfl)).trans ?_;generalize evC (Dk L) d=Q;unfold HY;exact let e:=(E3 0 (E2 (Dk L) Q Y (cd [1,1,1,1,1,1,1,1,1] XW) (F5 (Dk L) af7)));(j1 (by kernel_rfl) (A0 rfl (A0 rfl (A0 (A0 (A4 λg=>(A4 λh=>(A4 λa=>(A0 ((Vj L Q Y s e L s0 sep1 sepSave2 (A1 (a-1)) 0 (j0 (a8 a) [(SV.str ([]:List UInt8))])).trans (by kernel_rfl)) rfl)))) rfl) (A4 λi=>(A4 λb=>(A0 ((Vj L Q Y s e L s0 sep1 sepSave2 (A1 (b-1)) 0 (j0 (a8 b) [(SV.str ([]:List UInt8))])).trans (by kernel_rfl)) rfl)))))))
noncomputable def GZ(L:Nat):Cfg:=B4 L [109] (A2 []) [(138,XJ)] (A2 [(1,[4]),(0,[0,0])]) [] (A2 []) (some [4]) [] [] []
noncomputable def WE{R:Type}(L:Nat)(c a:By)(d:LL->Option R):Option R:=cond (A3 c.length) (cond (a.length==1) (cond ((0:Int)==0) (cond (((-1):Int)==((-1):Int)) (vl (D4 (pcs (b9 a 0 0) c)) λb=>d b) none) none) none) none
theorem Bw9(d:Nat)(s0 sep1):evC (GZ L) (d+1) Z Y 109 [pS s0,pS sep1] [] s=WE L s0 sep1 (λa=>some (.s (.sl false false 1 a),[],s)):=by refine(evE (fn:=Tryz.f109) (by kernel_rfl)).trans ?_;generalize evC (GZ L) d=Q;unfold WE;kernel_rfl
noncomputable abbrev B38:Code:=C4 ag9
noncomputable def Sf(L:Nat):Cfg:=B4 L [56] (A2 [(3,[0,1,0,6,0])]) [] (A2 [(10,[2]),(9,[0,2,6,0]),(8,[0,2,6,0]),(7,[0,2,1,4,0]),(6,[0,2,1,4,0,10]),(5,[0,2,1,4,0]),(4,[0,2,0,5,0]),(3,[0,2,6,0,0]),(2,[0,2,6,0]),(1,[0,2]),(0,[0])]) [] (A2 [(0,[3]),(1,[0,2,6,0])]) (some [2]) [] [] []
noncomputable def Ep{R:Type}(L n:Nat)(b:By)(e a:Int)(c:LL)(d:LL->Option R):Option R:=match n with|0=>none|n+1=>cond (ltI a e) (cond (inR a b.length) (cond (not (ltI (bAt b a) (65:Int))) (cond (not (ltI 90 (bAt b a))) (vl (wu8 ((bAt b a)+32)) λf=>cond (F6 (c.length+1)) (Ep L n b e (A1 (a+1)) (c++[[(SV.int .u8 f)]]) d) none) (cond (F6 (c.length+1)) (Ep L n b e (A1 (a+1)) (c++[[(SV.int .u8 (bAt b a))]]) d) none)) (cond (F6 (c.length+1)) (Ep L n b e (A1 (a+1)) (c++[[(SV.int .u8 (bAt b a))]]) d) none)) none) (d c)
theorem Au5(n s0 n1 n2 l3):C5 1 ((Sf L).keep 3) (bd (Sf L) Q Y (cd [1,1,0,1,0,0] B38)) n ⟨gp [(0,pS s0),(2,.fl 0),(6,pI n1),(0,pI n2)] 20,[.arr false 5 1 l3],s⟩ k =
 Ep L n s0 n1 n2 l3 (λb=>k (.exit 0) ⟨gp [(3,.fl 0)] 28,[.arr false 5 1 b],s⟩):=by
 induction n generalizing s0 n1 n2 l3 with
 | zero=>rfl
 | succ n a=>rw[Ep];simp only[<-a];kernel_rfl
noncomputable def Cs9{R:Type}(L:Nat)(b:By)(c:By->LL->Option R):Option R:=cond ((decide ((0:Int)<=(b.length:Int)))&&(F6 (a8 (b.length:Int)))) (Ep L L b (b.length:Int) 0 [] (λa=>cond (s9 a Nh) (c (o9 Lc a) a) none)) none
theorem Ct0(d:Nat)(s0):evC (Sf L) (d+1) Z Y 56 [pS s0] [] s=Cs9 L s0 (λb a=>some (pS b,[.arr false 5 1 a],s)):=by refine(evE (fn:=ag9) (by kernel_rfl)).trans ?_;generalize evC (Sf L) d=Q;unfold Cs9;exact(j1 (by kernel_rfl) (A0 ((Au5 L Q Y s (E3 0 (E2 (Sf L) Q Y (cd [1,1,1] B38) (F5 (Sf L) ag9))) L s0 (s0.length:Int) 0 []).trans (by kernel_rfl)) rfl))
noncomputable def Ao3(L:Nat):Cfg:=B4 L [122] (A2 []) [(59,EJ)] (A2 [(1,[2]),(0,[0])]) [59] (A2 []) (some [2]) [] [] []
noncomputable def Cr5{R:Type}(L:Nat)(a:By)(b:Bool->Option R):Option R:=cond (A3 a.length) (cond (o7 ([48,120]:List UInt8) a) (b true) (cond (A3 a.length) (b (o7 ([48,88]:List UInt8) a)) none)) none
theorem Cr6(d:Nat)(s0):evC (Ao3 L) (d+1) Z Y 122 [pS s0] [] s=Cr5 L s0 (λa=>some (pB a,[],s)):=by refine(evE (fn:=Tryz.f122) (by kernel_rfl)).trans ?_;generalize evC (Ao3 L) d=Q;unfold Cr5;kernel_rfl
noncomputable abbrev Eb:Code:=C4 ad3
noncomputable def V0(L:Nat):Cfg:=B4 L [124] (A2 [(3,[0,0,2,0,0,4,0])]) [] (A2 [(18,[4,0]),(17,[0,0,4,4,0]),(16,[0,0,4,4,0]),(15,[4,0]),(14,[0,0,4,1,2,0,39]),(9,[0,0,4,1,2,0]),(11,[0,0,4,1,2,0]),(13,[0,0,4,1,2,0]),(7,[4,0]),(12,[0,0,4,2,1,0,26]),(10,[0,0,4,2,1,0,15]),(8,[0,0,4,2,1,0,5]),(6,[0,0,4,2,1,0]),(5,[0,0,4,0,3,0]),(4,[0,0,4,0,3,0]),(3,[0,0,4,4,0,0]),(2,[0,0,4,4,0]),(1,[0,0,4]),(0,[0,0])]) [] (A2 [(0,[6]),(1,[0,0,4,4,0]),(2,[0,0,4,1,2,0])]) (some [4,0]) [] [] []
noncomputable def Uq{R:Type}(m:By)(a i b j l:Int)(n:Bool)(g:By->Int->Int->Int->Int->Int->Option R)(h:Unit->Option R):Option R:=cond n (vl (A1 (wu8 (b-97))) λc=>vl (A1 (c+10)) λd=>g m a i d j l) (cond (not (ltI b 65)) (cond (not (ltI 70 b)) (vl (A1 (wu8 (b-65))) λe=>vl (A1 (e+10)) λf=>g m a i f j l) (h ())) (h ()))
abbrev MS(b:Code):Prop:=∀(k:Out->St Z->Option R) f a c b3 d e b6,A9 (V0 L) Q Y b ⟨gp [(0,pS f),(0,pI a),(4,pI c),(2,p8 b3),(1,pI d),(0,pI e),(15,pB b6)] 32,[],s⟩ k=Uq f a c b3 d e b6 (λf a c g d e=>k .normal ⟨gp [(0,pS f),(0,pI a),(4,pI c),(1,pI g),(2,pI d),(0,pI e)] 48,[],s⟩) (λ_=>k .ret ⟨gp [(4,pI (0:Int)),(0,pB false)] 55,[],s⟩)
theorem Aq5:MS (R:=R) L Q Y s (cd [1,1,0,1,0,0,1,1,0,0,1,1,0,1,0,1,1,1] Eb):=by intro k g a d b e f c;unfold Uq;kernel_rfl
noncomputable def Ur{R:Type}(v:By)(a q d r t:Int)(x:Bool)(m:By->Int->Int->Int->Int->Int->Option R)(w:Unit->Option R):Option R:=cond x (vl (A1 (wu8 (d-48))) λn=>m v a q n r t) (cond (not (ltI d 97)) (Uq v a q d r t (not (ltI 102 d)) (λu c o l p f=>m u c o l p f) (λ_=>w ())) (Uq v a q d r t false (λj b g e h i=>m j b g e h i) (λ_=>w ())))
abbrev Pw(b:Code):Prop:=∀(k:Out->St Z->Option R) f a c b3 d e b6,A9 (V0 L) Q Y b ⟨gp [(0,pS f),(0,pI a),(4,pI c),(2,p8 b3),(1,pI d),(0,pI e),(5,pB b6)] 42,[],s⟩ k=Ur f a c b3 d e b6 (λf a c g d e=>k .normal ⟨gp [(0,pS f),(0,pI a),(4,pI c),(1,pI g),(2,pI d),(0,pI e)] 48,[],s⟩) (λ_=>k .ret ⟨gp [(4,pI (0:Int)),(0,pB false)] 55,[],s⟩)
theorem Aq6(a:Code)(b:MS (R:=R) L Q Y s a):Pw (R:=R) L Q Y s (cd [1,1,0,1,0,0,1,1,0,0,1,1,0,1,0,1] (G5 [1,1,0,1,0,0,1,1,0,0,1,1,0,1,0,1,1,1] a Eb)):=by intro k i c f d g h e;unfold Ur;simp only[<-b k];kernel_rfl
theorem Aq7:Pw (R:=R) L Q Y s (cd [1,1,0,1,0,0,1,1,0,0,1,1,0,1,0,1] Eb):=by intro k g a d b e f c;exact j1 (by kernel_rfl) (Aq6 L Q Y s (cd [1,1,0,1,0,0,1,1,0,0,1,1,0,1,0,1,1,1] Eb) (Aq5 L Q Y s) k g a d b e f c)
noncomputable def Ut{R:Type}(j:By)(a g d h i:Int)(e:Unit->Option R)(f:By->Int->Int->Int->Int->Option R):Option R:=cond (not (ltI d a)) (e ()) (vl (A1 ((A1 (g*a))+d)) λb=>vl (if ((1099511627776:Int)<b) then (1099511627776:Int) else b) λc=>f j a c h i)
abbrev Zi(b:Code):Prop:=∀(k:Out->St Z->Option R) e a c d3 d n5,A9 (V0 L) Q Y b ⟨gp [(0,pS e),(0,pI a),(4,pI c),(1,pI d3),(2,pI d),(0,pI n5)] 48,[],s⟩ k=Ut e a c d3 d n5 (λ_=>k .ret ⟨gp [(4,pI (0:Int)),(0,pB false)] 55,[],s⟩) (λe a c f d=>k .normal ⟨gp [(0,pS e),(0,pI a),(4,pI c),(4,pI f),(0,pI d)] 48,[],s⟩)
theorem Aq8:Zi (R:=R) L Q Y s (cd [1,1,0,1,0,0,1,1,0,0,1,1,1] Eb):=by intro k f a c b d e;unfold Ut;kernel_rfl
noncomputable def Hp{R:Type}(L n:Nat)(g:By)(e H I f:Int)(h:Unit->Option R)(G:Int->Option R):Option R:=match n with|0=>none|n+1=>cond (ltI f I) (cond (inR f g.length) (cond (not (ltI (bAt g f) (48:Int))) (Ur g e H (bAt g f) I f (not (ltI 57 (bAt g f))) (λB a l i m o=>Ut B a l i m o (λ_=>h ()) (λC b p q r=>vl (A1 (r+1)) λt=>Hp L n C b p q t h G)) (λ_=>h ())) (Ur g e H (bAt g f) I f false (λD c u j v w=>Ut D c u j v w (λ_=>h ()) (λF d x y z=>vl (A1 (z+1)) λA=>Hp L n F d x y A h G)) (λ_=>h ()))) none) (G H)
theorem Aq9(b:Code)(d:Pw (R:=R) L Q Y s b)(a:Code)(e:Zi (R:=R) L Q Y s a)(n:Nat)(l:By)(c C D j:Int):C5 0 ((V0 L).keep 3) (bd (V0 L) Q Y (cd [1,1,0,1,0,0] (G5 [1,1,0,1,0,0,1,1,0,0,1,1,1] a (G5 [1,1,0,1,0,0,1,1,0,0,1,1,0,1,0,1] b Eb)))) n ⟨gp [(0,pS l),(0,pI c),(4,pI C),(4,pI D),(0,pI j)] 48,[],s⟩ k =
 Hp L n l c C D j (λ_=>k .ret ⟨gp [(4,pI (0:Int)),(0,pB false)] 55,[],s⟩) (λn0=>k (.exit 0) ⟨gp [(6,pI n0)] 54,[],s⟩):=by
 induction n generalizing l c C D j with
 | zero=>rfl
 | succ n M=>rw[Hp];exact let J:=(E3 1 (E2 (V0 L) Q Y (cd [1,1,0,1,0,0,1,1,1] Eb) (lpK 0 ((V0 L).keep 3) (bd (V0 L) Q Y (cd [1,1,0,1,0,0] (G5 [1,1,0,1,0,0,1,1,0,0,1,1,1] a (G5 [1,1,0,1,0,0,1,1,0,0,1,1,0,1,0,1] b Eb)))) n k)));let K:=(E3 2 (E2 (V0 L) Q Y a J));(j1 (by kernel_rfl) (A0 (A0 (A0 ((d K l c C (bAt l j) D j (not (ltI 57 (bAt l j)))).trans (congr (congr rfl (fx6 λF f p m q r=>(j1 (by kernel_rfl) ((e J F f p m q r).trans (congr (congr rfl (by kernel_rfl)) (fx5 λG g t u N=>(j1 (by kernel_rfl) (A4 λv=>(M G g t u v))))))))) (by kernel_rfl))) ((d K l c C (bAt l j) D j false).trans (congr (congr rfl (fx6 λH h w o x y=>(j1 (by kernel_rfl) ((e J H h w o x y).trans (congr (congr rfl (by kernel_rfl)) (fx5 λI i z A O=>(j1 (by kernel_rfl) (A4 λB=>(M I i z A B))))))))) (by kernel_rfl)))) rfl) rfl))
noncomputable def B59{R:Type}(L:Nat)(d:By)(a:Int)(c:Int->Bool->Option R):Option R:=Hp L L d a 0 (d.length:Int) 0 (λ_=>c 0 false) (λb=>c b true)
theorem Cp7(a:Code)(d:Pw (R:=PV × List Blk × Z) L Q Y s a)(b:Code)(e:Zi (R:=PV × List Blk × Z) L Q Y s b)(f:By)(c:Int):A9 (V0 L) Q Y (cd [] (G5 [1,1,0,1,0,0,1,1,0,0,1,1,1] b (G5 [1,1,0,1,0,0,1,1,0,0,1,1,0,1,0,1] a Eb))) ⟨[pS f,pI c]++tps 59,[],s⟩ (F5 (V0 L) ad3)=B59 L f c (λg h=>some (.tup [pI g,pB h],[],s)):=by unfold B59;exact(j1 (by kernel_rfl) ((Aq9 L Q Y s (E3 0 (E2 (V0 L) Q Y (cd [1,1,1] Eb) (F5 (V0 L) ad3))) a d b e L f c 0 (f.length:Int) 0).trans (by kernel_rfl)))
theorem Cp8(d:Nat)(s0 base1):evC (V0 L) (d+1) Z Y 124 [pS s0,pI base1] [] s=B59 L s0 base1 (λa b=>some (.tup [pI a,pB b],[],s)):=
 (evE (fn:=ad3) (by kernel_rfl)).trans (j1 (by kernel_rfl) (Cp7 L (evC (V0 L) d) Y s (cd [1,1,0,1,0,0,1,1,0,0,1,1,0,1,0,1] Eb) (Aq7 L (evC (V0 L) d) Y s) (cd [1,1,0,1,0,0,1,1,0,0,1,1,1] Eb) (Aq8 L (evC (V0 L) d) Y s) s0 base1))
noncomputable def B51(L:Nat):Cfg:=B4 L [123] (A2 []) [(122,Ak7),(124,OX)] (A2 [(7,[2,0]),(2,[2,0]),(4,[2,0]),(6,[2,0]),(5,[0,14]),(3,[0,6]),(1,[0,3]),(0,[0])]) [122,124] (A2 [(0,[0])]) (some [2,0]) [] [] []
noncomputable def num{R:Type}(L:Nat)(a:By)(d:Int->Bool->Option R):Option R:=cond (a==[]) (d 0 false) (cond (A3 a.length) (cond (Bn a) (cond (I2 2 (a.length:Int) a.length) (vl (cut a 2 (a.length:Int)) λb=>cond (A3 b.length) (cond (ltN 16 17) (vl (↑(M0 (E7 16 0 b)):Int) λe=>d e (j2 (E7 16 0 b))) none) none) none) (cond (ltI 1 (a.length:Int)) (cond (inR 0 a.length) (cond ((bAt a (0:Int))==48) (cond (I2 1 (a.length:Int) a.length) (vl (cut a 1 (a.length:Int)) λc=>cond (A3 c.length) (cond (ltN 8 17) (vl (↑(M0 (E7 8 0 c)):Int) λf=>d f (j2 (E7 8 0 c))) none) none) none) (cond (A3 a.length) (cond (ltN 10 17) (vl (↑(M0 (E7 10 0 a)):Int) λg=>d g (j2 (E7 10 0 a))) none) none)) none) (cond (A3 a.length) (cond (ltN 10 17) (vl (↑(M0 (E7 10 0 a)):Int) λh=>d h (j2 (E7 10 0 a))) none) none))) none)
theorem Da2(d:Nat)(s0):evC (B51 L) (d+1) Z Y 123 [pS s0] [] s=num L s0 (λa b=>some (.tup [pI a,pB b],[],s)):=by refine(evE (fn:=Tryz.f123) (by kernel_rfl)).trans ?_;generalize evC (B51 L) d=Q;unfold num;kernel_rfl
noncomputable def ST(L:Nat):Cfg:=B4 L [121] (A2 []) [(109,Uh)] (A2 [(5,[2]),(4,[3]),(3,[3,0,13]),(2,[3,0]),(1,[3]),(0,[0])]) [] (A2 []) (some [2]) [] [] []
noncomputable def parts{R:Type}(L:Nat)(e:By)(c:LL->Option R):Option R:=cond (A3 e.length) (cond (1==1) (vl (D4 (pcs (b9 ([46]:List UInt8) 0 0) e)) λa=>vl (A1 ((a.length:Int)-1)) λb=>cond (ltI 0 b) (cond (inR b a.length) (cond (okE Oz a (a8 b) 0) (vl (gX a (a8 b) 0) λd=>cond (d==[]) (cond (I2 0 b a.length) (c (cut a 0 b)) none) (c a)) none) none) (c a)) none) none
theorem Ca7(d:Nat)(s0):evC (ST L) (d+1) Z Y 121 [pS s0] [] s=parts L s0 (λa=>some (.s (.sl false false 1 a),[],s)):=by refine(evE (fn:=Tryz.f121) (by kernel_rfl)).trans ?_;generalize evC (ST L) d=Q;unfold parts;kernel_rfl
noncomputable def Zc(L:Nat):Cfg:=B4 L [90] (A2 []) [(121,PY),(122,Ak7),(123,B15),(124,OX)] (A2 [(7,[2]),(6,[4,3]),(5,[2]),(4,[6]),(3,[4,13]),(2,[4]),(1,[3]),(0,[0])]) [122,123,124] (A2 []) (some [2]) [] [] []
noncomputable def DO{R:Type}(L:Nat)(c:By)(d:Bool->Option R):Option R:=cond (A3 c.length) (vl (A1 ((↑(b8 (D4 (C8 c))):Int)-1)) λb=>cond (inR b (b8 (D4 (C8 c)))) (cond (okE Oz (D4 (C8 c)) (a8 b) 0) (vl (gX (D4 (C8 c)) (a8 b) 0) λa=>cond (A3 a.length) (cond (Bn a) (cond (A3 a.length) (vl (↑(M0 (Ad a)):Int) λe=>d (j2 (Ad a))) none) (cond (A3 a.length) (cond (ltN 10 17) (vl (↑(M0 (E7 10 0 a)):Int) λf=>cond (j2 (E7 10 0 a)) (d (not (a==[]))) (d false)) none) none)) none) none) none) none
theorem Aw0(d:Nat)(s0):evC (Zc L) (d+1) Z Y 90 [pS s0] [] s=DO L s0 (λa=>some (pB a,[],s)):=by refine(evE (fn:=Tryz.f90) (by kernel_rfl)).trans ?_;generalize evC (Zc L) d=Q;unfold DO;kernel_rfl
noncomputable abbrev B40:Code:=C4 af4
noncomputable def Si(L:Nat):Cfg:=B4 L [108] (A2 [(6,[2,0,0,0,10,0,0])]) [(121,PY),(123,B15)] (A2 [(20,[2,0]),(19,[4,0,10,0,0]),(18,[4,0,10,0,0]),(17,[2,0]),(16,[4,0,2,1,5,0,0,29]),(15,[4,0,2,1,5,0,0]),(14,[4,0,10,0,0]),(13,[2,0]),(12,[4,0,2,7,0,0,17]),(11,[4,0,2,7,0,0,15]),(10,[2,0]),(9,[4,0,0,1,7,0,0,10]),(8,[4,0,0,1,0,6,0,0]),(7,[4,0,0,0,8,0,0]),(6,[4,0,10,0,0,0]),(5,[4,0,10,0,0]),(4,[4,0]),(3,[2,0]),(2,[4,10]),(1,[4]),(0,[0])]) [123] (A2 [(0,[5]),(1,[4,0,10,0,0])]) (some [2,0]) [] [] []
noncomputable def Hy{R:Type}(L n:Nat)(a:LL)(v1 l d:Int)(e:Unit->Option R)(h:Int->Option R):Option R:=match n with|0=>none|n+1=>cond (ltI d l) (cond (inR d a.length) (cond (okE Oz a (a8 d) 0) (cond (A3 (b8 (gX a (a8 d) 0))) (vl (↑(M0 (Ad (gX a (a8 d) 0))):Int) λb=>cond (not (j2 (Ad (gX a (a8 d) 0)))) (e ()) (vl (A1 ((a.length:Int)-1)) λi=>cond (ltI d i) (cond (ltI 255 b) (e ()) (vl (bOr .i64 (Qx .i64 v1 (8:Int)) b) λj=>Hy L n a j l (A1 (d+1)) e h)) (vl (A1 ((5:Int)-(a.length:Int))) λc=>cond (decide ((0:Int)<=(A1 ((8:Int)*c)))) (vl (Qx .i64 (1:Int) (A1 ((8:Int)*c))) λf=>cond (not (ltI b f)) (e ()) (cond (decide ((0:Int)<=(A1 ((8:Int)*c)))) (vl (Qx .i64 v1 (A1 ((8:Int)*c))) λg=>Hy L n a (bOr .i64 g b) l (A1 (d+1)) e h) none)) none))) none) none) none) (h v1)
theorem Ax9(n l0 v1 n2 n3):C5 0 ((Si L).keep 6) (bd (Si L) Q Y (cd [1,0,1,1,1,1,0,1,0,0] B40)) n ⟨gp [(4,.s (.sl false false 1 l0)),(0,pI v1),(10,.s (.sl false false 1 l0)),(0,pI n2),(0,pI n3)] 38,[],s⟩ k =
 Hy L n l0 v1 n2 n3 (λ_=>k .ret ⟨gp [(2,p32 (0:Int)),(0,pB false)] 53,[],s⟩) (λv0=>k (.exit 0) ⟨gp [(5,pI v0)] 51,[],s⟩):=by
 induction n generalizing l0 v1 n2 n3 with
 | zero=>rfl
 | succ n a=>rw[Hy];simp only[<-a];kernel_rfl
noncomputable def Cv1{R:Type}(L:Nat)(b:By)(c:Int->Bool->Option R):Option R:=cond (A3 b.length) (cond (ltI 4 (↑(b8 (D4 (C8 b))):Int)) (c 0 false) (Hy L L (D4 (C8 b)) 0 (↑(b8 (D4 (C8 b))):Int) 0 (λ_=>c 0 false) (λa=>c (AY a) true))) none
theorem Cv2(d:Nat)(s0):evC (Si L) (d+1) Z Y 108 [pS s0] [] s=Cv1 L s0 (λa b=>some (.tup [p32 a,pB b],[],s)):=by refine(evE (fn:=af4) (by kernel_rfl)).trans ?_;generalize evC (Si L) d=Q;unfold Cv1;exact(j1 (by kernel_rfl) (A0 (A0 rfl ((Ax9 L Q Y s (E3 0 (E2 (Si L) Q Y (cd [1,0,1,1,1,1,1] B40) (F5 (Si L) af4))) L (D4 (C8 s0)) 0 (↑(b8 (D4 (C8 s0))):Int) 0).trans (by kernel_rfl))) rfl))
noncomputable abbrev C67:Code:=C4 ag1
noncomputable def HC(L:Nat):Cfg:=B4 L [180] (A2 [(6,[2,0,1,9,0,0])]) [(109,Uh),(124,OX),(51,Ak9)] (A2 [(13,[2,0]),(12,[5,9,0,0]),(11,[5,9,0,0]),(10,[2,0]),(9,[5,2,6,0,0,19]),(8,[5,1,0,0,5,0,0]),(7,[5,1,7,0,0]),(6,[5,9,0,0,0]),(5,[5,9,0,0]),(4,[4,0]),(3,[2,0]),(2,[4,9]),(1,[4]),(0,[0])]) [124,51] (A2 [(0,[5]),(1,[5,9,0,0])]) (some [2,0]) [] [] []
noncomputable def Tx{R:Type}(L n:Nat)(v0:Int)(c:LL)(h b:Int)(d:Unit->Option R)(g:Int->Option R):Option R:=match n with|0=>none|n+1=>cond (ltI b h) (cond (inR b c.length) (cond (okE Oz c (a8 b) 0) (cond (A3 (b8 (gX c (a8 b) 0))) (cond (ltN 10 17) (vl (↑(M0 (E7 10 0 (gX c (a8 b) 0))):Int) λa=>cond (not (j2 (E7 10 0 (gX c (a8 b) 0)))) (d ()) (cond (ltI 255 a) (d ()) (cond (ltN a 4294967296) (vl (j5 (a8 a)) λf=>cond (not (f==(gX c (a8 b) 0))) (d ()) (vl (bOr .u32 (Qx .u32 v0 (8:Int)) (AY a)) λe=>Tx L n e c h (A1 (b+1)) d g)) none))) none) none) none) none) (g v0)
theorem Bz0(n v0 l1 n2 n3):C5 0 ((HC L).keep 6) (bd (HC L) Q Y (cd [1,1,1,1,0,1,0,0] C67)) n ⟨gp [(5,p32 v0),(9,.s (.sl false false 1 l1)),(0,pI n2),(0,pI n3)] 27,[],s⟩ k =
 Tx L n v0 l1 n2 n3 (λ_=>k .ret ⟨gp [(2,p32 (0:Int)),(0,pB false)] 41,[],s⟩) (λv0=>k (.exit 0) ⟨gp [(5,p32 v0)] 39,[],s⟩):=by
 induction n generalizing v0 l1 n2 n3 with
 | zero=>rfl
 | succ n a=>rw[Tx];simp only[<-a];kernel_rfl
noncomputable def v4p{R:Type}(L:Nat)(d:By)(b:Int->Bool->Option R):Option R:=cond (A3 d.length) (cond (1==1) (vl (D4 (pcs (b9 ([46]:List UInt8) 0 0) d)) λa=>cond ((a.length:Int)!=4) (b 0 false) (Tx L L 0 a (a.length:Int) 0 (λ_=>b 0 false) (λc=>b c true))) none) none
theorem Dc1(d:Nat)(s0):evC (HC L) (d+1) Z Y 180 [pS s0] [] s=v4p L s0 (λb c=>some (.tup [p32 b,pB c],[],s)):=by refine(evE (fn:=ag1) (by kernel_rfl)).trans ?_;generalize evC (HC L) d=Q;unfold v4p;exact(j1 (by kernel_rfl) (A0 (A0 (A4 λa=>(A0 rfl ((Bz0 L Q Y s (E3 0 (E2 (HC L) Q Y (cd [1,1,1,1,1] C67) (F5 (HC L) ag1))) L 0 a (a.length:Int) 0).trans (by kernel_rfl)))) rfl) rfl))
noncomputable abbrev C66:Code:=C4 ah0
noncomputable def HB(L:Nat):Cfg:=B4 L [67] (A2 [(3,[0,1,0,0])]) [(51,Ak9)] (A2 [(6,[2]),(4,[0,2,0]),(5,[0,2,0]),(3,[0,2,0,1]),(2,[0,2,0]),(1,[0,2]),(0,[0])]) [51] (A2 [(0,[3]),(1,[0,2,0])]) (some [2]) [] [] []
noncomputable def Hi{R:Type}(L n:Nat)(v0:Int)(a:By)(e:Int)(f:By->Option R):Option R:=match n with|0=>none|n+1=>cond (not (ltI e 0)) (cond (decide ((0:Int)<=e)) (vl (An4 .u32 (Tu .u32 v0 e) (255:Int)) λb=>cond (ltN (A1 b) 4294967296) (vl (j5 (a8 (A1 b))) λc=>cond (E5 c.length 1) (vl (c++[46]) λd=>cond (E5 a.length d.length) (Hi L n v0 (a++d) (A1 (e-8)) f) none) none) none) none) (f a)
theorem By9(n v0 out1 i2):C5 0 ((HB L).keep 3) (bd (HB L) Q Y (cd [1,1,0,1,0,0] C66)) n ⟨gp [(0,p32 v0),(2,pS out1),(0,pI i2)] 18,[],s⟩ k =
 Hi L n v0 out1 i2 (λa=>k (.exit 0) ⟨gp [(3,pS a)] 19,[],s⟩):=by
 induction n generalizing v0 out1 i2 with
 | zero=>rfl
 | succ n b=>rw[Hi];simp only[<-b];kernel_rfl
noncomputable def v4f{R:Type}(L:Nat)(v0:Int)(d:By->Option R):Option R:=Hi L L v0 ([]:List UInt8) 24 (λa=>vl (A1 ((a.length:Int)-1)) λb=>cond (I2 0 b a.length) (vl (cut a 0 b) λc=>d c) none)
theorem Dc0(d:Nat)(v0):evC (HB L) (d+1) Z Y 67 [p32 v0] [] s=v4f L v0 (λa=>some (pS a,[],s)):=by refine(evE (fn:=ah0) (by kernel_rfl)).trans ?_;generalize evC (HB L) d=Q;unfold v4f;exact(j1 (by kernel_rfl) ((By9 L Q Y s (E3 0 (E2 (HB L) Q Y (cd [1,1,1] C66) (F5 (HB L) ah0))) L v0 ([]:List UInt8) 24).trans (by kernel_rfl)))
noncomputable abbrev MF:Code:=C4 af6
noncomputable def Ch(L:Nat):Cfg:=B4 L [117] (A2 [(2,[0,1,0])]) [] (A2 [(6,[2]),(3,[0,2]),(5,[2]),(4,[0,2,15]),(2,[0,2,3]),(1,[0,2]),(0,[0])]) [] (A2 [(0,[0]),(1,[0,2])]) (some [2]) [] [] []
noncomputable def Aq{R:Type}(L n:Nat)(a:By)(b:Int)(c:Unit->Option R)(d:By->Option R):Option R:=match n with|0=>none|n+1=>cond (ltI b (a.length:Int)) (cond (inR b a.length) (cond (ltI (bAt a b) (48:Int)) (c ()) (cond (inR b a.length) (cond (ltI 57 (bAt a b)) (c ()) (Aq L n a (A1 (b+1)) c d)) none)) none) (d a)
theorem LA(n a i1):C5 0 ((Ch L).keep 2) (bd (Ch L) Q Y (cd [1,0,1,0,0] MF)) n ⟨gp [(0,pS a),(2,pI i1)] 18,[],s⟩ k =
 Aq L n a i1 (λ_=>k .ret ⟨gp [(2,pB false)] 19,[],s⟩) (λa=>k (.exit 0) ⟨gp [(0,pS a)] 21,[],s⟩):=by
 induction n generalizing a i1 with
 | zero=>rfl
 | succ n b=>rw[Aq];simp only[<-b];kernel_rfl
noncomputable def DT{R:Type}(L:Nat)(c:By)(b:Bool->Option R):Option R:=Aq L L c 0 (λ_=>b false) (λa=>b (not (a==[])))
theorem Az1(d:Nat)(s0):evC (Ch L) (d+1) Z Y 117 [pS s0] [] s=DT L s0 (λa=>some (pB a,[],s)):=by refine(evE (fn:=af6) (by kernel_rfl)).trans ?_;generalize evC (Ch L) d=Q;unfold DT;exact(j1 (by kernel_rfl) ((LA L Q Y s (E3 0 (E2 (Ch L) Q Y (cd [1,1] MF) (F5 (Ch L) af6))) L s0 0).trans (by kernel_rfl)))
noncomputable abbrev B43:Code:=C4 ag8
noncomputable def Sl(L:Nat):Cfg:=B4 L [17] (A2 [(3,[0,1,0,0])]) [] (A2 [(9,[2]),(4,[0,2,0]),(8,[0,2,0]),(7,[0,2,0,0]),(6,[0,2,0,0,14]),(5,[0,2,0,0]),(3,[0,2,0,4]),(2,[0,2,0]),(1,[0,2]),(0,[0])]) [] (A2 [(0,[3]),(1,[0,2,0])]) (some [2]) [] [] []
noncomputable def Ey{R:Type}(L n:Nat)(b:By)(a:Int)(c:LL)(d:LL->Option R):Option R:=match n with|0=>none|n+1=>cond (ltI a (b.length:Int)) (cond (inR a b.length) (cond (not (ltI (bAt b a) (65:Int))) (cond (not (ltI 90 (bAt b a))) (vl (wu8 ((bAt b a)+32)) λe=>cond (F6 (c.length+1)) (Ey L n b (A1 (a+1)) (c++[[(SV.int .u8 e)]]) d) none) (cond (F6 (c.length+1)) (Ey L n b (A1 (a+1)) (c++[[(SV.int .u8 (bAt b a))]]) d) none)) (cond (F6 (c.length+1)) (Ey L n b (A1 (a+1)) (c++[[(SV.int .u8 (bAt b a))]]) d) none)) none) (d c)
theorem A20(n s0 i1 l2):C5 1 ((Sl L).keep 3) (bd (Sl L) Q Y (cd [1,1,0,1,0,0] B43)) n ⟨gp [(0,pS s0),(2,.fl 0),(0,pI i1)] 24,[.arr true 5 1 l2],s⟩ k =
 Ey L n s0 i1 l2 (λb=>k (.exit 0) ⟨gp [(3,.fl 0)] 25,[.arr true 5 1 b],s⟩):=by
 induction n generalizing s0 i1 l2 with
 | zero=>rfl
 | succ n a=>rw[Ey];simp only[<-a];kernel_rfl
noncomputable def Cx2{R:Type}(L:Nat)(c:By)(b:By->LL->Option R):Option R:=Ey L L c 0 [] (λa=>cond (s9 a Nh) (b (o9 Lc a) a) none)
theorem Cx3(d:Nat)(s0):evC (Sl L) (d+1) Z Y 17 [pS s0] [] s=Cx2 L s0 (λb a=>some (pS b,[.arr true 5 1 a],s)):=by refine(evE (fn:=ag8) (by kernel_rfl)).trans ?_;generalize evC (Sl L) d=Q;unfold Cx2;exact(j1 (by kernel_rfl) ((A20 L Q Y s (E3 0 (E2 (Sl L) Q Y (cd [1,1,1] B43) (F5 (Sl L) ag8))) L s0 0 []).trans (by kernel_rfl)))
noncomputable abbrev YA:Code:=C4 ah2
noncomputable def Fx(L:Nat):Cfg:=B4 L [88] (A2 [(4,[0,0,2,0,0,0])]) [] (A2 [(9,[4]),(5,[0,0,3,0,0]),(8,[0,0,3,0,0]),(7,[0,0,3,1]),(6,[0,0,3,0,0,16]),(4,[0,0,3,0,0,3]),(3,[0,0,3,0,0]),(2,[0,0,3,0]),(1,[0,0,3]),(0,[0,0])]) [] (A2 [(0,[5]),(1,[0,0,3,0,0])]) (some [4]) [] [] []
noncomputable def U6{R:Type}(L n:Nat)(c:By)(d a b:Int)(e:LL)(f:LL->Option R):Option R:=match n with|0=>none|n+1=>cond (not (ltI (c.length:Int) b)) (cond (b==(c.length:Int)) (cond (I2 a b c.length) (cond (F6 (e.length+1)) (U6 L n c d (A1 (b+1)) (A1 (b+1)) (e++[[(SV.str (cut c a b))]]) f) none) none) (cond (inR b c.length) (cond ((bAt c b)==d) (cond (I2 a b c.length) (cond (F6 (e.length+1)) (U6 L n c d (A1 (b+1)) (A1 (b+1)) (e++[[(SV.str (cut c a b))]]) f) none) none) (U6 L n c d a (A1 (b+1)) e f)) none)) (f e)
theorem VM(n s0 at1 from2 i3 l4):C5 1 ((Fx L).keep 4) (bd (Fx L) Q Y (cd [1,1,1,0,1,0,0] YA)) n ⟨gp [(0,pS s0),(0,p8 at1),(3,.fl 0),(0,pI from2),(0,pI i3)] 27,[.arr true 9 1 l4],s⟩ k =
 U6 L n s0 at1 from2 i3 l4 (λb=>k (.exit 0) ⟨gp [(5,.fl 0)] 29,[.arr true 9 1 b],s⟩):=by
 induction n generalizing s0 at1 from2 i3 l4 with
 | zero=>rfl
 | succ n a=>rw[U6];simp only[<-a];kernel_rfl
noncomputable def JM{R:Type}(L:Nat)(d:By)(a:Int)(c:LL->Option R):Option R:=U6 L L d a 0 0 [] (λb=>c b)
theorem Bu7(d:Nat)(s0 at1):evC (Fx L) (d+1) Z Y 88 [pS s0,p8 at1] [] s=JM L s0 at1 (λa=>some (.fl 0,[.arr true 9 1 a],s)):=by refine(evE (fn:=ah2) (by kernel_rfl)).trans ?_;generalize evC (Fx L) d=Q;unfold JM;exact(j1 (by kernel_rfl) ((VM L Q Y s (E3 0 (E2 (Fx L) Q Y (cd [1,1,1,1] YA) (F5 (Fx L) ah2))) L s0 at1 0 0 []).trans (by kernel_rfl)))
noncomputable def Zb(L:Nat):Cfg:=B4 L [53] (A2 []) [(53,(Ko L))] (A2 [(3,[2]),(2,[2]),(1,[0,3]),(0,[0])]) [53] (A2 []) (some [2]) [] [] []
noncomputable def DJ{R:Type}(L:Nat)(n0:Int)(g:By->Option R):Option R:=cond (ltI n0 10) (vl (wu8 (A1 ((48:Int)+n0))) λa=>cond (s9 [[(SV.int .u8 a)]] Nh) (vl (o9 Lc [[(SV.int .u8 a)]]) λf=>g f) none) (vl (A1 (x9 n0 (10:Int))) λb=>cond (ltN b L) (vl (j5 (a8 b)) λd=>vl (A1 ((48:Int)+(w8 n0 (10:Int)))) λc=>cond (s9 [[(SV.int .u8 (wu8 c))]] Nh) (vl (o9 Lc [[(SV.int .u8 (wu8 c))]]) λe=>cond (E5 d.length e.length) (g (d++e)) none) none) none)
theorem Ar8(d:Nat)(n0):evC (Zb L) (d+1) Z Y 53 [pI n0] [] s=DJ L n0 (λa=>some (pS a,[],s)):=by refine(evE (fn:=Tryz.f53) (by kernel_rfl)).trans ?_;generalize evC (Zb L) d=Q;unfold DJ;kernel_rfl
noncomputable abbrev Sa:Code:=C4 ad6
noncomputable def Ip(L:Nat):Cfg:=B4 L [147] (A2 []) [] (A2 [(7,[2]),(2,[2]),(4,[2]),(6,[2]),(5,[0,23]),(3,[0,12]),(1,[0,2]),(0,[0])]) [] (A2 [(0,[])]) (some [2]) [] [] []
noncomputable def Wi{R:Type}(a:Int)(h:Bool)(f:Int->Option R)(g:Int->Bool->Option R):Option R:=cond h (vl (A1 (wu8 (a-97))) λb=>vl (A1 (b+10)) λc=>f c) (cond (not (ltI a 65)) (cond (not (ltI 70 a)) (vl (A1 (wu8 (a-65))) λd=>vl (A1 (d+10)) λe=>f e) (g a (not (ltI 70 a)))) (g a false))
abbrev NS(b:Code):Prop:=∀(k:Out->St Z->Option R) a c,A9 (Ip L) Q Y b ⟨gp [(0,p8 a),(12,pB c)] 21,[],s⟩ k=Wi a c (λn0=>k .ret ⟨gp [(2,pI n0)] 32,[],s⟩) (λa c=>k .normal ⟨gp [(0,p8 a),(23,pB c)] 10,[],s⟩)
theorem Ay8:NS (R:=R) L Q Y s (cd [1,0,0,1,1,1] Sa):=by intro k a b;unfold Wi;kernel_rfl
noncomputable def Wj{R:Type}(b:Int)(l:Bool)(f:Int->Option R)(j:Int->Bool->Option R):Option R:=cond l (vl (A1 (wu8 (b-48))) λg=>f g) (cond (not (ltI b 97)) (Wi b (not (ltI 102 b)) (λh=>f h) (λc d=>j c d)) (Wi b false (λi=>f i) (λe a=>j e a)))
abbrev AH(b:Code):Prop:=∀(k:Out->St Z->Option R) a c,A9 (Ip L) Q Y b ⟨gp [(0,p8 a),(2,pB c)] 31,[],s⟩ k=Wj a c (λn0=>k .ret ⟨gp [(2,pI n0)] 32,[],s⟩) (λa c=>k .normal ⟨gp [(0,p8 a),(23,pB c)] 10,[],s⟩)
theorem Ay9(a:Code)(b:NS (R:=R) L Q Y s a):AH (R:=R) L Q Y s (cd [1,0,0,1] (G5 [1,0,0,1,1,1] a Sa)):=by intro k c d;unfold Wj;simp only[<-b k];kernel_rfl
theorem Az0:AH (R:=R) L Q Y s (cd [1,0,0,1] Sa):=by intro k a b;exact j1 (by kernel_rfl) (Ay9 L Q Y s (cd [1,0,0,1,1,1] Sa) (Ay8 L Q Y s) k a b)
noncomputable def Cb6{R:Type}(L:Nat)(c:Int)(d:Int->Option R):Option R:=cond (not (ltI c 48)) (Wj c (not (ltI 57 c)) (λa=>d a) (λe f=>d 99)) (Wj c false (λb=>d b) (λg h=>d 99))
theorem Cw1(b:Code)(a:AH (R:=PV × List Blk × Z) L Q Y s b)(c:Int):A9 (Ip L) Q Y (cd [] (G5 [1,0,0,1] b Sa)) ⟨[p8 c]++tps 34,[],s⟩ (F5 (Ip L) ad6)=Cb6 L c (λe=>some (pI e,[],s)):=by unfold Cb6;exact let d:=(E3 0 (E2 (Ip L) Q Y (cd [1,1] Sa) (F5 (Ip L) ad6)));(j1 (by kernel_rfl) (A0 ((a d c (not (ltI 57 c))).trans (by kernel_rfl)) ((a d c false).trans (by kernel_rfl))))
theorem Cw2(d:Nat)(b0):evC (Ip L) (d+1) Z Y 147 [p8 b0] [] s=Cb6 L b0 (λa=>some (pI a,[],s)):=
 (evE (fn:=ad6) (by kernel_rfl)).trans (j1 (by kernel_rfl) (Cw1 L (evC (Ip L) d) Y s (cd [1,0,0,1] Sa) (Az0 L (evC (Ip L) d) Y s) b0))
noncomputable abbrev Cg:Code:=C4 ad2
noncomputable def O2(L:Nat):Cfg:=B4 L [118] (A2 [(10,[0,1,0,0,0,0])]) [(147,B19)] (A2 [(16,[2,0]),(11,[0,3,0,0]),(15,[0,3,0,0]),(14,[2,0]),(13,[0,3,0,0,0,44]),(12,[0,3,0,0,0]),(10,[0,3,0,0,36]),(9,[0,3,0,0]),(8,[0,3,0]),(5,[0,3]),(7,[0,3]),(6,[0,3,32]),(4,[0,3,22]),(3,[0,3]),(2,[2,0]),(1,[0,8]),(0,[0])]) [147] (A2 [(0,[5]),(1,[0,3,0,0])]) (some [2,0]) [] [] []
noncomputable def DX{R:Type}(a:By)(c:By->Option R):Option R:=cond (I2 2 (a.length:Int) a.length) (vl (cut a 2 (a.length:Int)) λb=>c b) none
abbrev NX(b:Code):Prop:=∀(k:Out->St Z->Option R) a,A9 (O2 L) Q Y b ⟨gp [(0,pS a),(3,pI (10:Int)),(22,pB true)] 32,[],s⟩ k=DX a (λa=>k .normal ⟨gp [(0,pS a),(3,pI (16:Int))] 55,[],s⟩)
theorem A23:NX (R:=R) L Q Y s (cd [1,1,1,0,1] Cg):=by intro k a;unfold DX;kernel_rfl
noncomputable def Ia{R:Type}(L n:Nat)(d:By)(h a:Int)(f:Unit->Option R)(g:Int->Option R):Option R:=match n with|0=>none|n+1=>cond (ltI a (d.length:Int)) (cond (inR a d.length) (cond (inR (bAt d a) 256) (vl (↑(dig (u8n (bAt d a))):Int) λb=>cond (not (ltI b 16)) (f ()) (vl (A1 ((A1 (h*16))+b)) λc=>vl (if ((1099511627776:Int)<c) then (1099511627776:Int) else c) λe=>Ia L n d e (A1 (a+1)) f g)) none) none) (g h)
theorem A28(n s0 n1 i2):C5 0 ((O2 L).keep 10) (bd (O2 L) Q Y (cd [1,1,1,1,1,0,1,0,0] Cg)) n ⟨gp [(0,pS s0),(3,pI (16:Int)),(0,pI n1),(0,pI i2)] 53,[],s⟩ k =
 Ia L n s0 n1 i2 (λ_=>k .ret ⟨gp [(2,pI (0:Int)),(0,pB false)] 56,[],s⟩) (λn0=>k (.exit 0) ⟨gp [(5,pI n0)] 54,[],s⟩):=by
 induction n generalizing s0 n1 i2 with
 | zero=>rfl
 | succ n a=>rw[Ia];simp only[<-a];kernel_rfl
noncomputable def DY{R:Type}(L:Nat)(c:By)(b:Int->Bool->Option R):Option R:=Ia L L c 0 0 (λ_=>b 0 false) (λa=>b a true)
abbrev NY(b:Code):Prop:=∀(k:Out->St Z->Option R) s0,A9 (O2 L) Q Y b ⟨gp [(0,pS s0),(3,pI (16:Int))] 55,[],s⟩ k=DY L s0 (λn0 a=>k .ret ⟨gp [(2,pI n0),(0,pB a)] 56,[],s⟩)
theorem A24:NY (R:=R) L Q Y s (cd [1,1,1,1] Cg):=by intro k a;unfold DY;exact(j1 (by kernel_rfl) ((A28 L Q Y s (E3 0 (E2 (O2 L) Q Y (cd [1,1,1,1,1,1] Cg) k)) L a 0 0).trans (by kernel_rfl)))
noncomputable def Qi{R:Type}(a:By)(f:Bool)(d:By->Int->Option R)(e:By->Bool->Option R):Option R:=cond f (cond (I2 2 (a.length:Int) a.length) (vl (cut a 2 (a.length:Int)) λc=>d c 16) none) (cond (not (ltI (a.length:Int) (2:Int))) (cond (inR 0 a.length) (cond ((bAt a (0:Int))==48) (cond (I2 1 (a.length:Int) a.length) (vl (cut a 1 (a.length:Int)) λb=>d b 8) none) (e a ((bAt a (0:Int))==48))) none) (e a false))
abbrev NZ(b:Code):Prop:=∀(k:Out->St Z->Option R) c d,A9 (O2 L) Q Y b ⟨gp [(0,pS c),(3,pI (10:Int)),(22,pB d)] 32,[],s⟩ k=Qi c d (λc a=>k .normal ⟨gp [(0,pS c),(3,pI a)] 55,[],s⟩) (λc d=>k .normal ⟨gp [(0,pS c),(3,pI (10:Int)),(32,pB d)] 22,[],s⟩)
theorem A25:NZ (R:=R) L Q Y s (cd [1,1,1,0,1] Cg):=by intro k b a;unfold Qi;kernel_rfl
noncomputable def Ez{R:Type}(L n:Nat)(f:By)(a i d:Int)(g:Unit->Option R)(h:Int->Option R):Option R:=match n with|0=>none|n+1=>cond (ltI d (f.length:Int)) (cond (inR d f.length) (cond (inR (bAt f d) 256) (vl (↑(dig (u8n (bAt f d))):Int) λb=>cond (not (ltI b a)) (g ()) (vl (A1 ((A1 (i*a))+b)) λc=>vl (if ((1099511627776:Int)<c) then (1099511627776:Int) else c) λe=>Ez L n f a e (A1 (d+1)) g h)) none) none) (h i)
theorem JL(n s0 base1 n2 i3):C5 0 ((O2 L).keep 10) (bd (O2 L) Q Y (cd [1,1,1,1,1,0,1,0,0] Cg)) n ⟨gp [(0,pS s0),(3,pI base1),(0,pI n2),(0,pI i3)] 53,[],s⟩ k =
 Ez L n s0 base1 n2 i3 (λ_=>k .ret ⟨gp [(2,pI (0:Int)),(0,pB false)] 56,[],s⟩) (λn0=>k (.exit 0) ⟨gp [(5,pI n0)] 54,[],s⟩):=by
 induction n generalizing s0 base1 n2 i3 with
 | zero=>rfl
 | succ n a=>rw[Ez];simp only[<-a];kernel_rfl
noncomputable def Qj{R:Type}(L:Nat)(d:By)(a:Int)(c:Int->Bool->Option R):Option R:=Ez L L d a 0 0 (λ_=>c 0 false) (λb=>c b true)
abbrev OA(b:Code):Prop:=∀(k:Out->St Z->Option R) s0 base1,A9 (O2 L) Q Y b ⟨gp [(0,pS s0),(3,pI base1)] 55,[],s⟩ k=Qj L s0 base1 (λn0 a=>k .ret ⟨gp [(2,pI n0),(0,pB a)] 56,[],s⟩)
theorem A26:OA (R:=R) L Q Y s (cd [1,1,1,1] Cg):=by intro k b a;unfold Qj;exact(j1 (by kernel_rfl) ((JL L Q Y s (E3 0 (E2 (O2 L) Q Y (cd [1,1,1,1,1,1] Cg) k)) L b a 0 0).trans (by kernel_rfl)))
noncomputable def Qk{R:Type}(L:Nat)(c:By)(b:Int->Bool->Option R):Option R:=Ez L L c 10 0 0 (λ_=>b 0 false) (λa=>b a true)
abbrev OB(b:Code):Prop:=∀(k:Out->St Z->Option R) s0 a,A9 (O2 L) Q Y b ⟨gp [(0,pS s0),(3,pI (10:Int)),(32,pB a)] 22,[],s⟩ k=Qk L s0 (λn0 a=>k .ret ⟨gp [(2,pI n0),(0,pB a)] 56,[],s⟩)
theorem A27:OB (R:=R) L Q Y s (cd [1,1,1,1] Cg):=by intro k a b;unfold Qk;exact(j1 (by kernel_rfl) ((JL L Q Y s (E3 0 (E2 (O2 L) Q Y (cd [1,1,1,1,1,1] Cg) k)) L a 10 0 0).trans (by kernel_rfl)))
noncomputable def Cd7{R:Type}(L:Nat)(a:By)(e:Int->Bool->Option R):Option R:=cond (a==[]) (e 0 false) (cond (not (ltI (a.length:Int) (2:Int))) (cond (inR 0 a.length) (cond ((bAt a (0:Int))==48) (cond (inR 1 a.length) (cond ((bAt a (1:Int))==120) (DX a (λB=>DY L B (λA z=>e A z))) (cond (inR 1 a.length) (Qi a ((bAt a (1:Int))==88) (λt b=>Qj L t b (λm f=>e m f)) (λu C=>Qk L u (λn g=>e n g))) none)) none) (Qi a false (λv c=>Qj L v c (λo h=>e o h)) (λw D=>Qk L w (λp i=>e p i)))) none) (Qi a false (λx d=>Qj L x d (λq j=>e q j)) (λy F=>Qk L y (λr l=>e r l))))
theorem Cx4(e:Code)(f:NX (R:=PV × List Blk × Z) L Q Y s e)(a:NZ (R:=PV × List Blk × Z) L Q Y s e)(d:Code)(g:NY (R:=PV × List Blk × Z) L Q Y s d)(b:OA (R:=PV × List Blk × Z) L Q Y s d)(c:OB (R:=PV × List Blk × Z) L Q Y s d)(m:By):A9 (O2 L) Q Y (cd [] (G5 [1,1,1,1] d (G5 [1,1,1,0,1] e Cg))) ⟨[pS m]++tps 59,[],s⟩ (F5 (O2 L) ad2)=Cd7 L m (λz A=>some (.tup [pI z,pB A],[],s)):=by unfold Cd7;exact let l:=(F5 (O2 L) ad2);let x:=(E2 (O2 L) Q Y d l);(j1 (by kernel_rfl) (A0 rfl (A0 (A0 (A0 (A0 (A0 ((f x m).trans (congr rfl (fx1 λy=>(j1 (by kernel_rfl) ((g l y).trans (by kernel_rfl)))))) (A0 ((a x m ((bAt m (1:Int))==88)).trans (congr (congr rfl (fx2 λq h=>(j1 (by kernel_rfl) ((b l q h).trans (by kernel_rfl))))) (fx2 λr n=>(j1 (by kernel_rfl) ((c l r n).trans (by kernel_rfl)))))) rfl)) rfl) ((a x m false).trans (congr (congr rfl (fx2 λt i=>(j1 (by kernel_rfl) ((b l t i).trans (by kernel_rfl))))) (fx2 λu o=>(j1 (by kernel_rfl) ((c l u o).trans (by kernel_rfl))))))) rfl) ((a x m false).trans (congr (congr rfl (fx2 λv j=>(j1 (by kernel_rfl) ((b l v j).trans (by kernel_rfl))))) (fx2 λw p=>(j1 (by kernel_rfl) ((c l w p).trans (by kernel_rfl)))))))))
theorem Cx5(d:Nat)(s0):evC (O2 L) (d+1) Z Y 118 [pS s0] [] s=Cd7 L s0 (λa b=>some (.tup [pI a,pB b],[],s)):=
 (evE (fn:=ad2) (by kernel_rfl)).trans (j1 (by kernel_rfl) (Cx4 L (evC (O2 L) d) Y s (cd [1,1,1,0,1] Cg) (A23 L (evC (O2 L) d) Y s) (A25 L (evC (O2 L) d) Y s) (cd [1,1,1,1] Cg) (A24 L (evC (O2 L) d) Y s) (A26 L (evC (O2 L) d) Y s) (A27 L (evC (O2 L) d) Y s) s0))
noncomputable def GU(L:Nat):Cfg:=B4 L [116] (A2 []) [(88,Jj)] (A2 [(4,[2]),(3,[3]),(2,[3,13]),(1,[3]),(0,[0])]) [] (A2 []) (some [2]) [] [] []
noncomputable def VJ{R:Type}(L:Nat)(f:By)(d:LL->Option R):Option R:=cond (A3 f.length) (vl (D4 (pcs (u8n (46:Int)) f)) λa=>cond (ltI 1 (a.length:Int)) (vl (A1 ((a.length:Int)-1)) λb=>cond (inR b a.length) (cond (okE Oz a (a8 b) 0) (vl (gX a (a8 b) 0) λe=>cond (e==[]) (vl (A1 ((a.length:Int)-1)) λc=>cond (I2 0 c a.length) (d (cut a 0 c)) none) (d a)) none) none) (d a)) none
theorem Bu1(d:Nat)(s0):evC (GU L) (d+1) Z Y 116 [pS s0] [] s=VJ L s0 (λa=>some (.s (.sl false false 1 a),[],s)):=by refine(evE (fn:=Tryz.f116) (by kernel_rfl)).trans ?_;generalize evC (GU L) d=Q;unfold VJ;kernel_rfl
noncomputable def Sm(L:Nat):Cfg:=B4 L [86] (A2 []) [(116,FH),(117,LT),(118,Al8)] (A2 [(6,[2]),(5,[4,1]),(4,[2]),(3,[4,11]),(2,[4]),(1,[3]),(0,[0])]) [117,118] (A2 []) (some [2]) [] [] []
noncomputable def Wr{R:Type}(L:Nat)(d:By)(c:Bool->Option R):Option R:=cond (A3 d.length) (vl (A1 ((↑(b8 (D4 (C8 d))):Int)-1)) λb=>cond (inR b (b8 (D4 (C8 d)))) (cond (okE Oz (D4 (C8 d)) (a8 b) 0) (vl (gX (D4 (C8 d)) (a8 b) 0) λa=>cond (A3 a.length) (cond ((not (j8 a))&&(j2 (E7 10 0 a))) (c true) (cond (A3 a.length) (vl (↑(M0 (Ad a)):Int) λe=>cond (j2 (Ad a)) (cond (not (ltI (a.length:Int) (2:Int))) (cond (inR 1 a.length) (cond ((bAt a (1:Int))==120) (c true) (cond (inR 1 a.length) (c ((bAt a (1:Int))==88)) none)) none) (c false)) (c false)) none)) none) none) none) none
theorem Ac4(d:Nat)(s0):evC (Sm L) (d+1) Z Y 86 [pS s0] [] s=Wr L s0 (λa=>some (pB a,[],s)):=by refine(evE (fn:=Tryz.f86) (by kernel_rfl)).trans ?_;generalize evC (Sm L) d=Q;unfold Wr;kernel_rfl
noncomputable abbrev Be0:Code:=C4 ah1
noncomputable def La(L:Nat):Cfg:=B4 L [87] (A2 [(6,[2,0,0,0,0])]) [(116,FH),(118,Al8)] (A2 [(18,[2,0]),(7,[4,0,0]),(17,[4,0,0]),(16,[2,0]),(15,[4,0,0,0,38]),(14,[4,0,0]),(13,[2,0]),(12,[4,0,0,0,33]),(11,[4,0,0,0,26]),(10,[2,0]),(9,[4,0,0,0,21]),(8,[4,0,0,0,0]),(6,[4,0,0,10]),(5,[4,0,0]),(4,[4,0]),(3,[2,0]),(2,[4,8]),(1,[4]),(0,[0])]) [118] (A2 [(0,[5]),(1,[4,0,0])]) (some [2,0]) [] [] []
noncomputable def Du{R:Type}(L n:Nat)(b:LL)(v1 a:Int)(e:Unit->Option R)(h:Int->Option R):Option R:=match n with|0=>none|n+1=>cond (ltI a (b.length:Int)) (cond (inR a b.length) (cond (okE Oz b (a8 a) 0) (cond (A3 (b8 (gX b (a8 a) 0))) (vl (↑(M0 (Ad (gX b (a8 a) 0))):Int) λc=>cond (not (j2 (Ad (gX b (a8 a) 0)))) (e ()) (vl (A1 ((b.length:Int)-1)) λi=>cond (a==i) (vl (A1 ((5:Int)-(b.length:Int))) λg=>cond (decide ((0:Int)<=(A1 ((8:Int)*g)))) (vl (Qx .i64 (1:Int) (A1 ((8:Int)*g))) λj=>cond (not (ltI c j)) (e ()) (Du L n b (A1 (v1+c)) (A1 (a+1)) e h)) none) (cond (ltI 255 c) (e ()) (vl (A1 ((24:Int)-(A1 ((8:Int)*a)))) λd=>cond (decide ((0:Int)<=d)) (vl (A1 (v1+(Qx .i64 c d))) λf=>Du L n b f (A1 (a+1)) e h) none)))) none) none) none) (h v1)
theorem Ad1(n p0 v1 i2):C5 0 ((La L).keep 6) (bd (La L) Q Y (cd [1,1,1,1,0,1,0,0] Be0)) n ⟨gp [(4,.s (.sl false false 1 p0)),(0,pI v1),(0,pI i2)] 49,[],s⟩ k =
 Du L n p0 v1 i2 (λ_=>k .ret ⟨gp [(2,p32 (0:Int)),(0,pB false)] 52,[],s⟩) (λv0=>k (.exit 0) ⟨gp [(5,pI v0)] 50,[],s⟩):=by
 induction n generalizing p0 v1 i2 with
 | zero=>rfl
 | succ n a=>rw[Du];simp only[<-a];kernel_rfl
noncomputable def Bi5{R:Type}(L:Nat)(c:By)(b:Int->Bool->Option R):Option R:=cond (A3 c.length) (cond (ltI 4 (↑(b8 (D4 (C8 c))):Int)) (b 0 false) (Du L L (D4 (C8 c)) 0 0 (λ_=>b 0 false) (λa=>b (AY a) true))) none
theorem Ce1(d:Nat)(s0):evC (La L) (d+1) Z Y 87 [pS s0] [] s=Bi5 L s0 (λa b=>some (.tup [p32 a,pB b],[],s)):=by refine(evE (fn:=ah1) (by kernel_rfl)).trans ?_;generalize evC (La L) d=Q;unfold Bi5;exact(j1 (by kernel_rfl) (A0 (A0 rfl ((Ad1 L Q Y s (E3 0 (E2 (La L) Q Y (cd [1,1,1,1,1] Be0) (F5 (La L) ah1))) L (D4 (C8 s0)) 0 0).trans (by kernel_rfl))) rfl))
noncomputable abbrev B41:Code:=C4 ag0
noncomputable def Sj(L:Nat):Cfg:=B4 L [173] (A2 [(2,[0,1,0,0])]) [(53,Xv)] (A2 [(6,[2,0]),(3,[0,3]),(5,[2,0]),(4,[0,3,7]),(2,[0,3,1]),(1,[0,3]),(0,[0])]) [53] (A2 [(0,[]),(1,[0,3])]) (some [2,0]) [] [] []
noncomputable def Lt{R:Type}(L n:Nat)(e:By)(a:Int)(c:Int->Option R)(d:Unit->Option R):Option R:=match n with|0=>none|n+1=>cond (ltI a 256) (cond (ltN a 4294967296) (vl (j5 (a8 a)) λb=>cond (b==e) (c a) (Lt L n e (A1 (a+1)) c d)) none) (d ())
theorem Ay6(n s0 n1):C5 0 ((Sj L).keep 2) (bd (Sj L) Q Y (cd [1,0,1,0,0] B41)) n ⟨gp [(0,pS s0),(3,pI n1)] 9,[],s⟩ k =
 Lt L n s0 n1 (λn0=>k .ret ⟨gp [(2,pI n0),(0,pB true)] 10,[],s⟩) (λ_=>k (.exit 0) ⟨gp [] 14,[],s⟩):=by
 induction n generalizing s0 n1 with
 | zero=>rfl
 | succ n a=>rw[Lt];simp only[<-a];kernel_rfl
noncomputable def Cv9{R:Type}(L:Nat)(c:By)(b:Int->Bool->Option R):Option R:=Lt L L c 0 (λa=>b a true) (λ_=>b 0 false)
theorem Cw0(d:Nat)(s0):evC (Sj L) (d+1) Z Y 173 [pS s0] [] s=Cv9 L s0 (λa b=>some (.tup [pI a,pB b],[],s)):=by refine(evE (fn:=ag0) (by kernel_rfl)).trans ?_;generalize evC (Sj L) d=Q;unfold Cv9;exact(j1 (by kernel_rfl) ((Ay6 L Q Y s (E3 0 (E2 (Sj L) Q Y (cd [1,1] B41) (F5 (Sj L) ag0))) L s0 0).trans (by kernel_rfl)))
noncomputable abbrev B44:Code:=C4 af8
noncomputable def So(L:Nat):Cfg:=B4 L [145] (A2 [(6,[2,0,0,0,0])]) [(88,Jj),(173,B18)] (A2 [(12,[2,0]),(7,[4,0,0]),(11,[4,0,0]),(10,[2,0]),(9,[4,0,0,0,19]),(8,[4,0,0,0,0]),(6,[4,0,0,8]),(5,[4,0,0]),(4,[4,0]),(3,[2,0]),(2,[4,8]),(1,[4]),(0,[0])]) [173] (A2 [(0,[5]),(1,[4,0,0])]) (some [2,0]) [] [] []
noncomputable def Mc{R:Type}(L n:Nat)(b:LL)(v1 a:Int)(f:Unit->Option R)(g:Int->Option R):Option R:=match n with|0=>none|n+1=>cond (ltI a 4) (cond (inR a b.length) (cond (okE Oz b (a8 a) 0) (cond (A3 (b8 (gX b (a8 a) 0))) (vl (↑(M0 (oct (gX b (a8 a) 0))):Int) λc=>cond (not (j2 (oct (gX b (a8 a) 0)))) (f ()) (vl (AY (v1*256)) λd=>vl (AY (d+(AY c))) λe=>Mc L n b e (A1 (a+1)) f g)) none) none) none) (g v1)
theorem A60(n p0 v1 i2):C5 0 ((So L).keep 6) (bd (So L) Q Y (cd [1,1,1,1,0,1,0,0] B44)) n ⟨gp [(4,.s (.sl false false 1 p0)),(0,p32 v1),(0,pI i2)] 27,[],s⟩ k =
 Mc L n p0 v1 i2 (λ_=>k .ret ⟨gp [(2,p32 (0:Int)),(0,pB false)] 30,[],s⟩) (λv0=>k (.exit 0) ⟨gp [(5,p32 v0)] 28,[],s⟩):=by
 induction n generalizing p0 v1 i2 with
 | zero=>rfl
 | succ n a=>rw[Mc];simp only[<-a];kernel_rfl
noncomputable def Cy5{R:Type}(L:Nat)(d:By)(b:Int->Bool->Option R):Option R:=cond (A3 d.length) (vl (D4 (pcs (u8n (46:Int)) d)) λa=>cond ((a.length:Int)!=4) (b 0 false) (Mc L L a 0 0 (λ_=>b 0 false) (λc=>b c true))) none
theorem Cy6(d:Nat)(s0):evC (So L) (d+1) Z Y 145 [pS s0] [] s=Cy5 L s0 (λb c=>some (.tup [p32 b,pB c],[],s)):=by refine(evE (fn:=af8) (by kernel_rfl)).trans ?_;generalize evC (So L) d=Q;unfold Cy5;exact(j1 (by kernel_rfl) (A0 (A4 λa=>(A0 rfl ((A60 L Q Y s (E3 0 (E2 (So L) Q Y (cd [1,1,1,1,1] B44) (F5 (So L) af8))) L a 0 0).trans (by kernel_rfl)))) rfl))
noncomputable def Ap2(L:Nat):Cfg:=B4 L [70] (A2 []) [(53,Xv)] (A2 [(1,[2]),(0,[0])]) [53] (A2 []) (some [2]) [] [] []
noncomputable def Cy3{R:Type}(L:Nat)(v0:Int)(n:By->Option R):Option R:=vl (Tu .u32 v0 (24:Int)) λg=>cond (ltN (A1 g) 4294967296) (vl (j5 (a8 (A1 g))) λj=>cond (E5 j.length 1) (vl (j++[46]) λc=>vl (Tu .u32 v0 (16:Int)) λm=>vl (w8 m (256:Int)) λh=>cond (ltN (A1 h) 4294967296) (vl (j5 (a8 (A1 h))) λd=>cond (E5 c.length d.length) (cond (E5 (b8 (c++d)) 1) (vl ((c++d)++[46]) λe=>vl (w8 (Tu .u32 v0 (8:Int)) (256:Int)) λi=>cond (ltN (A1 i) 4294967296) (vl (j5 (a8 (A1 i))) λf=>cond (E5 e.length f.length) (cond (E5 (b8 (e++f)) 1) (vl ((e++f)++[46]) λl=>vl (w8 v0 (256:Int)) λa=>cond (ltN (A1 a) 4294967296) (vl (j5 (a8 (A1 a))) λb=>cond (E5 l.length b.length) (n (l++b)) none) none) none) none) none) none) none) none) none) none
theorem Cy4(d:Nat)(v0):evC (Ap2 L) (d+1) Z Y 70 [p32 v0] [] s=Cy3 L v0 (λa=>some (pS a,[],s)):=by refine(evE (fn:=Tryz.f70) (by kernel_rfl)).trans ?_;generalize evC (Ap2 L) d=Q;unfold Cy3;kernel_rfl
noncomputable def Zf(L:Nat):Cfg:=B4 L [109] (A2 []) [(138,Xx)] (A2 [(1,[4]),(0,[0,0])]) [] (A2 []) (some [4]) [] [] []
noncomputable def EA{R:Type}(L:Nat)(c a:By)(d:Nat->LL->Option R):Option R:=cond (A3 c.length) (cond (a.length==1) (cond ((0:Int)==0) (cond (((-1):Int)==((-1):Int)) (vl (D4 (pcs (b9 a 0 0) c)) λb=>d (b8 (pcs (b9 a 0 0) c)) b) none) none) none) none
theorem A77(d:Nat)(s0 sep1):evC (Zf L) (d+1) Z Y 109 [pS s0,pS sep1] [] s=EA L s0 sep1 (λa b=>some (.vw 0 0 a,[.arr false 9 1 b],s)):=by refine(evE (fn:=Tryz.f109) (by kernel_rfl)).trans ?_;generalize evC (Zf L) d=Q;unfold EA;kernel_rfl
end
end
section
open Go
attribute [simp] B5 E1 C6 WW Bk3 Bk2 WX Z5 J6 F0
attribute [simp] vl
@[simp] theorem E0{n:Nat}(h:n<=1000000000):A3 n=true:=OH.2 h
@[simp] theorem Rb{v:Int}{n:Nat}(h:0<=v)(a:v<n):ltN v n=true:=D9.2 ⟨h,a⟩
theorem M8{n:Nat}(h:n<=1000000000:=by omega):A3 n=true:=E0 h
theorem L0{v:Int}{n:Nat}(h:0<=v:=by omega)(g:v<n:=by omega):ltN v n=true:=Rb h g
@[simp] theorem G2{m n:Nat}(h:m+n<4611686018427387904):E5 m n=true:=by simp[E5,h]
abbrev rv(v:PV)(H:List Blk):Option (PV × List Blk × Unit):=some (v,H,())
theorem L6{n:Nat}(h:A3 n=true):n<=1000000000:=OH.1 h
theorem D2(s:By)(i:Nat)(h:i<s.length):s.drop i=s.getD i 0::s.drop (i+1):=by rw[o0,p5 h,p9,List.getElem_cons_drop]
theorem OL(s:By)(i:Nat)(h:i<s.length):s.take (i+1)=s.take i++[s.getD i 0]:=by rw[List.take_add_one,o0,p5 h];rfl
theorem IP(s:By)(i:Nat)(h:i<s.length):(B6 (s.take (i+1))).map D7=(B6 (s.take i)).map D7++[D7 (Bp (s.getD i 0))]:=by unfold B6;rw[OL s i h,ae6,ae6];rfl
theorem T3(b:UInt8):(b.toNat<65/\Bp b=b)\/(90<b.toNat/\Bp b=b)\/(65<=b.toNat/\b.toNat<=90/\((Bp b).toNat=b.toNat+32)):=by
 unfold Bp;by_cases a:b.toNat<65
 ·refine .inl ⟨a,if_neg ?_⟩;intro h;have:=y9.1 h.1;simp at this;omega
 ·by_cases c:90<b.toNat
  ·refine .inr (.inl ⟨c,if_neg ?_⟩);intro h;have:=y9.1 h.2;simp at this;omega
  ·refine .inr (.inr ⟨by omega,by omega,?_⟩);rw[if_pos (by constructor<;>(rw[y9];simp;omega)),UInt8.toNat_add];simp;omega
@[simp] theorem D0(s:By)(i:Nat):bAt s (i:Int)=((s.getD i 0).toNat:Int):=by simp[bAt]
@[simp] theorem Z9(s:By):bAt s 0=((s.getD 0 0).toNat:Int):=by simp[bAt]
@[simp] theorem Bd4(s:By):bAt s 1=((s.getD 1 0).toNat:Int):=by simp[bAt]
theorem Ek{c:Type}(s:List c)(a b:Nat):cut s (a:Int) (b:Int)=(s.take b).drop a:=by simp[cut]
@[simp] theorem P8{b:Type}(s:List b)(a:Int):cut s a (s.length:Int)=s.drop a.toNat:=by simp[cut]
@[simp] theorem J8{a:Type}(s:List a)(b:Int):cut s 0 b=s.take b.toNat:=by simp[cut]
@[simp] theorem F3(l:List By):(D4 l).length=l.length:=by simp[D4]
@[simp] theorem V6(l:List By)(i:Nat):gX (D4 l) i 0=l.getD i []:=by
 unfold gX gC D4;by_cases h:i<l.length
 ·simp[o0,p5 h,SV.gS]
 ·simp[o0,List.getElem?_eq_none (show l.length<=i by omega),SV.gS]
@[simp] theorem Q7{l:List By}{i:Nat}(h:i<l.length):okE Oz (D4 l) i 0=true:=by unfold okE D4;simp[o0,p5 h,h,Oz,okS,SV.has]
theorem Xi(a b:List By):D4 (a++b)=D4 a++D4 b:=by simp[D4]
theorem Ik(b:UInt8):u8n (b.toNat:Int)=b:=by simp[u8n]
theorem WM(b:UInt8):inR (b.toNat:Int) 256=true:=by have:=b.toNat_lt;exact E6
theorem C75{a b:UInt8}:((a.toNat:Int)==(b.toNat:Int))=(a==b):=by
 rw[ab5];simp only[beq_iff_eq];constructor
 ·intro h;exact UInt8.toNat_inj.1 (by omega)
 ·intro h;rw[h]
theorem P7(a:UInt8)(n:Nat)(h:n<256):((a.toNat:Int)==(n:Int))=(a==j9 n):=by rw[<-C75];simp[o8 h]
theorem Ed(p s:By):p.isPrefixOf s=(decide (p.length<=s.length)&&(s.take p.length==p)):=by
 rw[ab5];simp only[x3,v8,decide_eq_true_eq,beq_iff_eq];constructor
 ·intro h;exact⟨h.length_le,(ab1.1 h).symm⟩
 ·rintro⟨_,h⟩;exact ab1.2 h.symm
theorem My(p s:By):p.isSuffixOf s=(decide (p.length<=s.length)&&(s.drop (s.length-p.length)==p)):=by
 rw[ab5];simp only[List.isSuffixOf_iff_suffix,v8,decide_eq_true_eq,beq_iff_eq];constructor
 ·intro h;exact⟨h.length_le,(ab2.1 h).symm⟩
 ·rintro⟨_,h⟩;exact ab2.2 h.symm
theorem Ck(b:UInt8):(48<=b.toNat/\b.toNat<=57/\dig b=b.toNat-48)\/(97<=b.toNat/\b.toNat<=102/\dig b=b.toNat-87)\/(65<=b.toNat/\b.toNat<=70/\dig b=b.toNat-55)\/(¬(48<=b.toNat/\b.toNat<=57)/\¬(97<=b.toNat/\b.toNat<=102)/\¬(65<=b.toNat/\b.toNat<=70)/\dig b=99):=by
 unfold dig;split
 ·rename_i h;exact .inl ⟨h.1,h.2,rfl⟩
 ·split
  ·rename_i h;exact .inr (.inl ⟨h.1,h.2,rfl⟩)
  ·split
   ·rename_i h;exact .inr (.inr (.inl ⟨h.1,h.2,rfl⟩))
   ·exact .inr (.inr (.inr ⟨by assumption,by assumption,by assumption,rfl⟩))
theorem Cg3(m:Nat):(if (1099511627776:Int)<(m:Int) then (1099511627776:Int) else (m:Int))=((min m Cb:Nat):Int):=by unfold Cb;split<;>omega
theorem HM{base:Nat}:∀{s:By} {n v:Nat},n<=Cb->E7 base n s=some v->v<=Cb
 | [],n,v,h,e=>by simp only[E7,y8] at e;omega
 | b::r,n,v,h,e=>by
  simp only[E7] at e;split at e
  ·exact HM (by omega) e
  ·cases e
theorem Bh1{s:By}{v:Nat}(h:Ad s=some v):v<=Cb:=by
 unfold Ad at h
 repeat' split at h
 all_goals first|(cases h;done)|exact HM (by unfold Cb;omega) h
theorem MR(base:Nat):∀(x y:By) (n:Nat),E7 base n (x++y)=(E7 base n x).bind λm=>E7 base m y
 | [],y,n=>rfl
 | b::r,y,n=>by
  simp only[aa8,E7];split
  ·exact MR base r y _
  ·rfl
theorem It(u:Nat)(h:¬u<10):j5 u=j5 (u / 10)++[j9 (48+u % 10)]:=by rw[j5,dif_neg h]
theorem C70(d:Nat)(h:d<10):dig (j9 (48+d))=d:=by
 unfold dig;have:(j9 (48+d)).toNat=48+d:=by simp;omega
 rw[this,R9];omega
theorem Bm1:∀u:Nat,u<=Cb->E7 10 0 (j5 u)=some u:=by
 intro u
 induction u using Nat.strongRecOn with
 | _ u a=>
  intro b;by_cases h:u<10
  ·rw[aa6 h];simp only[E7,C70 u h];rw[if_pos h];unfold Cb;simp;omega
  ·rw[It u h,MR,a (u / 10) (by omega) (by omega)];simp only[Option.bind_some,E7,C70 (u % 10) (by omega)];rw[R9];unfold Cb at *;simp;omega
theorem Fh:∀(k u:Nat),0<k->u<10 ^ k->(j5 u).length<=k
 | 0,u,h,_=>by omega
 | k+1,u,_,h=>by
  by_cases b:u<10
  ·rw[aa6 b];simp
  ·rw[It u b,x7,w9];have a:0<k:=by
    rcases Nat.eq_zero_or_pos k with rfl|a
    ·rw[ag5,Nat.pow_one] at h;omega
    ·exact a
   have:=Fh k (u / 10) a (by rw[x6] at h;omega);omega
theorem F2(u:Nat)(h:u<4294967296):(j5 u).length<=10:=Fh 10 u (by omega) (by omega)
theorem Wb{s:By}{n:Nat}:oct s=some n↔n<256/\j5 n=s:=by
 unfold oct;constructor
 ·intro h;split at h
  ·rename_i m c;split at h
   ·rename_i a;cases h;exact⟨by omega,a.2⟩
   ·cases h
  ·cases h
 ·rintro⟨b,rfl⟩;rw[Bm1 n (by unfold Cb;omega)];exact if_pos ⟨by omega,rfl⟩
theorem C65(a b:Nat)(c:a<9223372036854775808)(d:b<9223372036854775808):bOr .i64 (a:Int) (b:Int)=((a ||| b:Nat):Int):=by
 unfold bOr;rw[show p6 .i64=64 from rfl,C87 64 a b (by omega) (by omega)];have:a ||| b<2 ^ 63:=ac8 (by omega) (by omega)
 exact A7
theorem Dh3(a b:Nat)(c:a<4294967296)(d:b<4294967296):bOr .u32 (a:Int) (b:Int)=((a ||| b:Nat):Int):=by
 unfold bOr;rw[show p6 .u32=32 from rfl,C87 32 a b (by omega) (by omega)];have:a ||| b<2 ^ 32:=ac8 (by omega) (by omega)
 exact Mr
theorem C83(a b:Nat)(c:a<4294967296)(d:b<4294967296):An4 .u32 (a:Int) (b:Int)=((a &&& b:Nat):Int):=by unfold An4;rw[show p6 .u32=32 from rfl,C69 32 a b (by omega) (by omega)];have:a &&& b<2 ^ 32:=Nat.and_lt_two_pow _ (by omega);exact Mr
theorem C82(x:Nat):x &&& 255=x % 256:=Nat.and_two_pow_sub_one_eq_mod x 8
theorem Ag9(a m:Nat)(h:a*2 ^ m<9223372036854775808)(b:m<=64):Qx .i64 (a:Int) (m:Int)=((a*2 ^ m:Nat):Int):=by
 unfold Qx;rw[j4,show p6 .i64=64 from rfl,ab6 b];have:(a:Int)*2 ^ m=((a*2 ^ m:Nat):Int):=by simp
 rw[this];exact A7
theorem Di9(a m:Nat)(h:a*2 ^ m<4294967296)(b:m<=32):Qx .u32 (a:Int) (m:Int)=((a*2 ^ m:Nat):Int):=by
 unfold Qx;rw[j4,show p6 .u32=32 from rfl,ab6 b];have:(a:Int)*2 ^ m=((a*2 ^ m:Nat):Int):=by simp
 rw[this];exact Mr
theorem DQ(v n m:Nat)(h:n<2 ^ m):v*2 ^ m ||| n=v*2 ^ m+n:=by rw[Nat.or_comm,Da4 n v m h,ag2]
theorem Oq{c:UInt8}{s:By}(h:c∉s):pcs c s=[s]:=by unfold pcs;rw[Xg c s [] h];rfl
theorem UU{c:UInt8}{p r:By}(h:c∉p):pcs c (p++c::r)=p::pcs c r:=by unfold pcs;rw[CP c p [] r h];rfl
theorem Hv(c:UInt8)(s:By):(pcs c s).length=s.count c+1:=Ii c s []
theorem Aw6(c:UInt8)(s:By):pcs c s≠[]:=A73 c s []
theorem Df{c:UInt8}{s x:By}(h:x∈pcs c s):c∉x/\x.length<=s.length:=by have:=Oy c s [] (by simp) x h;simpa using this
theorem Gc(c:UInt8)(s:By):s.count c<=s.length:=List.count_le_length
theorem S9(c:UInt8):∀s:By,c∉s\/∃p r,s=p++c::r/\c∉p
 | []=>.inl (by simp)
 | b::s=>by
  by_cases h:b=c
  ·subst h;exact .inr ⟨[],s,rfl,by simp⟩
  ·rcases S9 c s with a|⟨p,r,rfl,d⟩
   ·exact .inl (by simp[a,Ne.symm h])
   ·exact .inr ⟨b::p,r,rfl,by simp[d,Ne.symm h]⟩
theorem Sx{c:UInt8}{s:By}(h:c∉s):x4 s [c]=-1:=by
 rcases ae8 s [c] with a|⟨i,a,e,b,f⟩
 ·exact a.1
 ·exfalso;simp only[ad0,x3] at b;obtain⟨t,d⟩:=b;have:c∈s.drop i:=by rw[<-d];simp
  exact h (ac1 this)
theorem Zv{c:UInt8}{p r:By}(h:c∉p):x4 (p++c::r) [c]=(p.length:Int):=by
 rcases ae8 (p++c::r) [c] with d|⟨i,d,m,f,g⟩
 ·exfalso;have:=d.2 p.length (by simp);simp[ad0] at this
 ·rw[d];have n:¬p.length<i:=by
   intro a;have:=g p.length a;simp[ad0] at this
  have k:¬i<p.length:=by
   intro a;simp only[ad0,x3] at f;obtain⟨t,b⟩:=f;have j:(p++c::r).drop i=p.drop i++c::r:=by rw[z7 (by omega)]
   rw[j] at b;cases e:p.drop i with
   | nil=>have:=List.length_drop (i:=i) (l:=p);rw[e] at this;simp at this;omega
   | cons x y=>
    rw[e] at b;simp at b;have:x∈p:=ac1 (i:=i) (by rw[e];simp);rw[<-b.1] at this;exact h this
  omega
theorem Bq8(s:By):C8 s≠[]:=by
 unfold C8;split
 ·rename_i h;intro e;have:=congrArg b8 e;simp at this;omega
 ·exact Aw6 _ _
theorem Lq{s x:By}(h:x∈C8 s):x.length<=s.length:=by
 unfold C8 at h;split at h
 ·exact(Df ((List.dropLast_sublist _).subset h)).2
 ·exact(Df h).2
theorem Ap(s:By):1<=(C8 s).length/\(C8 s).length<=s.length+1:=by
 have a:=aa3.2 (Bq8 s);have b:=Hv 46 s;have c:=Gc 46 s;refine⟨a,?_⟩;unfold C8;split
 ·rw[List.length_dropLast];omega
 ·omega
theorem AA(s:By):(C8 s).getD ((C8 s).length-1) []=Ju s:=by unfold Ju;rw[List.getLastD_eq_getLast?,List.getLast?_eq_getElem?,o0]
theorem NI(s:By):Ju s∈C8 s:=by have h:=(Ap s).1;rw[<-AA,o0,p5 (by omega)];exact aa9 _
theorem Iu{base:Nat}:∀{s:By} {n i:Nat},i<s.length->base<=dig (s.getD i 0)->E7 base n s=none
 | [],n,i,h,_=>by simp at h
 | b::r,n,0,h,a=>by
  simp only[v7] at a;simp only[E7];rw[F9]
 | b::r,n,i+1,h,a=>by
  simp only[ac4] at a;simp only[E7];split
  ·exact Iu (i:=i) (by simpa using h) a
  ·rfl
theorem Zw(s:By):Bn s=true↔s.getD 0 0=48/\(s.getD 1 0=120\/s.getD 1 0=88):=by simp[Bn]
theorem Qa{s:By}(h:Bn s=true):2<=s.length:=by
 rw[Zw] at h
 match s with
 | []=>simp at h
 | [a]=>simp at h
 | a::b::r=>simp
theorem Ca2(l:By):(if Bn l then (E7 16 0 (l.drop 2)).isSome else !l.isEmpty&&(E7 10 0 l).isSome) =
  (if (!l.isEmpty&&(E7 10 0 l).isSome)=true then true else (if (Ad l).isSome=true then decide (2<=l.length)&&(l.getD 1 0==120||l.getD 1 0==88) else false)):=by
 by_cases b:Bn l=true
 ·have g:=Qa b;have j:=(Zw l).1 b;have f:E7 10 0 l=none:=Iu (i:=1) (by omega) (by rcases j.2 with h|h<;>rw[h]<;>decide);have d:Ad l=E7 16 0 (l.drop 2):=by
   unfold Ad;rw[if_neg (by intro e;rw[e] at g;simp at g),if_pos b]
  rw[if_pos b,f,d];have c:(l.getD 1 0==120||l.getD 1 0==88)=true:=by simpa using j.2
  rw[c];simp[g]
 ·rw[if_neg b];cases n:(!l.isEmpty&&(E7 10 0 l).isSome) with
  | true=>rfl
  | false=>
   rw[if_neg (by simp)];cases d:Ad l with
   | none=>rfl
   | some v=>
    rw[show(some v).isSome=true from rfl,if_pos rfl]
    symm
    rw[Bool.and_eq_false_iff];by_cases c:2<=l.length
    ·right
     apply Classical.byContradiction;intro a;have a:l.getD 1 0=120\/l.getD 1 0=88:=by
      cases k:(l.getD 1 0==120||l.getD 1 0==88) with
      | false=>exact absurd k a
      | true=>simpa using k
     have m:¬l.getD 0 0=48:=λh=>b ((Zw l).2 ⟨h,a⟩)
     have f:E7 10 0 l=none:=Iu (i:=1) (by omega) (by rcases a with h|h<;>rw[h]<;>decide);unfold Ad at d;rw[if_neg (by intro e;rw[e] at c;simp at c),if_neg b,if_neg (by intro h;exact m h.2),f] at d;cases d
    ·left;simpa using c
end
section
open Go Go.Proofs
theorem Bp6{R:Type}{a:Bool->Option R}(s p:By)(b:A3 s.length=true):Ct1 LF s p a=a (p.isPrefixOf s):=by
 have:=L6 b;unfold Ct1;rw[Ed];by_cases h:p.length<=s.length
 ·simp_all
 ·simp (disch:=omega) [h]
theorem Bn8{R:Type}{a:Bool->Option R}(s p:By)(b:A3 s.length=true):Sw LF s p a=a (p.isPrefixOf s):=by unfold Sw;rw[b];rfl
theorem Bp7{R:Type}{a:Bool->Option R}(s p:By)(b:A3 s.length=true):Ct3 LF s p a=a (p.isSuffixOf s):=by
 have:=L6 b;unfold Ct3;rw[My];by_cases h:p.length<=s.length
 ·have e:((s.length:Int)-(p.length:Int)).toNat=s.length-p.length:=by omega
  simp (disch:=omega) [h,e]
 ·simp (disch:=omega) [h]
theorem Av2{R:Type}{b:By->Option R}(s p:By)(a:A3 s.length=true):Bg5 LF s p b=b (WJ s p):=by
 have:=L6 a;unfold Bg5 WJ;rw[a];cases h:p.isSuffixOf s with
 | false=>simp
 | true=>
  have:p.length<=s.length:=by rw[My] at h;simp at h;exact h.1
  have e:((s.length:Int)-(p.length:Int)).toNat=s.length-p.length:=by omega
  simp (disch:=omega) [e]
theorem A80{R:Type}{a:By->Option R}(s p:By)(b:A3 s.length=true):Bj5 LF s p a=a (WJ s p):=by unfold Bj5;rw[b];rfl
theorem Au1{R:Type}{b:By->Bool->Option R}(s p:By)(a:A3 s.length=true):Bg0 LF s p b=b (Gd s p) (p.isPrefixOf s):=by
 have:=L6 a;unfold Bg0 Gd;rw[a];cases h:p.isPrefixOf s with
 | false=>simp
 | true=>
  have:p.length<=s.length:=by rw[Ed] at h;simp at h;exact h.1
  simp_all
theorem Bl8{R:Type}{a:By->Bool->Option R}(s p:By)(b:A3 s.length=true):Co9 LF s p a=a (Gd s p) (p.isPrefixOf s):=by unfold Co9;rw[b];rfl
theorem Ai0{R:Type}{a:LL->Option R}(s p:By)(b:A3 s.length=true)(c:(p.length==1)=true):WE LF s p a=a (D4 (pcs (p.getD 0 0) s)):=by unfold WE;rw[b,c];rfl
theorem Bp3{R:Type}{k0:LL->Option R}(s:By)(o:s.length<=1000000000):∀(r i n:Nat),i+r=s.length->r<n->Ep LF n s (s.length:Int) (i:Int) ((B6 (s.take i)).map D7) k0=k0 ((B6 s).map D7):=by
 intro r
 induction r with
 | zero=>
  intro i n g j;obtain⟨n,rfl⟩:∃m,n=m+1:=⟨n-1,by omega⟩
  rw[Ep];rw[A6,y7 (by omega)];rfl
 | succ r a=>
  intro i n g j;obtain⟨n,rfl⟩:∃m,n=m+1:=⟨n-1,by omega⟩
  rw[Ep];have h:(B6 (s.take i)).length=i:=by simp[B6];omega
  have a:=a (i+1) n (by omega) (by omega);rw[IP s i (by omega)] at a;rw[D0];have l:=(s.getD i 0).toNat_lt;generalize s.getD i 0=b at *;have c:((i:Int)+1)=((i+1:Nat):Int):=by omega
  simp (disch:=omega) only[B5,J6,cond_true,vl,aa2,h,F0,C6];rw[c];rcases T3 b with⟨d,e⟩|⟨d,e⟩|⟨d,k,e⟩
  ·simp (disch:=omega) only[B5,j6,cond_false];rw[e] at a;exact a
  ·simp (disch:=omega) only[E1,B5,j6,j7,cond_false,cond_true];rw[e] at a;exact a
  ·have f:wu8 ((b.toNat:Int)+32)=((Bp b).toNat:Int):=by
    rw[L4];omega
   simp (disch:=omega) only[E1,j7,cond_true,f];exact a
theorem Bp4{R:Type}{k0:By->LL->Option R}(s:By)(b:A3 s.length=true):Cs9 LF s k0=k0 (B6 s) ((B6 s).map D7):=by have c:=L6 b;have:=C2;unfold Cs9;simp (disch:=omega) only[j4,F0,af2];rw[show(decide ((0:Int)<=(s.length:Int)))=true by simp];have:=Bp3 (k0:=λa=>cond (s9 a Nh) (k0 (o9 Lc a) a) none) s c s.length 0 LF (by omega) (by omega);simp only[List.take_zero,B6,List.map_nil] at this;rw[cond_true];refine j1 this ?_;rw[show(o9 Bp s).map D7=(B6 s).map D7 from rfl,W0,W8];rfl
theorem Bt6{R:Type}{k0:LL->Option R}(s:By)(o:s.length<=1000000000):∀(r i n:Nat),i+r=s.length->r<n->Ey LF n s (i:Int) ((B6 (s.take i)).map D7) k0=k0 ((B6 s).map D7):=by
 intro r
 induction r with
 | zero=>
  intro i n g j;obtain⟨n,rfl⟩:∃m,n=m+1:=⟨n-1,by omega⟩
  rw[Ey];rw[A6,y7 (by omega)];rfl
 | succ r a=>
  intro i n g j;obtain⟨n,rfl⟩:∃m,n=m+1:=⟨n-1,by omega⟩
  rw[Ey];have h:(B6 (s.take i)).length=i:=by simp[B6];omega
  have a:=a (i+1) n (by omega) (by omega);rw[IP s i (by omega)] at a;rw[D0];have l:=(s.getD i 0).toNat_lt;generalize s.getD i 0=b at *;have c:((i:Int)+1)=((i+1:Nat):Int):=by omega
  simp (disch:=omega) only[B5,J6,cond_true,vl,aa2,h,F0,C6];rw[c];rcases T3 b with⟨d,e⟩|⟨d,e⟩|⟨d,k,e⟩
  ·simp (disch:=omega) only[B5,j6,cond_false];rw[e] at a;exact a
  ·simp (disch:=omega) only[E1,B5,j6,j7,cond_false,cond_true];rw[e] at a;exact a
  ·have f:wu8 ((b.toNat:Int)+32)=((Bp b).toNat:Int):=by
    rw[L4];omega
   simp (disch:=omega) only[E1,j7,cond_true,f];exact a
theorem Bt7{R:Type}{k0:By->LL->Option R}(s:By)(b:A3 s.length=true):Cx2 LF s k0=k0 (B6 s) ((B6 s).map D7):=by have c:=L6 b;have:=C2;unfold Cx2;have:=Bt6 (k0:=λa=>cond (s9 a Nh) (k0 (o9 Lc a) a) none) s c s.length 0 LF (by omega) (by omega);refine j1 this ?_;rw[W0,W8];rfl
theorem Bn5{R:Type}{c:Bool->Option R}(s:By)(d:A3 s.length=true):Cr5 LF s c=c (Bn s):=by
 unfold Cr5;have key:Bn s=(([48,120]:By).isPrefixOf s||([48,88]:By).isPrefixOf s):=by
  match s with
  | []=>rfl
  | [a]=>simp[Bn,o7]
  | a::b::r=>
   simp only[Bn,o7,v7,ac4,af2];rw[ag6 (a:=(48:UInt8)),ag6 (a:=(120:UInt8)),ag6 (a:=(88:UInt8))];cases (a==48)<;>simp
 grind
theorem Bm2{R:Type}{k0:Unit->Option R}{k1:Int->Option R}(s:By)(C:s.length<=1000000000)(base:Nat)(B:base<=16):∀(r i a n:Nat),i+r=s.length->r<n->a<=Cb->
  Hp LF n s (base:Int) (a:Int) (s.length:Int) (i:Int) k0 k1=match E7 base a (s.drop i) with|some v=>k1 (v:Int)|none=>k0 ():=by
 intro r
 induction r with
 | zero=>
  intro i a n u w q;obtain⟨n,rfl⟩:∃m,n=m+1:=⟨n-1,by omega⟩
  rw[Hp];rw[A6,o5 (by omega)];rfl
 | succ r l=>
  intro i a n u w q;obtain⟨n,rfl⟩:∃m,n=m+1:=⟨n-1,by omega⟩
  rw[Hp,D2 s i (by omega)];rw[D0];have t:=(s.getD i 0).toNat_lt;generalize s.getD i 0=b at *;have k:((i:Int)+1)=((i+1:Nat):Int):=by omega
  have o:Cb=1099511627776:=rfl;have step:∀d:Nat,d<base->(a*base+d<100000000000000/\A1 (A1 ((a:Int)*(base:Int))+(d:Int))=((a*base+d:Nat):Int)):=by
   intro d c;have h:a*base<=1099511627776*16:=ae9 (by omega) (by omega);refine⟨by omega,?_⟩;have p:A1 ((a*base:Nat):Int)=((a*base:Nat):Int):=A7;rw[<-ae2,p,A7];rfl
  simp (disch:=omega) only[B5,J6,cond_true,vl,C6,Ut,Ur,Uq];rw[k];simp only[E7];rcases Ck b with⟨h,j,e⟩|⟨h,j,e⟩|⟨h,j,e⟩|⟨h,j,A,e⟩
  ·have f:wu8 ((b.toNat:Int)-48)=((dig b:Nat):Int):=by rw[L4];omega
   simp (disch:=omega) only[B5,E1,j6,j7,cond_false,cond_true,f,C6];by_cases c:dig b<base
   ·rw[if_pos c,A8,(step _ c).2,Cg3];exact l (i+1) _ n (by omega) (by omega) (by omega)
   ·rw[if_neg c,A6];rfl
  ·have f:wu8 ((b.toNat:Int)-97)+10=((dig b:Nat):Int):=by rw[L4];omega
   have g:wu8 ((b.toNat:Int)-97)=((b.toNat:Int)-97):=L4;rw[g] at f;simp (disch:=omega) only[B5,E1,j6,j7,cond_false,cond_true,g,C6,f];by_cases c:dig b<base
   ·rw[if_pos c,A8,(step _ c).2,Cg3];exact l (i+1) _ n (by omega) (by omega) (by omega)
   ·rw[if_neg c,A6];rfl
  ·have f:wu8 ((b.toNat:Int)-65)+10=((dig b:Nat):Int):=by rw[L4];omega
   have g:wu8 ((b.toNat:Int)-65)=((b.toNat:Int)-65):=L4;rw[g] at f;simp (disch:=omega) only[B5,E1,j6,j7,cond_false,cond_true,g,C6,f];by_cases c:dig b<base
   ·rw[if_pos c,A8,(step _ c).2,Cg3];exact l (i+1) _ n (by omega) (by omega) (by omega)
   ·rw[if_neg c,A6];rfl
  ·rw[if_neg (show ¬dig b<base by omega)];by_cases x:b.toNat<48
   ·simp (disch:=omega) only[B5,E1,j6,j7,cond_false,cond_true]
   ·by_cases y:b.toNat<65
    ·simp (disch:=omega) only[B5,E1,j6,j7,cond_false,cond_true]
    ·by_cases z:b.toNat<97
     ·simp (disch:=omega) only[B5,E1,j6,j7,cond_false,cond_true]
     ·simp (disch:=omega) only[B5,E1,j6,j7,cond_false,cond_true]
theorem Bm3{R:Type}{k0:Int->Bool->Option R}(s:By)(base:Int)(c:A3 s.length=true)(d:ltN base 17=true):B59 LF s base k0=k0 (M0 (E7 base.toNat 0 s):Int) (E7 base.toNat 0 s).isSome:=by have f:=L6 c;have:=C2;obtain⟨a,e⟩:=D9.1 d;obtain⟨b,rfl⟩:=k9 a;unfold B59;have:=Bm2 (k0:=λ_=>k0 0 false) (k1:=λn=>k0 n true) s f b (by omega) s.length 0 0 LF (by omega) (by omega) (by unfold Cb;omega);refine j1 this ?_;rw[s7,j4];cases E7 b 0 s<;>rfl
theorem Ca1{R:Type}{f:Int->Bool->Option R}(s:By)(d:A3 s.length=true):num LF s f=f (M0 (Ad s):Int) (Ad s).isSome:=by
 have k:=L6 d;unfold num Ad;rw[d];by_cases a:s=[]
 ·subst a;rfl
 have c:(s==([]:By))=false:=by simpa using a
 have j:0<s.length:=aa3.2 a;rw[if_neg a,c];simp only[cond_true,cond_false,vl];cases h:Bn s with
 | true=>
  have:=Qa h;simp (disch:=first|omega|(simp;omega)) only[cond_true,if_true,Z5,P8,E0,Rb];rfl
 | false=>
  simp only[cond_false,aa4,if_false];have i:(E7 10 0 s)=E7 10 0 s:=rfl;by_cases g:1<s.length
  ·simp (disch:=omega) only[B5,J6,cond_true,Z9,g,true_and];have e:=P7 (s.getD 0 0) 48 (by omega);rw[show((48:Nat):Int)=48 from rfl] at e;rw[e];by_cases b:s.getD 0 0=48
   ·rw[if_pos b,b,show((48:UInt8)==j9 48)=true from rfl];simp (disch:=first|omega|(simp;omega)) only[Z5,P8,E0,Rb,cond_true];rfl
   ·rw[if_neg b,show(s.getD 0 0==j9 48)=false from beq_eq_false_iff_ne.2 b];rfl
  ·rw[A6,F9];rfl
theorem UO{R:Type}{b:Bool->Option R}(s:By)(a:A3 s.length=true):DO LF s b=b (G0 s):=by
 have i:=L6 a;have h:=Ap s;have g:=Lq (NI s);have d:=AA s;have c:((C8 s).length:Int)-1=(((C8 s).length-1:Nat):Int):=by omega
 unfold DO G0;rw[a];simp (disch:=omega) only[cond_true,vl,F3,c,C6,J6,j4,Q7,V6,d,E0];cases f:Bn (Ju s) with
 | true=>
  have:=Qa f;have e:Ad (Ju s)=E7 16 0 ((Ju s).drop 2):=by
   unfold Ad;grind
  simp[e]
 | false=>
  simp only[cond_false,aa4,if_false];cases E7 10 0 (Ju s) with
  | none=>simp
  | some v=>cases Ju s<;>rfl
theorem LK{R:Type}{c:Bool->Option R}(s:By)(a:A3 s.length=true):Wr LF s c=c (G0 s):=by
 have j:=L6 a;have i:=Ap s;have h:=Lq (NI s);have e:=AA s;have d:((C8 s).length:Int)-1=(((C8 s).length-1:Nat):Int):=by omega
 unfold Wr G0;rw[a,Ca2];simp (disch:=omega) only[cond_true,vl,F3,d,C6,J6,j4,Q7,V6,e,E0];generalize Ju s=l at *;cases (!l.isEmpty&&(E7 10 0 l).isSome) with
 | true=>rfl
 | false=>
  simp only[cond_false,aa4,if_false];cases Ad l with
  | none=>rfl
  | some v=>
   simp only[p4,cond_true,if_true,Bd4];by_cases b:2<=l.length
   ·simp (disch:=omega) only[E1,J6,j7,cond_true,b,decide_true,Bool.true_and];have f:=P7 (l.getD 1 0) 120 (by omega);have g:=P7 (l.getD 1 0) 88 (by omega);grind
   ·rw[A8];simp[b]
theorem TR{R:Type}{e:By->Option R}(b:Nat)(j:b<=9223372036854775808)(n:Int)(f:ltN n (b+1)=true):DJ b n e=e (j5 n.toNat):=by
 obtain⟨a,g⟩:=D9.1 f;obtain⟨m,rfl⟩:=k9 a;have key:∀d:Nat,d<10->wu8 (A1 (48+(d:Int)))=((48+d:Nat):Int):=by
  intro d i;rw[A7,L4];rfl
 have c:∀d:Nat,d<10->[[SV.int .u8 ((48+d:Nat):Int)]]=[j9 (48+d)].map D7:=by
  intro d i;rw[Ci4 (by omega)];rfl
 unfold DJ;rw[j4];by_cases h:m<10
 ·rw[A8,key m h,aa6 h];simp only[cond_true,vl];rw[c m h,W0,W8];rfl
 ·have l:=Fh 19 (m / 10) (by omega) (by omega);rw[A6,show(10:Int)=((10:Nat):Int) from rfl,L1,Bx];simp (disch:=omega) only[cond_false,vl,C6,cond_true,j4];rw[L0];simp only[cond_true];have k:=key (m % 10) (by omega);rw[A7] at k;rw[k,c (m % 10) (by omega),W0,W8,G2 (by simp;omega),It m h];rfl
theorem Bs3{R:Type}{f:Int->Option R}{c:Unit->Option R}(s:By):∀(r m n:Nat),m+r=256->r<n->Lt LF n s (m:Int) f c=match oct s with|some v=>(if m<=v then f (v:Int) else c ())|none=>c ():=by
 intro r
 induction r with
 | zero=>
  intro m n g i;obtain⟨n,rfl⟩:∃m,n=m+1:=⟨n-1,by omega⟩
  rw[Lt];rw[A6];cases h:oct s with
  | none=>rfl
  | some v=>have:=(Wb.1 h).1;simp only[cond_false];rw[F9]
 | succ r j=>
  intro m n g i;obtain⟨n,rfl⟩:∃m,n=m+1:=⟨n-1,by omega⟩
  rw[Lt];have b:((m:Int)+1)=((m+1:Nat):Int):=by omega
  simp (disch:=omega) only[B5,Rb,cond_true,vl,C6,j4];by_cases a:j5 m=s
  ·rw[show(j5 m==s)=true by simpa using a,Wb.2 ⟨by omega,a⟩];simp
  ·rw[show(j5 m==s)=false by simpa using a,cond_false,b,j (m+1) n (by omega) (by omega)];cases h:oct s with
   | none=>rfl
   | some v=>
    have:=(Wb.1 h).2;have:v≠m:=by intro e;subst e;exact a this
    simp only[];by_cases d:m<=v
    ·rw[if_pos d,R9]
    ·rw[if_neg d,F9]
theorem Bs4{R:Type}{a:Int->Bool->Option R}(s:By)(b:A3 s.length=true):Cv9 LF s a=a (M0 (oct s):Int) (oct s).isSome:=by have:=C2;unfold Cv9;refine j1 (Bs3 s 256 0 LF (by omega) (by omega)) ?_;cases oct s<;>rfl
theorem Dh4(s:By)(a b:Nat)(h:a<=b)(c:b<s.length):cut s (a:Int) ((b+1:Nat):Int)=cut s (a:Int) (b:Int)++[s.getD b 0]:=by rw[Ek,Ek,OL s b c,z7 (by rw[List.length_take];omega)]
theorem B57(s:By)(a:Nat):cut s (a:Int) (a:Int)=[]:=by rw[Ek];grind
theorem Ad4{R:Type}{k0:LL->Option R}(s:By)(p:s.length<=1000000000)(c:UInt8):∀(r i a n:Nat) (l:List By),i+r=s.length->r+1<n->a<=i->l.length<=i->
  U6 LF n s (c.toNat:Int) (a:Int) (i:Int) (D4 l) k0=k0 (D4 (l++O8 c (cut s (a:Int) (i:Int)) (s.drop i))):=by
 intro r
 induction r with
 | zero=>
  intro i a n l j o f k;obtain⟨n,rfl⟩:∃m,n=m+1:=⟨n-1,by omega⟩
  obtain⟨n,rfl⟩:∃m,n=m+1:=⟨n-1,by omega⟩
  have b:i=s.length:=by omega
  subst b;rw[U6];simp (disch:=omega) only[E1,j7,cond_true,beq_self_eq_true,Z5,F3,F0,C6];rw[U6];rw[A8,List.drop_length];simp only[j6,cond_false,O8,Xi];rfl
 | succ r g=>
  intro i a n l j o f k;obtain⟨n,rfl⟩:∃m,n=m+1:=⟨n-1,by omega⟩
  rw[U6];have d:((i:Int)+1)=((i+1:Nat):Int):=by omega
  have e:((i:Int)==(s.length:Int))=false:=by rw[beq_eq_false_iff_ne];omega
  simp (disch:=omega) only[E1,j7,cond_true,cond_false,e,J6,D0,C75,Z5,F3,F0,C6];rw[d,D2 s i (by omega)];simp only[O8];by_cases h:s.getD i 0=c
  ·rw[show(s.getD i 0==c)=true by simpa using h,if_pos h,cond_true];have:=g (i+1) (i+1) n (l++[cut s (a:Int) (i:Int)]) (by omega) (by omega) (by omega) (by simp<;>omega);rw[Xi] at this;refine j1 this ?_;rw[B57];simp
  ·rw[show(s.getD i 0==c)=false from beq_eq_false_iff_ne.2 h,if_neg h,cond_false];rw[g (i+1) a n l (by omega) (by omega) (by omega) (by omega),Dh4 s a i f (by omega)]
theorem A53{R:Type}{k0:LL->Option R}(s:By)(c:Int)(a:A3 s.length=true)(d:inR c 256=true):JM LF s c k0=k0 (D4 (pcs (u8n c) s)):=by
 have f:=L6 a;have:=C2;simp only[inR,v8,decide_eq_true_eq] at d;have e:c=((u8n c).toNat:Int):=by
  unfold u8n;simp;omega
 unfold JM;generalize u8n c=b at *;subst e;have:=Ad4 (k0:=k0) s f b s.length 0 0 LF [] (by omega) (by omega) (by omega) (by simp);refine j1 this ?_;rw[B57];rfl
theorem Ai2(c:UInt8)(s:By):(D4 (pcs c s)).isEmpty=false:=by
 cases h:pcs c s with
 | nil=>exact absurd h (Aw6 c s)
 | cons a r=>rfl
theorem Ad5(s:By)(c:Int)(a:A3 s.length=true)(b:inR c 256=true):∃r H,JM LF s c (λl=>rv (.fl 0) [.arr true 9 1 l])=rv r H/\r.stab [1] H = .s (.sl false false 1 (D4 (pcs (u8n c) s))):=by refine⟨_,_,A53 s c a b,?_⟩;simp[PV.stab,Qu,PV.snap,Ai2]
theorem Cg4(d:List By)(x:By)(m:Nat):aa0 (D4 (d++j0 (m+1) [])) d.length (F8 (b9 (D4 (d++j0 (m+1) [])) d.length []) 0 [SV.str x])=D4 ((d++[x])++j0 m []):=by
 have a:b9 (D4 (d++j0 (m+1) [])) d.length []=[SV.str []]:=by
  unfold D4;grind
 rw[a];simp only[F8,List.set_cons_zero,Xi];rw[show d.length=(D4 d).length by simp,List.set_append_right _ _ (by omega),Nat.sub_self,List.replicate_succ];simp[D4]
theorem ZG{R:Type}{k0:By->Int->LL->Option R}(c:UInt8):∀(m n:Nat) (s:By) (d:List By),s.length<=1000000000->m=s.count c->d.length+m<=1000000000->m<n->
  ∃(f:List By) (e:By),pcs c s=f++[e]/\e.length<=s.length/\Ay LF n s [c] 0 ((d.length+m:Nat):Int) (d.length:Int) (D4 (d++j0 (m+1) [])) k0=k0 e ((d.length+m:Nat):Int) (D4 ((d++f)++[[]])):=by
 intro m
 induction m with
 | zero=>
  intro n s d k b x y;obtain⟨n,rfl⟩:∃m,n=m+1:=⟨n-1,by omega⟩
  have a:c∉s:=aa5.1 b.symm;refine⟨[],s,Oq a,aa1 _,?_⟩;rw[Ay];rw[A6];simp
 | succ m z=>
  intro n s d k b x y;obtain⟨n,rfl⟩:∃m,n=m+1:=⟨n-1,by omega⟩
  rcases S9 c s with a|⟨p,r,rfl,a⟩
  ·rw[aa5.2 a] at b;omega
  ·have i:m=r.count c:=by
    rw[List.count_append,ae3,aa5.2 a] at b;simp at b;omega
   simp only[x7,ab0] at k;obtain⟨f,e,w,B,j⟩:=z n r (d++[p]) (by omega) i (by simp<;>omega) (by omega);refine⟨p::f,e,by rw[UU a,w];rfl,by simp<;>omega,?_⟩;rw[Ay];have l:((p.length:Int)+1)=((p.length+1:Nat):Int):=by omega
   have o:(d.length:Int)+1=((d.length+1:Nat):Int):=by omega
   have q:((p.length+1:Nat):Int).toNat=p.length+1:=by omega
   have A:(((p++c::r).length:Nat):Int)=((p.length+(r.length+1):Nat):Int):=by simp
   have t:(p++c::r).take p.length=p:=List.take_left' rfl;have u:(p++c::r).drop (p.length+1)=r:=by
    rw[show p++c::r=(p++[c])++r by simp,List.drop_left' (by simp)]
   rw[Zv a];have v:(D4 (d++j0 (m+1+1) [])).length=d.length+(m+2):=by simp<;>omega
   simp (disch:=first|omega|(simp;omega)) only[B5,E1,E0,cond_true,cond_false,vl,Int.add_zero,C6,Z5,J6,v,j4,w9,P8,J8,t,Cg4];rw[decide_eq_true (show d.length<d.length+(m+2) by omega),cond_true,show((1:Nat):Int)=1 from rfl,l];simp (disch:=first|omega|(simp;omega)) only[C6,Z5,cond_true,P8,q,u,o];have g:((((d++[p]).length+m:Nat):Int))=((d.length+(m+1):Nat):Int):=by simp<;>omega
   have h:(((d++[p]).length:Nat):Int)=((d.length+1:Nat):Int):=by simp
   rw[g,h] at j;rw[j];simp
theorem HZ{R:Type}{k0:Unit->Option R}{g:Nat->LL->Option R}(s p:By)(v n:Int)(w:A3 s.length=true)(x:(p.length==1)=true)(y:(v==0)=true)(z:(n==(-1))=true) :
  HY LF s p v n k0 g=g (pcs (p.getD 0 0) s).length (D4 (pcs (p.getD 0 0) s)):=by
 have C:=L6 w;have:=C2;obtain⟨c,rfl⟩:∃c,p=[c]:=by
  match p,x with
  | [c],_=>exact⟨c,rfl⟩
 have:v=0:=by simpa using y
 subst this;have:n=-1:=by simpa using z
 subst this;have G:=Gc c s;have B:=Hv c s;obtain⟨d,D,u,F,h⟩:=ZG (R:=R) (k0:=λf a b=>cond (inR a (b8 b))
     (cond (decide ((a8 a)<(b8 b)))
      (vl (A1 (a+(1))) λe=>
      cond (I2 (0) e (b8 (aa0 b (a8 a) (F8 (b9 b (a8 a) []) 0 [(SV.str f)]))))
       (g ((a8 e)-0) (aa0 b (a8 a) (F8 (b9 b (a8 a) []) 0 [(SV.str f)])))
       (none))
      (none))
     (none)) c (s.count c) LF s [] C rfl (by simp<;>omega) (by omega)
 unfold HY;have i:A1 ((s.count c:Int)+1)=((s.count c+1:Nat):Int):=A7;have j:A1 ((s.length:Int)+1)=((s.length+1:Nat):Int):=A7;have k:(if ((s.length+1:Nat):Int)<((s.count c+1:Nat):Int) then ((s.length+1:Nat):Int) else ((s.count c+1:Nat):Int))=((s.count c+1:Nat):Int):=F9;have l:((s.count c+1:Nat):Int)-1=(s.count c:Int):=by omega
 have m:(j0 (s.count c+1) [SV.str ([]:By)])=D4 ([]++j0 (s.count c+1) []):=by simp[D4]
 simp only[v7,vl,w9,i,j,k,j4,m];rw[show((-1:Int)==0)=false from rfl,show([c]==([]:By))=false from rfl,show ltI (-1) 0=true from rfl,decide_eq_true (show(0:Int)<=((s.count c+1:Nat):Int) by omega),decide_eq_true (show((s.count c+1:Nat):Int)<=((s.count c+1:Nat):Int) by omega),F0 (by omega),l,A7];simp only[cond_true,cond_false,beq_self_eq_true,Bool.and_self];simp only[ae5,ag5] at h;refine j1 h ?_;have o:(D4 ((([]:List By)++d)++[[]]))=D4 (d++j0 (0+1) []):=by simp
 have A:d.length=s.count c:=by grind
 have q:=Cg4 d D 0;rw[<-A,o];have t:(D4 (d++j0 (0+1) ([]:By))).length=d.length+1:=by simp
 have r:A1 ((d.length:Int)+1)=((d.length+1:Nat):Int):=A7;simp only[j4,q,t,vl,r];rw[E6,decide_eq_true (show d.length<d.length+1 by omega),Z5 (by omega) (by omega) (by simp),u];simp
theorem ZH(s p:By)(v n:Int)(a:A3 s.length=true)(b:(p.length==1)=true)(c:(v==0)=true)(d:(n==(-1))=true) :
  ∃r H,HY LF s p v n (λ_=>rv (.fl 0) [.arr true 9 1 []]) (λi l=>rv (.vw 0 0 i) [.arr false 9 1 l])=rv r H/\r.stab [1] H = .s (.sl false false 1 (D4 (pcs (p.getD 0 0) s))):=by
 refine⟨_,_,HZ s p v n a b c d,?_⟩;simp[PV.stab,Qu,PV.snap,y7]
theorem WF{R:Type}{a:Nat->LL->Option R}(s p:By)(b:A3 s.length=true)(c:(p.length==1)=true):EA LF s p a=a (pcs (p.getD 0 0) s).length (D4 (pcs (p.getD 0 0) s)):=by unfold EA;rw[b,c];rfl
theorem NP{l:List By}{i:Nat}(h:i<l.length):l.getD i []∈l:=by grind
theorem Aw5{R:Type}{d:LL->Option R}(s:By)(b:A3 s.length=true):parts LF s d=d (D4 (C8 s)):=by
 have j:=L6 b;have g:=Hv 46 s;have i:=Gc 46 s;unfold parts;rw[b];have e:A1 (((pcs 46 s).length:Int)-1)=(((pcs 46 s).length-1:Nat):Int):=by rw[A7];omega
 simp only[cond_true,vl,v7,show((1:Nat)==1)=true from rfl,F3,e,j4];by_cases c:1<(pcs 46 s).length
 ·rw[A8,E6,Q7 (by omega),V6];have f:(pcs 46 s).getD ((pcs 46 s).length-1) []=(pcs 46 s).getLastD []:=by grind
  rw[f];by_cases a:(pcs 46 s).getLastD []=[]
  ·rw[a,show(([]:By)==[])=true from rfl,H9];have:C8 s=(pcs 46 s).dropLast:=by unfold C8;rw[if_pos ⟨c,a⟩]
   rw[this,ab7,J8,j4];simp[D4]
  ·rw[show((pcs 46 s).getLastD []==[])=false from beq_eq_false_iff_ne.2 a];have:C8 s=pcs 46 s:=by unfold C8;rw[if_neg (λh=>a h.2)]
   grind
 ·rw[A6];have:C8 s=pcs 46 s:=by unfold C8;rw[if_neg (λh=>c h.1)]
  grind
theorem Ac5{R:Type}{d:LL->Option R}(s:By)(b:A3 s.length=true):VJ LF s d=d (D4 (C8 s)):=by
 have j:=L6 b;have g:=Hv 46 s;have i:=Gc 46 s;unfold VJ;rw[b];have e:A1 (((pcs 46 s).length:Int)-1)=(((pcs 46 s).length-1:Nat):Int):=by rw[A7];omega
 simp only[cond_true,vl,show u8n 46=46 from rfl,F3,e,j4];by_cases c:1<(pcs 46 s).length
 ·rw[A8,E6,Q7 (by omega),V6];have f:(pcs 46 s).getD ((pcs 46 s).length-1) []=(pcs 46 s).getLastD []:=by grind
  rw[f];by_cases a:(pcs 46 s).getLastD []=[]
  ·rw[a,show(([]:By)==[])=true from rfl,H9];have:C8 s=(pcs 46 s).dropLast:=by unfold C8;rw[if_pos ⟨c,a⟩]
   rw[this,ab7,J8,j4];simp[D4]
  ·rw[show((pcs 46 s).getLastD []==[])=false from beq_eq_false_iff_ne.2 a];have:C8 s=pcs 46 s:=by unfold C8;rw[if_neg (λh=>a h.2)]
   grind
 ·rw[A6];have:C8 s=pcs 46 s:=by unfold C8;rw[if_neg (λh=>c h.1)]
  grind
theorem Ja(l:List By)(i:Nat)(h:i<l.length):l.drop i=l.getD i []::l.drop (i+1):=by simp_all
theorem Br3{R:Type}{g:Unit->Option R}{j:Int->Option R}(l:List By)(B:1<=l.length)(L:l.length<=4)(A:∀x∈l,x.length<=1000000000):∀(r i v n:Nat),i+r=l.length->0<r->r<n->v<256 ^ i->
  Hy LF n (D4 l) (v:Int) (l.length:Int) (i:Int) g j=match We (8*(5-l.length)) v (l.drop i) with|some w=>j (w:Int)|none=>g ():=by
 intro r
 induction r with
 | zero=>intro i v n _ h;omega
 | succ r J=>
  intro i v n K _ M H;obtain⟨n,rfl⟩:∃m,n=m+1:=⟨n-1,by omega⟩
  rw[Hy,Ja l i (by omega)];have N:=A _ (NP (show i<l.length by omega));have f:Cb=1099511627776:=rfl;have C:256 ^ i<=16777216:=by
   have:i=0\/i=1\/i=2\/i=3:=by omega
   rcases this with rfl|rfl|rfl|rfl<;>decide
  simp (disch:=omega) only[B5,F3,J6,cond_true,j4,Q7,V6,E0,vl];simp only[We];have c:((i:Int)+1)=((i+1:Nat):Int):=by omega
  cases D:Ad (l.getD i []) with
  | none=>rfl
  | some q=>
   have F:=Bh1 D;have p:A1 ((l.length:Int)-1)=((l.length-1:Nat):Int):=by rw[A7];omega
   simp only[p4,j6,cond_false,M0,p9,p];by_cases G:r=0
   ·subst G;have t:l.drop (i+1)=[]:=o5 (by omega);have o:A1 (8*A1 (5-(l.length:Int)))=((8*(5-l.length):Nat):Int):=by
     rw[C6 (n:=5-(l.length:Int)) (by omega) (by omega),A7];omega
    have b:2 ^ (8*(5-l.length))*256 ^ i=4294967296:=by
     have:l.length=1\/l.length=2\/l.length=3\/l.length=4:=by omega
     grind
    have u:1*2 ^ (8*(5-l.length))<=4294967296:=by
     rw[<-b,ac2];exact ab3 _ (ae1 (by omega))
    rw[t,A6,o,decide_eq_true (show(0:Int)<=((8*(5-l.length):Nat):Int) by omega)];simp only[cond_false,cond_true];have k:=Ag9 1 (8*(5-l.length)) (by omega) (by omega);have I:v*2 ^ (8*(5-l.length))<4294967296:=by
     rw[<-b,ag4];exact Nat.mul_lt_mul_of_pos_left H (ae1 (by omega))
    have e:=Ag9 v (8*(5-l.length)) (by omega) (by omega);rw[show((1:Nat):Int)=1 from rfl] at k;rw[k,e,ac2];by_cases a:q<2 ^ (8*(5-l.length))
    ·rw[A8,if_pos a,C65 _ _ (by omega) (by omega),DQ v q _ a];simp only[j6,cond_false];obtain⟨n,rfl⟩:∃m,n=m+1:=⟨n-1,by omega⟩
     rw[Hy];rw[c,A7,A6];rfl
    ·rw[A6,if_neg a];rfl
   ·obtain⟨y,z,d⟩:∃y z,l.drop (i+1)=y::z:=⟨_,_,Ja l (i+1) (by omega)⟩
    rw[d,A8];simp only[cond_true];by_cases a:q<=255
    ·have e:=Ag9 v 8 (by omega) (by omega);rw[show((8:Nat):Int)=8 from rfl] at e;rw[A6,if_pos a,e,C65 _ _ (by omega) (by omega),DQ v q 8 (by omega),c,A7];rw[<-d];exact J (i+1) _ n (by omega) (by omega) (by omega) (by rw[x6];omega)
    ·rw[A8,if_neg a];rfl
theorem Bh5(free m:Nat):∀(l:List By) (v w:Nat),v<256 ^ m->We free v l=some w->w<256 ^ (m+(l.length-1))*2 ^ free
 | [],v,w,b,h=>by cases h
 | p::r,v,w,b,h=>by
  simp only[We] at h;cases a:Ad p with
  | none=>simp[a] at h
  | some q=>
   simp only[a] at h;cases r with
   | nil=>
    simp only at h;split at h
    ·rename_i c;cases h;simp only[ab0,ae5,Nat.add_sub_cancel,Nat.add_zero];have:(v+1)*2 ^ free<=256 ^ m*2 ^ free:=Nat.mul_le_mul_right _ b;grind
    grind
   | cons y z=>
    simp only at h;split at h
    ·rename_i c;have:=Bh5 free (m+1) (y::z) (v*256+q) w (by rw[x6];omega) h;grind
    grind
theorem Cb0{s:By}{w:Nat}(h:pnB s=some w):w<4294967296:=by
 unfold pnB at h;split at h
 ·cases h
 ·rename_i a;have b:=Ap s;have:=Bh5 _ 0 (C8 s) 0 w (by decide) h;have e:(C8 s).length=1\/(C8 s).length=2\/(C8 s).length=3\/(C8 s).length=4:=by omega
  grind
theorem Br4{R:Type}{b:Int->Bool->Option R}(s:By)(a:A3 s.length=true):Cv1 LF s b=b (M0 (pnB s):Int) (pnB s).isSome:=by
 have f:=L6 a;have:=C2;have c:=Ap s;unfold Cv1;rw[a,F3];by_cases h:4<(C8 s).length
 ·rw[A8];unfold pnB;rw[if_pos h];rfl
 ·rw[A6];simp only[cond_true,cond_false];refine j1 (Br3 (C8 s) c.1 (by omega) (λx g=>ab4 (Lq g) f) (C8 s).length 0 0 LF (by omega) (by omega) (by omega) (by decide)) ?_;have e:pnB s=We (8*(5-(C8 s).length)) 0 (C8 s):=by unfold pnB;rw[if_neg h]
  rw[s7,<-e];cases d:pnB s with
  | none=>rfl
  | some w=>
   have:=Cb0 d;simp only[M0,p9,p4];rw[Mr]
theorem A38{R:Type}{k0:Unit->Option R}{k1:Int->Option R}(l:List By)(F:1<=l.length)(L:l.length<=4)(D:∀x∈l,x.length<=1000000000):∀(r i v n:Nat),i+r=l.length->0<r->r<n->v<256 ^ i->
  Du LF n (D4 l) ((v*2 ^ (32-8*i):Nat):Int) (i:Int) k0 k1=match We (8*(5-l.length)) v (l.drop i) with|some w=>k1 (w:Int)|none=>k0 ():=by
 intro r
 induction r with
 | zero=>intro i v n _ h;omega
 | succ r J=>
  intro i v n K _ M N;obtain⟨n,rfl⟩:∃m,n=m+1:=⟨n-1,by omega⟩
  rw[Du,Ja l i (by omega)];have O:=D _ (NP (show i<l.length by omega));have k:Cb=1099511627776:=rfl;have a:v*2 ^ (32-8*i)<4294967296:=by
   have:i=0\/i=1\/i=2\/i=3:=by omega
   rcases this with rfl|rfl|rfl|rfl
   all_goals omega
  simp (disch:=omega) only[B5,F3,J6,cond_true,j4,Q7,V6,E0,vl];simp only[We];have c:((i:Int)+1)=((i+1:Nat):Int):=by omega
  cases G:Ad (l.getD i []) with
  | none=>rfl
  | some q=>
   have H:=Bh1 G;have A:A1 ((l.length:Int)-1)=((l.length-1:Nat):Int):=by rw[A7];omega
   simp only[p4,j6,cond_false,M0,p9,A];by_cases I:r=0
   ·subst I;have B:l.drop (i+1)=[]:=o5 (by omega);have u:A1 (8*A1 (5-(l.length:Int)))=((8*(5-l.length):Nat):Int):=by
     rw[C6 (n:=5-(l.length:Int)) (by omega) (by omega),A7];omega
    have f:2 ^ (8*(5-l.length))*256 ^ i=4294967296:=by
     have:l.length=1\/l.length=2\/l.length=3\/l.length=4:=by omega
     grind
    have C:1*2 ^ (8*(5-l.length))<=4294967296:=by
     rw[<-f,ac2];exact ab3 _ (ae1 (by omega))
    have e:((i:Int)==((l.length-1:Nat):Int))=true:=by rw[beq_iff_eq];omega
    rw[B,e,u,decide_eq_true (show(0:Int)<=((8*(5-l.length):Nat):Int) by omega)];simp only[cond_true];have o:=Ag9 1 (8*(5-l.length)) (by omega) (by omega);rw[show((1:Nat):Int)=1 from rfl] at o;rw[o,ac2];by_cases b:q<2 ^ (8*(5-l.length))
    ·rw[A8,if_pos b];simp only[j6,cond_false];obtain⟨n,rfl⟩:∃m,n=m+1:=⟨n-1,by omega⟩
     rw[Du];rw[c,C6 (n:=((i+1:Nat):Int)) (by omega) (by omega),F3,A6];have:32-8*i=8*(5-l.length):=by omega
     rw[this] at a ⊢;rw[cond_false,A7];rfl
    ·rw[A6,if_neg b];rfl
   ·obtain⟨y,z,d⟩:∃y z,l.drop (i+1)=y::z:=⟨_,_,Ja l (i+1) (by omega)⟩
    have e:((i:Int)==((l.length-1:Nat):Int))=false:=by rw[beq_eq_false_iff_ne];omega
    rw[d,e];simp only[cond_false];by_cases b:q<=255
    ·have j:A1 (24-A1 (8*(i:Int)))=((24-8*i:Nat):Int):=by
      rw[C6 (n:=8*(i:Int)) (by omega) (by omega),A7];omega
     have g:q*2 ^ (24-8*i)<4294967296:=by
      have:i=0\/i=1\/i=2:=by omega
      clear a;rcases this with rfl|rfl|rfl
      ·show q*16777216<_;omega
      ·show q*65536<_;omega
      ·show q*256<_;omega
     have p:=Ag9 q (24-8*i) (by omega) (by omega);rw[A6,if_pos b,j,decide_eq_true (show(0:Int)<=((24-8*i:Nat):Int) by omega),p,c,C6 (n:=((i+1:Nat):Int)) (by omega) (by omega)];have t:A1 (((v*2 ^ (32-8*i):Nat):Int)+((q*2 ^ (24-8*i):Nat):Int))=(((v*256+q)*2 ^ (32-8*(i+1)):Nat):Int):=by
      rw[A7];have:i=0\/i=1\/i=2:=by omega
      clear a g p j;rcases this with rfl|rfl|rfl
      ·show((v*4294967296:Nat):Int)+((q*16777216:Nat):Int)=(((v*256+q)*16777216:Nat):Int);omega
      ·show((v*16777216:Nat):Int)+((q*65536:Nat):Int)=(((v*256+q)*65536:Nat):Int);omega
      ·show((v*65536:Nat):Int)+((q*256:Nat):Int)=(((v*256+q)*256:Nat):Int);omega
     rw[t,<-d];exact J (i+1) _ n (by omega) (by omega) (by omega) (by rw[x6];omega)
    ·rw[A8,if_neg b];rfl
theorem A39{R:Type}{k0:Int->Bool->Option R}(s:By)(a:A3 s.length=true):Bi5 LF s k0=k0 (M0 (pnB s):Int) (pnB s).isSome:=by
 have f:=L6 a;have:=C2;have c:=Ap s;unfold Bi5;rw[a,F3];by_cases h:4<(C8 s).length
 ·rw[A8];unfold pnB;rw[if_pos h];rfl
 ·rw[A6];simp only[cond_true,cond_false];have b:=A38 (k0:=λ_=>k0 0 false) (k1:=λv=>k0 (AY v) true) (C8 s) c.1 (by omega) (λx g=>ab4 (Lq g) f) (C8 s).length 0 0 LF (by omega) (by omega) (by omega) (by decide);rw[Nat.zero_mul] at b;refine j1 b ?_;have e:pnB s=We (8*(5-(C8 s).length)) 0 (C8 s):=by unfold pnB;rw[if_neg h]
  rw[s7,<-e];cases d:pnB s with
  | none=>rfl
  | some w=>
   have:=Cb0 d;simp only[M0,p9,p4];rw[Mr]
theorem Bh2:∀(l:List By) (v w m:Nat),v<256 ^ m->IV v l=some w->w<256 ^ (m+l.length)
 | [],v,w,m,b,h=>by simp only[IV,y8] at h;subst h;simpa using b
 | p::r,v,w,m,b,h=>by
  simp only[IV] at h;cases a:oct p with
  | none=>simp[a] at h
  | some q=>
   simp only[a] at h;have c:=(Wb.1 a).1;have:=Bh2 r (v*256+q) w (m+1) (by rw[x6];omega) h;grind
theorem Cu1(s:By):oct s=match E7 10 0 s with|some n=>(if n<=255 then (if j5 n=s then some n else none) else none)|none=>none:=by unfold oct;grind
theorem Cj5{R:Type}{e:Unit->Option R}{f:Int->Option R}(l:List By)(z:l.length=4)(j:∀x∈l,x.length<=1000000000):∀(r i v n:Nat),i+r=4->r<n->v<256 ^ i->
  Tx LF n (v:Int) (D4 l) 4 (i:Int) e f=match IV v (l.drop i) with|some w=>f (w:Int)|none=>e ():=by
 intro r
 induction r with
 | zero=>
  intro i v n h k u;obtain⟨n,rfl⟩:∃m,n=m+1:=⟨n-1,by omega⟩
  rw[Tx];rw[A6,o5 (by omega)];rfl
 | succ r y=>
  intro i v n h k u;obtain⟨n,rfl⟩:∃m,n=m+1:=⟨n-1,by omega⟩
  rw[Tx,Ja l i (by omega)];have A:=j _ (NP (show i<l.length by omega));have o:256 ^ i<=16777216:=by
   have:i=0\/i=1\/i=2\/i=3:=by omega
   grind
  simp (disch:=omega) only[B5,F3,J6,cond_true,j4,Q7,V6,E0,Rb,vl];simp only[IV];have b:((i:Int)+1)=((i+1:Nat):Int):=by omega
  rw[Cu1];cases p:E7 10 0 (l.getD i []) with
  | none=>rfl
  | some q=>
   have t:=HM (by unfold Cb;omega) p;have d:Cb=1099511627776:=rfl;simp only[p4,j6,cond_false,M0,p9,j4];by_cases c:q<=255
   ·rw[A6,if_pos c,L0];simp only[cond_false,cond_true];by_cases a:j5 q=l.getD i []
    ·have g:=Di9 v 8 (by omega) (by omega);rw[show((8:Nat):Int)=8 from rfl] at g;rw[show(j5 q==l.getD i [])=true by simpa using a,if_pos a,g,Mr,Dh3 _ _ (by omega) (by omega),DQ v q 8 (by omega),b,A7];exact y (i+1) _ n (by omega) (by omega) (by rw[x6];omega)
    ·rw[show(j5 q==l.getD i [])=false from beq_eq_false_iff_ne.2 a,if_neg a];rfl
   ·rw[A8,if_neg c];rfl
theorem Cj6{R:Type}{b:Int->Bool->Option R}(s:By)(a:A3 s.length=true):v4p LF s b=b (M0 (v4B s):Int) (v4B s).isSome:=by
 have c:=L6 a;have:=C2;unfold v4p v4B;rw[a];simp only[cond_true,vl,v7,F3,show((1:Nat)==1)=true from rfl];by_cases h:(pcs 46 s).length=4
 ·rw[if_pos h,h,show(((4:Nat):Int)!=4)=false from rfl,cond_false];refine j1 (Cj5 (pcs 46 s) h (λx d=>ab4 (Df d).2 c) 4 0 0 LF (by omega) (by omega) (by decide)) ?_;rw[s7];cases IV 0 (pcs 46 s)<;>rfl
 ·rw[if_neg h,show(((pcs 46 s).length:Int)!=4)=true by simp<;>omega];rfl
theorem Bv5{R:Type}{b:Unit->Option R}{c:Int->Option R}(l:List By)(y:l.length=4)(h:∀x∈l,x.length<=1000000000):∀(r i v n:Nat),i+r=4->r<n->v<256 ^ i->
  Mc LF n (D4 l) (v:Int) (i:Int) b c=match IV v (l.drop i) with|some w=>c (w:Int)|none=>b ():=by
 intro r
 induction r with
 | zero=>
  intro i v n g j t;obtain⟨n,rfl⟩:∃m,n=m+1:=⟨n-1,by omega⟩
  rw[Mc];rw[A6,o5 (by omega)];rfl
 | succ r u=>
  intro i v n g j t;obtain⟨n,rfl⟩:∃m,n=m+1:=⟨n-1,by omega⟩
  rw[Mc,Ja l i (by omega)];have z:=h _ (NP (show i<l.length by omega));have k:256 ^ i<=16777216:=by
   have:i=0\/i=1\/i=2\/i=3:=by omega
   grind
  simp (disch:=omega) only[B5,F3,J6,cond_true,j4,Q7,V6,E0,Rb,vl];simp only[IV];have a:((i:Int)+1)=((i+1:Nat):Int):=by omega
  cases o:oct (l.getD i []) with
  | none=>rfl
  | some q=>
   have p:=(Wb.1 o).1;simp only[p4,j6,cond_false,M0,p9];have d:AY ((v:Int)*256)=((v*256:Nat):Int):=by rw[Mr];simp
   have e:AY (q:Int)=(q:Int):=Mr;have f:AY (((v*256:Nat):Int)+(q:Int))=((v*256+q:Nat):Int):=by rw[Mr];simp
   rw[d,e,f,a,A7];exact u (i+1) _ n (by omega) (by omega) (by rw[x6];omega)
theorem Bv6{R:Type}{b:Int->Bool->Option R}(s:By)(a:A3 s.length=true):Cy5 LF s b=b (M0 (v4B s):Int) (v4B s).isSome:=by
 have c:=L6 a;have:=C2;unfold Cy5 v4B;rw[a];simp only[cond_true,vl,show u8n 46=46 from rfl,F3];by_cases h:(pcs 46 s).length=4
 ·rw[if_pos h,h,show(((4:Nat):Int)!=4)=false from rfl,cond_false];refine j1 (Bv5 (pcs 46 s) h (λx d=>ab4 (Df d).2 c) 4 0 0 LF (by omega) (by omega) (by decide)) ?_;rw[s7];cases IV 0 (pcs 46 s)<;>rfl
 ·rw[if_neg h,show(((pcs 46 s).length:Int)!=4)=true by simp<;>omega];rfl
theorem Cj4{R:Type}{j:By->Option R}(v:Int)(o:ltN v 4294967296=true):v4f LF v j=j (Hh v.toNat):=by
 obtain⟨c,p⟩:=D9.1 o;obtain⟨m,rfl⟩:=k9 c;have:=C2;obtain⟨f,q⟩:∃f,LF=f+1+1+1+1+1:=⟨LF-5,by omega⟩
 have step:∀(n:Nat) (i:Nat) (out:By) (K:By->Option R),i<=24->out.length<=1000->Hi LF (n+1) (m:Int) out (i:Int) K=Hi LF n (m:Int) (out++(j5 (m / 2 ^ i % 256)++[46])) ((i:Int)-8) K:=by
  intro n i out K y A;rw[Hi];have g:m / 2 ^ i<4294967296:=ac6 (ae7 _ _) (by omega);have k:An4 .u32 (Tu .u32 (m:Int) (i:Int)) 255=((m / 2 ^ i % 256:Nat):Int):=by
   rw[Qp .u32 m i (by show i<=32;omega),show(255:Int)=((255:Nat):Int) from rfl,C83 _ _ g (by omega),C82]
  have z:=F2 (m / 2 ^ i % 256) (by omega);have l:A1 ((m / 2 ^ i % 256:Nat):Int)=((m / 2 ^ i % 256:Nat):Int):=A7;rw[A6,decide_eq_true (show(0:Int)<=(i:Int) by omega),k];simp only[vl,l,j4,j7,cond_true];rw[L0,G2 (by omega),G2 (by simp<;>omega),A7];rfl
 have b:∀(n:Nat) (out:By) (K:By->Option R),Hi LF (n+1) (m:Int) out (-8) K=K out:=by
  intro n out K;rw[Hi];simp_all
 have x:=F2 (m / 2 ^ 24 % 256) (by omega);have w:=F2 (m / 2 ^ 16 % 256) (by omega);have D:=F2 (m / 2 ^ 8 % 256) (by omega);have C:=F2 (m / 2 ^ 0 % 256) (by omega);have u:=F2 (m / 16777216 % 256) (by omega);have t:=F2 (m / 65536 % 256) (by omega);have B:=F2 (m / 256 % 256) (by omega);have r:=F2 (m % 256) (by omega);unfold v4f;rw[show Hi LF LF=Hi LF (f+1+1+1+1+1) by rw[<-q]];rw[show(24:Int)=((24:Nat):Int) from rfl,step _ 24 _ _ (by omega) (by simp)];rw[show((24:Nat):Int)-8=((16:Nat):Int) from rfl,step _ 16 _ _ (by omega) (by simp<;>omega)];rw[show((16:Nat):Int)-8=((8:Nat):Int) from rfl,step _ 8 _ _ (by omega) (by simp<;>omega)];rw[show((8:Nat):Int)-8=((0:Nat):Int) from rfl,step _ 0 _ _ (by omega) (by simp<;>omega)];rw[show((0:Nat):Int)-8=-8 from rfl,b];have h:m / 2 ^ 24 % 256=m / 16777216:=by omega
 have e:(([]:By)++(j5 (m / 2 ^ 24 % 256)++[46])++(j5 (m / 2 ^ 16 % 256)++[46])++(j5 (m / 2 ^ 8 % 256)++[46])++(j5 (m / 2 ^ 0 % 256)++[46]))=Hh m++[46]:=by
  unfold Hh;grind
 have a:(Hh m++[46]).length<=1000:=by rw[<-e];simp;omega
 rw[e];have d:((Hh m++[46]).length:Int)-1=((Hh m).length:Int):=by simp<;>omega
 simp only[vl,d];simp only[x7,w9] at a;rw[A7,Z5 (by omega) (by omega) (by simp<;>omega),J8,j4,j4];grind
theorem Bv4{R:Type}{b:By->Option R}(v:Int)(f:ltN v 4294967296=true):Cy3 LF v b=b (Hh v.toNat):=by
 obtain⟨a,g⟩:=D9.1 f;obtain⟨m,rfl⟩:=k9 a;have i:=F2 (m / 16777216) (by omega);have h:=F2 (m / 65536 % 256) (by omega);have l:=F2 (m / 256 % 256) (by omega);have k:=F2 (m % 256) (by omega);have c:Tu .u32 (m:Int) 24=((m / 16777216:Nat):Int):=Qp .u32 m 24 (by decide);have d:Tu .u32 (m:Int) 16=((m / 65536:Nat):Int):=Qp .u32 m 16 (by decide);have e:Tu .u32 (m:Int) 8=((m / 256:Nat):Int):=Qp .u32 m 8 (by decide);have t:∀x:Nat,w8 (x:Int) 256=((x % 256:Nat):Int):=λx=>Bx x 256
 have w:∀x:Nat,x<4294967296->A1 (x:Int)=(x:Int):=λx j=>A7
 unfold Cy3;simp only[vl,c,d,e,t];rw[w _ (by omega),w _ (by omega),w _ (by omega),w _ (by omega)];simp only[j4];rw[L0,L0,L0,L0];simp only[cond_true];rw[G2 (by omega),G2 (by simp<;>omega),G2 (by simp<;>omega),G2 (by simp<;>omega),G2 (by simp<;>omega),G2 (by simp<;>omega)];simp only[cond_true,Hh,j4];grind
theorem VA{R:Type}{g:Unit->Option R}{h:By->Option R}(s:By)(q:s.length<=1000000000):∀(r i n v:Nat),i+r=s.length->r<n->Aq LF n s (i:Int) g h=if (E7 10 v (s.drop i)).isSome then h s else g ():=by
 intro r
 induction r with
 | zero=>
  intro i n v k l;obtain⟨n,rfl⟩:∃m,n=m+1:=⟨n-1,by omega⟩
  rw[Aq];rw[A6,o5 (by omega)];rfl
 | succ r o=>
  intro i n v k l;obtain⟨n,rfl⟩:∃m,n=m+1:=⟨n-1,by omega⟩
  rw[Aq,D2 s i (by omega)];rw[D0];have j:=(s.getD i 0).toNat_lt;generalize s.getD i 0=b at *;have f:((i:Int)+1)=((i+1:Nat):Int):=by omega
  simp (disch:=omega) only[B5,J6,cond_true,C6];simp only[E7];rw[f,o (i+1) n (min (v*10+dig b) Cb) (by omega) (by omega)];rcases Ck b with⟨a,d,e⟩|⟨a,d,e⟩|⟨a,d,e⟩|⟨a,d,p,e⟩
  ·simp only[if_pos (show dig b<10 by omega)];rw[A6,A6];rfl
  ·simp only[if_neg (show ¬dig b<10 by omega)];rw[A6,A8];rfl
  ·simp only[if_neg (show ¬dig b<10 by omega)];rw[A6,A8];rfl
  ·simp only[if_neg (show ¬dig b<10 by omega)];by_cases c:b.toNat<48
   ·rw[A8];rfl
   ·rw[A6,A8];rfl
theorem VB{R:Type}{a:Bool->Option R}(s:By)(b:A3 s.length=true):DT LF s a=a (!s.isEmpty&&(E7 10 0 s).isSome):=by
 have c:=L6 b;have:=C2;unfold DT;refine j1 (VA s c s.length 0 LF 0 (by omega) (by omega)) ?_;rw[s7];cases d:E7 10 0 s with
 | none=>simp
 | some v=>cases s<;>rfl
theorem Bs5{R:Type}{g:Int->Option R}(b:Int)(h:inR b 256=true):Cb6 LF b g=g (dig (u8n b):Int):=by
 simp only[inR,v8,decide_eq_true_eq] at h;have j:b=((u8n b).toNat:Int):=by
  unfold u8n;simp;omega
 generalize u8n b=c at *;subst j;have i:=c.toNat_lt;unfold Cb6;simp only[Wj,Wi,vl];rcases Ck c with⟨d,f,e⟩|⟨d,f,e⟩|⟨d,f,e⟩|⟨d,f,o,e⟩
 ·have a:A1 (wu8 ((c.toNat:Int)-48))=((dig c:Nat):Int):=by
   rw[L4,A7];omega
  simp (disch:=omega) only[B5,E1,j6,j7,cond_false,cond_true,a]
 ·have a:A1 (A1 (wu8 ((c.toNat:Int)-97))+10)=((dig c:Nat):Int):=by
   rw[L4,C6 (n:=(c.toNat:Int)-97) (by omega) (by omega),A7];omega
  simp (disch:=omega) only[B5,E1,j6,j7,cond_false,cond_true,a]
 ·have a:A1 (A1 (wu8 ((c.toNat:Int)-65))+10)=((dig c:Nat):Int):=by
   rw[L4,C6 (n:=(c.toNat:Int)-65) (by omega) (by omega),A7];omega
  simp (disch:=omega) only[B5,E1,j6,j7,cond_false,cond_true,a]
 ·rw[e];by_cases k:c.toNat<48
  ·simp (disch:=omega) only[B5,E1,j6,j7,cond_false,cond_true];rfl
  ·by_cases l:c.toNat<65
   ·simp (disch:=omega) only[B5,E1,j6,j7,cond_false,cond_true];rfl
   ·by_cases m:c.toNat<97
    ·simp (disch:=omega) only[B5,E1,j6,j7,cond_false,cond_true];rfl
    ·simp (disch:=omega) only[B5,E1,j6,j7,cond_false,cond_true];rfl
theorem Ac3{R:Type}{g:Unit->Option R}{h:Int->Option R}(s:By)(p:s.length<=1000000000):∀(r i a n:Nat),i+r=s.length->r<n->a<=Cb->
  Ia LF n s (a:Int) (i:Int) g h=match E7 16 a (s.drop i) with|some v=>h (v:Int)|none=>g ():=by
 intro r
 induction r with
 | zero=>
  intro i a n k l j;obtain⟨n,rfl⟩:∃m,n=m+1:=⟨n-1,by omega⟩
  rw[Ia];rw[A6,o5 (by omega)];rfl
 | succ r o=>
  intro i a n k l j;obtain⟨n,rfl⟩:∃m,n=m+1:=⟨n-1,by omega⟩
  rw[Ia,D2 s i (by omega)];rw[D0,Ik,WM];generalize s.getD i 0=b at *;have c:((i:Int)+1)=((i+1:Nat):Int):=by omega
  have f:Cb=1099511627776:=rfl;simp (disch:=omega) only[B5,J6,cond_true,vl,C6];simp only[E7];rw[c];by_cases e:dig b<16
  ·have d:A1 (A1 ((a:Int)*16)+(dig b:Int))=((a*16+dig b:Nat):Int):=by
    rw[C6 (n:=(a:Int)*16) (by omega) (by omega),A7];simp
   rw[if_pos e,A8];simp (disch:=omega) only[C6,j6,cond_false] at d ⊢;rw[d,Cg3];exact o (i+1) _ n (by omega) (by omega) (by omega)
  ·rw[if_neg e,A6];rfl
theorem A29{R:Type}{f:Unit->Option R}{g:Int->Option R}(s:By)(t:s.length<=1000000000)(base:Nat)(q:base<=16):∀(r i a n:Nat),i+r=s.length->r<n->a<=Cb->
  Ez LF n s (base:Int) (a:Int) (i:Int) f g=match E7 base a (s.drop i) with|some v=>g (v:Int)|none=>f ():=by
 intro r
 induction r with
 | zero=>
  intro i a n k l j;obtain⟨n,rfl⟩:∃m,n=m+1:=⟨n-1,by omega⟩
  rw[Ez];rw[A6,o5 (by omega)];rfl
 | succ r o=>
  intro i a n k l j;obtain⟨n,rfl⟩:∃m,n=m+1:=⟨n-1,by omega⟩
  rw[Ez,D2 s i (by omega)];rw[D0,Ik,WM];generalize s.getD i 0=b at *;have c:((i:Int)+1)=((i+1:Nat):Int):=by omega
  have e:Cb=1099511627776:=rfl;simp only[E7,vl];rw[A8,E6,c,C6 (n:=((i+1:Nat):Int)) (by omega) (by omega)];simp only[cond_true];by_cases d:dig b<base
  ·have p:a*base<=1099511627776*16:=ae9 (by omega) (by omega);have e0:A1 ((a:Int)*(base:Int))=((a*base:Nat):Int):=by
    rw[<-ae2];exact A7
   have h:A1 (((a*base:Nat):Int)+(dig b:Int))=((a*base+dig b:Nat):Int):=by
    rw[A7];rfl
   rw[if_pos d,A8,e0,h,Cg3];exact o (i+1) _ n (by omega) (by omega) (by omega)
  ·rw[if_neg d,A6];rfl
theorem Bt8{R:Type}{a:Int->Bool->Option R}(s:By)(p:A3 s.length=true):Cd7 LF s a=a (M0 (Ad s):Int) (Ad s).isSome:=by
 have u:=L6 p;have:=C2;have o:∀x:By,x.length<=1000000000->Ia LF LF x 0 0 (λ_=>a 0 false) (λn=>a n true)=a (M0 (E7 16 0 x):Int) (E7 16 0 x).isSome:=by
  intro x f;refine j1 (Ac3 x f x.length 0 0 LF (by omega) (by omega) (by unfold Cb;omega)) ?_;rw[s7];cases E7 16 0 x<;>rfl
 have c:∀(x:By) (b:Nat),b<=16->x.length<=1000000000->Ez LF LF x (b:Int) 0 0 (λ_=>a 0 false) (λn=>a n true)=a (M0 (E7 b 0 x):Int) (E7 b 0 x).isSome:=by
  intro x b q f;refine j1 (A29 x f b q x.length 0 0 LF (by omega) (by omega) (by unfold Cb;omega)) ?_;rw[s7];cases E7 b 0 x<;>rfl
 have d:=λx=>c x 10 (by omega)
 have g:=λx=>c x 8 (by omega)
 have i:=λx=>c x 16 (by omega)
 rw[show((10:Nat):Int)=10 from rfl] at d;rw[show((8:Nat):Int)=8 from rfl] at g;rw[show((16:Nat):Int)=16 from rfl] at i;unfold Cd7 Ad;by_cases e:s=[]
 ·subst e;rfl
 have j:(s==([]:By))=false:=by simpa using e
 have t:0<s.length:=aa3.2 e;rw[if_neg e,j];simp only[cond_false,DX,DY,Qi,Qj,Qk,vl];have k:=P7 (s.getD 0 0) 48 (by omega);have l:=P7 (s.getD 1 0) 120 (by omega);have m:=P7 (s.getD 1 0) 88 (by omega);rw[show((48:Nat):Int)=48 from rfl] at k;rw[show((120:Nat):Int)=120 from rfl] at l;rw[show((88:Nat):Int)=88 from rfl] at m;simp only[Z9,Bd4,k,l,m,show j9 48=(48:UInt8) from rfl,show j9 120=(120:UInt8) from rfl,show j9 88=(88:UInt8) from rfl];by_cases r:2<=s.length
 ·simp (disch:=omega) only[E1,J6,Z5,j7,cond_true,P8,show 1<s.length by omega,true_and];unfold Bn;grind
 ·rw[A8];have f:Bn s=false:=by
   cases h:Bn s with
   | false=>rfl
   | true=>have:=Qa h;omega
  grind
end
end Go.Proofs.YtcfingekgbbclaaGreatDoor.E
